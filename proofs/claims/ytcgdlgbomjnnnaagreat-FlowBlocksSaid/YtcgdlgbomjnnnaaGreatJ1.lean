/- Parts of the proof: contracts of functions, joined. No condition on the program. -/
import Derived.Test.YtcgdlgbomjnnnaaGreatJ0
namespace Go.Proofs.YtcgdlgbomjnnnaaGreatLab
open Go
set_option linter.all false
set_option maxRecDepth 10000
noncomputable section
def b_ (nm ds : List Nat) (st : Bool) (n : Nat) (cv hv fv : V) : List V := [.str nm, .str ds, .bool st, .bool false, .i 16, .i (n : Nat), cv, hv, fv]
theorem fb9 (nm ds : List Nat) (st : Bool) (n : Nat) : cN [V.str [], .str [], .bool false, .bool false, .i 0, .i 0, .ay, .ay, .ay] [(0, 1, .str nm), (1, 1, .str ds), (2, 1, .bool st), (4, 1, .i 16), (5, 1, .i (n : Nat))] = some (b_ nm ds st n .ay .ay .ay) := (rfl)
theorem fb4 (a b c : Int) : cN [V.i 0, .i 0, .i 0, .str []] [(0, 1, .i a), (1, 1, .i b), (2, 1, .i c), (3, 1, .str [84, 104, 114, 111, 119, 97, 98, 108, 101])] = some [.i a, .i b, .i c, .str thr] := (rfl)
theorem jA {nm ds : List Nat} {st : Bool} {n : Nat} {cv hv fv : V} (h1 : cv.one = true) (h2 : hv.one = true) (h3 : fv.one = true) : ∀ v ∈ b_ nm ds st n cv hv fv, v.one = true := by
 intro v hv; simp [b_] at hv;rcases hv with rfl | rfl | rfl | rfl | rfl | rfl | rfl | rfl | rfl <;> first | rfl | assumption
theorem GN.one {es : Nat} {s : St} {v : V} {l : List (List V)} (h : GN es s v l) : v.one = true := by rcases h.2 with ⟨_, rfl | ⟨b, rfl, _⟩⟩ | ⟨b, rfl, _⟩ <;> rfl
theorem GN.same {es : Nat} {s : St} {v : V} {l : List (List V)} (h : GN es s v l) : dO 100 v v = true := by rcases h.2 with ⟨_, rfl | ⟨b, rfl, _⟩⟩ | ⟨b, rfl, _⟩; exact jl; exact ep _ _ _ _ _; exact ep _ _ _ _ _
structure FM (s t : St) (nm ds : List Nat) (st : Bool) (n : Nat) (code : List Nat) (hr : List (List V)) (c : List V) : Prop where
 ex : ∃ (cv hv fv : V) (rows : List (List V)), c = b_ nm ds st n cv hv fv ∧ SL t cv (code.map bJ) ∧ cv.one = true ∧ RN 4 t hv hr ∧ hv.one = true ∧ RN 3 t fv rows ∧ fv.one = true ∧ (∀ r ∈ rows, m7 r) ∧ rows.length ≤ 1000 ∧ ∀ b, b ∈ aB cv ∨ b ∈ aB hv ∨ b ∈ aB fv → s.next ≤ b ∧ b < t.next
set_option maxHeartbeats 8000000 in
theorem MK.done {s0 s : St} {mb rb : Nat} {g : G} (H : MK s0 s mb rb g) (nm ds : List Nat) (st : Bool) (hok : ∀ x ∈ g.ls, okD g.aj x) (hl : g.ls.length ≤ 400) (hlab : g.aj ≤ 1000) (hth : g.th.length ≤ 1000) (hhl : g.hs.length ≤ 1000) (hh : ∀ h ∈ g.hs, h.1 < g.aj ∧ h.2.1 < g.aj ∧ h.2.2 < g.aj)
 (hI : ∀ x ∈ (bY (cD g.aj g.ls).1 g.ls).1, XY x) (hat : ∀ i x, (bY (cD g.aj g.ls).1 g.ls).1[i]? = some x → x.at_ = (((cR ((bY (cD g.aj g.ls).1 g.ls).1.take i)).length : Nat) : Int)) (hb : (cR (bY (cD g.aj g.ls).1 g.ls).1).length ≤ 1024) {m : Nat} (hm : 5 ≤ m) :
 ∃ (t : St) (c : List V), (K m).call 56 [.ptr mb 0, .str nm, .str ds, .bool st] s = some (.agg c, t) ∧ FM s t nm ds st (kS g.plain).length (cR (bY (cD g.aj g.ls).1 g.ls).1) (g.hs.map (kZ (cD g.aj g.ls).1)) c ∧ Fr s t [] := by
 obtain ⟨d, rfl⟩ : ∃ d, m = d + 1 := ⟨m - 1, po⟩;have hw := H.wf;have hml := H.mlt;obtain ⟨s1, e1, c1, f1, n1⟩ := bu (s := s) (l := [V.str [], .str [], .bool false, .bool false, .i 0, .i 0, .ay, .ay, .ay]) (n := 9) hw rfl;have H1 := H.mv f1 pm;have l3 := H1.Sz;obtain ⟨s2, e2, c2, f2, n2⟩ := bu (s := s1) (l := List.replicate g.aj (V.i 0)) (n := g.aj) f1.wf pm;have F2 := f1.trans f2;generalize hP : (cD g.aj g.ls).1 = P at *;have hPl : P.length = g.aj := by rw [← hP]; exact (jz _ _).1
 have hPin : ∀ (i : Nat) (x : Int), P[i]? = some x → 0 ≤ x ∧ x ≤ 1200 := fun i x hx => by rw [← hP] at hx; have := mZ _ _ i x hx; omega
 generalize hIs : (bY P g.ls).1 = I at *;have hb8 : s.next < s2.next := po;let Q : V → St → Prop := fun x t => ∃ c, x = .agg c ∧ FM s t nm ds st (kS g.plain).length (cR I) (g.hs.map (kZ P)) c ∧ Fr s t []
 have rest3 : ∀ (e : E) (t : St) (cv hv fv : V) (rows : List (List V)) (bo : Nat), Fr s t [] → t.cl s.next = some [V.str [], .str [], .bool false, .bool false, .i 0, .i 0, .ay, .ay, .ay] → t.cl bo = some (b_ nm ds st (kS g.plain).length cv hv fv) → bo ≠ s.next → s.next ≤ bo → SL t cv ((cR I).map bJ) → cv.one = true → RN 4 t hv (g.hs.map (kZ P)) → hv.one = true → RN 3 t fv rows → fv.one = true → (∀ r ∈ rows, m7 r) → rows.length ≤ 1000 → (∀ b, b ∈ aB cv ∨ b ∈ aB hv ∨ b ∈ aB fv → s.next ≤ b ∧ b < t.next ∧ b ≠ s.next ∧ b ≠ bo) → e.a0.a8 = .ptr s.next 0 → e.a0.a13 = .ptr bo 0 → dg (aV (aL [rC true 9 g8]) (fW (K d) e t)) Q := by
  intro e t cv hv fv rows bo ft c8 co hne hbo hcv hc1 hhv hh1 hfv hf1 hfr hrl hbl i8 i13;have ld := dB (o := 0) (m := 9) ft.wf co (by simp [b_])
  replace ld : gH 9 (.ptr bo 0) t = some (.agg (b_ nm ds st (kS g.plain).length cv hv fv)) := by rw [ld]; rfl
  obtain ⟨t2, p2, c2', f2', n2'⟩ := cG (s := t) (b := s.next) (o := 0) (vs := b_ nm ds st (kS g.plain).length cv hv fv) (m := 9) ft.wf c8 rfl pm (jA hc1 hh1 hf1);have ld2 := dB (o := 0) (m := 9) f2'.wf c2' (by simp [dA, b_])
  replace ld2 : gH 9 (.ptr s.next 0) t2 = some (.agg (b_ nm ds st (kS g.plain).length cv hv fv)) := by rw [ld2]; simp [dA, b_]
  have hres : aL [rC true 9 g8] = fun e s => gH 9 (g8 e) s := by funext e s; rfl
  rw [hres];simp -implicitDefEqProofs (disch := first|go_size|fail) only [go_sem, ↓fW.eq_1, ↓iD.eq_1, ↓iB.eq_1, i8, i13, ld, p2, ld2]
  exact ⟨_, rfl, ⟨cv, hv, fv, rows, rfl, hcv.fr ft.wf f2' (fun b hb => by have := hbl b (.inl hb); simp; omega), hc1, hhv.fr ft.wf f2' (fun b hb => by have := hbl b (.inr (.inl hb)); simp; omega), hh1, hfv.fr ft.wf f2' (fun b hb => by have := hbl b (.inr (.inr hb)); simp; omega), hf1, hfr, hrl, fun b hb => by have := hbl b hb; have := f2'.nx; omega⟩, ft.trans' f2' (fun b hb => .inr (by simp at hb; omega))⟩
 have hPd : ∀ k : Nat, k < g.aj → P[k]? = some (P.getD k 0) := fun k hk => by rw [List.getD_eq_getElem?_getD, List.getElem?_eq_getElem po]; rfl
 have rest2 : ∀ (e : E) (t : St) (cv fv : V) (rows : List (List V)) (bo : Nat), Fr s t [] → t.cl s.next = some [V.str [], .str [], .bool false, .bool false, .i 0, .i 0, .ay, .ay, .ay] → t.cl s1.next = some (P.map V.i) → t.cl bo = some (b_ nm ds st (kS g.plain).length .ay .ay fv) → bo ≠ s.next → bo ≠ s1.next → s.next ≤ bo → RN 4 t cv (I.map In.cells) → (∀ b ∈ aB cv, b < t.next) → GN 3 t fv rows → (∀ r ∈ rows, m7 r) → rows.length ≤ 1000 → (∀ b ∈ aB fv, s.next ≤ b ∧ b < t.next ∧ b ≠ s.next ∧ b ≠ bo ∧ b ≠ s1.next) → e.a0.a0 = .ptr mb 0 → e.a0.a8 = .ptr s.next 0 → e.a0.a9 = .slice s1.next 0 g.aj (some g.aj) 1 → e.a0.a12 = cv → e.a0.a13 = .ptr bo 0 → dg (aV (aL [rC true 9 g8]) (iD (K d) e t)) Q := by
  intro e t cv fv rows bo ft c8 cpb co hne hne1 hbo hcv hcvl hfv hfr hrl hfb i0 i8 i9 i12 i13;have hIl : I.length ≤ 400 := by rw [← hIs]; have := (iq P g.ls).1; omega
  obtain ⟨t1, bv, e84, sl1, ft1, hb1⟩ := zj ft.wf hcv po hI hat hb hcvl (m := d) po;have hbv1 : bv.one = true := by rcases sl1 with ⟨_, rfl | ⟨b, o, c, rfl⟩⟩ | ⟨b, o, c, n, f, rfl, _⟩ <;> rfl
  have co1 := ft1.cl ft.wf co pm;have hbol := bQ ft.wf co;have hsl := bQ ft.wf c8;have hpbl := bQ ft.wf cpb;obtain ⟨t2, p2, c2', ft2, nt2⟩ := cC (s := t1) (b := bo) (o := 6) (v := bv) ft1.wf co1 (by simp [b_]) hbv1
  replace c2' : t2.cl bo = some (b_ nm ds st (kS g.plain).length bv .ay fv) := by rw [c2']; rfl
  have Ft2 : Fr s t2 [] := (ft.trans ft1).trans' ft2 (fun b hb => .inr (by simp at hb; omega))
  have H2 := H.mv Ft2 pm;obtain ⟨hv0, lh, _, lenh, _⟩ := H2.Tw;have s1n : s.next < s1.next := po;have c8' := ft2.cl ft1.wf (ft1.cl ft.wf c8 pm) (by simpa using fun h => hne h.symm)
  have cpb' := ft2.cl ft1.wf (ft1.cl ft.wf cpb pm) (by simpa using fun h => hne1 h.symm)
  have sl2 := sl1.fr ft1.wf ft2 (fun b hb => by have := hb1 b hb; simp; omega)
  have fv2 := (hfv.fr ft.wf ft1 pm).fr ft1.wf ft2 (fun b hb => by have := hfb b hb; simp; omega)
  have hft1 := ft1.nx;have hft2 := ft2.nx;simp -implicitDefEqProofs (disch := first|go_size|fail) only [go_sem, ↓iD.eq_1, ↓iB.eq_1, i0, i8, i9, i12, i13, e84, p2, lh, lenh]
  refine bf (Q := fun r => dg (aV _ (di (cL 4 r) _)) _) (fun q e t' => ∃ (j : Nat) (hv : V), q = g.hs.length - j ∧ j ≤ g.hs.length ∧ Fr t2 t' [bo] ∧ t'.cl bo = some (b_ nm ds st (kS g.plain).length bv hv fv) ∧ GN 4 t' hv ((g.hs.take j).map (kZ P)) ∧ (∀ b ∈ aB hv, t2.next ≤ b) ∧ g0 e = .ptr mb 0 ∧ g8 e = .ptr s.next 0 ∧ g9 e = .slice s1.next 0 g.aj (some g.aj) 1 ∧ g13 e = .ptr bo 0 ∧ g16 e = .i ((g.hs.length : Int) - 1 - j)) ?_ (n := g.hs.length) po ⟨0, .ay, po, po, Fr.refl ft2.wf _, c2', ⟨pm, .inl ⟨rfl, .inl rfl⟩⟩, by simp [aB], pt, pt, pt, pt, by show V.i _ = V.i _; congr 1; omega⟩
  rintro q e t' ⟨j, hv, rfl, hj, f', co', gh, hhb, j0, j8, j9, j13, j16⟩;replace j0 : e.a0.a0 = _ := j0;replace j8 : e.a0.a8 = _ := j8;replace j9 : e.a0.a9 = _ := j9;replace j13 : e.a0.a13 = _ := j13;replace j16 : e.a1.a0 = _ := j16;have Ft : Fr s t' [] := Ft2.trans' f' (fun b hb => .inr (by simp at hb; omega))
  have H' := H.mv Ft pm;have hf' := f'.nx;by_cases c : (0 : Int) ≤ (g.hs.length : Int) - 1 - j
  · obtain ⟨x, hx⟩ : ∃ x, g.hs[j]? = some x := ⟨_, List.getElem?_eq_getElem po⟩;obtain ⟨hv1, lh1, rh1, lenh1, _⟩ := H'.Tw;obtain ⟨b, o, a1, _, _, a2⟩ := rh1.at f'.wf (i := j) (x := hC x) (by rw [List.getElem?_map, hx]; rfl)
    replace a2 : gH 3 (.ptr b o) t' = some (.agg [.i (x.1 : Nat), .i (x.2.1 : Nat), .i (x.2.2 : Nat)]) := a2;have em : (g.hs.length : Int) - 1 - ((g.hs.length : Int) - 1 - j) = (j : Nat) := po;obtain ⟨u1', k1, ck1, fk1, nk1⟩ := bu (s := t') (l := [V.i 0, .i 0, .i 0]) (n := 3) f'.wf rfl;obtain ⟨u2', k2, ck2, fk2, nk2⟩ := cG (s := u1') (b := t'.next) (o := 0) (vs := [V.i (x.1 : Nat), .i (x.2.1 : Nat), .i (x.2.2 : Nat)]) (m := 3) fk1.wf ck1 rfl pm (by intro v hv; simp at hv; rcases hv with rfl | rfl | rfl <;> rfl)
    replace ck2 : u2'.cl t'.next = some [V.i (x.1 : Nat), .i (x.2.1 : Nat), .i (x.2.2 : Nat)] := by rw [ck2]; simp [dA]
    have Fk : Fr t' u2' [] := fk1.trans' fk2 (fun b hb => .inr (by simp at hb; omega))
    have cob := Fk.cl f'.wf co' pm;have hbol' := bQ f'.wf co';have q7 : cP (.ptr bo 7) u2' = some hv := aK fk2.wf cob rfl;have qa : cP (.ptr t'.next 0) u2' = some (.i (x.1 : Nat)) := aK fk2.wf ck2 rfl;have qb : cP (.ptr t'.next 1) u2' = some (.i (x.2.1 : Nat)) := aK fk2.wf ck2 rfl;have qc : cP (.ptr t'.next 2) u2' = some (.i (x.2.2 : Nat)) := aK fk2.wf ck2 rfl;obtain ⟨ha, hb', hc⟩ := hh x (List.mem_of_getElem? hx);have cpb2 := Fk.cl f'.wf (f'.cl ft2.wf cpb' (by simpa using fun h => hne1 h.symm)) pm
    have pl : ∀ k : Nat, k < g.aj → cP (.ptr s1.next k) u2' = some (.i (P.getD k 0)) := fun k hk => aK fk2.wf cpb2 (by rw [List.getElem?_map, hPd k hk]; rfl)
    have gh2 := gh.fr f'.wf Fk pm;have hsame := gh.same;obtain ⟨u3', v3, u4', k3, k4, gh4, fk4, hb4⟩ := gh2.push fk2.wf (uq P x) (by simp; omega)
    have hab : eS 1 4 [V.i 0, .i 0, .i 0, .str []] [(0, 4, .agg [.i (P.getD x.1 0), .i (P.getD x.2.1 0), .i (P.getD x.2.2 0), .str thr])] u2'.next = some (.slice u2'.next 0 1 (some 1) 4, .cells 4 (cK (kZ P x))) := dQ rfl rfl (bN (uq P x).2);have hbon : bo ∉ aB hv := fun h => by have := hhb bo h; omega
    have cob4 := fk4.cl fk2.wf cob hbon;obtain ⟨u5', k5, ck5, fk5, nk5⟩ := cC (s := u4') (b := bo) (o := 7) (v := v3) fk4.wf cob4 (by simp [b_]) gh4.one
    replace ck5 : u5'.cl bo = some (b_ nm ds st (kS g.plain).length bv v3 fv) := by rw [ck5]; rfl
    have htk : (g.hs.take j).map (kZ P) ++ [kZ P x] = (g.hs.take (j + 1)).map (kZ P) := by rw [List.take_succ, hx]; simp
    rw [htk] at gh4;have s144 : dO 100 hv1 hv1 = true := by
     rcases rh1.2 with ⟨_, rfl | ⟨b, o, c, rfl⟩⟩ | ⟨b, o, c, n, f, rfl, _⟩; exact jl; exact ep _ _ _ _ _; exact ep _ _ _ _ _
    have sagg : dO 100 (.agg [.i (x.1 : Nat), .i (x.2.1 : Nat), .i (x.2.2 : Nat)]) (.agg [.i (x.1 : Nat), .i (x.2.1 : Nat), .i (x.2.2 : Nat)]) = true := by
     show and (j7 _ _) (and (j7 _ _) (and (j7 _ _) true)) = true;rw [mH, mH, mH]; rfl
    simp -implicitDefEqProofs (disch := first|go_size|fail) only [go_sem, ↓iD.eq_1, ↓iB.eq_1, j0, j8, j9, j13, j16, c, lh1, lenh1, em, a1, a2, a_, k1, k2, q7, qa, qb, qc, ha, hb', hc, pl, Int.toNat_natCast, fb4, hab, k3, k4, k5, Nat.zero_add, s144, sagg, hsame]
    refine ⟨g.hs.length - (j + 1), po, j + 1, v3, rfl, po, (((f'.trans' Fk pm).trans' fk4 (fun b hb => .inr (hhb b hb)))).trans fk5, ck5, gh4.fr fk4.wf fk5 (fun b hb => by have := hb4 b hb; have := Fk.nx; simp; omega), fun b hb => by have := hb4 b hb; have := Fk.nx; omega, pt, pt, pt, pt, by show V.i _ = V.i _; congr 1; omega⟩
  · have hjl : j = g.hs.length := po;subst hjl;rw [List.take_length] at gh;simp -implicitDefEqProofs (disch := first|go_size|fail) only [go_sem, ↓iD.eq_1, ↓iB.eq_1, j16, c]
    have bb : ∀ b, b ∈ aB bv ∨ b ∈ aB hv ∨ b ∈ aB fv → s.next ≤ b ∧ b < t'.next ∧ b ≠ s.next ∧ b ≠ bo := fun b hb => by
     have := ft.nx;rcases hb with hb | hb | hb
     · have := hb1 b hb; omega
     · have := hhb b hb; have := gh.lt f'.wf b hb; omega
     · have := hfb b hb; omega
    exact rest3 _ t' bv hv fv rows bo Ft (f'.cl ft2.wf c8' (by simpa using fun h => hne h.symm)) co' hne hbo (sl2.fr ft2.wf f' (fun b hb => by have := bb b (.inl hb); simp; omega)) hbv1 (gh.rn f'.wf) gh.one ((fv2.fr ft2.wf f' (fun b hb => by have := bb b (.inr (.inr hb)); simp; omega)).rn f'.wf) fv2.one hfr hrl bb pt pt
 have hIn : ∀ k, 0 ≤ (bY P (g.ls.take k)).2 ∧ (bY P (g.ls.take k)).2 ≤ 1200 := fun k => by
  have := iq P (g.ls.take k);have h2 : (g.ls.take k).length ≤ g.ls.length := List.length_take_le' k g.ls;omega
 have rest1 : ∀ (e : E) (t : St), Fr s t [] → t.cl s.next = some [V.str [], .str [], .bool false, .bool false, .i 0, .i 0, .ay, .ay, .ay] → t.cl s1.next = some (P.map V.i) → e.a0.a0 = .ptr mb 0 → e.a0.a1 = .str nm → e.a0.a2 = .str ds → e.a0.a3 = .bool st → e.a0.a8 = .ptr s.next 0 → e.a0.a9 = .slice s1.next 0 g.aj (some g.aj) 1 → dg (aV (aL [rC true 9 g8]) (iB (K d) e t)) Q := by
  intro e t ft c8 cpb i0 i1 i2 i3 i8 i9;have Ht := H.mv ft pm;have hsl := bQ ft.wf c8;have hpbl := bQ ft.wf cpb;obtain ⟨t1, e75, Ht1, _, ft1, _⟩ := Ht.types (m := d) po;obtain ⟨t2, k2, ck2, ft2, nt2⟩ := bu (s := t1) (l := [V.str [], .str [], .bool false, .bool false, .i 0, .i 0, .ay, .ay, .ay]) (n := 9) ft1.wf rfl;obtain ⟨t3, k3, ck3, ft3, nt3⟩ := cG (s := t2) (b := t1.next) (o := 0) (vs := b_ nm ds st (kS g.plain).length .ay .ay .ay) (m := 9) ft2.wf ck2 rfl pm (jA rfl rfl rfl);replace ck3 : t3.cl t1.next = some (b_ nm ds st (kS g.plain).length .ay .ay .ay) := by rw [ck3]; simp [dA, b_]
  have hft1 := ft1.nx;have F3 : Fr t t3 [] := (ft1.trans ft2).trans' ft3 (fun b hb => .inr (by simp at hb; omega))
  have Fs3 : Fr s t3 [] := ft.trans F3;have c83 := F3.cl ft.wf c8 pm;have cpb3 := F3.cl ft.wf cpb pm;have hst := ft.nx;simp -implicitDefEqProofs (disch := first|go_size|fail) only [go_sem, ↓fW.eq_1, ↓iB.eq_1, i0, i1, i2, i3, i8, i9, e75, eL, fb9, a_, k2, k3]
  refine bf (Q := fun r => dg (aV _ (di (cL 2 r) _)) _) (fun q e t' => ∃ (i : Nat) (cv fv : V) (rows : List (List V)), q = g.ls.length - i ∧ i ≤ g.ls.length ∧ Fr t3 t' [t1.next] ∧ t'.cl t1.next = some (b_ nm ds st (kS g.plain).length .ay .ay fv) ∧ GN 4 t' cv ((bY P (g.ls.take i)).1.map In.cells) ∧ GN 3 t' fv rows ∧ (∀ r ∈ rows, m7 r) ∧ rows.length ≤ i ∧ (∀ b ∈ aB cv, t3.next ≤ b ∧ b ∉ aB fv) ∧ (∀ b ∈ aB fv, t3.next ≤ b) ∧ g0 e = .ptr mb 0 ∧ g8 e = .ptr s.next 0 ∧ g9 e = .slice s1.next 0 g.aj (some g.aj) 1 ∧ g12 e = cv ∧ g13 e = .ptr t1.next 0 ∧ g10 e = .i (bY P (g.ls.take i)).2 ∧ g14 e = .i (i : Nat)) ?_ (n := g.ls.length) po ⟨0, .ay, .ay, [], po, po, Fr.refl ft3.wf _, ck3, ⟨by simp [bY], .inl ⟨rfl, .inl rfl⟩⟩, ⟨pm, .inl ⟨rfl, .inl rfl⟩⟩, pm, pm, by simp [aB], by simp [aB], pt, pt, pt, pt, pt, pt, pt⟩
  rintro q e t' ⟨i, cv, fv, rows, rfl, hi, f', co', gc, gf, hfr, hrl, hcb, hfb, j0, j8, j9, j12, j13, j10, j14⟩;replace j0 : e.a0.a0 = _ := j0;replace j8 : e.a0.a8 = _ := j8;replace j9 : e.a0.a9 = _ := j9;replace j12 : e.a0.a12 = _ := j12;replace j13 : e.a0.a13 = _ := j13;replace j10 : e.a0.a10 = _ := j10;replace j14 : e.a0.a14 = _ := j14;have Ft : Fr s t' [] := Fs3.trans' f' (fun b hb => .inr (by simp at hb; omega))
  have H' := H.mv Ft pm;have hf' := f'.nx;obtain ⟨lv, hlv, rlv, llv, _⟩ := H'.lines;have hbol := bQ f'.wf co';have hat' := hIn i;generalize hat0 : (bY P (g.ls.take i)).2 = sE at *;by_cases c : (i : Int) < ((g.ls.length : Nat) : Int)
  · obtain ⟨x, hx⟩ : ∃ x, g.ls[i]? = some x := ⟨_, List.getElem?_eq_getElem po⟩;have hokx := hok x (List.mem_of_getElem? hx);have htk := qH hx;have hrs := jm P (g.ls.take i) x;rw [← htk] at hrs;obtain ⟨b, o, a1, _, _, a2⟩ := rlv.at f'.wf (i := i) (x := x.cells) (by rw [List.getElem?_map, hx]; rfl)
    obtain ⟨w1', k4, ck4, fk4, nk4⟩ := bu (s := t') (l := [V.i 0, .i 0, .i 0, .i 0, .i 0, .i 0]) (n := 6) f'.wf rfl;obtain ⟨w2', k5, ck5, fk5, nk5⟩ := cG (s := w1') (b := t'.next) (o := 0) (vs := x.cells) (m := 6) fk4.wf ck4 x.row.1 pm x.row.2;have hx6 := x.row.1;replace ck5 : w2'.cl t'.next = some x.cells := by rw [ck5]; simp [dA, hx6]
    have Fk : Fr t' w2' [] := fk4.trans' fk5 (fun b hb => .inr (by simp at hb; omega))
    have co2 := Fk.cl f'.wf co' pm;have gc2 := gc.fr f'.wf Fk pm;have gf2 := gf.fr f'.wf Fk pm;have Hw2 := H'.mv Fk pm;have hFk := Fk.nx;have gcl := gc.lt f'.wf;have gfl := gf.lt f'.wf;cases x with
    | here l =>
      have q5 : cP (.ptr t'.next 5) w2' = some (.i (l : Nat)) := aK fk5.wf ck5 rfl;have q8 : cP (.ptr t1.next 8) w2' = some fv := aK fk5.wf co2 rfl;obtain ⟨w3', k6, Hw3, _, fk6, _⟩ := Hw2.types (m := d) po;have hk6 := fk6.nx;have ck6 := fk6.cl fk5.wf ck5 pm;have co3 := fk6.cl fk5.wf co2 pm;have q5' : cP (.ptr t'.next 5) w3' = some (.i (l : Nat)) := aK fk6.wf ck6 rfl;have q8' : cP (.ptr t1.next 8) w3' = some fv := aK fk6.wf co3 rfl;obtain ⟨ct, k7⟩ := Hw3.aal l po (m := d) po;have gf3 := gf2.fr fk5.wf fk6 pm;have gc3 := gc2.fr fk5.wf fk6 pm;obtain ⟨w4', fv', rows', k8, gf4, hfr4, hrl4, fk8, hfb4, hf1⟩ := AQ fk6.wf gf3 hfr po (tv := .slice w2'.next 0 (kS g.plain).length (some (kS g.plain).length) 1) rfl (a := sE) po po ct (m := d) po;have hk8 := fk8.nx;have co4 := fk8.cl fk6.wf co3 (fun h => by have := hfb _ h; omega)
      have gc4 := gc3.fr fk6.wf fk8 (fun b hb => (hcb b hb).2)
      obtain ⟨w5', k9, ck9, fk9, nk9⟩ := cC (s := w4') (b := t1.next) (o := 8) (v := fv') fk8.wf co4 (by simp [b_]) hf1
      replace ck9 : w5'.cl t1.next = some (b_ nm ds st (kS g.plain).length .ay .ay fv') := by rw [ck9]; rfl
      have hsm := gf.same;have hfb' : ∀ b ∈ aB fv', t3.next ≤ b := fun b hb => by rcases hfb4 b hb with h | h; exact hfb b h; omega
      have Fall : Fr t3 w5' [t1.next] := (((f'.trans' Fk pm).trans' fk6 pm).trans' fk8 (fun b hb => .inr (hfb b hb))).trans fk9
      have cge : (0 : Int) ≤ ((l : Nat) : Int) := po;simp -implicitDefEqProofs (disch := first|go_size|fail) only [go_sem, ↓fW.eq_1, ↓iB.eq_1, j0, j8, j9, j12, j13, j10, j14, hlv, llv, c, a1, a2, a_, k4, k5, q5, q8, k6, q5', q8', k7, k8, k9, hsm, cge, Nat.zero_add]
      refine ⟨g.ls.length - (i + 1), po, i + 1, cv, fv', rows', rfl, po, Fall, ck9, ?_, gf4.fr fk8.wf fk9 (fun b hb => by have := hfb' b hb; simp; omega), hfr4, po, fun b hb => ⟨(hcb b hb).1, fun h => ?_⟩, hfb', pt, pt, pt, pt, pt, ?_, pt⟩
      · rw [hrs];exact gc4.fr fk8.wf fk9 (fun b hb => by have := (hcb b hb).1; simp; omega)
      · rcases hfb4 b h with h | h
        · exact (hcb b hb).2 h
        · have := gcl b hb; omega
      · rw [hrs]; show _ = V.i (bY P (g.ls.take i)).2; rw [hat0]
    | op o' x' y' =>
      have q5 : cP (.ptr t'.next 5) w2' = some (.i (-1)) := aK fk5.wf ck5 rfl;obtain ⟨w3', k6, ck6, fk6, nk6⟩ := cC (s := w2') (b := t'.next) (o := 0) (v := .i sE) fk5.wf ck5 (by simp [L.cells]) rfl
      replace ck6 : w3'.cl t'.next = some [V.i sE, .i o', .i x', .i y', .i (-1), .i (-1)] := by rw [ck6]; rfl
      have q4 : cP (.ptr t'.next 4) w3' = some (.i (-1)) := aK fk6.wf ck6 rfl;have qn : gH 4 (.ptr t'.next 0) w3' = some (.agg (In.cells ⟨sE, o', x', y'⟩)) := by rw [dB (o := 0) (m := 4) fk6.wf ck6 pm]; rfl
      have gc3 := gc2.fr fk5.wf fk6 (fun b hb => by have := gcl b hb; simp; omega)
      have gf3 := gf2.fr fk5.wf fk6 (fun b hb => by have := gfl b hb; simp; omega)
      have co3 := fk6.cl fk5.wf co2 (by simp; omega)
      have hIl := (iq P (g.ls.take i)).1;have hIl2 : (g.ls.take i).length ≤ 400 := by have := List.length_take_le' i g.ls; omega
      obtain ⟨w4', v4, w5', k7, k8, gc5, fk8, hb8'⟩ := gc3.push fk6.wf (In.row ⟨sE, o', x', y'⟩) (by rw [List.length_map]; omega)
      have hab : eS 1 4 [V.i 0, .i 0, .i 0, .i 0] [(0, 4, .agg (In.cells ⟨sE, o', x', y'⟩))] w3'.next = some (.slice w3'.next 0 1 (some 1) 4, .cells 4 (cK (In.cells ⟨sE, o', x', y'⟩))) := dQ rfl rfl (bN (In.row _).2);have hx5 : t'.next ∉ aB cv := fun h => by have := gcl _ h; omega
      have ck8 := fk8.cl fk6.wf ck6 hx5;have q1 : cP (.ptr t'.next 1) w5' = some (.i o') := aK fk8.wf ck8 rfl;have z46 := vn hokx.1 hokx.2 w5' (m := d) po;have hk6 := fk6.nx;have hk8 := fk8.nx;have Fall : Fr t3 w5' [t1.next] := ((f'.trans' Fk pm).trans' fk6 (fun b hb => .inr (by simp at hb; omega))).trans' fk8 (fun b hb => .inr (hcb b hb).1)
      have hsz := eZ o';simp -implicitDefEqProofs (disch := first|go_size|fail) only [go_sem, ↓fW.eq_1, ↓iB.eq_1, j0, j8, j9, j12, j13, j10, j14, hlv, llv, c, a1, a2, a_, k4, k5, q5, k6, q4, qn, hab, k7, k8, q1, z46, Nat.zero_add]
      refine ⟨g.ls.length - (i + 1), po, i + 1, v4, fv, rows, rfl, po, Fall, fk8.cl fk6.wf co3 (fun h => by have := (hcb _ h).1; omega), ?_, gf3.fr fk6.wf fk8 (fun b hb h => (hcb b h).2 hb), hfr, po, fun b hb => ⟨by have := hb8' b hb; omega, fun h => by have := hb8' b hb; have := gfl b h; omega⟩, hfb, pt, pt, pt, pt, pt, ?_, pt⟩
      · rw [hrs]; show GN 4 w5' v4 (((bY P (g.ls.take i)).1 ++ [(⟨(bY P (g.ls.take i)).2, o', x', y'⟩ : In)]).map In.cells);rw [hat0, List.map_append]; exact gc5
      · rw [hrs]; show _ = V.i ((bY P (g.ls.take i)).2 + bx o'); rw [hat0]
    | jmp o' l =>
      have q5 : cP (.ptr t'.next 5) w2' = some (.i (-1)) := aK fk5.wf ck5 rfl;obtain ⟨w3', k6, ck6, fk6, nk6⟩ := cC (s := w2') (b := t'.next) (o := 0) (v := .i sE) fk5.wf ck5 (by simp [L.cells]) rfl
      replace ck6 : w3'.cl t'.next = some [V.i sE, .i o', .i 0, .i 0, .i (l : Nat), .i (-1)] := by rw [ck6]; rfl
      have q4 : cP (.ptr t'.next 4) w3' = some (.i (l : Nat)) := aK fk6.wf ck6 rfl;have cge : (0 : Int) ≤ ((l : Nat) : Int) := po;have cpbw := fk6.cl fk5.wf (Fk.cl f'.wf (f'.cl ft3.wf cpb3 (by simp; omega)) pm) (by have := bQ ft.wf cpb; simp; omega)
      have hln := hokx.2.2;have ql : cP (.ptr s1.next l) w3' = some (.i (P.getD l 0)) := aK fk6.wf cpbw (by rw [List.getElem?_map, hPd l hln]; rfl)
      obtain ⟨w4', k7, ck7, fk7, nk7⟩ := cC (s := w3') (b := t'.next) (o := 2) (v := .i (P.getD l 0)) fk6.wf ck6 pm rfl;replace ck7 : w4'.cl t'.next = some [V.i sE, .i o', .i (P.getD l 0), .i 0, .i (l : Nat), .i (-1)] := by rw [ck7]; rfl
      have qn : gH 4 (.ptr t'.next 0) w4' = some (.agg (In.cells ⟨sE, o', P.getD l 0, 0⟩)) := by rw [dB (o := 0) (m := 4) fk7.wf ck7 pm]; rfl
      have gc3 := (gc2.fr fk5.wf fk6 (fun b hb => by have := gcl b hb; simp; omega)).fr fk6.wf fk7 (fun b hb => by have := gcl b hb; simp; omega)
      have gf3 := (gf2.fr fk5.wf fk6 (fun b hb => by have := gfl b hb; simp; omega)).fr fk6.wf fk7 (fun b hb => by have := gfl b hb; simp; omega)
      have co3 := fk7.cl fk6.wf (fk6.cl fk5.wf co2 (by simp; omega)) (by simp; omega)
      have hIl := (iq P (g.ls.take i)).1;have hIl2 : (g.ls.take i).length ≤ 400 := by have := List.length_take_le' i g.ls; omega
      obtain ⟨w5', v4, w6', k8, k9, gc5, fk9, hb8'⟩ := gc3.push fk7.wf (In.row ⟨sE, o', P.getD l 0, 0⟩) (by rw [List.length_map]; omega)
      have hab : eS 1 4 [V.i 0, .i 0, .i 0, .i 0] [(0, 4, .agg (In.cells ⟨sE, o', P.getD l 0, 0⟩))] w4'.next = some (.slice w4'.next 0 1 (some 1) 4, .cells 4 (cK (In.cells ⟨sE, o', P.getD l 0, 0⟩))) := dQ rfl rfl (bN (In.row _).2);have hx5 : t'.next ∉ aB cv := fun h => by have := gcl _ h; omega
      have ck8 := fk9.cl fk7.wf ck7 hx5;have q1 : cP (.ptr t'.next 1) w6' = some (.i o') := aK fk9.wf ck8 rfl;have z46 := vn hokx.1 hokx.2.1 w6' (m := d) po;have hk6 := fk6.nx;have hk7 := fk7.nx;have hk8 := fk9.nx;have Fall : Fr t3 w6' [t1.next] := (((f'.trans' Fk pm).trans' fk6 (fun b hb => .inr (by simp at hb; omega))).trans' fk7 (fun b hb => .inr (by simp at hb; omega))).trans' fk9 (fun b hb => .inr (hcb b hb).1)
      have hsz := eZ o';simp -implicitDefEqProofs (disch := first|go_size|fail) only [go_sem, ↓fW.eq_1, ↓iB.eq_1, j0, j8, j9, j12, j13, j10, j14, hlv, llv, c, a1, a2, a_, k4, k5, q5, k6, q4, cge, hln, Int.toNat_natCast, ql, k7, qn, hab, k8, k9, q1, z46, Nat.zero_add]
      refine ⟨g.ls.length - (i + 1), po, i + 1, v4, fv, rows, rfl, po, Fall, fk9.cl fk7.wf co3 (fun h => by have := (hcb _ h).1; omega), ?_, gf3.fr fk7.wf fk9 (fun b hb h => (hcb b h).2 hb), hfr, po, fun b hb => ⟨by have := hb8' b hb; omega, fun h => by have := hb8' b hb; have := gfl b h; omega⟩, hfb, pt, pt, pt, pt, pt, ?_, pt⟩
      · rw [hrs]; show GN 4 w6' v4 (((bY P (g.ls.take i)).1 ++ [(⟨(bY P (g.ls.take i)).2, o', P.getD l 0, 0⟩ : In)]).map In.cells);rw [hat0, List.map_append]; exact gc5
      · rw [hrs]; show _ = V.i ((bY P (g.ls.take i)).2 + bx o'); rw [hat0]
  · have hil : i = g.ls.length := po;subst hil;rw [List.take_length, hIs] at gc;simp -implicitDefEqProofs (disch := first|go_size|fail) only [go_sem, ↓fW.eq_1, ↓iB.eq_1, j0, j14, hlv, llv, c]
    exact rest2 _ t' cv fv rows t1.next Ft (f'.cl ft3.wf c83 (by simp; omega)) (f'.cl ft3.wf cpb3 (by simp; omega)) co' po po po (gc.rn f'.wf) (gc.lt f'.wf) gf hfr po (fun b hb => by have := hfb b hb; have := gf.lt f'.wf b hb; omega) pt pt pt pt pt
 suffices key : dg ((K (d + 1)).call 56 [.ptr mb 0, .str nm, .str ds, .bool st] s) Q by
  obtain ⟨x, t, e, c, rfl, h1, h2⟩ := key;exact ⟨t, c, e, h1, h2⟩
 have hPn : ∀ k, 0 ≤ (cD g.aj (g.ls.take k)).2 ∧ (cD g.aj (g.ls.take k)).2 ≤ 1200 ∧ (cD g.aj (g.ls.take k)).1.length = g.aj := fun k => by
  have := jz g.aj (g.ls.take k);have h2 : (g.ls.take k).length ≤ g.ls.length := List.length_take_le' k g.ls;omega
 simp -implicitDefEqProofs (disch := first|go_size|fail) only [agj, go_sem, ↓fW.eq_1, ↓iD.eq_1, a_, e1, l3, Oh, Int.toNat_natCast, e2]
 refine bf (Q := fun r => dg (aV _ (di (cL 0 r) _)) _) (fun q e t => ∃ i : Nat, q = g.ls.length - i ∧ i ≤ g.ls.length ∧ Fr s2 t [s1.next] ∧ t.cl s1.next = some ((cD g.aj (g.ls.take i)).1.map V.i) ∧ g0 e = .ptr mb 0 ∧ g1 e = .str nm ∧ g2 e = .str ds ∧ g3 e = .bool st ∧ g8 e = .ptr s.next 0 ∧ g9 e = .slice s1.next 0 g.aj (some g.aj) 1 ∧ g10 e = .i (cD g.aj (g.ls.take i)).2 ∧ g11 e = .i (i : Nat)) ?_ (n := g.ls.length) po ⟨0, po, po, Fr.refl f2.wf _, by rw [c2]; simp [cD], pt, pt, pt, pt, pt, pt, pt, pt⟩
 rintro q e t ⟨i, rfl, hi, f', cp, j0, j1, j2, j3, j8, j9, j10, j11⟩;replace j0 : e.a0.a0 = _ := j0;replace j1 : e.a0.a1 = _ := j1;replace j2 : e.a0.a2 = _ := j2;replace j3 : e.a0.a3 = _ := j3;replace j8 : e.a0.a8 = _ := j8;replace j9 : e.a0.a9 = _ := j9;replace j10 : e.a0.a10 = _ := j10;replace j11 : e.a0.a11 = _ := j11;have Ft : Fr s t [] := F2.trans' f' (fun b hb => .inr (by simp at hb; omega))
 have H' := H.mv Ft pm;obtain ⟨lv, hlv, rlv, llv, _⟩ := H'.lines;obtain ⟨p0, p1, pl⟩ := hPn i;by_cases c : (i : Int) < ((g.ls.length : Nat) : Int)
 · obtain ⟨x, hx⟩ : ∃ x, g.ls[i]? = some x := ⟨_, List.getElem?_eq_getElem po⟩;have hokx := hok x (List.mem_of_getElem? hx);have htk := qH hx;have hrs := ny g.aj (g.ls.take i) x;rw [← htk] at hrs;obtain ⟨b, o, a1, _, a2, _⟩ := rlv.at f'.wf (i := i) (x := x.cells) (by rw [List.getElem?_map, hx]; rfl)
   cases x with
   | here l =>
     have q5 := a2 5 (.i (l : Nat)) rfl;have cge : (0 : Int) ≤ ((l : Nat) : Int) := po;have hln : l < g.aj := hokx;obtain ⟨t3, k3, ck3, fk3, nk3⟩ := cC (s := t) (b := s1.next) (o := l) (v := .i (cD g.aj (g.ls.take i)).2) f'.wf cp (by rw [List.length_map]; omega) rfl
     simp -implicitDefEqProofs (disch := first|go_size|fail) only [go_sem, ↓fW.eq_1, ↓iD.eq_1, j0, j1, j2, j3, j8, j9, j10, j11, hlv, llv, c, a1, q5, cge, hln, Int.toNat_natCast, k3, Nat.zero_add]
     refine ⟨g.ls.length - (i + 1), po, i + 1, rfl, po, f'.trans fk3, ?_, pt, pt, pt, pt, pt, pt, ?_, pt⟩
     · rw [ck3, hrs]; show _ = some (((cD g.aj (g.ls.take i)).1.set l (cD g.aj (g.ls.take i)).2).map V.i); rw [List.map_set]
     · rw [hrs]; rfl
   | op o' x' y' =>
     have q5 := a2 5 (.i (-1)) rfl;have q1 := a2 1 (.i o') rfl;have z46 := vn hokx.1 hokx.2 t (m := d) po;have hsz := eZ o';simp -implicitDefEqProofs (disch := first|go_size|fail) only [go_sem, ↓fW.eq_1, ↓iD.eq_1, j0, j1, j2, j3, j8, j9, j10, j11, hlv, llv, c, a1, q5, q1, z46]
     refine ⟨g.ls.length - (i + 1), po, i + 1, rfl, po, f', ?_, pt, pt, pt, pt, pt, pt, ?_, pt⟩
     · rw [hrs]; exact cp
     · rw [hrs]; rfl
   | jmp o' l =>
     have q5 := a2 5 (.i (-1)) rfl;have q1 := a2 1 (.i o') rfl;have z46 := vn hokx.1 hokx.2.1 t (m := d) po;have hsz := eZ o';simp -implicitDefEqProofs (disch := first|go_size|fail) only [go_sem, ↓fW.eq_1, ↓iD.eq_1, j0, j1, j2, j3, j8, j9, j10, j11, hlv, llv, c, a1, q5, q1, z46]
     refine ⟨g.ls.length - (i + 1), po, i + 1, rfl, po, f', ?_, pt, pt, pt, pt, pt, pt, ?_, pt⟩
     · rw [hrs]; exact cp
     · rw [hrs]; rfl
 · have hil : i = g.ls.length := po;subst hil;rw [List.take_length, hP] at cp;simp -implicitDefEqProofs (disch := first|go_size|fail) only [go_sem, ↓fW.eq_1, ↓iD.eq_1, j0, j11, hlv, llv, c]
   exact rest1 _ t Ft (f'.cl f2.wf (f2.cl f1.wf c1 pm) (by simp; omega)) cp pt pt pt pt pt pt
structure Made (ls : List L) (n : Nat) (hs : List (Nat × Nat × Nat)) : Prop where
 ok : ∀ x ∈ ls, okL x
 here : (cX ls).Perm (List.range' 0 n)
 tgt : ∀ t ∈ targets ls, t < n
 hok : ∀ h ∈ hs, YS ls h ∧ h.2.2 < n
 len : ls.length ≤ 300
 n54 : n ≤ 54
 hl : hs.length ≤ 54
 last : ∃ l o, ls = l ++ [.op o 0 0] ∧ eN o = true
theorem kR {l : Nat} : ∀ {ls : List L}, L.here l ∈ ls → l ∈ cX ls
 | .here k :: r, h => by
   simp only [cX, List.mem_cons];rcases List.mem_cons.1 h with h | h
   · cases h; exact .inl rfl
   · exact .inr (kR h)
 | .op _ _ _ :: r, h => by
   rcases List.mem_cons.1 h with h | h
   · cases h
   · exact kR (ls := r) h
 | .jmp _ _ :: r, h => by
   rcases List.mem_cons.1 h with h | h
   · cases h
   · exact kR (ls := r) h
theorem iR {o : Int} {l : Nat} : ∀ {ls : List L}, L.jmp o l ∈ ls → l ∈ targets ls
 | .jmp _ k :: r, h => by
   simp only [targets, List.mem_cons];rcases List.mem_cons.1 h with h | h
   · cases h; exact .inl rfl
   · exact .inr (iR h)
 | .op _ _ _ :: r, h => by
   rcases List.mem_cons.1 h with h | h
   · cases h
   · exact iR (ls := r) h
 | .here _ :: r, h => by
   rcases List.mem_cons.1 h with h | h
   · cases h
   · exact iR (ls := r) h
section
variable {ls : List L} {n : Nat} {hs : List (Nat × Nat × Nat)} (M : Made ls n hs)
include M
theorem Made.lt {l : Nat} (h : L.here l ∈ ls) : l < n := by
 have := M.here.mem_iff.1 (kR h)
 simpa using this
theorem Made.okD : ∀ x ∈ ls, okD n x := fun x hx => by
 have h := M.ok x hx;cases x with
 | op o a b => rcases h with h | ⟨rfl, _⟩; exact ⟨h.1.1, h.1.2.1⟩; exact ⟨po, po⟩
 | jmp o l => exact ⟨h.1, h.2.1, M.tgt l (iR hx)⟩
 | here l => exact M.lt hx
theorem Made.hh : ∀ h ∈ hs, h.1 < n ∧ h.2.1 < n ∧ h.2.2 < n := fun h hh => by
 obtain ⟨⟨A, B, C, e, _⟩, h3⟩ := M.hok h hh;exact ⟨M.lt (by rw [e]; simp), M.lt (by rw [e]; simp), h3⟩
end
theorem wA {o : Int} (h : gU o = true) : gL o = true := by unfold gL; cases isIn o [16, 17] with | true => rfl | false => exact h
structure Ins (P : List Int) (l : List L) : Prop where
 ok : ∀ x ∈ (bY P l).1, XY x
 sum : (bY P l).2 = (((cR (bY P l).1).length : Nat) : Int)
 at_ : ∀ i x, (bY P l).1[i]? = some x → x.at_ = (((cR ((bY P l).1.take i)).length : Nat) : Int)
theorem Ins.push {P : List Int} {l : List L} (h : Ins P l) {x : L} {y : In} (hx : fS P (bY P l) x = ((bY P l).1 ++ [y], (bY P l).2 + bx y.op)) (hy : XY y) (ha : y.at_ = (bY P l).2) : Ins P (l ++ [x]) := by
 have e : bY P (l ++ [x]) = ((bY P l).1 ++ [y], (bY P l).2 + bx y.op) := by rw [jm, hx]
 have hl := EK hy;refine ⟨?_, ?_, ?_⟩
 · rw [e]; intro z hz;rcases List.mem_append.1 hz with hz | hz
   · exact h.ok z hz
   · simp at hz; subst hz; exact hy
 · rw [e]; simp only; rw [m8, List.length_append, h.sum]; omega
 · rw [e]; simp only;intro i z hz;by_cases c : i < (bY P l).1.length
   · rw [List.getElem?_append_left c] at hz;rw [List.take_append_of_le_length po];exact h.at_ i z hz
   · rw [List.getElem?_append_right po] at hz;have : i = (bY P l).1.length := by
      have := (List.getElem?_eq_some_iff.1 hz).1;simp at this; omega
     subst this;simp at hz; subst hz;rw [List.take_append_of_le_length po, List.take_length, ha, h.sum]
theorem JP {P : List Int} {n : Nat} (hP : ∀ l, l < n → 0 ≤ P.getD l 0 ∧ P.getD l 0 ≤ 900) : ∀ (l : List L), (∀ x ∈ l, okL x) → (∀ t ∈ targets l, t < n) → l.length ≤ 300 → Ins P l := fun l h1 h2 h3 => by
 rcases List.eq_nil_or_concat l with rfl | ⟨l, x, rfl⟩
 · exact ⟨by simp [bY], by simp [bY, cR], by simp [bY]⟩
 · rw [List.concat_eq_append] at *;rw [dV] at h2;have ih := JP hP l (fun x hx => h1 x (by simp [hx])) (fun t ht => h2 t (by simp [ht])) (by simp at h3; omega)
   have hok := h1 x pm;have hr := iq P l;have hl3 : l.length ≤ 300 := by simp at h3; omega
   cases x with
   | here k =>
     have e : bY P (l ++ [.here k]) = bY P l := by rw [jm]; rfl
     exact ⟨by rw [e]; exact ih.ok, by rw [e]; exact ih.sum, by rw [e]; exact ih.at_⟩
   | op o a b =>
     refine ih.push (y := ⟨(bY P l).2, o, a, b⟩) rfl ?_ rfl;rcases hok with ⟨⟨q0, q1, q2, q3⟩, q4, q5⟩ | ⟨rfl, q1, q2, rfl⟩
     · have harg : In.arg ⟨(bY P l).2, o, a, b⟩ = a := by unfold In.arg; simp only; rw [q2]; rfl
       by_cases c : o = 132
       · have := q4 c;exact ⟨⟨q0, q1, q3, by show _ ≤ (bY P l).2; omega, by show (bY P l).2 ≤ _; omega, by show _ ≤ a; omega, by show a ≤ _; omega⟩, fun _ => by show 0 ≤ a ∧ a ≤ 255 ∧ -128 ≤ b ∧ b ≤ 127; omega, fun h => absurd c h⟩
       · obtain ⟨w1, w2, w3, w4⟩ := q5 c;have hab : -65536 ≤ a ∧ a ≤ 65536 := by
          rcases fB o with h | h | h | h
          · exact absurd h q3
          · have := w2 h; omega
          · have := w3 h; omega
          · obtain ⟨z1, z2⟩ := w4 h;cases hs : gL o with
            | true => have := z1 hs; omega
            | false => have := z2 hs; omega
         refine ⟨⟨q0, q1, q3, by show _ ≤ (bY P l).2; omega, by show (bY P l).2 ≤ _; omega, by show _ ≤ a; omega, by show a ≤ _; omega⟩, fun h => absurd h c, fun _ => ⟨w1, w2, fun h => ⟨fun hs => ?_, fun hs => ?_⟩, fun h => ⟨fun hs => ?_, fun hs => ?_⟩⟩⟩
         · have := (w3 h).1; rw [this] at hs; cases hs
         · have := (w3 h).2; show 0 ≤ a ∧ a ≤ 255; omega
         · rw [harg]; have := (w4 h).1 hs; omega
         · rw [harg]; have := (w4 h).2 hs; omega
     · refine ⟨⟨by show (0 : Int) ≤ 16; omega, by show (16 : Int) < 256; omega, by show bx 16 ≠ 0; decide, by show _ ≤ (bY P l).2; omega, by show (bY P l).2 ≤ _; omega, by show _ ≤ a; omega, by show a ≤ _; omega⟩, fun h => absurd h (by show (16 : Int) ≠ 132; decide), fun _ => ⟨rfl, fun h => absurd h (by show bx 16 ≠ 1; decide), fun _ => ⟨fun _ => by show -128 ≤ a ∧ a ≤ 127; omega, fun h => absurd h (by show gL 16 ≠ false; decide)⟩, fun h => absurd h (by show bx 16 ≠ 3; decide)⟩⟩
   | jmp o k =>
     obtain ⟨q0, q1, q2⟩ := hok;have hk := hP k (h2 k (by simp [targets]))
     have h3 := jb q2;have hsg := wA q2;have harg : In.arg ⟨(bY P l).2, o, P.getD k 0, 0⟩ = P.getD k 0 - (bY P l).2 := by unfold In.arg; simp only; rw [if_pos q2]
     refine ih.push (y := ⟨(bY P l).2, o, P.getD k 0, 0⟩) rfl ⟨⟨q0, q1, by show bx o ≠ 0; omega, by show _ ≤ (bY P l).2; omega, by show (bY P l).2 ≤ _; omega, by show _ ≤ P.getD k 0; omega, by show P.getD k 0 ≤ _; omega⟩, fun h => ?_, fun _ => ⟨rfl, fun h => absurd h (by show bx o ≠ 1; omega), fun h => absurd h (by show bx o ≠ 2; omega), fun _ => ⟨fun _ => by rw [harg]; omega, fun hs => absurd hs (by show gL o ≠ false; rw [hsg]; decide)⟩⟩⟩ rfl
     have h : o = 132 := h;rw [h] at q2; cases q2
termination_by l => l.length
decreasing_by simp_wf; simp_all
theorem Made.places {ls : List L} {n : Nat} {hs : List (Nat × Nat × Nat)} (M : Made ls n hs) : ∀ l, l < n → 0 ≤ (cD n ls).1.getD l 0 ∧ (cD n ls).1.getD l 0 ≤ 900 := fun l hl => by
 have h1 := (jz n ls).1;rw [List.getD_eq_getElem?_getD, List.getElem?_eq_getElem po];have := mZ n ls l _ (List.getElem?_eq_getElem po);have := M.len;simp only [Option.getD_some]; omega
theorem Made.ins {ls : List L} {n : Nat} {hs : List (Nat × Nat × Nat)} (M : Made ls n hs) : Ins (cD n ls).1 ls ∧ (cR (bY (cD n ls).1 ls).1).length ≤ 1024 := by
 have h := JP M.places ls M.ok M.tgt M.len;refine ⟨h, ?_⟩;have h1 := h.sum;have h2 := iq (cD n ls).1 ls;have h3 := M.len;omega
def gz (plain : Bool) : G := ⟨[], 0, plain, 110, 0, [], []⟩
theorem aaN (rb : Nat) (pv : V) (plain : Bool) (hp : pv.one = true) : cN [V.jQ, .ay, .ay, .i 0, .bool false, .i 0, .i 0, .ay, .ay, .ay] [(0, 1, .ptr rb 0), (1, 1, pv), (4, 1, .bool plain), (5, 1, .i 110)] = some (oF (gz plain) rb pv .ay .ay .ay) := by
 rw [eT rfl pm]; simp only [List.set_cons_zero];rw [eT hp pm]; simp only [List.set_cons_zero, List.set_cons_succ]
 rfl
theorem RC.mono {s0 s1 s : St} {rb : Nat} (h : RC s0 s rb) (hle : s0.next ≤ s1.next) : RC s1 s rb := by
 obtain ⟨lv, l, a, h1, h2, h3, h4, h5, h6⟩ := h;exact ⟨lv, l, a, h1, h2, h3, h4, h5, fun b hb => ⟨by have := (h6 b hb).1; omega, (h6 b hb).2⟩⟩
theorem RN.frS {s s' : St} {pv : V} {pool : List fc} {b0 : Nat} {zs : List V} (h : RN 5 s pv (pool.map fc.cells)) (hw : Wf s) (f : Fr s s' [b0]) (hz : s.cl b0 = some zs) (hn : ∀ v ∈ zs, ∀ n, v ≠ .int .i32 n) : RN 5 s' pv (pool.map fc.cells) := by
 refine ⟨h.1, ?_⟩;rcases h.2 with h0 | ⟨b, o, c, n, g', rfl, h2, h3, h4⟩
 · exact .inl h0
 · by_cases hb : b = b0
   · subst hb;cases pool with
     | nil => exact .inl ⟨rfl, .inr ⟨_, _, _, rfl⟩⟩
     | cons x pool =>
       exfalso;obtain ⟨xs, q1, q2, _⟩ := fl hw hz;rw [fq q1] at h2;cases h2
       have := h4 0 x.cells rfl 1 po;have hl : o + 0 * 5 + 1 < zs.length := by simp at h3; omega
       rw [q2 _ hl] at this;have hm := List.mem_of_getElem? (this.trans rfl);exact hn _ hm _ rfl
   · exact .inr ⟨b, o, c, n, g', rfl, (oL (f.same b (xO hw h2) (by simpa using hb))).trans h2, h3, h4⟩
theorem FM.mono {s s' t t' : St} {nm ds : List Nat} {st : Bool} {n : Nat} {code : List Nat} {hr : List (List V)} {c : List V} {L : List Nat} (h : FM s t nm ds st n code hr c) (hw : Wf t) (f : Fr t t' L) (hL : ∀ b ∈ L, b < s.next ∨ t.next ≤ b) (hs : s'.next ≤ s.next) : FM s' t' nm ds st n code hr c := by
 obtain ⟨cv, hv, fv, rows, h0, o1, o2, o3, o4, o5, o6, o7, o8, o9⟩ := h.ex;have no : ∀ b, b ∈ aB cv ∨ b ∈ aB hv ∨ b ∈ aB fv → b ∉ L := fun b hb hm => by have := o9 b hb; have := hL b hm; omega
 exact ⟨cv, hv, fv, rows, h0, o1.fr hw f (fun b hb => no b (.inl hb)), o2, o3.fr hw f (fun b hb => no b (.inr (.inl hb))), o4, o5.fr hw f (fun b hb => no b (.inr (.inr hb))), o6, o7, o8, fun b hb => by have := o9 b hb; have := f.nx; omega⟩
theorem YE : iM [103, 111] [103, 111] = true := (rfl)
theorem aaY : iM [114, 117, 110] [103, 111] = false := (rfl)
theorem aW.fo {c : Nat} {g g' : G} (h : aW c g g') : Fo [] g g' := (Fo.refl g).emit h
theorem wY {plain : Bool} {g : G} (h : Fo [] (gz plain) g) (h54 : g.aj ≤ 54) (hl : -60 ≤ g.left) (hlast : ∃ l o, g.ls = l ++ [.op o 0 0] ∧ eN o = true) : Made g.ls g.aj g.hs := by
 obtain ⟨⟨new, hn, tn, e1, e2, e3, e4, e5, e6, e7⟩, h2, h3, h4, h5⟩ := h;have e1 : g.ls = new := by rw [e1]; rfl
 have e2 : g.hs = hn := by rw [e2]; rfl
 subst e1 e2;rw [List.append_nil] at e5;simp only [gz, List.length_nil] at h3 h4;exact ⟨e4, e5, fun t ht => (e6 t ht).2, fun h hh => ⟨(e7 h hh).1, (e7 h hh).2.2⟩, po, h54, po, hlast⟩
set_option maxHeartbeats 4000000 in
theorem mG {s : St} {rb : Nat} {pv : V} {pool : List fc} (hw : Wf s) (rc : RC s s rb) (hrb : rb < s.next) (hp : RN 5 s pv (pool.map fc.cells)) (hpl : pool.length ≤ 256) (hpb : ∀ b ∈ aB pv, b ≠ rb ∧ b < s.next) (nm ds : List Nat) (st plain gives : Bool) (hnm : st = true ∨ nm = [103, 111] ∨ nm = [114, 117, 110]) (fm : Nat) (hf : fm ≤ 10) {m : Nat} (hm : 30 ≤ m) :
 ∃ (t : St) (c : List V) (pv' : V) (pool' : List fc) (ls : List L) (n k : Nat) (hs : List (Nat × Nat × Nat)), (K m).call 37 [.ptr rb 0, pv, .str nm, .str ds, .bool st, .bool plain, .bool gives, .i (fm : Nat)] s = some (.bH [.agg c, pv'], t) ∧ Made ls n hs ∧ FM s t nm ds st k (cR (bY (cD n ls).1 ls).1) (hs.map (kZ (cD n ls).1)) c ∧
   RN 5 t pv' (pool'.map fc.cells) ∧ pool'.length ≤ 256 ∧ (∀ b ∈ aB pv', b ≠ rb ∧ b < t.next) ∧ RC t t rb ∧ Fr s t [rb] := by
 obtain ⟨d, rfl⟩ : ∃ d, m = d + 1 := ⟨m - 1, po⟩;obtain ⟨s1, e1, c1, f1, n1⟩ := bu (s := s) (l := [V.str [], .str [], .bool false, .bool false, .i 0, .i 0, .ay, .ay, .ay]) (n := 9) hw rfl;have hpv1 : pv.one = true := by rcases hp.2 with ⟨_, rfl | ⟨b, o, c, rfl⟩⟩ | ⟨b, o, c, n, f, rfl, _⟩ <;> rfl
 have hmbo : ∀ v ∈ oF (gz plain) rb pv .ay .ay .ay, v.one = true := by
  intro v hv; simp [oF] at hv;rcases hv with rfl | rfl | rfl | rfl | rfl | rfl | rfl | rfl | rfl | rfl <;> first | rfl | exact hpv1
 obtain ⟨s2, e2, c2, f2, n2⟩ := bu (s := s1) (l := oF (gz plain) rb pv .ay .ay .ay) (n := 10) f1.wf rfl;have hbox : tJ (.agg (oF (gz plain) rb pv .ay .ay .ay)) s1.next = some (.ptr s1.next 0, .cells 10 (cK (oF (gz plain) rb pv .ay .ay .ay))) := iw (bN hmbo);have rc1 : RC s1 s1 rb := (rc.fr hw hrb f1 pm).mono po;have H : MK s1 s2 s1.next rb (gz plain) := ⟨f2.mono pm, rc1.fr f1.wf po f2 pm, po, Nat.le_refl _, pv, .ay, .ay, .ay, pool, c2, (hp.fr hw f1 pm).fr f1.wf f2 pm, hpl, ⟨by simp [gz], .inl ⟨rfl, .inl rfl⟩⟩, ⟨by simp [gz], .inl ⟨rfl, .inl rfl⟩⟩, .inl ⟨rfl, rfl⟩, by simp [aB], by simp [aB], by simp [aB], fun b hb => by have := hpb b hb; omega⟩
 let Q : V → St → Prop := fun x t => ∃ (c : List V) (pv' : V) (pool' : List fc) (ls : List L) (n k : Nat) (hs : List (Nat × Nat × Nat)), x = .bH [.agg c, pv'] ∧ Made ls n hs ∧ FM s t nm ds st k (cR (bY (cD n ls).1 ls).1) (hs.map (kZ (cD n ls).1)) c ∧
     RN 5 t pv' (pool'.map fc.cells) ∧ pool'.length ≤ 256 ∧ (∀ b ∈ aB pv', b ≠ rb ∧ b < t.next) ∧ RC t t rb ∧ Fr s t [rb]
 suffices key : dg ((K (d + 1)).call 37 [.ptr rb 0, pv, .str nm, .str ds, .bool st, .bool plain, .bool gives, .i (fm : Nat)] s) Q by
  obtain ⟨x, t, e, c, pv', pool', ls, n, k, hs, rfl, h⟩ := key;exact ⟨t, c, pv', pool', ls, n, k, hs, e, h⟩
 have hres : aL [rC true 9 g16, rT g17] = fun e s => (gH 9 (g16 e) s).map fun a => .bH [a, g17 e] := by
  funext e s
  have e1 : rC true 9 g16 e s = gH 9 (g16 e) s := rfl;unfold aL;simp only [OG, e1, rT];cases gH 9 (g16 e) s <;> rfl
 have rest2 : ∀ (e : E) (t : St) (g : G), MK s1 t s1.next rb g → Made g.ls g.aj g.hs → g.th.length ≤ 1000 → e.a0.a2 = .str nm → e.a0.a3 = .str ds → e.a0.a4 = .bool st → e.a1.a0 = .ptr s.next 0 → e.a1.a2 = .ptr s1.next 0 → dg (aV (aL [rC true 9 g16, rT g17]) (m_ (K d) e t)) Q := by
  intro e t g Hg M hth i2 i3 i4 i16 i18;obtain ⟨MI, hb⟩ := M.ins;have hM := M.len;have hM2 := M.n54;have hM3 := M.hl;obtain ⟨t1, c, e68, mo, ft1⟩ := Hg.done nm ds st M.okD po po hth po M.hh MI.ok MI.at_ hb (m := d) po;have Hg1 := Hg.mv ft1 pm;obtain ⟨cv, hv, fv, rows, rfl, o1, o2, o3, o4, o5, o6, o7, o8, o9⟩ := mo.ex;have hone := jA (nm := nm) (ds := ds) (st := st) (n := (kS g.plain).length) o2 o4 o6;obtain ⟨t2, k2, ck2, ft2, nt2⟩ := bu (s := t1) (l := [V.str [], .str [], .bool false, .bool false, .i 0, .i 0, .ay, .ay, .ay]) (n := 9) ft1.wf rfl;obtain ⟨t3, k3, ck3, ft3, nt3⟩ := cG (s := t2) (b := t1.next) (o := 0) (vs := b_ nm ds st (kS g.plain).length cv hv fv) (m := 9) ft2.wf ck2 rfl pm hone;replace ck3 : t3.cl t1.next = some (b_ nm ds st (kS g.plain).length cv hv fv) := by rw [ck3]; simp [dA, b_]
  have q9 : gH 9 (.ptr t1.next 0) t3 = some (.agg (b_ nm ds st (kS g.plain).length cv hv fv)) := by rw [dB (o := 0) (m := 9) ft3.wf ck3 (by simp [b_])]; rfl
  have RD : Fr t1 t3 [] := ft2.trans' ft3 (fun b hb => .inr (by simp at hb; omega))
  have Hg3 := Hg1.mv RD pm;obtain ⟨pv', lv', hv', tv', pool', w1, w2, w3, w4, w5, w6, x1, x2, x3, x4⟩ := Hg3.ex;have qp : cP (.ptr s1.next 1) t3 = some pv' := aK ft3.wf w1 rfl;have hFr := Hg.fr;have hnx := Hg3.fr.nx;have c16 : t3.cl s.next = some [V.str [], .str [], .bool false, .bool false, .i 0, .i 0, .ay, .ay, .ay] := Hg3.fr.cl f1.wf c1 (by simp; omega)
  obtain ⟨t4, k4, ck4, ft4, nt4⟩ := cG (s := t3) (b := s.next) (o := 0) (vs := b_ nm ds st (kS g.plain).length cv hv fv) (m := 9) ft3.wf c16 rfl pm hone;replace ck4 : t4.cl s.next = some (b_ nm ds st (kS g.plain).length cv hv fv) := by rw [ck4]; simp [dA, b_]
  have q16 : gH 9 (.ptr s.next 0) t4 = some (.agg (b_ nm ds st (kS g.plain).length cv hv fv)) := by rw [dB (o := 0) (m := 9) ft4.wf ck4 (by simp [b_])]; rfl
  have w1' := ft4.cl ft3.wf w1 (by simp; omega)
  have qp' : cP (.ptr s1.next 1) t4 = some pv' := aK ft4.wf w1' rfl;have spv : dO 100 pv' pv' = true := by
   rcases w2.2 with ⟨_, rfl | ⟨b, o, c, rfl⟩⟩ | ⟨b, o, c, n, f, rfl, _⟩; exact jl; exact ep _ _ _ _ _; exact ep _ _ _ _ _
  rw [hres];simp -implicitDefEqProofs (disch := first|go_size|fail) only [go_sem, ↓m_.eq_1, ↓oY.eq_1, i2, i3, i4, i16, i18, e68, a_, k2, k3, q9, qp, qp', k4, spv, q16]
  have htn : s.next < t.next := by have := Hg.fr.nx; omega
  have Jz : Fr t1 t4 [s.next] := (RD.mono pm).trans ft4;obtain ⟨lr, ll, la, y1, y2, y3, y4, y5, y6⟩ := Hg3.rc;have hft4 := ft4.nx;have hrb4 := ft4.cl ft3.wf y1 (by simp; omega)
  exact ⟨_, pv', pool', g.ls, g.aj, (kS g.plain).length, g.hs, rfl, M, mo.mono ft1.wf Jz (fun b hb => by simp at hb; omega) po, w2.frS ft3.wf ft4 c16 (by intro v hv n h; subst h; simp at hv), w3, fun b hb => ⟨(x4 b hb).2.1, by have := (x4 b hb).2.2; omega⟩, ⟨lr, ll, la, hrb4, y2.fr ft3.wf ft4 (fun b hb => by have := y6 b hb; simp; omega), y3, y4, y5, fun b hb => by have := y6 b hb; have := Hg3.fr.nx; omega⟩, ((f1.mono (l' := [rb]) pm).trans Hg3.fr).trans' ft4 (fun b hb => .inr (by simp at hb; omega))⟩
 have rest1 : ∀ (e : E) (t : St) (g : G), MK s1 t s1.next rb g → aW 6 (gz plain) g → e.a0.a2 = .str nm → e.a0.a3 = .str ds → e.a0.a4 = .bool st → e.a0.a6 = .bool gives → e.a0.a7 = .i (fm : Nat) → e.a1.a0 = .ptr s.next 0 → e.a1.a2 = .ptr s1.next 0 → dg (aV (aL [rC true 9 g16, rT g17]) (oY (K d) e t)) Q := by
  intro e t g Hg Eg i2 i3 i4 i6 i7 i16 i18;have N0 := Eg.aU;have S0 := Eg.same;simp only [gz, List.length_nil] at N0 S0;obtain ⟨t1, ga, e65, H1, E1⟩ := Hg.adW st nm hnm fm hf po po po (m := d) po;have N1 := E1.aU;have ok1 : Ok ga := ⟨po, po, po, po, po, po⟩;obtain ⟨t2, gb, e66, H2, R2⟩ := (stmts 4 po).2 d po _ _ 6 H1 ok1 (by show ga.depth = 4 - ((4 : Nat) : Int); omega) po po
  have N2 := R2.aU;have C2 := R2.fo.cnt;simp only [List.length_nil] at C2;have lo2 : -21 ≤ gb.left := by have := N2.1; omega
  have Fb : Fo [] (gz plain) gb := (Eg.fo.emit E1).ij R2.fo;cases gives with
  | true =>
    obtain ⟨t3, gc, e67, H3, E3⟩ := (bV 2 po).1 d po _ _ H2 (by have : eX 2 = 10 := rfl; omega) (by have : eX 2 = 10 := rfl; omega) po
    have N3 := E3.aU;have c2 : eX 2 = 10 := rfl;replace e67 : (K d).call 55 [.ptr s1.next 0, .i 2] _ = _ := e67;obtain ⟨t4, e64, H4, _⟩ := H3.put 172 0 0 po po po (m := d) po;have Fd := (Fb.emit E3).emit (aW.put (g := gc) (o := 172) (a := 0) (b := 0) (ok_one (aZ.1 rfl)));have Md := wY Fd (by show gc.aj ≤ 54; omega) (by show -60 ≤ gc.left - 1; omega) ⟨gc.ls, 172, rfl, rfl⟩
    have hth := Fd.tc;simp only [gz, List.length_nil] at hth;simp -implicitDefEqProofs (disch := first|go_size|fail) only [go_sem, ↓oY.eq_1, i2, i3, i4, i6, i7, i16, i18, e65, e66, e67, e64]
    exact rest2 _ t4 _ H4 Md (by show gc.th.length ≤ 1000; omega) pt pt pt pt pt
  | false =>
    obtain ⟨t4, e64, H4, _⟩ := H2.put 177 0 0 po po po (m := d) po;have Fd := Fb.emit (aW.put (g := gb) (o := 177) (a := 0) (b := 0) (ok_one (aZ.1 rfl)));have Md := wY Fd (by show gb.aj ≤ 54; omega) (by show -60 ≤ gb.left - 1; omega) ⟨gb.ls, 177, rfl, rfl⟩
    have hth := Fd.tc;simp only [gz, List.length_nil] at hth;simp -implicitDefEqProofs (disch := first|go_size|fail) only [go_sem, ↓oY.eq_1, i2, i3, i4, i6, i7, i16, i18, e65, e66, e64]
    exact rest2 _ t4 _ H4 Md (by show gb.th.length ≤ 1000; omega) pt pt pt pt pt
 have z1 : (gz plain).ls.length ≤ 100000 := by simp [gz]
 rcases Bool.eq_false_or_eq_true st with hst | hst
 · subst hst;simp -implicitDefEqProofs (disch := first|go_size|fail) only [aab, go_sem, ↓m_.eq_1, e1, a_, aaN, hbox, e2]
   exact rest1 _ s2 _ H ((aW.refl _).trans (aW.refl _) po) pt pt pt pt pt pt pt
 · subst hst;rcases hnm with h | h | h
   · cases h
   · subst h;obtain ⟨ta, Ga, ea, Ha, Ea, xa⟩ := H.bC (o := 25) (a := 0) (b := 0) (ok_two (by decide) po po) z1 (by show _ ≤ (110 : Int); omega) (by show (110 : Int) ≤ _; omega) (m := d) po
     have La := Ea.len;simp only [gz, List.length_nil] at La;obtain ⟨tb, Gb, eb, Hb, Eb, xb⟩ := Ha.bC (o := 58) (a := 4) (b := 0) (ok_two (by decide) po po) po po po (m := d) po
     have Lb := Eb.len;obtain ⟨tc, Gc, ec, Hc, Ec, xc⟩ := Hb.bC (o := 21) (a := 1) (b := 0) (ok_two (by decide) po po) po po po (m := d) po
     have Lc := Ec.len;obtain ⟨td, Gd, ed, Hd, Ed, xd⟩ := Hc.bC (o := 54) (a := 2) (b := 0) (ok_two (by decide) po po) po po po (m := d) po
     have Ld := Ed.len;obtain ⟨te, Ge, ee, He, Ee, xe⟩ := Hd.bC (o := 3) (a := 0) (b := 0) (ok_one (aZ.1 rfl)) po po po (m := d) po;have Le := Ee.len;obtain ⟨tf, Gf, ef, Hf, Ef, xf⟩ := He.bC (o := 54) (a := 0) (b := 0) (ok_two (by decide) po po) po po po (m := d) po
     simp -implicitDefEqProofs (disch := first|go_size|fail) only [aab, go_sem, ↓m_.eq_1, e1, a_, aaN, hbox, e2, kE, YE, ea, eb, ec, ed, ee, ef]
     exact rest1 _ tf _ Hf (((((Ea.trans Eb (Nat.le_refl _)).trans Ec (Nat.le_refl _)).trans Ed (Nat.le_refl _)).trans Ee (Nat.le_refl _)).trans Ef po) pt pt pt pt pt pt pt
   · subst h;obtain ⟨ta, Ga, ea, Ha, Ea, xa⟩ := H.bC (o := 25) (a := 0) (b := 0) (ok_two (by decide) po po) z1 (by show _ ≤ (110 : Int); omega) (by show (110 : Int) ≤ _; omega) (m := d) po
     have La := Ea.len;simp only [gz, List.length_nil] at La;obtain ⟨tb, Gb, eb, Hb, Eb, xb⟩ := Ha.bC (o := 58) (a := 8) (b := 0) (ok_two (by decide) po po) po po po (m := d) po
     have Lb := Eb.len;obtain ⟨tc, Gc, ec, Hc, Ec, xc⟩ := Hb.bC (o := 3) (a := 0) (b := 0) (ok_one (aZ.1 rfl)) po po po (m := d) po;have Lc := Ec.len;obtain ⟨td, Gd, ed, Hd, Ed, xd⟩ := Hc.bC (o := 54) (a := 0) (b := 0) (ok_two (by decide) po po) po po po (m := d) po
     have Ld := Ed.len;obtain ⟨te, Ge, ee, He, Ee, xe⟩ := Hd.bC (o := 3) (a := 0) (b := 0) (ok_one (aZ.1 rfl)) po po po (m := d) po;have Le := Ee.len;obtain ⟨tf, Gf, ef, Hf, Ef, xf⟩ := He.bC (o := 54) (a := 1) (b := 0) (ok_two (by decide) po po) po po po (m := d) po
     simp -implicitDefEqProofs (disch := first|go_size|fail) only [aab, go_sem, ↓m_.eq_1, e1, a_, aaN, hbox, e2, kE, aaY, ea, eb, ec, ed, ee, ef]
     exact rest1 _ tf _ Hf (((((Ea.trans Eb (Nat.le_refl _)).trans Ec (Nat.le_refl _)).trans Ed (Nat.le_refl _)).trans Ee (Nat.le_refl _)).trans Ef po) pt pt pt pt pt pt pt
theorem VE (id : Nat) : eS 4 3 [V.str [], .str [], .bool false, V.str [], .str [], .bool false, V.str [], .str [], .bool false, V.str [], .str [], .bool false] [(0, 3, .agg [V.str [120], .str [73], .bool false]), (3, 3, .agg [V.str [110, 101, 120, 116], .str [76, 65, 59], .bool false]), (6, 3, .agg [V.str [115], .str [73], .bool true]), (9, 3, .agg [V.str [114], .str [76, 65, 59], .bool true])] id = some (.slice id 0 4 (some 4) 3, .cells 12 (cK [V.str [120], .str [73], .bool false, V.str [110, 101, 120, 116], .str [76, 65, 59], .bool false, V.str [115], .str [73], .bool true, V.str [114], .str [76, 65, 59], .bool true])) := (rfl)
theorem Xh (id : Nat) : eS 2 3 [V.str [], .str [], .bool false, V.str [], .str [], .bool false] [(0, 3, .agg [V.str [121], .str [73], .bool false]), (3, 3, .agg [V.str [111, 116, 104, 101, 114], .str [76, 65, 59], .bool false])] id = some (.slice id 0 2 (some 2) 3, .cells 6 (cK [V.str [121], .str [73], .bool false, V.str [111, 116, 104, 101, 114], .str [76, 65, 59], .bool false])) := (rfl)
theorem Xk : cN [V.str [], .str [], .bool false] [(0, 1, .str [120]), (1, 1, .str [73])] = some [V.str [120], .str [73], .bool false] := (rfl)
theorem Tg : cN [V.str [], .str [], .bool false] [(0, 1, .str [110, 101, 120, 116]), (1, 1, .str [76, 65, 59])] = some [V.str [110, 101, 120, 116], .str [76, 65, 59], .bool false] := (rfl)
theorem Xl : cN [V.str [], .str [], .bool false] [(0, 1, .str [115]), (1, 1, .str [73]), (2, 1, .bool true)] = some [V.str [115], .str [73], .bool true] := (rfl)
theorem X6 : cN [V.str [], .str [], .bool false] [(0, 1, .str [114]), (1, 1, .str [76, 65, 59]), (2, 1, .bool true)] = some [V.str [114], .str [76, 65, 59], .bool true] := (rfl)
theorem TV : cN [V.str [], .str [], .bool false] [(0, 1, .str [121]), (1, 1, .str [73])] = some [V.str [121], .str [73], .bool false] := (rfl)
theorem Yp : cN [V.str [], .str [], .bool false] [(0, 1, .str [111, 116, 104, 101, 114]), (1, 1, .str [76, 65, 59])] = some [V.str [111, 116, 104, 101, 114], .str [76, 65, 59], .bool false] := (rfl)
theorem adM (a b : List Nat) (v : V) (hv : v.one = true) : cN [V.str [], .str [], .ay, .ay, .ay] [(0, 1, .str a), (1, 1, .str b), (3, 1, v)] = some [.str a, .str b, .ay, v, .ay] := by
 rw [eT rfl pm]; simp only [List.set_cons_zero];rw [eT rfl pm]; simp only [List.set_cons_zero, List.set_cons_succ];rw [eT hv pm]; simp only [List.set_cons_zero, List.set_cons_succ]
 rfl
theorem agh (a b : List Nat) : cN [V.str [], .str [], .ay, .ay, .ay] [(0, 1, .str a), (1, 1, .str b)] = some [.str a, .str b, .ay, .ay, .ay] := (rfl)
theorem sL {a b c d e : V} (h1 : a.one = true) (h2 : b.one = true) (h3 : c.one = true) (h4 : d.one = true) (h5 : e.one = true) : ∀ v ∈ [a, b, c, d, e], v.one = true := by
 intro v hv; simp at hv; rcases hv with rfl | rfl | rfl | rfl | rfl <;> assumption
theorem RN.one {es : Nat} {s : St} {v : V} {l : List (List V)} (h : RN es s v l) : v.one = true := by rcases h.2 with ⟨_, rfl | ⟨b, o, c, rfl⟩⟩ | ⟨b, o, c, n, f, rfl, _⟩ <;> rfl
theorem FM.row {s t : St} {nm ds : List Nat} {st : Bool} {n : Nat} {code : List Nat} {hr : List (List V)} {c : List V} (h : FM s t nm ds st n code hr c) : Row 9 c := by
 obtain ⟨cv, hv, fv, rows, rfl, _, o2, _, o4, _, o6, _⟩ := h.ex;exact ⟨rfl, jA o2 o4 o6⟩
theorem tL {t : St} (hw : Wf t) {b bm : Nat} {x1 x2 f0 pv : V} {c zm : List V} (hc : t.cl b = some [x1, x2, .ay, f0, .ay]) (hm : t.cl bm = some zm) (hz : zm.length = 9) (hne : b ≠ bm) (hr : Row 9 c) (hpv : pv.one = true) :
 ∃ (t1 t2 t3 t4 t5 : St) (mv : V), wH 9 (.ptr bm 0) (.agg c) t = some (.bH [], t1) ∧ wH 1 (.ptr b 2) pv t1 = some (.bH [], t2) ∧ cP (.ptr b 4) t2 = some .ay ∧ gH 9 (.ptr bm 0) t2 = some (.agg c) ∧
   eS 1 9 [V.str [], .str [], .bool false, .bool false, .i 0, .i 0, .ay, .ay, .ay] [(0, 9, .agg c)] t2.next = some (.slice t2.next 0 1 (some 1) 9, .cells 9 (cK c)) ∧ t2.new (.cells 9 (cK c)) = t3 ∧ vF 9 .ay (.slice t2.next 0 1 (some 1) 9) t3 = some (mv, t4) ∧ wH 1 (.ptr b 4) mv t4 = some (.bH [], t5) ∧
   t5.cl b = some [x1, x2, pv, f0, mv] ∧ GN 9 t5 mv [c] ∧ mv.one = true ∧ t5.cl bm = some c ∧ Fr t t5 [b, bm] := by
 obtain ⟨t1, k1, c1, f1, n1⟩ := cG (s := t) (b := bm) (o := 0) (vs := c) (m := 9) hw hm hr.1 po hr.2;have hcl := hr.1;have hpl : dA zm 0 c = c := by simp [dA, hcl, hz]
 rw [hpl] at c1;have cb1 := f1.cl hw hc (by simpa using hne)
 obtain ⟨t2, k2, c2, f2, n2⟩ := cC (s := t1) (b := b) (o := 2) (v := pv) f1.wf cb1 pm hpv;replace c2 : t2.cl b = some [x1, x2, pv, f0, .ay] := by rw [c2]; rfl
 have cm2 := f2.cl f1.wf c1 (by simpa using fun h => hne h.symm)
 have q1 : cP (.ptr b 4) t2 = some .ay := aK f2.wf c2 rfl;have q2 : gH 9 (.ptr bm 0) t2 = some (.agg c) := by rw [dB (o := 0) (m := 9) f2.wf cm2 po, List.drop_zero, List.take_of_length_le po]
 have g0' : GN 9 t2 .ay [] := ⟨pm, .inl ⟨rfl, .inl rfl⟩⟩;obtain ⟨t3, mv, t4, k3, k4, g4', f4, hb4⟩ := g0'.push f2.wf hr pm;have cb4 := f4.cl f2.wf c2 (by simp [aB])
 have cm4 := f4.cl f2.wf cm2 (by simp [aB])
 obtain ⟨t5, k5, c5, f5, n5⟩ := cC (s := t4) (b := b) (o := 4) (v := mv) f4.wf cb4 pm g4'.one;replace c5 : t5.cl b = some [x1, x2, pv, f0, mv] := by rw [c5]; rfl
 have hbl := bQ hw hc;have h1 := f1.nx;have h2 := f2.nx;exact ⟨t1, t2, t3, t4, t5, mv, k1, k2, q1, q2, dQ rfl hcl (bN hr.2), k3, k4, k5, c5, g4'.fr f4.wf f5 (fun x hx => by have := hb4 x hx; simp; omega), g4'.one, f5.cl f4.wf cm4 (by simpa using fun h => hne h.symm), (((f1.mono pm).trans (f2.mono pm)).trans (f4.mono (by simp [aB]))).trans (f5.mono pm)⟩
structure abH (s t : St) (cv : V) : Prop where
 ex : ∃ (rows : List (List V)) (cls : List V) (mv : V) (ms : List (List V)) (c : List V) (nm ds : List Nat) (st : Bool) (k : Nat) (ls : List L) (n : Nat) (hs : List (Nat × Nat × Nat)), RN 5 t cv rows ∧ rows.length = 4 ∧ rows[3]? = some cls ∧ cls[4]? = some mv ∧ RN 9 t mv ms ∧ ms[0]? = some c ∧ Made ls n hs ∧ FM s t nm ds st k (cR (bY (cD n ls).1 ls).1) (hs.map (kZ (cD n ls).1)) c
theorem wG {l : List V} (h : l.length = 5) : ∃ a b c d e, l = [a, b, c, d, e] := by
 match l, h with
 | [a, b, c, d, e], _ => exact ⟨a, b, c, d, e, rfl⟩
theorem RN.ni {es : Nat} {s : St} {v : V} {l : List (List V)} (h : RN es s v l) (n : Int) : v ≠ .int .i32 n := by rcases h.2 with ⟨_, rfl | ⟨b, o, c, rfl⟩⟩ | ⟨b, o, c, n, f, rfl, _⟩ <;> simp
theorem SL.ni {s : St} {v : V} {l : List V} (h : SL s v l) (n : Int) : v ≠ .int .i32 n := by rcases h with ⟨_, rfl | ⟨b, o, c, rfl⟩⟩ | ⟨b, o, c, n, f, rfl, _⟩ <;> simp
theorem afB (c1 c2 : List V) (h1 : Row 9 c1) (h2 : Row 9 c2) (id : Nat) : eS 2 9 ([V.str [], .str [], .bool false, .bool false, .i 0, .i 0, .ay, .ay, .ay, V.str [], .str [], .bool false, .bool false, .i 0, .i 0, .ay, .ay, .ay]) [(0, 9, .agg c1), (9, 9, .agg c2)] id = some (.slice id 0 2 (some 2) 9, .cells 18 (cK (c1 ++ c2))) := by
 have l1 := h1.1;have l2 := h2.1;have hf : cN ([V.str [], .str [], .bool false, .bool false, .i 0, .i 0, .ay, .ay, .ay, V.str [], .str [], .bool false, .bool false, .i 0, .i 0, .ay, .ay, .ay]) [(0, 9, .agg c1), (9, 9, .agg c2)] = some (c1 ++ c2) := by
  rw [r8 l1 pm, r8 l2 (by simp [dA, l1]), rD]
  congr 1
  simp [dA, l1, l2, List.take_append, List.drop_append]
 unfold eS;rw [hf]; simp only;have e1 : bn (c1 ++ c2) = true := bN fun v hv => (List.mem_append.1 hv).elim (h1.2 v) (h2.2 v)
 have e2 : (c1 ++ c2).length = 18 := by simp [l1, l2]
 rw [e1, e2]; rfl
theorem afR (a b c d : List V) (h1 : Row 5 a) (h2 : Row 5 b) (h3 : Row 5 c) (h4 : Row 5 d) (id : Nat) : eS 4 5 ([V.str [], .str [], .ay, .ay, .ay, V.str [], .str [], .ay, .ay, .ay, V.str [], .str [], .ay, .ay, .ay, V.str [], .str [], .ay, .ay, .ay]) [(0, 5, .agg a), (5, 5, .agg b), (10, 5, .agg c), (15, 5, .agg d)] id = some (.slice id 0 4 (some 4) 5, .cells 20 (cK (a ++ b ++ c ++ d))) := by
 have l1 := h1.1;have l2 := h2.1;have l3 := h3.1;have l4 := h4.1;obtain ⟨a1, a2, a3, a4, a5, rfl⟩ := wG l1;obtain ⟨b1, b2, b3, b4, b5, rfl⟩ := wG l2;obtain ⟨c1, c2, c3, c4, c5, rfl⟩ := wG l3;obtain ⟨d1, d2, d3, d4, d5, rfl⟩ := wG l4;have hf : cN ([V.str [], .str [], .ay, .ay, .ay, V.str [], .str [], .ay, .ay, .ay, V.str [], .str [], .ay, .ay, .ay, V.str [], .str [], .ay, .ay, .ay]) [(0, 5, .agg [a1, a2, a3, a4, a5]), (5, 5, .agg [b1, b2, b3, b4, b5]), (10, 5, .agg [c1, c2, c3, c4, c5]), (15, 5, .agg [d1, d2, d3, d4, d5])] = some ([a1, a2, a3, a4, a5] ++ [b1, b2, b3, b4, b5] ++ [c1, c2, c3, c4, c5] ++ [d1, d2, d3, d4, d5]) := by
  rfl
 unfold eS;rw [hf]; simp only;have e1 : bn ([a1, a2, a3, a4, a5] ++ [b1, b2, b3, b4, b5] ++ [c1, c2, c3, c4, c5] ++ [d1, d2, d3, d4, d5]) = true := bN fun v hv => by
  rcases List.mem_append.1 hv with hv | hv
  · rcases List.mem_append.1 hv with hv | hv
    · rcases List.mem_append.1 hv with hv | hv
      · exact h1.2 v hv
      · exact h2.2 v hv
    · exact h3.2 v hv
  · exact h4.2 v hv
 rw [e1]; rfl
set_option maxHeartbeats 8000000 in
theorem vS {s : St} (hw : Wf s) {v : V} {l : List Int} (hv : SL s v (l.map V.i)) (hv1 : v.one = true) (hI : ∀ x ∈ l, XQ x) (hl : l.length ≤ 17592186044416) (hvb : ∀ b ∈ aB v, b < s.next) {m : Nat} (hm : 31 ≤ m) :
 ∃ (t : St) (cv : V), (K m).call 14 [v] s = some (cv, t) ∧ abH s t cv ∧ Fr s t [] := by
 obtain ⟨d, rfl⟩ : ∃ d, m = d + 1 := ⟨m - 1, po⟩;obtain ⟨s1, e1, c1, f1, n1⟩ := bu (s := s) (l := [v, V.i 0]) (n := 2) hw rfl;have hbox : tJ (.agg [v, .i 0]) s.next = some (.ptr s.next 0, .cells 2 (cK [v, V.i 0])) := iw (bN (by intro x hx; simp at hx; rcases hx with rfl | rfl; exact hv1; rfl))
 have hfv : cN [V.ay, .i 0] [(0, 1, v)] = some [v, .i 0] := by rw [eT hv1 pm]; rfl
 have rc1 : RC s1 s1 s.next := ⟨v, l, 0, c1, hv.fr hw f1 pm, hI, po, hl, fun b hb => by have := hvb b hb; omega⟩
 let Q : V → St → Prop := fun x t => abH s t x ∧ Fr s t []
 suffices key : dg ((K (d + 1)).call 14 [v] s) Q by
  obtain ⟨x, t, e, h1, h2⟩ := key;exact ⟨t, x, e, h1, h2⟩
 have rest : ∀ (e : E) (t : St) (ba bb bm : Nat) (la lb zm : List V), Fr s t [] → RC t t s.next → t.cl ba = some la → Row 5 la → t.cl bb = some lb → Row 5 lb → t.cl bm = some zm → zm.length = 9 → s.next < ba → ba < bm → bm < bb → e.a0.a3 = .ptr s.next 0 → e.a0.a4 = .ptr ba 0 → e.a0.a5 = .ptr bm 0 → e.a0.a7 = .ptr bb 0 → dg (aV (aL [rT g2]) (wC (K d) e t)) Q := by
  intro e t ba bb bm la lb zm ft rc ca ra cb rb' cm hz h1 h2 h3 i3 i4 i5 i7;have hbb := bQ ft.wf cb;obtain ⟨t1, k1, ck1, fk1, nk1⟩ := bu (s := t) (l := [V.str [], .str [], .ay, .ay, .ay]) (n := 5) ft.wf rfl;obtain ⟨t2, k2, ck2, fk2, nk2⟩ := cG (s := t1) (b := t.next) (o := 0) (vs := [.str [84], .str [84, 104, 114, 101, 97, 100], .ay, .ay, .ay]) (m := 5) fk1.wf ck1 rfl pm (sL rfl rfl rfl rfl rfl);replace ck2 : t2.cl t.next = some [.str [84], .str [84, 104, 114, 101, 97, 100], .ay, .ay, .ay] := by rw [ck2]; simp [dA]
  have F2 : Fr t t2 [] := fk1.trans' fk2 (fun b hb => .inr (by simp at hb; omega))
  have hF2 := F2.nx;have rc2 := ((rc.fr ft.wf po F2 pm).mono hF2);have q2 : cP (.ptr t.next 2) t2 = some .ay := aK fk2.wf ck2 rfl;obtain ⟨t3, cc, pv3, pl3, ls3, n3', k3', hs3, e3, M3, mo3, rp3, hpl3, hpb3, rc3, ft3⟩ := mG (pv := .ay) (pool := []) fk2.wf rc2 po ⟨pm, .inl ⟨rfl, .inl rfl⟩⟩ pm (by simp [aB]) [114, 117, 110] [40, 41, 86] false false false (.inr (.inr rfl)) 1 po (m := d) po
  replace e3 : (K d).call 37 [.ptr s.next 0, .ay, .str [114, 117, 110], .str [40, 41, 86], .bool false, .bool false, .bool false, .i 1] t2 = _ := e3;have hft3 := ft3.nx;have ct3 := ft3.cl fk2.wf ck2 (by simp; omega)
  have cm3 := ft3.cl fk2.wf (F2.cl ft.wf cm pm) (by simp; omega)
  have ca3 := ft3.cl fk2.wf (F2.cl ft.wf ca pm) (by simp; omega)
  have cb3 := ft3.cl fk2.wf (F2.cl ft.wf cb pm) (by simp; omega)
  obtain ⟨t4, t5, t6, t7, t8, mv8, w1, w2, w3, w4, w5, w6, w7, w8, ct8, gm8, mv81, cm8, f8⟩ := tL (b := t.next) (bm := bm) ft3.wf ct3 cm3 hz po mo3.row rp3.one;have hf8 := f8.nx;have ca8 := f8.cl ft3.wf ca3 (by simp; omega)
  have cb8 := f8.cl ft3.wf cb3 (by simp; omega)
  have rc8 : RC t8 t8 s.next := by
   obtain ⟨lr, ll, lx, y1, y2, y3, y4, y5, y6⟩ := rc3;exact ⟨lr, ll, lx, f8.cl ft3.wf y1 (by simp; omega), y2.fr ft3.wf f8 (fun b hb => by have := y6 b hb; simp; omega), y3, y4, y5, fun b hb => by have := y6 b hb; omega⟩
  obtain ⟨t9, k9, ck9, fk9, nk9⟩ := bu (s := t8) (l := [V.str [], .str [], .ay, .ay, .ay]) (n := 5) f8.wf rfl;obtain ⟨ta, ka, cka, fka, nka⟩ := cG (s := t9) (b := t8.next) (o := 0) (vs := [.str [77, 97, 105, 110], .str [79, 98, 106, 101, 99, 116], .ay, .ay, .ay]) (m := 5) fk9.wf ck9 rfl pm (sL rfl rfl rfl rfl rfl);replace cka : ta.cl t8.next = some [.str [77, 97, 105, 110], .str [79, 98, 106, 101, 99, 116], .ay, .ay, .ay] := by rw [cka]; simp [dA]
  have Fa : Fr t8 ta [] := fk9.trans' fka (fun b hb => .inr (by simp at hb; omega))
  have hFa := Fa.nx;have rca := ((rc8.fr f8.wf po Fa pm).mono hFa);have qa : cP (.ptr t8.next 2) ta = some .ay := aK fka.wf cka rfl;obtain ⟨tb, cb', pvb, plb, lsb, nb', kb', hsb, eb, Mb, mob, rpb, hplb, hpbb, rcb, ftb⟩ := mG (pv := .ay) (pool := []) fka.wf rca po ⟨pm, .inl ⟨rfl, .inl rfl⟩⟩ pm (by simp [aB]) [109, 97, 105, 110] [40, 41, 86] true false false (.inl rfl) 0 po (m := d) po
  replace eb : (K d).call 37 [.ptr s.next 0, .ay, .str [109, 97, 105, 110], .str [40, 41, 86], .bool true, .bool false, .bool false, .i 0] ta = _ := eb;have hftb := ftb.nx;have cmb := ftb.cl fka.wf (Fa.cl f8.wf cm8 pm) (by simp; omega)
  have hrm := mo3.row.1;have hbmt := bQ ft.wf cm;obtain ⟨tc, kc', ckc, fkc, nkc⟩ := cG (s := tb) (b := bm) (o := 0) (vs := cb') (m := 9) ftb.wf cmb mob.row.1 po mob.row.2;have hrb9 := mob.row.1;have hpl9 : dA cc 0 cb' = cb' := by simp [dA, hrb9, hrm]
  rw [hpl9] at ckc;have hfkc := fkc.nx;have rcc : RC tc tc s.next := by
   obtain ⟨lr, ll, lx, y1, y2, y3, y4, y5, y6⟩ := rcb;exact ⟨lr, ll, lx, fkc.cl ftb.wf y1 (by simp; omega), y2.fr ftb.wf fkc (fun b hb => by have := y6 b hb; simp; omega), y3, y4, y5, fun b hb => by have := y6 b hb; omega⟩
  have rpc := rpb.frS ftb.wf fkc cmb (by
   obtain ⟨cv, hv, fv, rows, rfl, z1, _, z3, _, z5, _⟩ := mo3.ex;intro v hv' n h; subst h;simp only [b_, List.mem_cons, List.not_mem_nil, or_false, reduceCtorEq, false_or] at hv';rcases hv' with h | h | h
   · exact z1.ni n h.symm
   · exact z3.ni n h.symm
   · exact z5.ni n h.symm)
  obtain ⟨td, cd', pvd, pld, lsd, nd', kd', hsd, ed, Md, mod_, rpd, hpld, hpbd, rcd, ftd⟩ := mG fkc.wf rcc po rpc hplb (fun b hb => by have := hpbb b hb; omega) [99, 97, 108, 99] [40, 73, 73, 41, 73] true true true (.inl rfl) 2 po (m := d) po
  replace ed : (K d).call 37 [.ptr s.next 0, pvb, .str [99, 97, 108, 99], .str [40, 73, 73, 41, 73], .bool true, .bool true, .bool true, .i 2] tc = _ := ed;have hftd := ftd.nx;obtain ⟨te, ke, cke, fke, nke⟩ := bu (s := td) (l := [V.str [], .str [], .bool false, .bool false, .i 0, .i 0, .ay, .ay, .ay]) (n := 9) ftd.wf rfl;obtain ⟨tf, kf, ckf, fkf, nkf⟩ := cG (s := te) (b := td.next) (o := 0) (vs := cd') (m := 9) fke.wf cke mod_.row.1 pm mod_.row.2;have hrd9 := mod_.row.1;replace ckf : tf.cl td.next = some cd' := by rw [ckf]; congr 1; simp [dA, hrd9]
  have Ff : Fr td tf [] := fke.trans' fkf (fun b hb => .inr (by simp at hb; omega))
  have cbc := Ff.cl ftd.wf (ftd.cl fkc.wf (fkc.cl ftb.wf (ftb.cl fka.wf cka (by simp; omega)) (by simp; omega)) (by simp; omega)) pm
  have cbm := Ff.cl ftd.wf (ftd.cl fkc.wf ckc (by simp; omega)) pm
  have hFf := Ff.nx;obtain ⟨tg, kg, ckg, fkg, nkg⟩ := cC (s := tf) (b := t8.next) (o := 2) (v := pvd) fkf.wf cbc pm rpd.one;replace ckg : tg.cl t8.next = some [.str [77, 97, 105, 110], .str [79, 98, 106, 101, 99, 116], pvd, .ay, .ay] := by rw [ckg]; rfl
  have qg : cP (.ptr t8.next 4) tg = some .ay := aK fkg.wf ckg rfl;have cbmg := fkg.cl fkf.wf cbm (by simp; omega)
  have cbng := fkg.cl fkf.wf ckf (by simp; omega)
  have qm : gH 9 (.ptr bm 0) tg = some (.agg cb') := by rw [dB (o := 0) (m := 9) fkg.wf cbmg po, List.drop_zero, List.take_of_length_le po]
  have qn : gH 9 (.ptr td.next 0) tg = some (.agg cd') := by rw [dB (o := 0) (m := 9) fkg.wf cbng po, List.drop_zero, List.take_of_length_le po]
  obtain ⟨th, kh, ckh, fkh, nkh⟩ := bu (s := tg) (l := cb' ++ cd') (n := 18) fkg.wf (by simp [hrb9, hrd9])
  have hsrc : Src th 9 (.slice tg.next 0 2 (some 2) 9) [cb', cd'].length [cb', cd'].flatten := by
   have := Src.full (es := 9) (n2 := 2) (c2 := some 2) fkh.wf ckh (by simp [hrb9, hrd9]) (fun v hv => (List.mem_append.1 hv).elim (mob.row.2 v) (mod_.row.2 v)) po
   simpa using this
  have gz0 : GN 9 th .ay [] := ⟨pm, .inl ⟨rfl, .inl rfl⟩⟩;obtain ⟨mvi, ti, ki, gmi, fki, hbi⟩ := gz0.app fkh.wf hsrc (by intro x hx; simp at hx; rcases hx with rfl | rfl; exact mob.row; exact mod_.row) pm
  have cbci := fki.cl fkh.wf (fkh.cl fkg.wf ckg pm) (by simp [aB])
  obtain ⟨tj, kj, ckj, fkj, nkj⟩ := cC (s := ti) (b := t8.next) (o := 4) (v := mvi) fki.wf cbci pm gmi.one;replace ckj : tj.cl t8.next = some [.str [77, 97, 105, 110], .str [79, 98, 106, 101, 99, 116], pvd, .ay, mvi] := by rw [ckj]; rfl
  have hfki := fki.nx;have hfkh := fkh.nx;have FA : Fr t8 tj [s.next, bm, t8.next] := by
   have a1 : Fr t8 tc [s.next, bm, t8.next] := ((Fa.mono pm).trans (ftb.mono pm)).trans (fkc.mono pm);have a2 : Fr t8 tg [s.next, bm, t8.next] := ((a1.trans (ftd.mono pm)).trans (Ff.mono pm)).trans (fkg.mono pm);exact ((a2.trans (fkh.mono pm)).trans (fki.mono (by simp [aB]))).trans (fkj.mono pm)
  have caj := FA.cl f8.wf ca8 (by simp; omega)
  have cbj := FA.cl f8.wf cb8 (by simp; omega)
  have ctj := FA.cl f8.wf ct8 (by simp; omega)
  have rt := sL (a := .str [84]) (b := .str [84, 104, 114, 101, 97, 100]) (c := pv3) (d := .ay) (e := mv8) rfl rfl rp3.one rfl mv81;have rm := sL (a := .str [77, 97, 105, 110]) (b := .str [79, 98, 106, 101, 99, 116]) (c := pvd) (d := .ay) (e := mvi) rfl rfl rpd.one rfl gmi.one;have q5 : ∀ (b : Nat) (x : List V), tj.cl b = some x → x.length = 5 → gH 5 (.ptr b 0) tj = some (.agg x) := fun b x h1 h2 => by rw [dB (o := 0) (m := 5) fkj.wf h1 po, List.drop_zero, List.take_of_length_le po]
  have qa5 := q5 ba la caj ra.1;have qb5 := q5 bb lb cbj rb'.1;have qt5 := q5 t.next _ ctj rfl;have qc5 := q5 t8.next _ ckj rfl;have hb45 := afR la lb [.str [84], .str [84, 104, 114, 101, 97, 100], pv3, .ay, mv8] [.str [77, 97, 105, 110], .str [79, 98, 106, 101, 99, 116], pvd, .ay, mvi] ra rb' ⟨rfl, rt⟩ ⟨rfl, rm⟩ tj.next;obtain ⟨tk, kk, ckk, fkk, nkk⟩ := bu (s := tj) (l := la ++ lb ++ [.str [84], .str [84, 104, 114, 101, 97, 100], pv3, .ay, mv8] ++ [.str [77, 97, 105, 110], .str [79, 98, 106, 101, 99, 116], pvd, .ay, mvi]) (n := 20) fkj.wf (by simp [ra.1, rb'.1])
  have hb29 := afB cb' cd' mob.row mod_.row tg.next;simp -implicitDefEqProofs (disch := first|go_size|fail) only [go_sem, ↓wC.eq_1, i3, i4, i5, i7, agh, a_, k1, k2, q2, e3, w1, w2, w3, w4, w5, w6, w7, w8, k9, ka, qa, eb, kc', ed, ke, kf, kg, qg, qm, qn, hb29, kh, ki, kj, qa5, qb5, qt5, qc5, hb45, kk]
  have hrow : ∀ x ∈ [la, lb, [.str [84], .str [84, 104, 114, 101, 97, 100], pv3, .ay, mv8], [.str [77, 97, 105, 110], .str [79, 98, 106, 101, 99, 116], pvd, .ay, mvi]], Row 5 x := by
   intro x hx; simp at hx; rcases hx with rfl | rfl | rfl | rfl
   · exact ra
   · exact rb'
   · exact ⟨rfl, rt⟩
   · exact ⟨rfl, rm⟩
  have hGN : RN 5 tk (.slice tj.next 0 4 (some 4) 5) [la, lb, [.str [84], .str [84, 104, 114, 101, 97, 100], pv3, .ay, mv8], [.str [77, 97, 105, 110], .str [79, 98, 106, 101, 99, 116], pvd, .ay, mvi]] := by
   have := RN.of (es := 5) (o := 0) (c := some 4) hrow fkk.wf ckk (by simp [ra.1, rb'.1]) (fun i x hi j hj => by
    rw [Nat.zero_add, ← mQ hrow hi hj]; simp)
   exact this
  have hmo : FM s tk [109, 97, 105, 110] [40, 41, 86] true kb' (cR (bY (cD nb' lsb).1 lsb).1) (hsb.map (kZ (cD nb' lsb).1)) cb' := by
   have fx : Fr tb tk [bm, s.next, t8.next] := by
    have a1 : Fr tb tg [bm, s.next, t8.next] := (((fkc.mono pm).trans (ftd.mono pm)).trans (Ff.mono pm)).trans (fkg.mono pm);exact (((a1.trans (fkh.mono pm)).trans (fki.mono (by simp [aB]))).trans (fkj.mono pm)).trans (fkk.mono pm)
   exact mob.mono ftb.wf fx (fun b hb => by simp at hb; rcases hb with rfl | rfl | rfl <;> left <;> omega) (by have := ft.nx; omega)
  refine ⟨⟨_, _, mvi, [cb', cd'], cb', _, _, _, _, lsb, nb', hsb, hGN, rfl, rfl, rfl, ?_, rfl, Mb, hmo⟩, ?_⟩
  · have := (gmi.fr fki.wf fkj (fun b hb => by have := hbi b hb; simp [aB] at this; simp; omega)).fr fkj.wf fkk pm
    have h2 := this.rn fkk.wf
    simpa using h2
  · have hst := ft.nx;have b1 : Fr s t8 [] := ((ft.trans F2).trans' ft3 (fun b hb => .inr (by simp at hb; omega))).trans' f8 (fun b hb => .inr (by simp at hb; omega))
    exact (b1.trans' FA (fun b hb => .inr (by simp at hb; omega))).trans fkk
 have rcup : ∀ {t t' : St} {L : List Nat}, Wf t → RC t t s.next → s.next < t.next → Fr t t' L → (∀ b ∈ L, s.next < b) → RC t' t' s.next := fun hw' rc' hlt f hL => by
  obtain ⟨lr, ll, lx, y1, y2, y3, y4, y5, y6⟩ := rc';have := f.nx;exact ⟨lr, ll, lx, f.cl hw' y1 (fun h => by have := hL _ h; omega), y2.fr hw' f (fun b hb h => by have := hL _ h; have := y6 b hb; omega), y3, y4, y5, fun b hb => by have := y6 b hb; omega⟩
 obtain ⟨s2, e2, c2, f2, n2⟩ := bu (s := s1) (l := [V.str [120], .str [73], .bool false, V.str [110, 101, 120, 116], .str [76, 65, 59], .bool false, V.str [115], .str [73], .bool true, V.str [114], .str [76, 65, 59], .bool true]) (n := 12) f1.wf rfl;obtain ⟨s3, k3, c3, f3, n3⟩ := bu (s := s2) (l := [V.str [], .str [], .ay, .ay, .ay]) (n := 5) f2.wf rfl;obtain ⟨s4, k4, c4, f4, n4⟩ := cG (s := s3) (b := s2.next) (o := 0) (vs := [.str [65], .str [79, 98, 106, 101, 99, 116], .ay, .slice s1.next 0 4 (some 4) 3, .ay]) (m := 5) f3.wf c3 rfl pm (sL rfl rfl rfl rfl rfl);replace c4 : s4.cl s2.next = some [.str [65], .str [79, 98, 106, 101, 99, 116], .ay, .slice s1.next 0 4 (some 4) 3, .ay] := by rw [c4]; simp [dA]
 have Pn : Fr s1 s4 [] := (f2.trans f3).trans' f4 (fun b hb => .inr (by simp at hb; omega))
 have hF14 := Pn.nx;have rc4 := rcup f1.wf rc1 po Pn pm;have q4 : cP (.ptr s2.next 2) s4 = some .ay := aK f4.wf c4 rfl;obtain ⟨s5, ca, pva, pla, lsa, na, ka, hsa, ea, Ma, moa, rpa, hpla, hpba, rca, fta⟩ := mG (pv := .ay) (pool := []) f4.wf rc4 po ⟨pm, .inl ⟨rfl, .inl rfl⟩⟩ pm (by simp [aB]) [103, 111] [40, 73, 41, 73] false false true (.inr (.inl rfl)) 2 po (m := d) po
 replace ea : (K d).call 37 [.ptr s.next 0, .ay, .str [103, 111], .str [40, 73, 41, 73], .bool false, .bool false, .bool true, .i 2] s4 = _ := ea;have hfta := fta.nx;have c5 := fta.cl f4.wf c4 (by simp; omega)
 obtain ⟨s6, k6, c6, f6, n6⟩ := bu (s := s5) (l := [V.str [], .str [], .bool false, .bool false, .i 0, .i 0, .ay, .ay, .ay]) (n := 9) fta.wf rfl;have c56 := f6.cl fta.wf c5 pm;have hb5 := bQ fta.wf c5;obtain ⟨s7, s8, s9, s10, s11, mva, w1, w2, w3, w4, w5, w6, w7, w8, c11, gma, mva1, cm11, f11⟩ := tL (b := s2.next) (bm := s5.next) f6.wf c56 c6 rfl po moa.row rpa.one;have hf11 := f11.nx;obtain ⟨s12, xG, c12, f12, n12⟩ := bu (s := s11) (l := [V.str [121], .str [73], .bool false, V.str [111, 116, 104, 101, 114], .str [76, 65, 59], .bool false]) (n := 6) f11.wf rfl;obtain ⟨s13, vH, c13, f13, n13⟩ := bu (s := s12) (l := [V.str [], .str [], .ay, .ay, .ay]) (n := 5) f12.wf rfl;obtain ⟨s14, wu, c14, f14, n14⟩ := cG (s := s13) (b := s12.next) (o := 0) (vs := [.str [66], .str [65], .ay, .slice s11.next 0 2 (some 2) 3, .ay]) (m := 5) f13.wf c13 rfl pm (sL rfl rfl rfl rfl rfl);replace c14 : s14.cl s12.next = some [.str [66], .str [65], .ay, .slice s11.next 0 2 (some 2) 3, .ay] := by rw [c14]; simp [dA]
 have F1114 : Fr s11 s14 [] := (f12.trans f13).trans' f14 (fun b hb => .inr (by simp at hb; omega))
 have hF1114 := F1114.nx;have rc14 := rcup f11.wf (rcup f6.wf (rcup fta.wf rca po f6 pm) po f11 (by simp; omega)) po F1114 pm
 obtain ⟨kk, s15, e15, kk0, kk1, rc15, f15, n15⟩ := rc14.take f14.wf po (n := 2) po po (m := d) po;have rc15' : RC s15 s15 s.next := rc15.mono po;have c15a := f15.cl f14.wf (F1114.cl f11.wf c11 pm) (by simp; omega)
 have c15m := f15.cl f14.wf (F1114.cl f11.wf cm11 pm) (by simp; omega)
 have c15b := f15.cl f14.wf c14 (by simp; omega)
 have hb11 := bQ f11.wf c11;have Fs5 : Fr s s5 [] := (f1.trans Pn).trans' fta (fun b hb => .inr (by simp at hb; omega))
 have Fs11 : Fr s s11 [] := (Fs5.trans f6).trans' f11 (fun b hb => .inr (by simp at hb; omega))
 have Fs15 : Fr s s15 [] := (Fs11.trans F1114).trans' f15 (fun b hb => .inr (by simp at hb; omega))
 have ra5 : Row 5 [.str [65], .str [79, 98, 106, 101, 99, 116], pva, .slice s1.next 0 4 (some 4) 3, mva] := ⟨rfl, sL rfl rfl rpa.one rfl mva1⟩;have hm9 := moa.row.1;by_cases ck : kk = 0
 · have q15 : cP (.ptr s12.next 2) s15 = some .ay := aK f15.wf c15b rfl;obtain ⟨vD, cb, pvb, plb, lsb, nb, kb, hsb, eb, Mb, mob, rpb, hplb, hpbb, rcb, ftb⟩ := mG (pv := .ay) (pool := []) f15.wf rc15' po ⟨pm, .inl ⟨rfl, .inl rfl⟩⟩ pm (by simp [aB]) [103, 111] [40, 73, 41, 73] false false true (.inr (.inl rfl)) 2 po (m := d) po
   replace eb : (K d).call 37 [.ptr s.next 0, .ay, .str [103, 111], .str [40, 73, 41, 73], .bool false, .bool false, .bool true, .i 2] s15 = _ := eb;have hftb := ftb.nx;have c16b := ftb.cl f15.wf c15b (by simp; omega)
   have c16m := ftb.cl f15.wf c15m (by simp; omega)
   have c16a := ftb.cl f15.wf c15a (by simp; omega)
   obtain ⟨u7, u8, u9, u10', u11', mvb, x1, x2, x3, x4, x5, x6, x7, x8, c21, gmb, mvb1, cm21, f21⟩ := tL (b := s12.next) (bm := s5.next) ftb.wf c16b c16m hm9 po mob.row rpb.one;have hf21 := f21.nx;simp -implicitDefEqProofs (disch := first|go_size|fail) only [adi, go_sem, hfv, hbox, e1, Xk, Tg, Xl, X6, TV, Yp, VE, Xh, e2, adM, a_, k3, k4, q4, ea, k6, w1, w2, w3, w4, w5, w6, w7, w8, xG, vH, wu, e15, ck, q15, eb, x1, x2, x3, x4, x5, x6, x7, x8]
   exact rest _ u11' s2.next s12.next s5.next _ _ cb ((Fs15.trans' ftb (fun b hb => .inr (by simp at hb; omega))).trans' f21 (fun b hb => .inr (by simp at hb; omega))) (rcup ftb.wf rcb po f21 (by simp; omega)) (f21.cl ftb.wf c16a (by simp; omega)) ra5 c21 ⟨rfl, sL rfl rfl rpb.one rfl mvb1⟩ cm21 mob.row.1 po po po pt pt pt pt
 · simp -implicitDefEqProofs (disch := first|go_size|fail) only [adi, go_sem, hfv, hbox, e1, Xk, Tg, Xl, X6, TV, Yp, VE, Xh, e2, adM, a_, k3, k4, q4, ea, k6, w1, w2, w3, w4, w5, w6, w7, w8, xG, vH, wu, e15, ck]
   exact rest _ s15 s2.next s12.next s5.next _ _ ca Fs15 rc15' c15a ra5 c15b ⟨rfl, sL rfl rfl rfl rfl rfl⟩ c15m hm9 po po po pt pt pt pt
def s8 (n : Nat) : Int := if n < 128 then n else (n : Int) - 256
def vD (n : Nat) : Int := if n < 32768 then n else (n : Int) - 65536
theorem pF {n : Nat} (h : n < 256) : cT .i64 (bJ n) = some (.i (n : Nat)) := by
 show some (V.i (vE (n : Int))) = _; rw [jI ⟨po, po⟩]
theorem bi8 {n : Nat} (h : n < 256) : cT .i8 (bJ n) = some (.int .i8 (s8 n)) := by
 show some (V.int .i8 (IntKind.wrap .i8 (n : Int))) = _;have : IntKind.wrap .i8 (n : Int) = s8 n := by
  unfold s8;simp [IntKind.wrap, IntKind.bits, IntKind.signed];split <;> split <;> omega
 rw [this]
theorem qe {z : Int} (h0 : -1000000 ≤ z) (h1 : z ≤ 1000000) : cT .i64 (.int .i8 z) = some (.i z) := by
 show some (V.i (vE z)) = _; rw [jI ⟨po, po⟩]
theorem lN {z : Int} (h0 : -1000000 ≤ z) (h1 : z ≤ 1000000) : cT .i64 (.int .i16 z) = some (.i z) := by
 show some (V.i (vE z)) = _; rw [jI ⟨po, po⟩]
theorem wq {n : Nat} (h : n < 256) : cT .u16 (bJ n) = some (.int .u16 (n : Nat)) := by
 show some (V.int .u16 (IntKind.wrap .u16 (n : Int))) = _;have : IntKind.wrap .u16 (n : Int) = (n : Int) := by simp [IntKind.wrap, IntKind.bits, IntKind.signed]; omega
 rw [this]
theorem lK {n : Nat} (h : n < 65536) : cT .i16 (.int .u16 (n : Nat)) = some (.int .i16 (vD n)) := by
 show some (V.int .i16 (IntKind.wrap .i16 (n : Int))) = _;have : IntKind.wrap .i16 (n : Int) = vD n := by
  unfold vD;simp [IntKind.wrap, IntKind.bits, IntKind.signed];split <;> split <;> omega
 rw [this]
theorem vU {a : Nat} (h : a < 256) : yI .shl .u16 (.int .u16 (a : Nat)) (.int .u64 8) = some (.int .u16 ((a * 256 : Nat) : Int)) := by
 show some (V.int .u16 (IntKind.wrap .u16 (Int.mul (a : Int) (Int.ofNat (Nat.pow 2 (min (8 : Int).toNat IntKind.u16.bits)))))) = _;have e : Int.ofNat (Nat.pow 2 (min (8 : Int).toNat IntKind.u16.bits)) = 256 := rfl;have e2 : Int.mul (a : Int) 256 = ((a * 256 : Nat) : Int) := by show (a : Int) * 256 = _; omega
 rw [e, e2];have : IntKind.wrap .u16 ((a * 256 : Nat) : Int) = ((a * 256 : Nat) : Int) := by simp [IntKind.wrap, IntKind.bits, IntKind.signed]; omega
 rw [this]
theorem vY {a : Nat} (h : a < 256) : yI .shl .i64 (.i (a : Nat)) (.int .u64 8) = some (.i ((a * 256 : Nat) : Int)) := by
 show some (V.i (vE (Int.mul (a : Int) (Int.ofNat (Nat.pow 2 (min (8 : Int).toNat IntKind.i64.bits)))))) = _;have e : Int.ofNat (Nat.pow 2 (min (8 : Int).toNat IntKind.i64.bits)) = 256 := rfl;have e2 : Int.mul (a : Int) 256 = ((a * 256 : Nat) : Int) := by show (a : Int) * 256 = _; omega
 rw [e, e2, jI ⟨po, po⟩]
theorem K6 (a b : Nat) (hb : b < 256) : a * 256 ||| b = a * 256 + b := by
 have := Nat.shiftLeft_add_eq_or_of_lt (i := 8) (show b < 2 ^ 8 from hb) a
 rw [Nat.shiftLeft_eq] at this;exact this.symm
theorem Zz {a b : Nat} (ha : a < 256) (hb : b < 256) : bK .u16 (fun a b => zu .u16 (jx .or .u16 a b)) (.int .u16 ((a * 256 : Nat) : Int)) (.int .u16 (b : Nat)) = some (.int .u16 ((a * 256 + b : Nat) : Int)) := by
 show some (V.int .u16 (jx .or .u16 ((a * 256 : Nat) : Int) (b : Int))) = _;have : jx .or .u16 ((a * 256 : Nat) : Int) (b : Int) = ((a * 256 + b : Nat) : Int) := by
  show IntKind.wrap .u16 (((BitVec.ofInt 16 ((a * 256 : Nat) : Int) ||| BitVec.ofInt 16 (b : Int)).toNat : Nat) : Int) = _
  rw [BitVec.toNat_or, BitVec.ofInt_natCast, BitVec.ofInt_natCast, BitVec.toNat_ofNat, BitVec.toNat_ofNat, Nat.mod_eq_of_lt po, Nat.mod_eq_of_lt po, K6 a b hb];simp [IntKind.wrap, IntKind.bits, IntKind.signed]; omega
 rw [this]
theorem Zd {a b : Nat} (ha : a < 256) (hb : b < 256) : bI (fun a b => zu .i64 (jx .or .i64 a b)) (.i ((a * 256 : Nat) : Int)) (.i (b : Nat)) = some (.i ((a * 256 + b : Nat) : Int)) := by
 show some (V.i (jx .or .i64 ((a * 256 : Nat) : Int) (b : Int))) = _;have : jx .or .i64 ((a * 256 : Nat) : Int) (b : Int) = ((a * 256 + b : Nat) : Int) := by
  show IntKind.wrap .i64 (((BitVec.ofInt 64 ((a * 256 : Nat) : Int) ||| BitVec.ofInt 64 (b : Int)).toNat : Nat) : Int) = _
  rw [BitVec.toNat_or, BitVec.ofInt_natCast, BitVec.ofInt_natCast, BitVec.toNat_ofNat, BitVec.toNat_ofNat, Nat.mod_eq_of_lt po, Nat.mod_eq_of_lt po, K6 a b hb];simp [IntKind.wrap, IntKind.bits, IntKind.signed]; omega
 rw [this]
theorem Wi (n : Nat) (h : n < 256) : -128 ≤ s8 n ∧ s8 n ≤ 127 := by unfold s8; split <;> omega
theorem ZU (n : Nat) (h : n < 65536) : -32768 ≤ vD n ∧ vD n ≤ 32767 := by unfold vD; split <;> omega
def de (bs : List Nat) (i : Nat) : Nat := bs.getD i 0
def mz (bs : List Nat) (p : Nat) : Nat := (bx (de bs p : Nat)).toNat
def nh (bs : List Nat) (p : Nat) : Int :=
 if ((de bs p : Nat) : Int) = 132 then de bs (p + 1)
 else if bx (de bs p : Nat) = 2 then (if gL (de bs p : Nat) = true then s8 (de bs (p + 1)) else de bs (p + 1))
 else if bx (de bs p : Nat) = 3 then (if gL (de bs p : Nat) = true then vD (de bs (p + 1) * 256 + de bs (p + 2)) else ((de bs (p + 1) * 256 + de bs (p + 2) : Nat) : Int))
 else 0
def eF (bs : List Nat) (p : Nat) : In := ⟨p, de bs p, if gU (de bs p : Nat) = true then nh bs p + p else nh bs p, if ((de bs p : Nat) : Int) = 132 then s8 (de bs (p + 2)) else 0⟩
inductive oI (bs : List Nat) : List In → Nat → Prop
 | nil : oI bs [] 0
 | snoc (l : List In) (p : Nat) : oI bs l p → p < bs.length → mz bs p ≠ 0 → p + mz bs p ≤ bs.length → oI bs (l ++ [eF bs p]) (p + mz bs p)
theorem oI.le {bs : List Nat} {l : List In} {p : Nat} (h : oI bs l p) : p ≤ bs.length ∧ l.length ≤ p := by
 induction h with
 | nil => simp
 | snoc l p h h1 h2 h3 ih => simp; omega
def Jg (bs : List Nat) : Prop := bs.length > 1024 ∨ ∃ l p, oI bs l p ∧ p < bs.length ∧ (mz bs p = 0 ∨ bs.length < p + mz bs p)
theorem BP (a b : Int) : cN [V.i 0, .i 0, .i 0, .i 0] [(0, 1, .i a), (1, 1, .i b)] = some [.i a, .i b, .i 0, .i 0] := (rfl)
theorem YG (bs : List Nat) (p : Nat) : ((mz bs p : Nat) : Int) = bx (de bs p : Nat) := by
 unfold mz; have := eZ (de bs p : Nat); omega
set_option maxHeartbeats 8000000 in
theorem rP {s : St} (hw : Wf s) {v : V} {bs : List Nat} (h : SL s v (bs.map bJ)) (h256 : ∀ n ∈ bs, n < 256) (hlen : bs.length ≤ 9223372036854775807) (hvb : ∀ b ∈ aB v, b < s.next) {m : Nat} (hm : 2 ≤ m) :
 ∃ (t : St) (lv : V) (er at_ : Int) (l : List In), (K m).call 13 [v] s = some (.bH [lv, .i er, .i at_], t) ∧ RN 4 t lv (l.map In.cells) ∧ ((er = 0 ∧ oI bs l bs.length ∧ bs.length ≤ 1024) ∨ (er ≠ 0 ∧ l = [] ∧ Jg bs)) ∧ Fr s t [] ∧ ∀ b ∈ aB lv, s.next ≤ b ∧ b < t.next := by
 obtain ⟨d, rfl⟩ : ∃ d, m = d + 1 := ⟨m - 1, po⟩;have ln := h.len;rw [List.length_map] at ln;have hb : ∀ p, de bs p < 256 := fun p => by
  unfold de; rw [List.getD_eq_getElem?_getD];cases hp : bs[p]? with
  | none => simp
  | some n => exact h256 n (List.mem_of_getElem? hp)
 have hg : ∀ p, p < bs.length → bs[p]? = some (de bs p) := fun p hp => by unfold de; rw [List.getD_eq_getElem?_getD, List.getElem?_eq_getElem hp]; rfl
 let Q : V → St → Prop := fun x t => ∃ (lv : V) (er at_ : Int) (l : List In), x = .bH [lv, .i er, .i at_] ∧ RN 4 t lv (l.map In.cells) ∧ ((er = 0 ∧ oI bs l bs.length ∧ bs.length ≤ 1024) ∨ (er ≠ 0 ∧ l = [] ∧ Jg bs)) ∧ Fr s t [] ∧ ∀ b ∈ aB lv, s.next ≤ b ∧ b < t.next
 suffices key : dg ((K (d + 1)).call 13 [v] s) Q by
  obtain ⟨x, t, e, lv, er, at_, l, rfl, h1⟩ := key;exact ⟨t, lv, er, at_, l, e, h1⟩
 have nope : ∀ (t : St) (er at_ : Int), Fr s t [] → er ≠ 0 → Jg bs → Q (.bH [.ay, .i er, .i at_]) t := fun t er at_ ft h1 h2 => ⟨.ay, er, at_, [], rfl, ⟨pm, .inl ⟨rfl, .inl rfl⟩⟩, .inr ⟨h1, rfl, h2⟩, ft, by simp [aB]⟩
 by_cases c0 : (1024 : Int) < ((bs.length : Nat) : Int)
 · simp -implicitDefEqProofs (disch := first|go_size|fail) only [adz, go_sem, ln, c0, dR]
   exact nope s 3 0 (Fr.refl hw _) (by decide) (.inl po)
 simp -implicitDefEqProofs (disch := first|go_size|fail) only [adz, go_sem, ln, c0, dR]
 refine bf (Q := fun r => dg (aV _ (di (cL 0 r) _)) _) (fun q e t => ∃ (p : Nat) (l : List In) (ov : V), q = bs.length - p ∧ oI bs l p ∧ Fr s t [] ∧ GN 4 t ov (l.map In.cells) ∧ (∀ b ∈ aB ov, s.next ≤ b) ∧ g0 e = v ∧ g5 e = ov ∧ g6 e = .i (p : Nat)) ?_ (n := bs.length) po ⟨0, [], .ay, po, .nil, Fr.refl hw _, ⟨pm, .inl ⟨rfl, .inl rfl⟩⟩, by simp [aB], pt, pt, pt⟩
 rintro q e t ⟨p, l, ov, rfl, hD, ft, go', hob, i0, i5, i6⟩;replace i0 : e.a0.a0 = _ := i0;replace i5 : e.a0.a5 = _ := i5;replace i6 : e.a0.a6 = _ := i6;obtain ⟨hpl, hll⟩ := hD.le;by_cases c : (p : Int) < ((bs.length : Nat) : Int)
 · have hpb : p < bs.length := po;have hn0 := hb p;have hn1 := hb (p + 1);have hn2 := hb (p + 2);have hvt := h.fr hw ft pm;obtain ⟨qq, a1, a2⟩ := hvt.at ft.wf (j := p) (x := bJ (de bs p)) (by rw [List.getElem?_map, hg p hpb]; rfl)
   obtain ⟨w1', k1, ck1, fk1, nk1⟩ := bu (s := t) (l := [V.i 0, .i 0, .i 0, .i 0]) (n := 4) ft.wf rfl;obtain ⟨w2', k2, ck2, fk2, nk2⟩ := cG (s := w1') (b := t.next) (o := 0) (vs := [V.i (p : Nat), .i (de bs p : Nat), .i 0, .i 0]) (m := 4) fk1.wf ck1 rfl pm (by intro v hv; simp at hv; rcases hv with rfl | rfl | rfl | rfl <;> rfl)
   replace ck2 : w2'.cl t.next = some [V.i (p : Nat), .i (de bs p : Nat), .i 0, .i 0] := by rw [ck2]; simp [dA]
   have Fk : Fr t w2' [] := fk1.trans' fk2 (fun b hb => .inr (by simp at hb; omega))
   have Fs2 : Fr s w2' [] := ft.trans Fk;have hv2 := h.fr hw Fs2 pm;have r1 : cP (.ptr t.next 1) w2' = some (.i (de bs p : Nat)) := aK fk2.wf ck2 rfl;have z46 := vn (n := (de bs p : Nat)) po po w2' (m := d) po;have z47 := adS (n := (de bs p : Nat)) po po w2' (m := d) po;have hsz := YG bs p;have fin : ∀ u : St, Fr t u [] → u.cl t.next = some (eF bs p).cells → ∃ (y1 y2 : St) (v4 : V), gH 4 (.ptr t.next 0) u = some (.agg (eF bs p).cells) ∧ eS 1 4 [V.i 0, .i 0, .i 0, .i 0] [(0, 4, .agg (eF bs p).cells)] u.next = some (.slice u.next 0 1 (some 1) 4, .cells 4 (cK (eF bs p).cells)) ∧ u.new (.cells 4 (cK (eF bs p).cells)) = y1 ∧ vF 4 ov (.slice u.next 0 1 (some 1) 4) y1 = some (v4, y2) ∧ Fr s y2 [] ∧ GN 4 y2 v4 ((l ++ [eF bs p]).map In.cells) ∧ ∀ b ∈ aB v4, s.next ≤ b := by
    intro u fu cu;have gu := go'.fr ft.wf fu pm;obtain ⟨y1, v4, y2, b1, b2, b3, b4, b5⟩ := gu.push fu.wf (eF bs p).row (by rw [List.length_map]; omega)
    refine ⟨y1, y2, v4, by rw [dB (o := 0) (m := 4) fu.wf cu (by simp [In.cells])]; rfl, dQ rfl rfl (bN (In.row _).2), b1, b2, (ft.trans fu).trans' b4 (fun b hb => .inr (hob b hb)), ?_, fun b hb => by have := b5 b hb; have := ft.nx; have := fu.nx; omega⟩
    rw [List.map_append]; exact b3
   have byte : ∀ (u : St) (i : Nat), Fr s u [] → p + i < bs.length → ∃ q, aP 1 v (.i ((p : Nat) + (i : Nat) : Int)) = some q ∧ cP q u = some (bJ (de bs (p + i))) := fun u i fu hi => by
    obtain ⟨q, b1, b2⟩ := (h.fr hw fu pm).at fu.wf (j := p + i) (x := bJ (de bs (p + i))) (by rw [List.getElem?_map, hg _ hi]; rfl)
    exact ⟨q, b1, b2⟩
   have stp : ∀ (u : St) (i : Nat) (z : Int) (cs : List V), Fr t u [] → u.cl t.next = some cs → i < cs.length → ∃ u', wH 1 (.ptr t.next i) (.i z) u = some (.bH [], u') ∧ u'.cl t.next = some (cs.set i (.i z)) ∧ Fr t u' [] := fun u i z cs fu cu hi => by
    obtain ⟨u', b1, b2, b3, b4⟩ := cC (s := u) (b := t.next) (o := i) (v := .i z) fu.wf cu hi rfl;exact ⟨u', b1, b2, fu.trans' b3 (fun b hb => .inr (by simp at hb; omega))⟩
   rcases fB (de bs p : Nat) with hs | hs | hs | hs
   · rw [hs] at z46;simp -implicitDefEqProofs (disch := first|go_size|fail) only [go_sem, i0, i5, i6, ln, c, a1, a2, pF, hn0, BP, a_, k1, k2, r1, z46, dR]
     exact nope _ 15 _ Fs2 (by decide) (.inr ⟨l, p, hD, hpb, .inl po⟩)
   · rw [hs] at z46;by_cases cl : ((bs.length : Nat) : Int) < (p : Int) + 1
     · simp -implicitDefEqProofs (disch := first|go_size|fail) only [go_sem, i0, i5, i6, ln, c, a1, a2, pF, hn0, BP, a_, k1, k2, r1, z46, cl, dR]
       exact nope _ 10 _ Fs2 (by decide) (.inr ⟨l, p, hD, hpb, .inr po⟩)
     · have hn132 : True := trivial;have c132 : ¬ ((de bs p : Nat) : Int) = 132 := fun h => by rw [h] at hs; exact absurd hs (by decide)
       have hbr : gU (de bs p : Nat) = false := by cases hq : gU (de bs p : Nat) with | false => rfl | true => have := jb hq; omega
       have ry1 : cP (.ptr t.next 1) w2' = some (.i (de bs p : Nat)) := aK Fk.wf ck2 rfl;have z18 := oo (n := (de bs p : Nat)) po po w2' (m := d) po;rw [hbr] at z18;have hdec : (eF bs p).cells = [V.i ((p : Nat)), .i ((de bs p : Nat)), .i (0), .i (0)] := by
        unfold eF nh In.cells; simp only [c132, hs, hbr, if_false, reduceCtorEq, Int.reduceEq, if_true]; try rfl
       obtain ⟨y1, y2, v4, t1', t2', t3', t4', fs, gf, hb4⟩ := fin w2' Fk (by rw [hdec]; exact ck2)
       rw [hdec] at t1' t2' t3';simp -implicitDefEqProofs (disch := first|go_size|fail) only [go_sem, i0, i5, i6, ln, c, a1, a2, pF, bi8, wq, lK, vU, vY, Zz, Zd, qe, lN, hn0, hn1, hn2, BP, a_, k1, k2, r1, z46, z47, cl,  ry1, z18, c132,   t1', t2', t3', t4', Nat.zero_add]
       exact ⟨bs.length - (p + mz bs p), po, p + mz bs p, l ++ [eF bs p], v4, rfl, .snoc l p hD hpb po po, fs, gf, hb4, pt, pt, by show V.i _ = V.i _; congr 1; omega⟩
   · rw [hs] at z46;by_cases cl : ((bs.length : Nat) : Int) < (p : Int) + 2
     · simp -implicitDefEqProofs (disch := first|go_size|fail) only [go_sem, i0, i5, i6, ln, c, a1, a2, pF, hn0, BP, a_, k1, k2, r1, z46, cl, dR]
       exact nope _ 10 _ Fs2 (by decide) (.inr ⟨l, p, hD, hpb, .inr po⟩)
     · have hn132 : True := trivial;have c132 : ¬ ((de bs p : Nat) : Int) = 132 := fun h => by rw [h] at hs; exact absurd hs (by decide)
       have hbr : gU (de bs p : Nat) = false := by cases hq : gU (de bs p : Nat) with | false => rfl | true => have := jb hq; omega
       cases hsg : gL (de bs p : Nat) with
       | true =>
         rw [hsg] at z47;have w8 := Wi _ hn1;obtain ⟨qb1, b1a, b1b⟩ := byte w2' 1 Fs2 po;replace b1a : aP 1 v (.i ((p : Nat) + 1)) = some qb1 := b1a;obtain ⟨x1, s1', cx1, fx1⟩ := stp w2' 2 (s8 (de bs (p + 1))) _ Fk ck2 pm;simp only [List.set_cons_zero, List.set_cons_succ] at cx1;have ry1 : cP (.ptr t.next 1) x1 = some (.i (de bs p : Nat)) := aK fx1.wf cx1 rfl;have z18 := oo (n := (de bs p : Nat)) po po x1 (m := d) po;rw [hbr] at z18;have hdec : (eF bs p).cells = [V.i ((p : Nat)), .i ((de bs p : Nat)), .i (s8 (de bs (p + 1))), .i (0)] := by
          unfold eF nh In.cells; simp only [c132, hs, hbr, hsg, if_false, reduceCtorEq, Int.reduceEq, if_true]; try rfl
         obtain ⟨y1, y2, v4, t1', t2', t3', t4', fs, gf, hb4⟩ := fin x1 fx1 (by rw [hdec]; exact cx1)
         rw [hdec] at t1' t2' t3';simp -implicitDefEqProofs (disch := first|go_size|fail) only [go_sem, i0, i5, i6, ln, c, a1, a2, pF, bi8, wq, lK, vU, vY, Zz, Zd, qe, lN, hn0, hn1, hn2, BP, a_, k1, k2, r1, z46, z47, cl, b1a, b1b,  ry1, z18, c132,  s1',  t1', t2', t3', t4', Nat.zero_add]
         exact ⟨bs.length - (p + mz bs p), po, p + mz bs p, l ++ [eF bs p], v4, rfl, .snoc l p hD hpb po po, fs, gf, hb4, pt, pt, by show V.i _ = V.i _; congr 1; omega⟩
       | false =>
         rw [hsg] at z47;obtain ⟨qb1, b1a, b1b⟩ := byte w2' 1 Fs2 po;replace b1a : aP 1 v (.i ((p : Nat) + 1)) = some qb1 := b1a;obtain ⟨x1, s1', cx1, fx1⟩ := stp w2' 2 ((de bs (p + 1) : Nat)) _ Fk ck2 pm;simp only [List.set_cons_zero, List.set_cons_succ] at cx1;have ry1 : cP (.ptr t.next 1) x1 = some (.i (de bs p : Nat)) := aK fx1.wf cx1 rfl;have z18 := oo (n := (de bs p : Nat)) po po x1 (m := d) po;rw [hbr] at z18;have hdec : (eF bs p).cells = [V.i ((p : Nat)), .i ((de bs p : Nat)), .i ((de bs (p + 1) : Nat)), .i (0)] := by
          unfold eF nh In.cells; simp only [c132, hs, hbr, hsg, if_false, reduceCtorEq, Int.reduceEq, if_true, Bool.false_eq_true]; try rfl
         obtain ⟨y1, y2, v4, t1', t2', t3', t4', fs, gf, hb4⟩ := fin x1 fx1 (by rw [hdec]; exact cx1)
         rw [hdec] at t1' t2' t3';simp -implicitDefEqProofs (disch := first|go_size|fail) only [go_sem, i0, i5, i6, ln, c, a1, a2, pF, bi8, wq, lK, vU, vY, Zz, Zd, qe, lN, hn0, hn1, hn2, BP, a_, k1, k2, r1, z46, z47, cl, b1a, b1b,  ry1, z18, c132,  s1',  t1', t2', t3', t4', Nat.zero_add]
         exact ⟨bs.length - (p + mz bs p), po, p + mz bs p, l ++ [eF bs p], v4, rfl, .snoc l p hD hpb po po, fs, gf, hb4, pt, pt, by show V.i _ = V.i _; congr 1; omega⟩
   · rw [hs] at z46;by_cases cl : ((bs.length : Nat) : Int) < (p : Int) + 3
     · simp -implicitDefEqProofs (disch := first|go_size|fail) only [go_sem, i0, i5, i6, ln, c, a1, a2, pF, hn0, BP, a_, k1, k2, r1, z46, cl, dR]
       exact nope _ 10 _ Fs2 (by decide) (.inr ⟨l, p, hD, hpb, .inr po⟩)
     · have hn132 : True := trivial;by_cases c132 : ((de bs p : Nat) : Int) = 132
       · have w8 := Wi _ hn2;have hbr : gU (de bs p : Nat) = false := by rw [c132]; rfl
         obtain ⟨qb1, b1a, b1b⟩ := byte w2' 1 Fs2 po;replace b1a : aP 1 v (.i ((p : Nat) + 1)) = some qb1 := b1a;obtain ⟨qb2, b2a, b2b⟩ := byte w2' 2 Fs2 po;replace b2a : aP 1 v (.i ((p : Nat) + 2)) = some qb2 := b2a;obtain ⟨x1, s1', cx1, fx1⟩ := stp w2' 2 ((de bs (p + 1) : Nat)) _ Fk ck2 pm;simp only [List.set_cons_zero, List.set_cons_succ] at cx1;obtain ⟨qc1, d1a, d1b⟩ := byte x1 1 (ft.trans fx1) po;replace d1a : aP 1 v (.i ((p : Nat) + 1)) = some qc1 := d1a;obtain rfl : qb1 = qc1 := by rw [d1a] at b1a; exact (Option.some.inj b1a).symm
         obtain ⟨qc2, d2a, d2b⟩ := byte x1 2 (ft.trans fx1) po;replace d2a : aP 1 v (.i ((p : Nat) + 2)) = some qc2 := d2a;obtain rfl : qb2 = qc2 := by rw [d2a] at b2a; exact (Option.some.inj b2a).symm
         obtain ⟨x2, s2', cx2, fx2⟩ := stp x1 3 (s8 (de bs (p + 2))) _ fx1 cx1 pm;simp only [List.set_cons_zero, List.set_cons_succ] at cx2;have ry1 : cP (.ptr t.next 1) x2 = some (.i (de bs p : Nat)) := aK fx2.wf cx2 rfl;have z18 := oo (n := (de bs p : Nat)) po po x2 (m := d) po;rw [hbr] at z18;have hdec : (eF bs p).cells = [V.i ((p : Nat)), .i ((de bs p : Nat)), .i ((de bs (p + 1) : Nat)), .i (s8 (de bs (p + 2)))] := by
          unfold eF nh In.cells; simp only [c132, hbr, if_false, reduceCtorEq, Int.reduceEq, if_true, Bool.false_eq_true]; try rfl
         obtain ⟨y1, y2, v4, t1', t2', t3', t4', fs, gf, hb4⟩ := fin x2 fx2 (by rw [hdec]; exact cx2)
         rw [hdec] at t1' t2' t3';simp only [c132] at k2 r1 ry1 z46 z47 z18 t1' t2' t3';simp -implicitDefEqProofs (disch := first|go_size|fail) only [go_sem, i0, i5, i6, ln, c, a1, a2, pF, bi8, wq, lK, vU, vY, Zz, Zd, qe, lN, hn0, hn1, hn2, BP, a_, k1, k2, r1, z46, z47, cl, b1a, b1b, b2a, b2b,  ry1, z18, c132,  s1', d1b, d2b, s2',  t1', t2', t3', t4', Nat.zero_add]
         exact ⟨bs.length - (p + mz bs p), po, p + mz bs p, l ++ [eF bs p], v4, rfl, .snoc l p hD hpb po po, fs, gf, hb4, pt, pt, by show V.i _ = V.i _; congr 1; omega⟩
       · cases hsg : gL (de bs p : Nat) with
         | true =>
           rw [hsg] at z47;have h16 : de bs (p + 1) * 256 + de bs (p + 2) < 65536 := po;have w16 := ZU _ h16;cases hbr : gU (de bs p : Nat) with
           | true =>
             obtain ⟨qb1, b1a, b1b⟩ := byte w2' 1 Fs2 po;replace b1a : aP 1 v (.i ((p : Nat) + 1)) = some qb1 := b1a;obtain ⟨qb2, b2a, b2b⟩ := byte w2' 2 Fs2 po;replace b2a : aP 1 v (.i ((p : Nat) + 2)) = some qb2 := b2a;obtain ⟨x1, s1', cx1, fx1⟩ := stp w2' 2 (vD (de bs (p + 1) * 256 + de bs (p + 2))) _ Fk ck2 pm;simp only [List.set_cons_zero, List.set_cons_succ] at cx1;obtain ⟨x2, s2', cx2, fx2⟩ := stp x1 2 (vD (de bs (p + 1) * 256 + de bs (p + 2)) + p) _ fx1 cx1 pm;simp only [List.set_cons_zero, List.set_cons_succ] at cx2;have ry1 : cP (.ptr t.next 1) x1 = some (.i (de bs p : Nat)) := aK fx1.wf cx1 rfl;have z18 := oo (n := (de bs p : Nat)) po po x1 (m := d) po;rw [hbr] at z18;have ry2 : cP (.ptr t.next 2) x1 = some (.i (vD (de bs (p + 1) * 256 + de bs (p + 2)))) := aK fx1.wf cx1 rfl;have hdec : (eF bs p).cells = [V.i ((p : Nat)), .i ((de bs p : Nat)), .i (vD (de bs (p + 1) * 256 + de bs (p + 2)) + p), .i (0)] := by
              unfold eF nh In.cells; simp only [c132, hs, hbr, hsg, h16, if_false, reduceCtorEq, Int.reduceEq, if_true]; try rfl
             obtain ⟨y1, y2, v4, t1', t2', t3', t4', fs, gf, hb4⟩ := fin x2 fx2 (by rw [hdec]; exact cx2)
             rw [hdec] at t1' t2' t3';simp -implicitDefEqProofs (disch := first|go_size|fail) only [go_sem, i0, i5, i6, ln, c, a1, a2, pF, bi8, wq, lK, vU, vY, Zz, Zd, qe, lN, hn0, hn1, hn2, BP, a_, k1, k2, r1, z46, z47, cl, b1a, b1b, b2a, b2b,  ry1, z18, c132, h16,  s1', s2', ry2,  t1', t2', t3', t4', Nat.zero_add]
             exact ⟨bs.length - (p + mz bs p), po, p + mz bs p, l ++ [eF bs p], v4, rfl, .snoc l p hD hpb po po, fs, gf, hb4, pt, pt, by show V.i _ = V.i _; congr 1; omega⟩
           | false =>
             obtain ⟨qb1, b1a, b1b⟩ := byte w2' 1 Fs2 po;replace b1a : aP 1 v (.i ((p : Nat) + 1)) = some qb1 := b1a;obtain ⟨qb2, b2a, b2b⟩ := byte w2' 2 Fs2 po;replace b2a : aP 1 v (.i ((p : Nat) + 2)) = some qb2 := b2a;obtain ⟨x1, s1', cx1, fx1⟩ := stp w2' 2 (vD (de bs (p + 1) * 256 + de bs (p + 2))) _ Fk ck2 pm;simp only [List.set_cons_zero, List.set_cons_succ] at cx1;have ry1 : cP (.ptr t.next 1) x1 = some (.i (de bs p : Nat)) := aK fx1.wf cx1 rfl;have z18 := oo (n := (de bs p : Nat)) po po x1 (m := d) po;rw [hbr] at z18;have hdec : (eF bs p).cells = [V.i ((p : Nat)), .i ((de bs p : Nat)), .i (vD (de bs (p + 1) * 256 + de bs (p + 2))), .i (0)] := by
              unfold eF nh In.cells; simp only [c132, hs, hbr, hsg, h16, if_false, reduceCtorEq, Int.reduceEq, if_true, Bool.false_eq_true]; try rfl
             obtain ⟨y1, y2, v4, t1', t2', t3', t4', fs, gf, hb4⟩ := fin x1 fx1 (by rw [hdec]; exact cx1)
             rw [hdec] at t1' t2' t3';simp -implicitDefEqProofs (disch := first|go_size|fail) only [go_sem, i0, i5, i6, ln, c, a1, a2, pF, bi8, wq, lK, vU, vY, Zz, Zd, qe, lN, hn0, hn1, hn2, BP, a_, k1, k2, r1, z46, z47, cl, b1a, b1b, b2a, b2b,  ry1, z18, c132, h16,  s1',  t1', t2', t3', t4', Nat.zero_add]
             exact ⟨bs.length - (p + mz bs p), po, p + mz bs p, l ++ [eF bs p], v4, rfl, .snoc l p hD hpb po po, fs, gf, hb4, pt, pt, by show V.i _ = V.i _; congr 1; omega⟩
         | false =>
           rw [hsg] at z47;have hbr : gU (de bs p : Nat) = false := by cases hq : gU (de bs p : Nat) with | false => rfl | true => have := wA hq; rw [hsg] at this; cases this
           obtain ⟨qb1, b1a, b1b⟩ := byte w2' 1 Fs2 po;replace b1a : aP 1 v (.i ((p : Nat) + 1)) = some qb1 := b1a;obtain ⟨qb2, b2a, b2b⟩ := byte w2' 2 Fs2 po;replace b2a : aP 1 v (.i ((p : Nat) + 2)) = some qb2 := b2a;obtain ⟨x1, s1', cx1, fx1⟩ := stp w2' 2 (((de bs (p + 1) * 256 + de bs (p + 2) : Nat) : Int)) _ Fk ck2 pm;simp only [List.set_cons_zero, List.set_cons_succ] at cx1;have ry1 : cP (.ptr t.next 1) x1 = some (.i (de bs p : Nat)) := aK fx1.wf cx1 rfl;have z18 := oo (n := (de bs p : Nat)) po po x1 (m := d) po;rw [hbr] at z18;have hdec : (eF bs p).cells = [V.i ((p : Nat)), .i ((de bs p : Nat)), .i (((de bs (p + 1) * 256 + de bs (p + 2) : Nat) : Int)), .i (0)] := by
            unfold eF nh In.cells; simp only [c132, hs, hbr, hsg, if_false, reduceCtorEq, Int.reduceEq, if_true, Bool.false_eq_true]; try rfl
           obtain ⟨y1, y2, v4, t1', t2', t3', t4', fs, gf, hb4⟩ := fin x1 fx1 (by rw [hdec]; exact cx1)
           rw [hdec] at t1' t2' t3';simp -implicitDefEqProofs (disch := first|go_size|fail) only [go_sem, i0, i5, i6, ln, c, a1, a2, pF, bi8, wq, lK, vU, vY, Zz, Zd, qe, lN, hn0, hn1, hn2, BP, a_, k1, k2, r1, z46, z47, cl, b1a, b1b, b2a, b2b,  ry1, z18, c132,  s1',  t1', t2', t3', t4', Nat.zero_add]
           exact ⟨bs.length - (p + mz bs p), po, p + mz bs p, l ++ [eF bs p], v4, rfl, .snoc l p hD hpb po po, fs, gf, hb4, pt, pt, by show V.i _ = V.i _; congr 1; omega⟩
 · have hpe : p = bs.length := po;subst hpe;simp -implicitDefEqProofs (disch := first|go_size|fail) only [go_sem, i0, i5, i6, ln, c, dR]
   exact ⟨ov, 0, 0, l, rfl, go'.rn ft.wf, .inl ⟨rfl, hD, po⟩, ft, fun b hb => ⟨hob b hb, go'.lt ft.wf b hb⟩⟩
theorem QH (x : In) : ∀ n ∈ encI x, n < 256 := fun n hn => by
 have := oN x.op; have := oN x.a; have := oN x.b; have := oN x.arg; have := oN (x.arg / 256);unfold encI at hn;split at hn
 · simp at hn; rcases hn with rfl | rfl | rfl <;> assumption
 · split at hn
   · simp at hn; subst hn; assumption
   · split at hn
     · simp at hn; rcases hn with rfl | rfl <;> assumption
     · simp at hn; rcases hn with rfl | rfl | rfl <;> assumption
theorem xF (l : List In) : ∀ n ∈ cR l, n < 256 := fun n hn => by
 unfold cR at hn;obtain ⟨x, hx, hn⟩ := List.mem_flatten.1 hn;obtain ⟨y, _, rfl⟩ := List.mem_map.1 hx;exact QH y n hn
def jP (n : Nat) (ls : List L) : List In := (bY (cD n ls).1 ls).1
structure kr (bs : List Nat) (l : List In) (hr : List (List V)) : Prop where
 ex : (hr = [] ∧ l ≠ [] ∧ oI bs l bs.length ∧ bs.length < 300) ∨ ∃ ls n hs, Made ls n hs ∧ hr = hs.map (kZ (cD n ls).1) ∧ (oI (cR (jP n ls)) l (cR (jP n ls)).length ∨ (l = [] ∧ Jg (cR (jP n ls))))
theorem SL.any {s : St} {v : V} {l : List V} (h : SL s v l) : True := trivial
set_option maxHeartbeats 8000000 in
theorem PJ {s : St} (hw : Wf s) {v w : V} {bs : List Nat} {l : List Int} (h : SL s v (bs.map bJ)) (h256 : ∀ n ∈ bs, n < 256) (hlen : bs.length ≤ 9223372036854775807) (hvb : ∀ b ∈ aB v, b < s.next)
 (hv : SL s w (l.map V.i)) (hv1 : w.one = true) (hI : ∀ x ∈ l, XQ x) (hl : l.length ≤ 17592186044416) (hwb : ∀ b ∈ aB w, b < s.next) {m : Nat} (hm : 32 ≤ m) :
 ∃ (t : St) (lv hv fv : V) (I : List In) (hr fr : List (List V)), (K m).call 4 [v, w] s = some (.bH [lv, hv, fv], t) ∧ RN 4 t lv (I.map In.cells) ∧ RN 4 t hv hr ∧ RN 3 t fv fr ∧ (∀ r ∈ fr, m7 r) ∧ fr.length ≤ 1000 ∧ kr bs I hr ∧ Fr s t [] ∧ ∀ b, b ∈ aB lv ∨ b ∈ aB hv ∨ b ∈ aB fv → b < t.next := by
 obtain ⟨d, rfl⟩ : ∃ d, m = d + 1 := ⟨m - 1, po⟩;have ln := h.len;rw [List.length_map] at ln;obtain ⟨t1, lv, er, at_, I, e1, r1, k1, f1, b1⟩ := rP hw h h256 hlen hvb (m := d) po;have rl := r1.len;rw [List.length_map] at rl;have nn : ∀ {es : Nat} {t : St}, RN es t .ay [] := fun {es t} => ⟨pm, .inl ⟨rfl, .inl rfl⟩⟩
 have hf1 := f1.nx;let Q : V → St → Prop := fun x t => ∃ (lv hv fv : V) (I : List In) (hr fr : List (List V)), x = .bH [lv, hv, fv] ∧ RN 4 t lv (I.map In.cells) ∧ RN 4 t hv hr ∧ RN 3 t fv fr ∧ (∀ r ∈ fr, m7 r) ∧ fr.length ≤ 1000 ∧ kr bs I hr ∧ Fr s t [] ∧ ∀ b, b ∈ aB lv ∨ b ∈ aB hv ∨ b ∈ aB fv → b < t.next
 suffices key : dg ((K (d + 1)).call 4 [v, w] s) Q by
  obtain ⟨x, t, e, lv, hv, fv, l, hr, fr, rfl, h1⟩ := key;exact ⟨t, lv, hv, fv, l, hr, fr, e, h1⟩
 obtain ⟨t2, cv, e2, ⟨rows, cls, mv, ms, c, nm, ds, st, k, ls, n, hs, p1, p2, p3, p4, p5, p6, M, mo⟩, f2⟩ := vS f1.wf (hv.fr hw f1 pm) hv1 hI hl (fun b hb => by have := hwb b hb; omega) (m := d) po
 have hf2 := f2.nx;have cl : aM cv = some (.i 4) := by rw [p1.len, p2]; rfl
 obtain ⟨ba, oa, a1, a2, a3, a4⟩ := p1.at f2.wf p3;replace a1 : aP 5 cv (.i 3) = some (.ptr ba oa) := a1;have a5 := a3 4 mv p4;obtain ⟨bm, om, c1, c2, c3, c4⟩ := p5.at f2.wf p6;replace c1 : aP 9 mv (.i 0) = some (.ptr bm om) := c1;have rc := mo.row;obtain ⟨t3, k3, ck3, f3, nx3⟩ := bu (s := t2) (l := [.str [], .str [], .bool false, .bool false, .i 0, .i 0, .ay, .ay, .ay]) (n := 9) f2.wf rfl;obtain ⟨t4, k4, ck4, f4, nx4⟩ := cG (s := t3) (b := t2.next) (o := 0) (vs := c) (m := 9) f3.wf ck3 rc.1 pm rc.2;obtain ⟨zv, hv', fv, fr, hc, z1, z2, z3, z4, z5, z6, z7, z8, z9⟩ := mo.ex;replace ck4 : t4.cl t2.next = some c := by rw [ck4]; have := rc.1; simp [dA, this]
 rw [hc] at ck4 c4 k4;have Jz : Fr t2 t4 [] := f3.trans' f4 (fun b hb => .inr (by simp at hb; omega))
 have hf34 := Jz.nx;have q6 : cP (.ptr t2.next 6) t4 = some zv := aK f4.wf ck4 rfl;obtain ⟨Mi, hbl⟩ := M.ins;have z1' := z1.fr f2.wf Jz pm;obtain ⟨t5, lv5, er5, at5, I5, e5, r5, k5, f5, b5⟩ := rP f4.wf z1' (xF _) po (fun b hb => by have := z9 b (.inl hb); omega) (m := d) po
 have hf5 := f5.nx;have ck5 := f5.cl f4.wf ck4 pm;have q7 : cP (.ptr t2.next 7) t5 = some hv' := aK f5.wf ck5 rfl;have q8 : cP (.ptr t2.next 8) t5 = some fv := aK f5.wf ck5 rfl;have OU : Fr t2 t5 [] := Jz.trans f5;have fin : Q (.bH [lv5, hv', fv]) t5 := by
  refine ⟨lv5, hv', fv, I5, _, fr, rfl, r5, z3.fr f2.wf OU pm, z5.fr f2.wf OU pm, z7, z8, ⟨.inr ⟨ls, n, hs, M, rfl, ?_⟩⟩, (f1.trans f2).trans OU, ?_⟩
  · rcases k5 with ⟨_, y1, _⟩ | ⟨_, y1, y2⟩
    · exact .inl y1
    · exact .inr ⟨y1, y2⟩
  · intro b hb;rcases hb with hb | hb | hb
    · exact (b5 b hb).2
    · have := z9 b (.inr (.inl hb)); omega
    · have := z9 b (.inr (.inr hb)); omega
 by_cases ce : er = 0
 · subst ce;rcases k1 with ⟨_, y1, _⟩ | ⟨y0, _⟩
   · by_cases cI : (0 : Int) < ((I.length : Nat) : Int)
     · by_cases c3 : ((bs.length : Nat) : Int) < 300
       · simp -implicitDefEqProofs (disch := first|go_size|fail) only [op4, go_sem, e1, ln, rl, cI, c3]
         exact ⟨lv, .ay, .ay, I, [], [], rfl, r1, nn, nn, pm, pm, ⟨.inl ⟨rfl, by intro h; subst h; simp at cI, y1, po⟩⟩, f1, fun b hb => by simp [aB] at hb; exact (b1 b hb).2⟩
       · simp -implicitDefEqProofs (disch := first|go_size|fail) only [op4, go_sem, e1, ln, rl, cI, c3, e2, cl, a1, a5, c1, c4, a_, k3, k4, q6, e5, q7, q8]
         exact fin
     · simp -implicitDefEqProofs (disch := first|go_size|fail) only [op4, go_sem, e1, ln, rl, cI, e2, cl, a1, a5, c1, c4, a_, k3, k4, q6, e5, q7, q8]
       exact fin
   · exact absurd rfl y0
 · simp -implicitDefEqProofs (disch := first|go_size|fail) only [op4, go_sem, e1, ln, rl, ce, e2, cl, a1, a5, c1, c4, a_, k3, k4, q6, e5, q7, q8]
   exact fin
structure Ll (l : List In) : Prop where
 len : l.length ≤ 1024
 op : ∀ (i : Nat) (x : In), l[i]? = some x → 0 ≤ x.op ∧ x.op < 256 ∧ 0 ≤ x.at_ ∧ x.at_ ≤ 1024
 lt : ∀ (i j : Nat) (x y : In), i < j → l[i]? = some x → l[j]? = some y → x.at_ < y.at_
theorem aar {bs : List Nat} (h : ∀ n ∈ bs, n < 256) (p : Nat) : de bs p < 256 := by
 unfold de; rw [List.getD_eq_getElem?_getD];cases hp : bs[p]? with
 | none => simp
 | some n => exact h n (List.mem_of_getElem? hp)
theorem oI.ll {bs : List Nat} {l : List In} {p : Nat} (h : oI bs l p) (h256 : ∀ n ∈ bs, n < 256) (hl : bs.length ≤ 1024) : (∀ (i : Nat) (x : In), l[i]? = some x → 0 ≤ x.op ∧ x.op < 256 ∧ 0 ≤ x.at_ ∧ x.at_ < (p : Int)) ∧ ∀ (i j : Nat) (x y : In), i < j → l[i]? = some x → l[j]? = some y → x.at_ < y.at_ := by
 induction h with
 | nil => simp
 | snoc l p h h1 h2 h3 ih =>
   obtain ⟨ih1, ih2⟩ := ih;have hb := aar h256 p;constructor
   · intro i x hx;rw [List.getElem?_append] at hx;split at hx
     · have := ih1 i x hx; omega
     · rename_i hi;have : i - l.length = 0 := by have := (List.getElem?_eq_some_iff.1 hx).1; simp at this; omega
       rw [this] at hx;simp at hx; subst hx;simp only [eF]; omega
   · intro i j x y hij hx hy;have hj := (List.getElem?_eq_some_iff.1 hy).1;rw [List.length_append, List.length_singleton] at hj;rw [List.getElem?_append_left po] at hx;by_cases c : j < l.length
     · rw [List.getElem?_append_left c] at hy; exact ih2 i j x y hij hx hy
     · have : j = l.length := po;subst this;rw [List.getElem?_append_right po, Nat.sub_self] at hy;simp at hy; subst hy;have := ih1 i x hx;simp only [eF]; omega
theorem Ll.nil : Ll [] := ⟨pm, pm, pm⟩
theorem oI.Ll {bs : List Nat} {l : List In} (h : oI bs l bs.length) (h256 : ∀ n ∈ bs, n < 256) (hl : bs.length ≤ 1024) : Ll l := by
 obtain ⟨h1, h2⟩ := h.ll h256 hl;exact ⟨by have := h.le; omega, fun i x hx => by have := h1 i x hx; omega, h2⟩
theorem kr.ll {bs : List Nat} {l : List In} {hr : List (List V)} (h : kr bs l hr) (h256 : ∀ n ∈ bs, n < 256) : Ll l := by
 obtain ⟨_, _, h1, h2⟩ | ⟨ls, n, hs, M, _, h | ⟨h, _⟩⟩ := h.ex
 · exact h1.Ll h256 po
 · exact h.Ll (xF _) M.ins.2
 · rw [h]; exact Ll.nil
def nR (l : List In) (a : Int) : Option Nat := l.findIdx? fun x => decide (x.at_ = a)
def bh (l : List In) (a : Int) : Int := match nR l a with | some i => (i : Int) | none => -1
theorem lH {l : List In} {a : Int} (h : ∀ (i : Nat) (x : In), l[i]? = some x → x.at_ ≠ a) : bh l a = -1 := by
 have : nR l a = none := by
  unfold nR; rw [List.findIdx?_eq_none_iff];intro x hx;obtain ⟨i, hi⟩ := List.getElem?_of_mem hx
  simpa using h i x hi
 unfold bh; rw [this]
theorem pz {l : List In} {a : Int} {i : Nat} {x : In} (hx : l[i]? = some x) (ha : x.at_ = a) (h : ∀ (j : Nat) (y : In), j < i → l[j]? = some y → y.at_ ≠ a) : bh l a = i := by
 obtain ⟨q1, q2⟩ := List.getElem?_eq_some_iff.1 hx;have : nR l a = some i := by
  unfold nR; rw [List.findIdx?_eq_some_iff_getElem];refine ⟨q1, by rw [q2]; simpa using ha, fun j hj => ?_⟩
  have := h j l[j] hj (List.getElem?_eq_getElem po)
  simpa using this
 unfold bh; rw [this]
theorem nZ (l : List In) (a : Int) : (bh l a = -1 ∧ ∀ (i : Nat) (x : In), l[i]? = some x → x.at_ ≠ a) ∨ ∃ (i : Nat) (x : In), bh l a = i ∧ l[i]? = some x ∧ x.at_ = a := by
 unfold bh;cases h : nR l a with
 | none =>
   refine .inl ⟨rfl, fun i x hx => ?_⟩
   unfold nR at h; rw [List.findIdx?_eq_none_iff] at h;have := h x (List.mem_of_getElem? hx)
   simpa using this
 | some i =>
   unfold nR at h; rw [List.findIdx?_eq_some_iff_getElem] at h;obtain ⟨h1, h2, _⟩ := h;exact .inr ⟨i, l[i], rfl, List.getElem?_eq_getElem h1, by simpa using h2⟩
theorem qM {l : List In} (a : Int) : -1 ≤ bh l a ∧ bh l a < (l.length : Nat) := by
 rcases nZ l a with ⟨h, _⟩ | ⟨i, x, h, h2, _⟩
 · rw [h]; omega
 · have := (List.getElem?_eq_some_iff.1 h2).1; omega
theorem iu {s : St} (hw : Wf s) {v : V} {l : List In} (h : RN 4 s v (l.map In.cells)) (a : Int) {m : Nat} (hm : 1 ≤ m) (hl : l.length ≤ 1024) : (K m).call 16 [v, .i a] s = some (.i (bh l a), s) := by
 obtain ⟨d, rfl⟩ : ∃ d, m = d + 1 := ⟨m - 1, po⟩;have hlen := h.len;rw [List.length_map] at hlen;have key : dg ((K (d + 1)).call 16 [v, .i a] s) fun x t => x = .i (bh l a) ∧ t = s := by
  simp -implicitDefEqProofs (disch := first|go_size|fail) only [af7, go_sem, hlen]
  refine bf (Q := fun r => dg (aV _ (di (cL 0 r) _)) _) (fun q e t => ∃ i : Nat, q = l.length - i ∧ i ≤ l.length ∧ t = s ∧ (∀ (j : Nat) (y : In), j < i → l[j]? = some y → y.at_ ≠ a) ∧ g0 e = v ∧ g1 e = .i a ∧ g5 e = .i (i : Nat)) ?_ (n := l.length) po ⟨0, po, po, rfl, by intro j y hj; omega, pt, pt, pt⟩
  rintro q e t ⟨i, rfl, hi, rfl, hn, i0, i1, i5⟩;replace i0 : e.a0.a0 = _ := i0;replace i1 : e.a0.a1 = _ := i1;replace i5 : e.a0.a5 = _ := i5;by_cases c : (i : Int) < ((l.length : Nat) : Int)
  · obtain ⟨x, hx⟩ : ∃ x, l[i]? = some x := ⟨_, List.getElem?_eq_getElem po⟩;obtain ⟨b, o, a1, a2, a3, a4⟩ := h.at hw (i := i) (x := x.cells) (by rw [List.getElem?_map, hx]; rfl)
    have a5 := a3 0 _ rfl;rw [Nat.add_zero] at a5;by_cases ca : x.at_ = a
    · simp -implicitDefEqProofs (disch := first|go_size|fail) only [go_sem, i0, i1, i5, hlen, c, a1, a5, ca, eq_self]
      exact ⟨by rw [pz hx ca hn], pt⟩
    · simp -implicitDefEqProofs (disch := first|go_size|fail) only [go_sem, i0, i1, i5, hlen, c, a1, a5, ca]
      exact ⟨l.length - (i + 1), po, i + 1, rfl, po, pt, fun j y hj hy => by
       by_cases ej : j = i
       · subst ej; rw [hx] at hy; cases hy; exact ca
       · exact hn j y po hy, pt, pt, pt⟩
  · have : i = l.length := po;subst this;simp -implicitDefEqProofs (disch := first|go_size|fail) only [go_sem, i0, i1, i5, hlen, c]
    exact ⟨by rw [lH fun j y hy => hn j y (List.getElem?_eq_some_iff.1 hy).1 hy], pt⟩
 obtain ⟨x, t, e, rfl, rfl⟩ := key;exact e
theorem KK (x : Int) (s : St) (d : Nat) : (K (d + 1)).call 59 [.i x] s = some (.bool false, s) := by
 rw [afM];simp -implicitDefEqProofs (disch := first|go_size|fail) only [go_sem, eq_self]
def tH (x y : Int) : Int := if x < y then -1 else if y < x then 1 else 0
theorem abB (x y : Int) (s : St) (d : Nat) : (K (d + 2)).call 44 [.i x, .i y] s = some (.i (tH x y), s) := by
 have e1 := KK x s d;have e2 := KK y s d;rw [af_];unfold tH;by_cases c1 : x < y
 · simp -implicitDefEqProofs (disch := first|go_size|fail) only [go_sem, e1, e2, c1, if_true, if_false]
 · by_cases c2 : y < x
   · simp -implicitDefEqProofs (disch := first|go_size|fail) only [go_sem, e1, e2, c1, c2, if_true, if_false]
   · simp -implicitDefEqProofs (disch := first|go_size|fail) only [go_sem, e1, e2, c1, c2, if_true, if_false]
theorem xE : fok.get 43 = some true := (rfl)
theorem Q6 {s : St} (hw : Wf s) (x : In) (a : Int) (d : Nat) : ∃ t, (K (d + 3)).call 43 [.agg x.cells, .i a] s = some (.i (tH x.at_ a), t) ∧ Fr s t [] := by
 obtain ⟨s1, e1, c1, f1, n1⟩ := bu (s := s) (l := x.cells) (n := 4) hw rfl;have hbox : tJ (.agg x.cells) s.next = some (.ptr s.next 0, .cells 4 (cK x.cells)) := iw (bN x.row.2);have r0 : cP (.ptr s.next 0) s1 = some (.i x.at_) := aK f1.wf c1 rfl;have e2 := abB x.at_ a s1 d;refine ⟨s1, ?_, f1⟩;rw [af2];simp -implicitDefEqProofs (disch := first|go_size|fail) only [go_sem, hbox, e1, r0, e2]
theorem aeD {a : Int} (h0 : 0 ≤ a) (h1 : a < 18446744073709551616) : yI .shr .u64 (.int .u64 a) (.int .u64 1) = some (.int .u64 (a / 2)) := by
 show some (V.int .u64 (Int.fdiv a (Int.ofNat (Nat.pow 2 (min (1 : Int).toNat IntKind.u64.bits))))) = _;have e : Int.ofNat (Nat.pow 2 (min (1 : Int).toNat IntKind.u64.bits)) = 2 := rfl;rw [e, Int.fdiv_eq_ediv_of_nonneg a po]
theorem adp {a : Int} (h0 : 0 ≤ a) (h1 : a < 9223372036854775808) : cT .i64 (.int .u64 a) = some (.i a) := by
 show some (V.i (vE a)) = _;rw [jI ⟨po, po⟩]
theorem uN {x y : Int} : (tH x y < 0) ↔ x < y := by unfold tH; split <;> (try split) <;> omega
theorem rK {x y : Int} : (tH x y = 0) ↔ x = y := by unfold tH; split <;> (try split) <;> omega
set_option maxHeartbeats 4000000 in
theorem AG {s : St} (hw : Wf s) {v : V} {l : List In} (h : RN 4 s v (l.map In.cells)) (L : Ll l) (a : Int) (d : Nat) : ∃ (t : St) (i : Int) (ok : Bool), (K (d + 4)).call 42 [v, .i a, .func 43 [] []] s = some (.bH [.i i, .bool ok], t) ∧ Fr s t [] ∧ ((ok = true ∧ bh l a = i) ∨ (ok = false ∧ bh l a = -1)) := by
 have hlen := h.len;rw [List.length_map] at hlen;have hl := L.len;have key : dg ((K (d + 4)).call 42 [v, .i a, .func 43 [] []] s) fun r t => ∃ (i : Int) (ok : Bool), r = .bH [.i i, .bool ok] ∧ Fr s t [] ∧ ((ok = true ∧ bh l a = i) ∨ (ok = false ∧ bh l a = -1)) := by
  simp -implicitDefEqProofs (disch := first|go_size|fail) only [afs, go_sem, hlen]
  refine bf (Q := fun r => dg (aV _ (di (cL 0 r) _)) _) (fun q e t => ∃ i j : Nat, q = j - i ∧ i ≤ j ∧ j ≤ l.length ∧ Fr s t [] ∧ (∀ (k : Nat) (y : In), k < i → l[k]? = some y → y.at_ < a) ∧ (∀ (k : Nat) (y : In), j ≤ k → l[k]? = some y → a ≤ y.at_) ∧ g0 e = v ∧ g1 e = .i a ∧ g2 e = .func 43 [] [] ∧ g8 e = .i (l.length : Nat) ∧ g9 e = .i i ∧ g10 e = .i j) ?_ (n := l.length) po ⟨0, l.length, po, po, po, Fr.refl hw _, fun k y hk => absurd hk (Nat.not_lt_zero k), fun k y hk hy => by have := (List.getElem?_eq_some_iff.1 hy).1; omega, pt, pt, pt, pt, pt, pt⟩
  rintro q e t ⟨i, j, rfl, hij, hj, ft, hlo, hhi, i0, i1, i2, i8, i9, i10⟩;replace i0 : e.a0.a0 = _ := i0;replace i1 : e.a0.a1 = _ := i1;replace i2 : e.a0.a2 = _ := i2;replace i8 : e.a0.a8 = _ := i8;replace i9 : e.a0.a9 = _ := i9;replace i10 : e.a0.a10 = _ := i10;have ht := h.fr hw ft pm;by_cases c : (i : Int) < (j : Nat)
  · have e1 : ((i : Int) + j) / 2 = (((i + j) / 2 : Nat) : Int) := po;have hs := aeD (a := (i : Int) + j) po po;rw [e1] at hs;have hc := adp (a := (((i + j) / 2 : Nat) : Int)) po po;obtain ⟨m, hm⟩ : ∃ m, (i + j) / 2 = m := ⟨_, rfl⟩;rw [hm] at hs hc;have hmi : i ≤ m ∧ m < j := po;obtain ⟨y, hy⟩ : ∃ y, l[m]? = some y := ⟨_, List.getElem?_eq_getElem po⟩;obtain ⟨b, o, a1, _, _, a4⟩ := ht.at ft.wf (i := m) (x := y.cells) (by rw [List.getElem?_map, hy]; rfl)
    obtain ⟨t1, e2, f1⟩ := Q6 ft.wf y a d;by_cases cy : tH y.at_ a < 0
    · simp -implicitDefEqProofs (disch := first|go_size|fail) only [go_sem, i0, i1, i2, i8, i9, i10, c, hs, hc, a1, a4, cY, eO xE, List.nil_append, List.cons_append, List.append_nil, e2, cy]
      rw [uN] at cy;exact ⟨j - (m + 1), po, m + 1, j, rfl, po, hj, ft.trans f1, fun k z hk hz => by
       by_cases ek : k = m
       · subst ek; rw [hy] at hz; cases hz; exact cy
       · have := L.lt k m z y po hz hy; omega, hhi, pt, pt, pt, pt, pt, pt⟩
    · simp -implicitDefEqProofs (disch := first|go_size|fail) only [go_sem, i0, i1, i2, i8, i9, i10, c, hs, hc, a1, a4, cY, eO xE, List.nil_append, List.cons_append, List.append_nil, e2, cy]
      rw [uN] at cy;exact ⟨m - i, po, i, m, rfl, po, po, ft.trans f1, hlo, fun k z hk hz => by
       by_cases ek : k = m
       · subst ek; rw [hy] at hz; cases hz; omega
       · have := L.lt m k y z po hy hz; omega, pt, pt, pt, pt, pt, pt⟩
  · have hij' : i = j := po;subst hij';by_cases cl : (i : Int) < ((l.length : Nat) : Int)
    · obtain ⟨y, hy⟩ : ∃ y, l[i]? = some y := ⟨_, List.getElem?_eq_getElem po⟩;obtain ⟨b, o, a1, _, _, a4⟩ := ht.at ft.wf (i := i) (x := y.cells) (by rw [List.getElem?_map, hy]; rfl)
      obtain ⟨t1, e2, f1⟩ := Q6 ft.wf y a d;by_cases cy : tH y.at_ a = 0
      · simp -implicitDefEqProofs (disch := first|go_size|fail) only [go_sem, i0, i1, i2, i8, i9, i10, c, cl, a1, a4, cY, eO xE, List.nil_append, List.cons_append, List.append_nil, e2, cy, eq_self]
        rw [rK] at cy;exact ⟨_, _, rfl, ft.trans f1, .inl ⟨rfl, pz hy cy fun k z hk hz => by have := hlo k z hk hz; omega⟩⟩
      · simp -implicitDefEqProofs (disch := first|go_size|fail) only [go_sem, i0, i1, i2, i8, i9, i10, c, cl, a1, a4, cY, eO xE, List.nil_append, List.cons_append, List.append_nil, e2, cy]
        rw [rK] at cy;refine ⟨_, _, rfl, ft.trans f1, .inr ⟨rfl, lH fun k z hz => ?_⟩⟩
        rcases Nat.lt_trichotomy k i with h1 | h1 | h1
        · have := hlo k z h1 hz; omega
        · subst h1; rw [hy] at hz; cases hz; exact cy
        · have h2 := L.lt i k y z h1 hy hz;have h3 := hhi i y (Nat.le_refl _) hy; omega
    · simp -implicitDefEqProofs (disch := first|go_size|fail) only [go_sem, i0, i1, i2, i8, i9, i10, c, cl]
      refine ⟨_, _, rfl, ft, .inr ⟨rfl, lH fun k z hz => ?_⟩⟩
      have := (List.getElem?_eq_some_iff.1 hz).1;have := hlo k z po hz; omega
 obtain ⟨r, t, e1, i, ok, rfl, h2, h3⟩ := key;exact ⟨t, i, ok, e1, h2, h3⟩
theorem nu {s : St} (hw : Wf s) {v : V} {l : List In} (h : RN 4 s v (l.map In.cells)) (L : Ll l) (a : Int) {m : Nat} (hm : 5 ≤ m) : ∃ t, (K m).call 23 [v, .i a] s = some (.i (bh l a), t) ∧ Fr s t [] := by
 obtain ⟨d, rfl⟩ : ∃ d, m = d + 5 := ⟨m - 5, po⟩;obtain ⟨t, i, ok, e1, f1, hh⟩ := AG hw h L a d;refine ⟨t, ?_, f1⟩;rw [ags];rcases hh with ⟨rfl, h1⟩ | ⟨rfl, h1⟩
 · simp -implicitDefEqProofs (disch := first|go_size|fail) only [go_sem, e1, h1]
 · simp -implicitDefEqProofs (disch := first|go_size|fail) only [go_sem, e1, h1]
def Dn (l : List In) : Int := match l.getLast? with | some x => x.at_ + bx x.op | none => 0
theorem Qk {l : List In} {x : In} (h : l[l.length - 1]? = some x) : Dn l = x.at_ + bx x.op := by
 unfold Dn; rw [List.getLast?_eq_getElem?, h]
theorem acd {s : St} (hw : Wf s) {v : V} {l : List In} (h : RN 4 s v (l.map In.cells)) (L : Ll l) {m : Nat} (hm : 2 ≤ m) : ∃ t, (K m).call 18 [v] s = some (.i (Dn l), t) ∧ Fr s t [] := by
 obtain ⟨d, rfl⟩ : ∃ d, m = d + 1 := ⟨m - 1, po⟩;have hlen := h.len;rw [List.length_map] at hlen;by_cases hne : l = []
 · subst hne;refine ⟨s, ?_, Fr.refl hw _⟩;replace hlen : aM v = some (.i 0) := hlen;rw [ab7];simp -implicitDefEqProofs (disch := first|go_size|fail) only [go_sem, hlen, eq_self]
   rfl
 have hp := List.length_pos_iff.2 hne;have hl := L.len;have c0 : ¬ ((l.length : Nat) : Int) = 0 := po;obtain ⟨x, hx⟩ : ∃ x, l[l.length - 1]? = some x := ⟨_, List.getElem?_eq_getElem po⟩;obtain ⟨b, o, a1, _, _, a4⟩ := h.at hw (i := l.length - 1) (x := x.cells) (by rw [List.getElem?_map, hx]; rfl)
 rw [show ((l.length - 1 : Nat) : Int) = ((l.length : Nat) : Int) - 1 by omega] at a1
 obtain ⟨s1, k1, c1, f1, n1⟩ := bu (s := s) (l := [V.i 0, .i 0, .i 0, .i 0]) (n := 4) hw rfl;obtain ⟨s2, k2, c2, f2, n2⟩ := cG (s := s1) (b := s.next) (o := 0) (vs := x.cells) (m := 4) f1.wf c1 x.row.1 pm x.row.2;replace c2 : s2.cl s.next = some x.cells := by rw [c2]; simp [dA, In.cells]
 have F2 : Fr s s2 [] := f1.trans' f2 (fun b hb => .inr (by simp at hb; omega))
 have r0 : cP (.ptr s.next 0) s2 = some (.i x.at_) := aK f2.wf c2 rfl;have r1 : cP (.ptr s.next 1) s2 = some (.i x.op) := aK f2.wf c2 rfl;have q := L.op _ x hx;obtain ⟨z0, z3⟩ := eZ x.op;obtain ⟨q1, q2, q3, q4⟩ := q;have q : 0 ≤ x.op ∧ x.op < 256 := ⟨q1, q2⟩;have e46 := vn (n := x.op) q1 q2 s2 (m := d) po;refine ⟨s2, ?_, F2⟩;rw [ab7];simp -implicitDefEqProofs (disch := first|go_size|fail) only [go_sem, hlen, c0, a1, a4, a_, k1, k2, r0, r1, e46, Qk hx]
/-! ### Plain -/
def cH {α : Type} (n : Nat) (g : Nat → Option α) : Option α := (List.range n).findSome? g
theorem ic {α : Type} {n : Nat} {g : Nat → Option α} (h : ∀ i, i < n → g i = none) : cH n g = none := by
 unfold cH; rw [List.findSome?_eq_none_iff]; intro i hi; exact h i (List.mem_range.1 hi)
theorem hU {α : Type} {n i : Nat} {g : Nat → Option α} {x : α} (hi : i < n) (hx : g i = some x) (h : ∀ j, j < i → g j = none) : cH n g = some x := by
 have e : List.range n = List.range i ++ i :: List.range' (i + 1) (n - i - 1) := by
  obtain ⟨k, hk⟩ : ∃ k, n = i + (k + 1) := ⟨n - i - 1, po⟩;subst hk;rw [show i + (k + 1) - i - 1 = k by omega, List.range_eq_range', List.range_eq_range', ← List.range'_append_1, Nat.zero_add, List.range'_succ]
 unfold cH;rw [e, List.findSome?_append, (List.findSome?_eq_none_iff.2 fun j hj => h j (List.mem_range.1 hj) : (List.range i).findSome? g = none), Option.none_or, List.findSome?_cons, hx]
structure Hd where
 from_ : Int
 mw : Int
 at_ : Int
 ty : List Nat
def Hd.cells (x : Hd) : List V := [.i x.from_, .i x.mw, .i x.at_, .str x.ty]
theorem Hd.row (x : Hd) : Row 4 x.cells := ⟨rfl, by intro v hv; simp [Hd.cells] at hv; rcases hv with rfl | rfl | rfl | rfl <;> rfl⟩
structure Fm where
 at_ : Int
 x : V
 y : V
def Fm.cells (x : Fm) : List V := [.i x.at_, x.x, x.y]
abbrev OE := Int × Int
def ve (l : List In) (i : Nat) : Option OE := match l[i]? with | some x => if gU x.op = true ∧ bh l x.a < 0 then some (16, x.at_) else none | none => none
def vB (l : List In) : Option OE := match l[l.length - 1]? with | some x => if eN x.op = true then none else some (17, x.at_) | none => some (17, 0)
def sZ (l : List In) (h : Hd) : Prop := bh l h.from_ < 0 ∨ bh l h.at_ < 0 ∨ (bh l h.mw < 0 ∧ h.mw ≠ Dn l) ∨ h.from_ ≥ h.mw
instance (l : List In) (h : Hd) : Decidable (sZ l h) := by unfold sZ; infer_instance
def Bf (l : List In) (hs : List Hd) (i : Nat) : Option OE := match hs[i]? with | some h => if sZ l h then some (16, h.from_) else none | none => none
def Oz (l : List In) (fs : List Fm) (i : Nat) : Option OE := match fs[i]? with
 | none => none
 | some f => if bh l f.at_ < 0 then some (16, f.at_) else if 0 < i ∧ (fs.map Fm.at_).getD (i - 1) 0 ≥ f.at_ then some (21, f.at_) else none
def dK (l : List In) (hs : List Hd) (fs : List Fm) : OE :=
 match cH l.length (ve l) with
 | some r => r
 | none => match vB l with
   | some r => r
   | none => match cH hs.length (Bf l hs) with
     | some r => r
     | none => (cH fs.length (Oz l fs)).getD (0, 0)
theorem GN.pre {s : St} {v : V} {es : Nat} {l : List (List V)} (hw : Wf s) (h : GN es s v l) {i : Nat} (hi : i < l.length) : ∃ v', oe es v none (some (.i (i : Nat))) none = some v' ∧ RN es s v' (l.take i) ∧ aB v' = aB v := by
 have hr := (GN.rn hw h).2;rcases h.2 with ⟨rfl, _⟩ | ⟨b, rfl, hb⟩
 · simp at hi
 · refine ⟨_, lV (hi := ((i : Nat) : Int)) po po, ?_, rfl⟩;have hl : (l.take i).length = i := by rw [List.length_take]; omega
   have := RN.of (es := es) (l := l.take i) (o := 0) (c := none) (fun x hx => h.1 x (List.mem_of_mem_take hx)) hw hb (by rw [hl, ju h.1, Nat.zero_add]; exact Nat.mul_le_mul_right _ po) (fun k x hk j hj => by
    rw [Nat.zero_add];have hki := (List.getElem?_eq_some_iff.1 hk).1;rw [List.getElem?_take] at hk;split at hk
    · exact mQ h.1 hk hj
    · cases hk)
   rw [hl] at this;exact this
theorem ZO {s : St} {b : Nat} {l : List Int} (hw : Wf s) (h : s.cl b = some (l.map V.i)) (hl : l.length ≤ 100000000) (h0 : 0 < l.length) : ∃ s', sB (.slice b 0 l.length none 1) s = some (.bH [], s') ∧ s'.cl b = some ((fA l).map V.i) ∧ Fr s s' [b] ∧ s'.next = s.next := by
 obtain ⟨xs, p1, p2, _⟩ := fl hw h;have hp := (ey l).length_eq;obtain ⟨q1, q2, q3⟩ := uv (o := 0) (vs := (fA l).map V.i) hw h (by simp; omega)
 have hput : dA (l.map V.i) 0 ((fA l).map V.i) = (fA l).map V.i := by
  refine List.ext_getElem? fun i => ?_
  rw [iI (by simp; omega)]
  simp only [List.length_map, Nat.zero_add, Nat.zero_le, true_and, Nat.sub_zero];split
  · rfl
  · rw [List.getElem?_eq_none (by simp; omega), List.getElem?_eq_none (by simp; omega)]
 rw [hput] at q1;refine ⟨_, ?_, q1, q2, q3⟩;have e : s.st b 0 ((fA l).map V.i) = s.put b (.cells l.length (gG xs 0 ((fA l).map V.i))) := by unfold St.st; rw [p1, List.length_map]
 rw [e];rw [List.length_map] at p1 p2;have hld : qA xs.get l.length 0 = some (l.map V.i) := jd pm (fun i hi => by rw [Nat.zero_add]; exact p2 i hi)
 have hb : fC s b = some (l.length, xs) := by unfold fC; rw [p1]
 obtain ⟨n, hn⟩ : ∃ n, l.length = n + 1 := ⟨l.length - 1, po⟩;show (Bool.casesOn (motive := fun _ => Option (V × St)) (and (Nat.beq 1 1) (Nat.ble l.length 100000000)) none (Nat.casesOn (motive := fun _ => Option (V × St)) l.length (some (.bH [], s)) fun _ => match fC s b with
  | some (n, xs) => Bool.casesOn (motive := fun _ => Option (V × St)) (Nat.ble (Nat.add 0 l.length) n) none (match qA xs.get l.length 0 with
    | some vs => (match mN vs with
      | some l => some (.bH [], s.put b (.cells n (gG xs 0 ((fA l).map V.i))))
      | none => none)
    | none => none)
  | none => none)) = _
 rw [cF hl, hb];dsimp only
 rw [hld];dsimp only
 rw [rI];dsimp only
 rw [show Nat.add 0 l.length = l.length from Nat.zero_add _, cF (Nat.le_refl _), hn]
 rfl
theorem aaI {s : St} {v : V} {l : List Int} (hw : Wf s) (h : GL s v (l.map V.i)) (hl : l.length ≤ 100000000) {m : Nat} (hm : 1 ≤ m) : ∃ s', (K m).call 27 [v] s = some (.bH [], s') ∧ GL s' v ((fA l).map V.i) ∧ Fr s s' (aB v) ∧ s'.next = s.next := by
 obtain ⟨d, rfl⟩ : ∃ d, m = d + 1 := ⟨m - 1, po⟩;have hp := (ey l).length_eq;have z : ∀ s', sB v s = some (.bH [], s') → (K (d + 1)).call 27 [v] s = some (.bH [], s') := fun s' hs => sg rfl hs
 rcases h with ⟨h0, rfl⟩ | ⟨b, rfl, hb⟩
 · have : l = [] := by simpa using h0
   subst this;exact ⟨s, z s rfl, .inl ⟨rfl, rfl⟩, Fr.refl hw _, rfl⟩
 · rw [List.length_map] at z ⊢;by_cases c : l.length = 0
   · have : l = [] := List.eq_nil_of_length_eq_zero c;subst this;exact ⟨s, z s rfl, .inr ⟨b, rfl, hb⟩, Fr.refl hw _, rfl⟩
   · obtain ⟨s', e1, e2, e3, e4⟩ := ZO hw hb hl po;exact ⟨s', z s' e1, .inr ⟨b, by rw [List.length_map, hp], e2⟩, e3, e4⟩
def dd : List Int → List Int
 | [x, y] => if x = y then [x] else [x, y]
 | l => l
theorem zJ {s : St} {v : V} {l : List Int} (hw : Wf s) (h : GL s v (l.map V.i)) (hl : l.length ≤ 2) {m : Nat} (hm : 1 ≤ m) : ∃ s' v', (K m).call 28 [v] s = some (v', s') ∧ SL s' v' ((dd l).map V.i) ∧ Fr s s' (aB v) ∧ aB v' = aB v := by
 obtain ⟨d, rfl⟩ : ∃ d, m = d + 1 := ⟨m - 1, po⟩;have hlen := h.len;rw [List.length_map] at hlen;by_cases c : ((l.length : Nat) : Int) < 2
 · refine ⟨s, v, ?_, ?_, Fr.refl hw _, rfl⟩
   · rw [Qc]; simp -implicitDefEqProofs (disch := first|go_size|fail) only [go_sem, hlen, c]
   · have : dd l = l := by
      match l, c with
      | [], _ => rfl
      | [x], _ => rfl
      | x :: y :: l, c => simp at c; omega
     rw [this]; exact GL.sl hw h
 · match l, hl, c, h, hlen with
   | [x, y], _, _, h, hlen =>
     rcases h with ⟨h0, _⟩ | ⟨b, rfl, hb⟩
     · cases h0
     · replace hb : s.cl b = some [V.i x, .i y] := hb;have r0 : cP (.ptr b 0) s = some (.i x) := aK hw hb rfl;have r1 : cP (.ptr b 1) s = some (.i y) := aK hw hb rfl;show ∃ s' v', (K (d + 1)).call 28 [.slice b 0 2 none 1] s = some (v', s') ∧ _;have i0 : aP 1 (.slice b 0 2 none 1) (.i 0) = some (.ptr b 0) := rfl;have i1 : aP 1 (.slice b 0 2 none 1) (.i 1) = some (.ptr b 1) := rfl;have hs : oe 1 (.slice b 0 2 none 1) (some (.i 1)) none none = some (.slice b 1 1 none 1) := rfl;have hs2 : oe 1 (.slice b 0 2 none 1) none (some (.i 1)) none = some (.slice b 0 1 none 1) := rfl;have hK := RE d;have n2 : ((2 : Nat) : Int) = 2 := rfl;have n1 : ((1 : Nat) : Int) = 1 := rfl;obtain ⟨s', q1, q2, q3, q4⟩ := sI (z := .i 0) (o := 1) (len := 1) (c := none) (es := 1) hw hb pm;have key : dg ((K (d + 1)).call 28 [.slice b 0 2 none 1] s) fun v' t => SL t v' ((dd [x, y]).map V.i) ∧ Fr s t [b] ∧ aB v' = [b] := by
        simp -implicitDefEqProofs (disch := first|go_size|fail) only [Qc, go_sem, eL, n2, n1, Int.reduceLT, decide_true, decide_false, Int.reduceAdd, Int.reduceSub]
        refine bf (Q := fun r => dg (aV _ (di (cL 0 r) _)) _) (fun q e t => ∃ i : Nat, q = 2 - i ∧ 1 ≤ i ∧ i ≤ 2 ∧ (i = 2 → x ≠ y) ∧ t = s ∧ g0 e = .slice b 0 2 none 1 ∧ g3 e = .i (i : Nat)) ?_ (n := 1) po ⟨1, po, po, po, po, rfl, pt, pt⟩
        rintro q e t ⟨i, rfl, h1, h2, hne, rfl, j0, j3⟩;replace j0 : e.a0.a0 = _ := j0;replace j3 : e.a0.a3 = _ := j3;by_cases ci : i = 1
        · subst ci;replace j3 : e.a0.a3 = .i 1 := j3;by_cases cx : y = x
          · subst cx;simp -implicitDefEqProofs (disch := first|go_size|fail) only [go_sem, j0, j3, i0, i1, r0, r1, eL, n2, n1, Int.reduceLT, decide_true, decide_false, Int.reduceAdd, Int.reduceSub, eq_self, hs]
            refine bf (Q := fun r => og (di (cL 1 (di (cL 2 r) _)) _) _ _) (fun q e t' => q = 0 ∧ t' = t ∧ True ∧ g0 e = .slice b 0 2 none 1 ∧ g3 e = .i 1 ∧ g4 e = .slice b 1 1 none 1 ∧ g5 e = .i 1) ?_ (n := 0) po ⟨rfl, rfl, trivial, pt, pt, pt, pt⟩
            rintro q e t' ⟨rfl, rfl, -, k0, k3, k4, k5⟩;replace k0 : e.a0.a0 = _ := k0;replace k3 : e.a0.a3 = _ := k3;replace k4 : e.a0.a4 = _ := k4;replace k5 : e.a0.a5 = _ := k5;simp -implicitDefEqProofs (disch := first|go_size|fail) only [go_sem, k0, k3, k4, k5, eL, n2, n1, Int.reduceLT, decide_true, decide_false, Int.reduceAdd, Int.reduceSub, hs, hs2, q1]
            refine ⟨?_, q3, rfl⟩;have : dd [y, y] = [y] := if_pos rfl;rw [this];exact SL.of q3.wf q2 (by simp [dA]) (fun i hi => by simp at hi; subst hi; simp [dA])
          · simp -implicitDefEqProofs (disch := first|go_size|fail) only [go_sem, j0, j3, i0, i1, r0, r1, eL, n2, n1, Int.reduceLT, decide_true, decide_false, Int.reduceAdd, Int.reduceSub, cx]
            exact ⟨0, po, 2, rfl, po, po, fun _ h => cx h.symm, pt, pt, pt⟩
        · have ci2 : i = 2 := po;subst ci2;replace j3 : e.a0.a3 = .i 2 := j3;simp -implicitDefEqProofs (disch := first|go_size|fail) only [go_sem, j0, j3, eL, n2, n1, Int.reduceLT, decide_true, decide_false, Int.reduceAdd, Int.reduceSub]
          refine ⟨?_, Fr.refl hw _, rfl⟩;have : dd [x, y] = [x, y] := if_neg (hne rfl);rw [this];exact SL.of hw hb pm (fun i hi => by rw [Nat.zero_add]; rfl)
       obtain ⟨x', t, e1, e2, e3, e4⟩ := key;exact ⟨t, x', e1, e2, e3, e4⟩
   | [], _, c, _, _ => exact absurd pm c
   | [x], _, c, _, _ => exact absurd pm c
def nO (l : List In) (n : Int) (x : In) : List Int := if eN x.op = false ∧ n + 1 < (l.length : Nat) then [n + 1] else []
def pR (o : List Int) (k : Int) : List Int := match o with
 | [m] => if m < k then [m, k] else if k < m then [k, m] else [m]
 | _ => [k]
def OJ (l : List In) (o : List Int) (x : In) : List Int := if gU x.op = true ∧ 0 ≤ bh l x.a then pR o (bh l x.a) else o
def c_ (l : List In) (n : Int) : List Int := if n < 0 ∨ (l.length : Nat) ≤ n then [] else match l[n.toNat]? with
 | none => []
 | some x => OJ l (nO l n x) x
theorem kV {l : List In} {n : Int} (h : n < 0 ∨ (l.length : Nat) ≤ n) : c_ l n = [] := if_pos h
theorem vo {l : List In} {n : Nat} {x : In} (h : l[n]? = some x) : c_ l (n : Nat) = OJ l (nO l (n : Nat) x) x := by
 have := (List.getElem?_eq_some_iff.1 h).1;unfold c_;rw [if_neg po, show ((n : Nat) : Int).toNat = n by omega, h]
theorem sC (l : List In) (n : Int) (x : In) : nO l n x = [] ∨ nO l n x = [n + 1] := by unfold nO; split <;> simp
theorem aad (m k : Int) : dd (fA [m, k]) = pR [m] k := by
 have e : fA [m, k] = if k < m then [k, m] else [m, k] := by
  show uO m [k] = _;unfold uO;rw [iA k m];by_cases c : k < m
  · rw [decide_eq_true c, if_pos c]; rfl
  · rw [decide_eq_false c, if_neg c]
 rw [e];have p : pR [m] k = if m < k then [m, k] else if k < m then [k, m] else [m] := rfl
 rw [p];by_cases c : k < m
 · rw [if_pos c, if_neg po, if_pos c];exact if_neg po
 · rw [if_neg c];by_cases e : m = k
   · subst e; rw [if_neg po, if_neg po]; exact if_pos rfl
   · rw [if_pos po]; exact if_neg e
theorem jr (l : List In) (k : Int) : (c_ l k).length ≤ 2 := by
 unfold c_; split
 · simp
 · split
   · simp
   · rename_i x _;have hA := sC l k x;unfold OJ;split
     · rcases hA with h | h <;> rw [h]
       · simp [pR]
       · unfold pR; simp only; split
         · simp
         · split <;> simp
     · rcases hA with h | h <;> rw [h] <;> simp
set_option maxHeartbeats 4000000 in
theorem xB {s : St} (hw : Wf s) {v : V} {l : List In} (h : RN 4 s v (l.map In.cells)) (L : Ll l) (n : Int) {m : Nat} (hm : 7 ≤ m) : ∃ t ov, (K m).call 29 [v, .i n] s = some (ov, t) ∧ SL t ov ((c_ l n).map V.i) ∧ Fr s t [] ∧ ∀ b ∈ aB ov, s.next ≤ b ∧ b < t.next := by
 obtain ⟨d, rfl⟩ : ∃ d, m = d + 1 := ⟨m - 1, po⟩;have hl := L.len;have ln := h.len;rw [List.length_map] at ln;let Q : V → St → Prop := fun ov t => SL t ov ((c_ l n).map V.i) ∧ Fr s t [] ∧ ∀ b ∈ aB ov, s.next ≤ b ∧ b < t.next
 suffices key : dg ((K (d + 1)).call 29 [v, .i n] s) Q by
  obtain ⟨x, t, e, h1⟩ := key;exact ⟨t, x, e, h1⟩
 by_cases c0 : n < 0
 · simp -implicitDefEqProofs (disch := first|go_size|fail) only [NR, go_sem, ln, c0]
   exact ⟨by rw [kV (.inl c0)]; exact .inl ⟨rfl, .inl rfl⟩, Fr.refl hw _, by simp [aB]⟩
 by_cases c1 : n ≥ ((l.length : Nat) : Int)
 · simp -implicitDefEqProofs (disch := first|go_size|fail) only [NR, go_sem, ln, c0, c1]
   exact ⟨by rw [kV (.inr c1)]; exact .inl ⟨rfl, .inl rfl⟩, Fr.refl hw _, by simp [aB]⟩
 obtain ⟨i, rfl⟩ : ∃ i : Nat, n = i := ⟨n.toNat, po⟩;obtain ⟨x, hx⟩ : ∃ x, l[i]? = some x := ⟨_, List.getElem?_eq_getElem po⟩;obtain ⟨q1, q2, q3, q4⟩ := L.op _ x hx;have hN := vo hx;have rest25 : ∀ (e : E) (t : St) (ov : V) (o : List Int), Fr s t [] → GL t ov (o.map V.i) → (∀ b ∈ aB ov, s.next ≤ b) → o.length ≤ 2 → dd (fA o) = c_ l (i : Nat) → e.a0.a5 = ov → dg (aV (aL [rT g4]) (wk (K d) e t)) Q := by
  intro e t ov o ft hg hb ho hr i5;obtain ⟨t1, e1, g1', f1, n1⟩ := aaI ft.wf hg po (m := d) po;have hp := (ey o).length_eq;obtain ⟨t2, ov2, e2, g2', f2, b2⟩ := zJ f1.wf g1' po (m := d) po;simp -implicitDefEqProofs (disch := first|go_size|fail) only [go_sem, wk.eq_1, i5, e1, e2]
  refine ⟨by rw [← hr]; exact g2', (ft.trans' f1 (fun b hb' => .inr (hb b hb'))).trans' f2 (fun b hb' => .inr (hb b hb')), fun b hb' => ?_⟩
  rw [b2] at hb';have q0 := hb b hb';have q1 : b < t.next := by
   rcases hg with ⟨_, rfl⟩ | ⟨b', rfl, hc⟩
   · simp [aB] at hb'
   · simp [aB] at hb'; subst hb'; exact bQ ft.wf hc
  have q2 := f2.nx;omega
 have rest15 : ∀ (e : E) (t : St) (ov : V), Fr s t [] → GL t ov ((nO l (i : Nat) x).map V.i) → (∀ b ∈ aB ov, s.next ≤ b) → e.a0.a0 = v → e.a0.a1 = .i (i : Nat) → e.a0.a5 = ov → dg (aV (aL [rT g4]) (oO (K d) e t)) Q := by
  intro e t ov ft hg hb i0 i1 i5;have hA := sC l (i : Nat) x;obtain ⟨b, o, a1, _, a3, _⟩ := (h.fr hw ft pm).at ft.wf (i := i) (x := x.cells) (by rw [List.getElem?_map, hx]; rfl)
  have r1 := a3 1 _ rfl;have r2 := a3 2 _ rfl;have e1 := Zt (n := x.op) q1 q2 t (m := d) po;obtain ⟨t1, e2, f1⟩ := nu ft.wf (h.fr hw ft pm) L x.a (m := d) po;have hA1 : dd (fA (nO l (i : Nat) x)) = nO l (i : Nat) x := by rcases hA with h | h <;> rw [h] <;> rfl
  cases hbr : gU x.op with
  | false =>
    rw [hbr] at e1;simp -implicitDefEqProofs (disch := first|go_size|fail) only [go_sem, oO.eq_1, i0, i1, i5, a1, r1, r2, e1]
    exact rest25 _ t ov (nO l (i : Nat) x) ft hg hb (by rcases hA with h | h <;> rw [h] <;> simp) (by rw [hN, hA1]; unfold OJ; rw [hbr]; simp) pt
  | true =>
    rw [hbr] at e1;by_cases ck : bh l x.a ≥ 0
    · have hg1 := hg.fr ft.wf f1 pm;obtain ⟨y1, y2, z1, z2, z3, z4, z5⟩ := hg1.push f1.wf (x := .i (bh l x.a)) rfl (by intro y hy; obtain ⟨w, _, rfl⟩ := List.mem_map.1 hy; rfl) (by rw [List.length_map]; rcases hA with h | h <;> rw [h] <;> simp)
      have hlz : (List.map V.i (nO l (i : Nat) x) ++ [V.i (bh l x.a)]) = (nO l (i : Nat) x ++ [bh l x.a]).map V.i := by simp
      rw [hlz] at z3;have hf1 := f1.nx;have hft := ft.nx;simp -implicitDefEqProofs (disch := first|go_size|fail) only [go_sem, oO.eq_1, i0, i1, i5, a1, r1, r2, e1, e2, ck, z1, z2]
      refine rest25 _ y2 _ (nO l (i : Nat) x ++ [bh l x.a]) ((ft.trans f1).trans' z4 (fun b hb' => .inr (hb b hb'))) z3 (fun b hb' => by simp [aB] at hb'; omega) (by rcases hA with h | h <;> rw [h] <;> simp) ?_ pt
      rw [hN]; unfold OJ; rw [if_pos ⟨hbr, ck⟩];rcases hA with h | h <;> rw [h]
      · rfl
      · exact aad _ _
    · simp -implicitDefEqProofs (disch := first|go_size|fail) only [go_sem, oO.eq_1, i0, i1, i5, a1, r1, r2, e1, e2, ck]
      exact rest25 _ t1 ov (nO l (i : Nat) x) (ft.trans f1) (hg.fr ft.wf f1 pm) hb (by rcases hA with h | h <;> rw [h] <;> simp) (by rw [hN, hA1]; unfold OJ; rw [if_neg (fun hh => ck hh.2)]) pt
 obtain ⟨b, o, a1, _, a3, _⟩ := h.at hw (i := i) (x := x.cells) (by rw [List.getElem?_map, hx]; rfl)
 have r1 := a3 1 _ rfl;have e1 := aeq (n := x.op) q1 q2 s (m := d) po;cases he : eN x.op with
 | true =>
   rw [he] at e1;simp -implicitDefEqProofs (disch := first|go_size|fail) only [NR, go_sem, ln, c0, c1, a1, r1, e1]
   exact rest15 _ s .ay (Fr.refl hw _) (by unfold nO; rw [he]; simp; exact .inl ⟨rfl, rfl⟩) (by simp [aB]) pt pt pt
 | false =>
   rw [he] at e1;by_cases c2 : (i : Int) + 1 < ((l.length : Nat) : Int)
   · obtain ⟨y1, y2, z1, z2, z3, z4, z5⟩ := GL.push (s := s) (v := .ay) (l := []) hw (.inl ⟨rfl, rfl⟩) (x := .i ((i : Int) + 1)) rfl pm pm;simp -implicitDefEqProofs (disch := first|go_size|fail) only [NR, go_sem, ln, c0, c1, a1, r1, e1, c2, z1, z2]
     exact rest15 _ y2 _ (z4.mono (by simp [aB])) (by unfold nO; rw [if_pos ⟨he, c2⟩]; exact z3) (fun b hb' => by simp [aB] at hb'; omega) pt pt pt
   · simp -implicitDefEqProofs (disch := first|go_size|fail) only [NR, go_sem, ln, c0, c1, a1, r1, e1, c2]
     exact rest15 _ s .ay (Fr.refl hw _) (by unfold nO; rw [if_neg (fun hh => c2 hh.2)]; exact .inl ⟨rfl, rfl⟩) (by simp [aB]) pt pt pt
def GP (s : St) (v : V) (l : List V) : Prop := (l = [] ∧ v = .ay) ∨ ∃ b L, v = .slice b 0 l.length none 1 ∧ s.cl b = some L ∧ l <+: L
section
variable {s : St} {v x : V} {l : List V}
theorem GL.gp (h : GL s v l) : GP s v l := by
 rcases h with h | ⟨b, rfl, h2⟩
 · exact .inl h
 · exact .inr ⟨b, l, rfl, h2, List.prefix_refl _⟩
theorem GP.fr {s' : St} {L : List Nat} (h : GP s v l) (hw : Wf s) (f : Fr s s' L) (hd : ∀ b, b ∈ aB v → b ∉ L) : GP s' v l := by
 rcases h with h | ⟨b, L', rfl, h2, h3⟩
 · exact .inl h
 · exact .inr ⟨b, L', rfl, f.cl hw h2 (hd b (by simp [aB])), h3⟩
theorem GP.len (h : GP s v l) : aM v = some (.i (l.length : Nat)) := by
 rcases h with ⟨rfl, rfl⟩ | ⟨b, L, rfl, _⟩ <;> rfl
theorem GP.sl (hw : Wf s) (h : GP s v l) : SL s v l := by
 rcases h with h | ⟨b, L, rfl, h2, t, rfl⟩
 · exact .inl ⟨h.1, .inl h.2⟩
 · exact SL.of hw h2 pm (fun i hi => by rw [Nat.zero_add, List.getElem?_append_left hi])
theorem GP.push (hw : Wf s) (h : GP s v l) (h1 : x.one = true) (ho : ∀ y ∈ l, y.one = true) (hl : l.length ≤ 17596481011712) :
 ∃ s1 s2, s.new (.cells 1 (cK [x])) = s1 ∧ (xM 1 v (.slice s.next 0 1 (some 1) 1) s1 = some (.slice (s.next + 1) 0 (l.length + 1) none 1, s2)) ∧
   GL s2 (.slice (s.next + 1) 0 (l.length + 1) none 1) (l ++ [x]) ∧ Fr s s2 (aB v) ∧ s2.next = s.next + 2 := by
 obtain ⟨s1, e1, c1, f1, n1⟩ := bu (s := s) (l := [x]) (n := 1) hw rfl;have hy : Src s1 1 (.slice s.next 0 1 (some 1) 1) 1 [x] := Src.full f1.wf c1 rfl (by simpa using h1) po
 rcases h with ⟨rfl, rfl⟩ | ⟨b, L, rfl, h2, t, rfl⟩
 · obtain ⟨s2, e2, c2, f2, n2⟩ := sN f1.wf hy po;rw [n1] at e2 c2;exact ⟨s1, s2, e1, e2, .inr ⟨_, rfl, c2⟩, f1.trans f2, po⟩
 · have hb := bQ hw h2;obtain ⟨s2, e2, c2, f2, n2⟩ := mY (s := s1) (es := 1) (len := l.length) (o := 0) (b := b) f1.wf hy po hl (f1.cl hw h2 pm) pm;rw [n1] at e2 c2;refine ⟨s1, s2, e1, e2, .inr ⟨s.next + 1, pm, ?_⟩, (f1.mono pm).trans f2, po⟩;rw [c2]; simp
theorem GP.pop (h : GP s v (l ++ [x])) : ∃ v', oe 1 v none (some (.i (((l.length + 1 : Nat) : Int) - 1))) none = some v' ∧ GP s v' l ∧ aB v' = aB v := by
 rcases h with ⟨h, _⟩ | ⟨b, L, rfl, h2, t, rfl⟩
 · simp at h
 · refine ⟨.slice b 0 l.length none 1, ?_, .inr ⟨b, _, rfl, h2, ?_⟩, rfl⟩
   · rw [lV po (by simp; omega)]
     congr 2; omega
   · exact ⟨[x] ++ t, pm⟩
end
def Mk (out : List Bool) (n : Int) : Prop := 0 ≤ n → n < (out.length : Nat) → out[n.toNat]? = some true
def mO (out : List Bool) (n : Int) : List Bool := if 0 ≤ n ∧ out[n.toNat]? = some false then out.set n.toNat true else out
def mT (out : List Bool) (todo : List Int) (n : Int) : List Int := if 0 ≤ n ∧ out[n.toNat]? = some false then todo ++ [n] else todo
section
variable {out : List Bool} {todo : List Int} {n : Int}
theorem qs : (mO out n).length = out.length := by unfold mO; split <;> simp
theorem yo {j : Nat} (h : out[j]? = some true) : (mO out n)[j]? = some true := by
 unfold mO; split
 · rw [List.getElem?_set]; split
   · rw [if_pos (by have := (List.getElem?_eq_some_iff.1 h).1; omega)]
   · exact h
 · exact h
theorem Mk.mono {k : Int} (h : Mk out k) : Mk (mO out n) k := fun h0 h1 => yo (h h0 (by rwa [qs] at h1))
theorem wV : Mk (mO out n) n := by
 intro h0 h1;rw [qs] at h1;unfold mO;split
 · rw [List.getElem?_set, if_pos rfl, if_pos po]
 · rename_i hn;have hl : n.toNat < out.length := po;rw [List.getElem?_eq_getElem hl] at hn ⊢;cases hb : out[n.toNat] with
   | false => exact absurd ⟨h0, by rw [hb]⟩ hn
   | true => rfl
theorem HD {j : Nat} (todo : List Int) (h : (mO out n)[j]? = some true) : out[j]? = some true ∨ ((j : Int) = n ∧ (j : Int) ∈ mT out todo n) := by
 unfold mO at h; unfold mT;split at h
 · rename_i hc;rw [List.getElem?_set] at h;split at h
   · rename_i e;have : (j : Int) = n := po;exact .inr ⟨this, by rw [if_pos hc, this]; simp⟩
   · exact .inl h
 · exact .inl h
theorem YC {x : Int} (h : x ∈ todo) : x ∈ mT out todo n := by unfold mT; split <;> simp [h]
theorem ZY {x : Int} (h : x ∈ mT out todo n) : x ∈ todo ∨ (x = n ∧ 0 ≤ n ∧ n < (out.length : Nat)) := by
 unfold mT at h; split at h
 · rename_i hc;have := (List.getElem?_eq_some_iff.1 hc.2).1;rcases List.mem_append.1 h with h | h
   · exact .inl h
   · simp at h; exact .inr ⟨h, hc.1, po⟩
 · exact .inl h
theorem tA : ∀ (l : List Bool) (i : Nat), l[i]? = some false → (l.set i true).count false + 1 = l.count false
 | [], i, h => by simp at h
 | b :: l, 0, h => by simp at h; subst h; simp
 | b :: l, i + 1, h => by
   have := tA l i (by simpa using h)
   simp only [List.set_cons_succ, List.count_cons]; omega
theorem EE : (mO out n).count false + (mT out todo n).length = out.count false + todo.length := by
 unfold mO mT; split
 · rename_i hc;have := tA _ _ hc.2;simp; omega
 · rfl
end
inductive qX (l : List In) (hs : List Hd) : Nat → Prop
 | zero : 0 < l.length → qX l hs 0
 | nx {i k : Nat} : qX l hs i → (k : Int) ∈ c_ l (i : Nat) → k < l.length → qX l hs k
 | hd {i k : Nat} {x : In} {y : Hd} : qX l hs i → l[i]? = some x → y ∈ hs → y.from_ ≤ x.at_ → x.at_ < y.mw → bh l y.at_ = (k : Int) → qX l hs k
def Cl (l : List In) (hs : List Hd) (out : List Bool) (i : Nat) : Prop := (∀ k ∈ c_ l (i : Nat), Mk out k) ∧ ∀ x, l[i]? = some x → ∀ y ∈ hs, y.from_ ≤ x.at_ → x.at_ < y.mw → Mk out (bh l y.at_)
theorem Cl.mono {l : List In} {hs : List Hd} {out : List Bool} {i : Nat} {n : Int} (h : Cl l hs out i) : Cl l hs (mO out n) i := ⟨fun k hk => (h.1 k hk).mono, fun x hx y hy a b => (h.2 x hx y hy a b).mono⟩
structure RJ (l : List In) (hs : List Hd) (i : Int) (out : List Bool) (todo : List Int) : Prop where
 len : out.length = l.length
 td : ∀ n ∈ todo, ∃ k : Nat, n = k ∧ out[k]? = some true
 so : ∀ k : Nat, out[k]? = some true → qX l hs k
 cl : ∀ k : Nat, out[k]? = some true → (k : Int) ∈ todo ∨ (k : Int) = i ∨ Cl l hs out k
theorem RJ.meet {l : List In} {hs : List Hd} {i : Int} {out : List Bool} {todo : List Int} (h : RJ l hs i out todo) {n : Int} (hn : ∀ k : Nat, (k : Int) = n → k < l.length → qX l hs k) : RJ l hs i (mO out n) (mT out todo n) where
 len := by rw [qs]; exact h.len
 td := fun x hx => by
  rcases ZY hx with hx | ⟨rfl, h0, h1⟩
  · obtain ⟨k, e, hk⟩ := h.td x hx; exact ⟨k, e, yo hk⟩
  · exact ⟨x.toNat, po, wV h0 (by rwa [qs])⟩
 so := fun k hk => by
  have hlt := (List.getElem?_eq_some_iff.1 hk).1;rw [qs, h.len] at hlt;rcases HD todo hk with hk | ⟨e, _⟩
  · exact h.so k hk
  · exact hn k e hlt
 cl := fun k hk => by
  rcases HD todo hk with hk | ⟨_, e⟩
  · rcases h.cl k hk with h1 | h1 | h1
    · exact .inl (YC h1)
    · exact .inr (.inl h1)
    · exact .inr (.inr h1.mono)
  · exact .inl e
theorem RJ.pop {l : List In} {hs : List Hd} {out : List Bool} {todo : List Int} {n : Int} (h : RJ l hs (-1) out (todo ++ [n])) : ∃ i : Nat, n = i ∧ i < l.length ∧ qX l hs i ∧ RJ l hs (i : Nat) out todo := by
 obtain ⟨i, e, hi⟩ := h.td n pm;have hlt := (List.getElem?_eq_some_iff.1 hi).1;rw [h.len] at hlt;refine ⟨i, e, hlt, h.so i hi, h.len, fun x hx => h.td x (by simp [hx]), h.so, fun k hk => ?_⟩
 rcases h.cl k hk with h1 | h1 | h1
 · rcases List.mem_append.1 h1 with h1 | h1
   · exact .inl h1
   · simp at h1; exact .inr (.inl po)
 · omega
 · exact .inr (.inr h1)
theorem RJ.close {l : List In} {hs : List Hd} {out : List Bool} {todo : List Int} {i : Nat} (h : RJ l hs (i : Nat) out todo) (hc : Cl l hs out i) : RJ l hs (-1) out todo := by
 refine ⟨h.len, h.td, h.so, fun k hk => ?_⟩
 rcases h.cl k hk with h1 | h1 | h1
 · exact .inl h1
 · have : k = i := po;subst this; exact .inr (.inr hc)
 · exact .inr (.inr h1)
theorem Od {l : List In} {n k : Int} (h : k ∈ c_ l n) : 0 ≤ k ∧ k < (l.length : Nat) := by
 unfold c_ at h;split at h
 · simp at h
 · rename_i hn;split at h
   · simp at h
   · rename_i x hx;have hA : ∀ z ∈ nO l n x, 0 ≤ z ∧ z < (l.length : Nat) := fun z hz => by
      unfold nO at hz; split at hz
      · rename_i hc; simp at hz; omega
      · simp at hz
     unfold OJ at h; split at h
     · rename_i hc;have hf := qM (l := l) x.a;have hP : ∀ z ∈ pR (nO l n x) (bh l x.a), z ∈ nO l n x ∨ z = bh l x.a := fun z hz => by
        rcases sC l n x with e | e <;> rw [e] at hz ⊢
        · simp [pR] at hz; exact .inr hz
        · unfold pR at hz; simp only at hz;split at hz
          · simp at hz; simp; exact hz
          · split at hz
            · simp at hz; simp; omega
            · simp at hz; simp; exact .inl hz
       rcases hP k h with h | h
       · exact hA k h
       · omega
     · exact hA k h
structure RS (s0 s : St) (lv : V) (bl bo bt ob N : Nat) (W : List Nat) (out : List Bool) (todo : List Int) : Prop where
 f : Fr s0 s []
 hl : s.cl bl = some [lv]
 ho : s.cl bo = some [.slice ob 0 N (some N) 1]
 hb : s.cl ob = some (out.map V.bool)
 ht : ∃ tv, s.cl bt = some [tv] ∧ GP s tv (todo.map V.i) ∧ ∀ b ∈ aB tv, s0.next ≤ b ∧ b ≠ bl ∧ b ≠ bo ∧ b ≠ bt ∧ b ≠ ob ∧ b ∉ W
 w : ∀ b ∈ W, b < s.next ∧ b ≠ bt ∧ b ≠ ob
 nx : s0.next ≤ bl ∧ s0.next ≤ bo ∧ s0.next ≤ bt ∧ s0.next ≤ ob
 ne : bl ≠ bo ∧ bl ≠ bt ∧ bl ≠ ob ∧ bo ≠ bt ∧ bo ≠ ob ∧ bt ≠ ob
 n : out.length = N
theorem RS.fr {s0 s s' : St} {lv : V} {bl bo bt ob N : Nat} {W : List Nat} {out : List Bool} {todo : List Int} (h : RS s0 s lv bl bo bt ob N W out todo) (f : Fr s s' []) : RS s0 s' lv bl bo bt ob N W out todo := by
 obtain ⟨tv, h1, h2, h3⟩ := h.ht;exact ⟨h.f.trans f, f.cl h.f.wf h.hl pm, f.cl h.f.wf h.ho pm, f.cl h.f.wf h.hb pm, ⟨tv, f.cl h.f.wf h1 pm, h2.fr h.f.wf f pm, h3⟩, fun b hb => ⟨Nat.lt_of_lt_of_le (h.w b hb).1 f.nx, (h.w b hb).2⟩, h.nx, h.ne, h.n⟩
theorem RS.QN {s0 s : St} {lv : V} {bl bo bt ob N : Nat} {W W' : List Nat} {out : List Bool} {todo : List Int} (h : RS s0 s lv bl bo bt ob N W out todo) (hw : ∀ b ∈ W', b < s.next ∧ b ≠ bt ∧ b ≠ ob) (ht : ∀ tv, s.cl bt = some [tv] → ∀ b ∈ aB tv, b ∉ W') : RS s0 s lv bl bo bt ob N W' out todo := by
 obtain ⟨tv, h1, h2, h3⟩ := h.ht;exact ⟨h.f, h.hl, h.ho, h.hb, ⟨tv, h1, h2, fun b hb => ⟨(h3 b hb).1, (h3 b hb).2.1, (h3 b hb).2.2.1, (h3 b hb).2.2.2.1, (h3 b hb).2.2.2.2.1, ht tv h1 b hb⟩⟩, hw, h.nx, h.ne, h.n⟩
theorem GP.lt {s : St} {v : V} {l : List V} (hw : Wf s) (h : GP s v l) : ∀ b ∈ aB v, b < s.next := fun b hb => by
 rcases h with ⟨_, rfl⟩ | ⟨b', L, rfl, h2, _⟩
 · simp [aB] at hb
 · simp [aB] at hb; subst hb; exact bQ hw h2
theorem GP.one {s : St} {v : V} {l : List V} (h : GP s v l) : v.one = true := by rcases h with ⟨_, rfl⟩ | ⟨b', L, rfl, h2, _⟩ <;> rfl
set_option maxHeartbeats 4000000 in
theorem RS.meet {s0 s : St} {lv : V} {bl bo bt ob N : Nat} {W : List Nat} {out : List Bool} {todo : List Int} (H : RS s0 s lv bl bo bt ob N W out todo) (hlv : aM lv = some (.i (N : Nat))) (n : Int) (hl : todo.length ≤ 1000000) (d : Nat) :
 ∃ t F, (K (d + 1)).call 33 [.i n, .ptr bl 0, .ptr bo 0, .ptr bt 0] s = some (.bH [], t) ∧ RS s0 t lv bl bo bt ob N W (mO out n) (mT out todo n) ∧ Fr s t F ∧ ∀ b ∈ W, b ∉ F := by
 obtain ⟨tv, h1, h2, h3⟩ := H.ht;obtain ⟨e1, e2, e3, e4, e5, e6⟩ := H.ne;have hw := H.f.wf;have hN := H.n;have ll := cS (o := 0) hw H.hl pm;have lo := cS (o := 0) hw H.ho pm;have lt := cS (o := 0) hw h1 pm;simp only [List.getElem?_cons_zero] at ll lo lt;rw [afv];by_cases c0 : n ≥ 0
 · by_cases c1 : n < ((N : Nat) : Int)
   · obtain ⟨i, rfl⟩ : ∃ i : Nat, n = i := ⟨n.toNat, po⟩;have hi : i < out.length := po;have hx : out[i]? = some out[i] := List.getElem?_eq_getElem hi;have hm : (out.map V.bool)[i]? = some (.bool out[i]) := by rw [List.getElem?_map, hx]; rfl
     have ld := aK hw H.hb hm;have bi : aP 1 (.slice ob 0 N (some N) 1) (.i (i : Nat)) = some (.ptr ob i) := by rw [dL po po, Nat.zero_add, Int.toNat_natCast]
     cases hv : out[i] with
     | true =>
       rw [hv] at ld hx;refine ⟨s, [], ?_, ?_, Fr.refl hw _, pm⟩
       · simp -implicitDefEqProofs (disch := first|go_size|fail) only [go_sem, ll, lo, hlv, c0, c1, bi, ld]
       · unfold mO mT;rw [if_neg (by rw [Int.toNat_natCast, hx]; simp), if_neg (by rw [Int.toNat_natCast, hx]; simp)]
         exact H
     | false =>
       rw [hv] at ld hx;obtain ⟨s1, p1, c1', f1, n1⟩ := cC (s := s) (b := ob) (o := i) (v := .bool true) hw H.hb (by simpa using hi) rfl
       have ht1 := f1.cl hw h1 (by simp; exact e6)
       have lt1 := cS (o := 0) f1.wf ht1 pm;simp only [List.getElem?_cons_zero] at lt1;have g1' := h2.fr hw f1 (fun b hb => by simp; exact (h3 b hb).2.2.2.2.1)
       obtain ⟨s2, s3, q1, q2, g2', f2, n2⟩ := g1'.push f1.wf (x := .i (i : Nat)) rfl (by intro y hy; obtain ⟨w, _, rfl⟩ := List.mem_map.1 hy; rfl) (by rw [List.length_map]; omega)
       have hb1 := f1.cl hw H.hl (by simp; exact e3)
       have hb2 := f1.cl hw H.ho (by simp; exact e5)
       have vC := f2.cl f1.wf ht1 (fun hh => (h3 _ hh).2.2.2.1 rfl)
       obtain ⟨s4, p4, c4, f4, n4⟩ := cC (s := s3) (b := bt) (o := 0) (v := .slice (s1.next + 1) 0 ((todo.map V.i).length + 1) none 1) f2.wf vC pm rfl;have hbt := bQ hw h1;have hbl := bQ hw H.hl;have hbo := bQ hw H.ho;have hbb := bQ hw H.hb;have hf0 := H.f.nx;refine ⟨s4, ob :: bt :: aB tv, ?_, ?_, ((f1.mono pm).trans (f2.mono (fun j hj => .inl (by simp [hj])))).trans (f4.mono pm), fun b hb hf => ?_⟩
       · simp -implicitDefEqProofs (disch := first|go_size|fail) only [go_sem, ll, lo, hlv, c0, c1, bi, ld, p1, lt1, q1, q2, p4, List.length_map]
         first | done | (rw [List.length_map] at q2 p4; simp -implicitDefEqProofs (disch := first|go_size|fail) only [go_sem, ll, lo, hlv, c0, c1, bi, ld, p1, lt1, q1, q2, p4])
       · have hcond : 0 ≤ ((i : Nat) : Int) ∧ out[((i : Nat) : Int).toNat]? = some false := ⟨po, by rw [Int.toNat_natCast, hx]⟩
         unfold mO mT;rw [if_pos hcond, if_pos hcond, Int.toNat_natCast];have F2 := (H.f.trans' f1 (fun b hb => .inr (by simp at hb; subst hb; exact H.nx.2.2.2))).trans' f2 (fun b hb => .inr (h3 b hb).1)
         refine ⟨F2.trans' f4 (fun b hb => .inr (by simp at hb; subst hb; exact H.nx.2.2.1)), ?_, ?_, ?_, ⟨_, c4, ?_, ?_⟩, fun b hb => ?_, H.nx, H.ne, by rw [List.length_set]; exact hN⟩
         · exact f4.cl f2.wf (f2.cl f1.wf hb1 (fun hh => (h3 _ hh).2.1 rfl)) (by simp; exact e2)
         · exact f4.cl f2.wf (f2.cl f1.wf hb2 (fun hh => (h3 _ hh).2.2.1 rfl)) (by simp; exact e4)
         · rw [List.map_set];exact f4.cl f2.wf (f2.cl f1.wf c1' (fun hh => (h3 _ hh).2.2.2.2.1 rfl)) (by simp; exact fun h => e6 h.symm)
         · rw [List.map_append];exact (g2'.fr f2.wf f4 (fun b hb => by simp [aB] at hb; subst hb; simp; omega)).gp
         · intro b hb;simp [aB] at hb; subst hb;exact ⟨po, po, po, po, po, fun hh => by have := (H.w _ hh).1; omega⟩
         · have := H.w b hb;exact ⟨po, this.2⟩
       · have hwb := H.w b hb;simp only [List.mem_cons] at hf;rcases hf with hf | hf | hf
         · exact hwb.2.2 hf
         · exact hwb.2.1 hf
         · exact (h3 b hf).2.2.2.2.2 hb
   · refine ⟨s, [], ?_, ?_, Fr.refl hw _, pm⟩
     · simp -implicitDefEqProofs (disch := first|go_size|fail) only [go_sem, ll, lo, hlv, c0, c1]
     · have hx : out[n.toNat]? = none := List.getElem?_eq_none po;unfold mO mT;rw [if_neg (by rw [hx]; simp), if_neg (by rw [hx]; simp)]
       exact H
 · refine ⟨s, [], ?_, ?_, Fr.refl hw _, pm⟩
   · simp -implicitDefEqProofs (disch := first|go_size|fail) only [go_sem, ll, lo, hlv, c0]
   · unfold mO mT;rw [if_neg po, if_neg po];exact H
/-! ### Plain -/
def cp : List Int → List Int
 | [] => []
 | [x] => [x]
 | x :: y :: l => if x = y then cp (y :: l) else x :: cp (y :: l)
theorem yy : ∀ (l : List Int) (x : Int), cp (l ++ [x]) = if l.getLast? = some x then cp l else cp l ++ [x]
 | [], x => by simp [cp]
 | [a], x => by
   show (if a = x then cp [x] else a :: cp [x]) = _
   by_cases h : a = x
   · subst h; simp [cp]
   · simp [cp, h]
 | a :: b :: l, x => by
   show (if a = b then cp (b :: l ++ [x]) else a :: cp (b :: l ++ [x])) = _
   rw [yy (b :: l) x, List.getLast?_cons_cons];have e : cp (a :: b :: l) = if a = b then cp (b :: l) else a :: cp (b :: l) := rfl
   rw [e];by_cases h : a = b
   · rw [if_pos h, if_pos h]
   · rw [if_neg h, if_neg h];by_cases h2 : (b :: l).getLast? = some x
     · rw [if_pos h2, if_pos h2]
     · rw [if_neg h2, if_neg h2]; rfl
theorem yf {l : List Int} {i : Nat} {x y : Int} (hx : l[i]? = some x) (hy : l[i + 1]? = some y) : cp (l.take (i + 2)) = if y = x then cp (l.take (i + 1)) else cp (l.take (i + 1)) ++ [y] := by
 have h1 : l.take (i + 2) = l.take (i + 1) ++ [y] := by rw [List.take_succ (i := i + 1), hy]; rfl
 have h2 : (l.take (i + 1)).getLast? = some x := by rw [List.take_succ, hx]; simp
 rw [h1, yy, h2];by_cases h : y = x
 · subst h; rw [if_pos rfl, if_pos rfl]
 · rw [if_neg h, if_neg (fun e => h (by injection e with e; exact e.symm))]
theorem vp {l : List Int} (h : l.length < 2) : cp l = l := by
 match l, h with
 | [], _ => rfl
 | [x], _ => rfl
theorem qC {x : Int} : ∀ {l : List Int}, x ∈ cp l ↔ x ∈ l
 | [] => Iff.rfl
 | [y] => Iff.rfl
 | a :: b :: l => by
   show x ∈ (if a = b then cp (b :: l) else a :: cp (b :: l)) ↔ _
   by_cases h : a = b
   · subst h; rw [if_pos rfl, qC (l := a :: l)]; simp
   · rw [if_neg h, List.mem_cons, qC (l := b :: l)]; simp
theorem kW : ∀ {l : List Int}, l.Pairwise (· ≤ ·) → (cp l).Pairwise (· < ·)
 | [], _ => .nil
 | [y], _ => List.pairwise_singleton _ _
 | a :: b :: l, h => by
   obtain ⟨h1, h2⟩ := List.pairwise_cons.1 h;show (if a = b then cp (b :: l) else a :: cp (b :: l)).Pairwise _
   by_cases e : a = b
   · rw [if_pos e]; exact kW h2
   · rw [if_neg e];refine List.pairwise_cons.2 ⟨fun z hz => ?_, kW h2⟩
     rw [qC] at hz;have h3 := h1 b pm;rcases List.mem_cons.1 hz with rfl | hz
     · omega
     · have := (List.pairwise_cons.1 h2).1 z hz; omega
theorem Mf : ∀ (l : List Int), (cp l).length ≤ l.length
 | [] => Nat.le_refl _
 | [y] => Nat.le_refl _
 | a :: b :: l => by
   show (if a = b then cp (b :: l) else a :: cp (b :: l)).length ≤ _
   have := Mf (b :: l);split
   · simp at this ⊢; omega
   · simp at this ⊢; omega
def iv (b n : Nat) : V := .slice b 0 n none 1
def IP (s : St) (b : Nat) (l : List Int) : Prop := ∃ L, s.cl b = some L ∧ l.length ≤ L.length ∧ ∀ (i : Nat) x, l[i]? = some x → L[i]? = some (V.i x)
section
variable {s : St} {b : Nat} {l : List Int}
theorem IP.sl (hw : Wf s) (h : IP s b l) : SL s (iv b l.length) (l.map V.i) := by
 obtain ⟨L, h1, h2, h3⟩ := h;have := SL.of (l := l.map V.i) (c := none) (o := 0) hw h1 (by simpa using h2) (fun i hi => by
  rw [Nat.zero_add, List.getElem?_map];obtain ⟨x, hx⟩ : ∃ x, l[i]? = some x := ⟨_, List.getElem?_eq_getElem (by simpa using hi)⟩
  rw [h3 i x hx, hx]; rfl)
 rwa [List.length_map] at this
theorem IP.fr {s' : St} {F : List Nat} (h : IP s b l) (hw : Wf s) (f : Fr s s' F) (hb : b ∉ F) : IP s' b l := by
 obtain ⟨L, h1, h2⟩ := h;exact ⟨L, f.cl hw h1 hb, h2⟩
theorem IP.lt (hw : Wf s) (h : IP s b l) : b < s.next := by obtain ⟨L, h1, _⟩ := h; exact bQ hw h1
theorem Px (hw : Wf s) (h : IP s b l) (hl : l.length ≤ 100000000) {m : Nat} (hm : 1 ≤ m) : ∃ s', (K m).call 27 [iv b l.length] s = some (.bH [], s') ∧ IP s' b (fA l) ∧ Fr s s' [b] := by
 obtain ⟨d, rfl⟩ : ∃ d, m = d + 1 := ⟨m - 1, po⟩;have hp := (ey l).length_eq;have z : ∀ s', sB (iv b l.length) s = some (.bH [], s') → (K (d + 1)).call 27 [iv b l.length] s = some (.bH [], s') := fun s' hs => sg rfl hs
 by_cases c : l.length = 0
 · have : l = [] := List.eq_nil_of_length_eq_zero c;subst this;exact ⟨s, z s rfl, h, Fr.refl hw _⟩
 obtain ⟨L, h1, h2, h3⟩ := h;obtain ⟨xs, p1, p2, _⟩ := fl hw h1;obtain ⟨q1, q2, q3⟩ := uv (o := 0) (vs := (fA l).map V.i) hw h1 (by simp; omega)
 have hget := iI (l := L) (o := 0) (vs := (fA l).map V.i) (by simp; omega)
 refine ⟨_, z (s.st b 0 ((fA l).map V.i)) ?_, ⟨_, q1, ?_, fun i x hx => ?_⟩, q2⟩
 · have e : s.st b 0 ((fA l).map V.i) = s.put b (.cells L.length (gG xs 0 ((fA l).map V.i))) := by unfold St.st; rw [p1]
   rw [e];have hld : qA xs.get l.length 0 = some (l.map V.i) := jd pm (fun i hi => by
    obtain ⟨x, hx⟩ : ∃ x, l[i]? = some x := ⟨_, List.getElem?_eq_getElem hi⟩;rw [Nat.zero_add, p2 i po, h3 i x hx, List.getElem?_map, hx]; rfl)
   have hb : fC s b = some (L.length, xs) := by unfold fC; rw [p1]
   obtain ⟨n, hn⟩ : ∃ n, l.length = n + 1 := ⟨l.length - 1, po⟩;show (Bool.casesOn (motive := fun _ => Option (V × St)) (and (Nat.beq 1 1) (Nat.ble l.length 100000000)) none (Nat.casesOn (motive := fun _ => Option (V × St)) l.length (some (.bH [], s)) fun _ => match fC s b with
    | some (n, xs) => Bool.casesOn (motive := fun _ => Option (V × St)) (Nat.ble (Nat.add 0 l.length) n) none (match qA xs.get l.length 0 with
      | some vs => (match mN vs with
        | some l => some (.bH [], s.put b (.cells n (gG xs 0 ((fA l).map V.i))))
        | none => none)
      | none => none)
    | none => none)) = _
   rw [cF hl, hb];dsimp only
   rw [hld];dsimp only
   rw [rI];dsimp only
   rw [show Nat.add 0 l.length = l.length from Nat.zero_add _, cF h2, hn]
   rfl
 · rw [gF (by simp; omega), hp]; exact h2
 · have hi := (List.getElem?_eq_some_iff.1 hx).1;rw [hget, if_pos (by simp; omega), Nat.sub_zero, List.getElem?_map, hx]; rfl
end
set_option maxHeartbeats 8000000 in
theorem vN {s : St} {b : Nat} {l : List Int} (hw : Wf s) (h : IP s b l) (hl : l.length ≤ 100000) (d : Nat) : ∃ t, (K (d + 1)).call 28 [iv b l.length] s = some (iv b (cp l).length, t) ∧ IP t b (cp l) ∧ Fr s t [b] := by
 let Q : V → St → Prop := fun v t => v = iv b (cp l).length ∧ IP t b (cp l) ∧ Fr s t [b]
 suffices key : dg ((K (d + 1)).call 28 [iv b l.length] s) Q by
  obtain ⟨x, t, e, rfl, h2, h3⟩ := key;exact ⟨t, e, h2, h3⟩
 have hn : aM (iv b l.length) = some (.i (l.length : Nat)) := rfl;by_cases c0 : ((l.length : Nat) : Int) < 2
 · simp -implicitDefEqProofs (disch := first|go_size|fail) only [Qc, go_sem, hn, c0]
   have := vp (l := l) po;exact ⟨by rw [this], by rw [this]; exact h, Fr.refl hw _⟩
 obtain ⟨L, h1, h2, h3⟩ := h;simp -implicitDefEqProofs (disch := first|go_size|fail) only [Qc, go_sem, hn, c0]
 refine bf (Q := fun r => dg (aV _ (di (cL 0 r) _)) _) (fun q e t => ∃ k : Nat, q = l.length - k ∧ k + 1 ≤ l.length ∧ t = s ∧ cp (l.take (k + 1)) = l.take (k + 1) ∧ g0 e = iv b l.length ∧ g3 e = .i ((k + 1 : Nat) : Int)) ?_ (n := l.length) po ⟨0, po, po, rfl, vp (by rw [List.length_take]; omega), pt, pt⟩
 rintro q e t ⟨k, rfl, hk, rfl, hcp, i0, i3⟩;replace i0 : e.a0.a0 = _ := i0;replace i3 : e.a0.a3 = _ := i3;have em : ((k + 1 : Nat) : Int) - 1 = (k : Nat) := po;by_cases c : ((k + 1 : Nat) : Int) < ((l.length : Nat) : Int)
 rotate_left
 · have hk2 : k + 1 = l.length := po;rw [hk2, List.take_length] at hcp;simp -implicitDefEqProofs (disch := first|go_size|fail) only [go_sem, i0, i3, hn, c]
   exact ⟨by rw [hcp], by rw [hcp]; exact ⟨L, h1, h2, h3⟩, Fr.refl hw _⟩
 obtain ⟨x, hx⟩ : ∃ x, l[k]? = some x := ⟨_, List.getElem?_eq_getElem po⟩;obtain ⟨y, hy⟩ : ∃ y, l[k + 1]? = some y := ⟨_, List.getElem?_eq_getElem po⟩;have b1 : aP 1 (iv b l.length) (.i ((k + 1 : Nat) : Int)) = some (.ptr b (k + 1)) := by unfold iv; rw [dL po po, Nat.zero_add, Int.toNat_natCast]
 have b2 : aP 1 (iv b l.length) (.i ((k : Nat) : Int)) = some (.ptr b k) := by unfold iv; rw [dL po po, Nat.zero_add, Int.toNat_natCast]
 have r1 : cP (.ptr b (k + 1)) t = some (.i y) := aK hw h1 (h3 _ _ hy);have r2 : cP (.ptr b k) t = some (.i x) := aK hw h1 (h3 _ _ hx);have hnx := yf hx hy;by_cases e1 : y = x
 rotate_left
 · rw [if_neg e1] at hnx;simp -implicitDefEqProofs (disch := first|go_size|fail) only [go_sem, i0, i3, hn, c, em, b1, b2, r1, r2, e1]
   exact ⟨l.length - (k + 1), po, k + 1, rfl, po, pt, by rw [hnx, hcp, List.take_succ (i := k + 1), hy]; rfl, pt, pt⟩
 rw [if_pos e1] at hnx;have sl1 : oe 1 (iv b l.length) (some (.i ((k + 1 : Nat) : Int))) none none = some (.slice b (k + 1) (l.length - (k + 1)) none 1) := by
  unfold iv; rw [sM po po, Int.toNat_natCast, Nat.mul_one, Nat.zero_add]
 simp -implicitDefEqProofs (disch := first|go_size|fail) only [go_sem, i0, i3, hn, c, em, b1, b2, r1, r2, e1, eq_self, sl1]
 refine bf (Q := fun r => og (di (cL 1 (di (cL 2 r) _)) _) _ _) (fun q e u => ∃ (j i : Nat) (M : List V), q = l.length - (k + 1) - j ∧ k + 1 + j < l.length ∧ Fr t u [b] ∧ u.cl b = some M ∧ M.length = L.length ∧ (cp (l.take (k + j + 2))).length = i ∧ i ≤ k + 1 + j ∧ (∀ (q : Nat) x, (cp (l.take (k + j + 2)))[q]? = some x → M[q]? = some (.i x)) ∧ (∀ (q : Nat) x, k + 1 + j ≤ q → l[q]? = some x → M[q]? = some (.i x)) ∧ g0 e = iv b l.length ∧ g3 e = .i (i : Nat) ∧ g4 e = .slice b (k + 1) (l.length - (k + 1)) none 1 ∧ g5 e = .i ((j + 1 : Nat) : Int)) ?_ (n := l.length - (k + 1)) po ⟨0, k + 1, L, po, po, Fr.refl hw _, h1, rfl, by rw [Nat.add_zero, hnx, hcp, List.length_take]; omega, po, fun q x hq => ?_, fun q x _ hq => h3 q x hq, pt, pt, pt, pt⟩
 rotate_left
 · rw [Nat.add_zero, hnx, hcp, List.getElem?_take] at hq;split at hq
   · exact h3 q x hq
   · cases hq
 clear i0 i3 r1 r2 b1 b2;rintro q e u ⟨j, i, M, rfl, hj, fu, hM, hML, hi, hik, hpre, hpost, i0, i3, i4, i5⟩;replace i0 : e.a0.a0 = _ := i0;replace i3 : e.a0.a3 = _ := i3;replace i4 : e.a0.a4 = _ := i4;replace i5 : e.a0.a5 = _ := i5;have em2 : ((j + 1 : Nat) : Int) - 1 = (j : Nat) := po;have qL : aM (.slice b (k + 1) (l.length - (k + 1)) none 1) = some (.i ((l.length - (k + 1) : Nat) : Int)) := rfl;by_cases c2 : ((j + 1 : Nat) : Int) < ((l.length - (k + 1) : Nat) : Int)
 · obtain ⟨x1, hx1⟩ : ∃ x, l[k + 1 + j]? = some x := ⟨_, List.getElem?_eq_getElem po⟩;obtain ⟨y1, hy1⟩ : ∃ y, l[k + 1 + (j + 1)]? = some y := ⟨_, List.getElem?_eq_getElem po⟩;have b1 : aP 1 (.slice b (k + 1) (l.length - (k + 1)) none 1) (.i ((j + 1 : Nat) : Int)) = some (.ptr b (k + 1 + (j + 1))) := by rw [dL po po, Int.toNat_natCast]
   have b2 : aP 1 (.slice b (k + 1) (l.length - (k + 1)) none 1) (.i ((j : Nat) : Int)) = some (.ptr b (k + 1 + j)) := by rw [dL po po, Int.toNat_natCast]
   have r1 : cP (.ptr b (k + 1 + (j + 1))) u = some (.i y1) := aK fu.wf hM (hpost _ _ po hy1);have r2 : cP (.ptr b (k + 1 + j)) u = some (.i x1) := aK fu.wf hM (hpost _ _ po hx1);have hnx2 := yf (l := l) (i := k + 1 + j) hx1 hy1;rw [show k + 1 + j + 2 = k + (j + 1) + 2 by omega, show k + 1 + j + 1 = k + j + 2 by omega] at hnx2
   by_cases e2 : y1 = x1
   · rw [if_pos e2] at hnx2;simp -implicitDefEqProofs (disch := first|go_size|fail) only [go_sem, i0, i3, i4, i5, qL, c2, em2, b1, b2, r1, r2, e2, ne_eq, not_true, eq_self]
     exact ⟨l.length - (k + 1) - (j + 1), po, j + 1, i, M, rfl, po, fu, hM, hML, by rw [hnx2]; exact hi, po, by rw [hnx2]; exact hpre, fun q x hq => hpost q x po, pt, pt, pt, pt⟩
   · rw [if_neg e2] at hnx2;have b3 : aP 1 (iv b l.length) (.i ((i : Nat) : Int)) = some (.ptr b i) := by unfold iv; rw [dL po po, Nat.zero_add, Int.toNat_natCast]
     obtain ⟨u2, p1, cM, fM, _⟩ := cC (s := u) (b := b) (o := i) (v := .i y1) fu.wf hM po rfl;simp -implicitDefEqProofs (disch := first|go_size|fail) only [go_sem, i0, i3, i4, i5, qL, c2, em2, b1, b2, b3, r1, r2, e2, ne_eq, not_false_eq_true, p1]
     refine ⟨l.length - (k + 1) - (j + 1), po, j + 1, i + 1, M.set i (.i y1), rfl, po, fu.trans fM, cM, by rw [List.length_set]; exact hML, by rw [hnx2, List.length_append, hi]; rfl, po, fun q x hq => ?_, fun q x hq hx' => ?_, pt, pt, pt, pt⟩
     · rw [hnx2, List.getElem?_append, hi] at hq;rw [List.getElem?_set];split at hq
       · rw [if_neg po]; exact hpre q x hq
       · rename_i hqi;have hq0 : q - i = 0 := by
          have := (List.getElem?_eq_some_iff.1 hq).1;simp at this; omega
         rw [hq0] at hq;simp at hq;rw [if_pos po, if_pos po, hq]
     · rw [List.getElem?_set, if_neg po]; exact hpost q x po hx'
 · have hje : k + 1 + j + 1 = l.length := po;have hfull : cp (l.take (k + j + 2)) = cp l := by rw [show k + j + 2 = l.length by omega, List.take_length]
   rw [hfull] at hi hpre;have sl2 : oe 1 (iv b l.length) (some (.i ((i : Nat) : Int))) none none = some (.slice b i (l.length - i) none 1) := by
    unfold iv; rw [sM po po, Int.toNat_natCast, Nat.mul_one, Nat.zero_add]
   have sl3 : oe 1 (iv b l.length) none (some (.i ((i : Nat) : Int))) none = some (iv b i) := by
    unfold iv; rw [lV po po, Int.toNat_natCast]
   obtain ⟨u2, p1, cM, fM, _⟩ := sI (s := u) (b := b) (z := .i 0) (o := i) (len := l.length - i) (c := none) (es := 1) fu.wf hM po;simp -implicitDefEqProofs (disch := first|go_size|fail) only [go_sem, i0, i3, i4, i5, qL, c2, sl2, sl3, p1]
   refine ⟨by rw [hi], ⟨_, cM, ?_, fun q x hq => ?_⟩, fu.trans fM⟩
   · rw [gF (by simp; omega)]; omega
   · have := (List.getElem?_eq_some_iff.1 hq).1;rw [iI (by simp; omega), if_neg (by simp; omega)]; exact hpre q x hq
theorem yg : fok.get 26 = some true := (rfl)
def rL (N : Nat) (n : Int) : Bool := decide (0 ≤ n) && decide (n < N)
def kp (N : Nat) (l : List Int) : List Int := l.filter (rL N)
theorem kN {N : Nat} {n : Int} : rL N n = true ↔ 0 ≤ n ∧ n < N := by unfold rL; simp
theorem Sj {s : St} (hw : Wf s) {bl N : Nat} {lv : V} (hb : s.cl bl = some [lv]) (hlv : aM lv = some (.i (N : Nat))) (n : Int) (d : Nat) : (K (d + 1)).call 26 [.i n, .ptr bl 0] s = some (.bool (!rL N n), s) := by
 have ld := cS (o := 0) hw hb pm;simp only [List.getElem?_cons_zero] at ld;by_cases c0 : n < 0
 · have : rL N n = false := by unfold rL; simp; omega
   rw [this];simp -implicitDefEqProofs (disch := first|go_size|fail) only [aaS, go_sem, ld, hlv, c0]
 · by_cases c1 : n ≥ ((N : Nat) : Int)
   · have : rL N n = false := by unfold rL; simp; omega
     rw [this];simp -implicitDefEqProofs (disch := first|go_size|fail) only [aaS, go_sem, ld, hlv, c0, c1]
   · have : rL N n = true := by rw [kN]; omega
     rw [this];simp -implicitDefEqProofs (disch := first|go_size|fail) only [aaS, go_sem, ld, hlv, c0, c1]
theorem afa {s : St} (hw : Wf s) {b bl N : Nat} {l : List Int} {lv : V} (h : IP s b l) (hb : s.cl bl = some [lv]) (hlv : aM lv = some (.i (N : Nat))) (hl : l.length ≤ 100000) (d : Nat) :
 ∃ r : Int, (K (d + 2)).call 45 [iv b l.length, .func 26 [] [.ptr bl 0]] s = some (.i r, s) ∧ ((r = -1 ∧ kp N l = l) ∨ ∃ i : Nat, r = i ∧ i < l.length ∧ kp N (l.take (i + 1)) = l.take i) := by
 have key : dg ((K (d + 2)).call 45 [iv b l.length, .func 26 [] [.ptr bl 0]] s) fun x t => ∃ r : Int, x = .i r ∧ t = s ∧ ((r = -1 ∧ kp N l = l) ∨ ∃ i : Nat, r = i ∧ i < l.length ∧ kp N (l.take (i + 1)) = l.take i) := by
  have hn : aM (iv b l.length) = some (.i (l.length : Nat)) := rfl;simp -implicitDefEqProofs (disch := first|go_size|fail) only [afG, go_sem, hn]
  refine bf (Q := fun r => dg (aV _ (di (cL 0 r) _)) _) (fun q e t => ∃ k : Nat, q = l.length - k ∧ k ≤ l.length ∧ t = s ∧ kp N (l.take k) = l.take k ∧ g0 e = iv b l.length ∧ g1 e = .func 26 [] [.ptr bl 0] ∧ g7 e = .i (l.length : Nat) ∧ g8 e = .i (k : Nat)) ?_ (n := l.length) po ⟨0, po, po, rfl, rfl, pt, pt, pt, pt⟩
  rintro q e t ⟨k, rfl, hk, rfl, hp, i0, i1, i7, i8⟩;replace i0 : e.a0.a0 = _ := i0;replace i1 : e.a0.a1 = _ := i1;replace i7 : e.a0.a7 = _ := i7;replace i8 : e.a0.a8 = _ := i8;by_cases c : (k : Int) < ((l.length : Nat) : Int)
  · obtain ⟨x, hx⟩ : ∃ x, l[k]? = some x := ⟨_, List.getElem?_eq_getElem po⟩;obtain ⟨q, a1, a2⟩ := (h.sl hw).at hw (j := k) (x := .i x) (by rw [List.getElem?_map, hx]; rfl)
    have cl := Sj hw hb hlv x d;have ht : l.take (k + 1) = l.take k ++ [x] := by rw [List.take_succ, hx]; rfl
    cases ho : rL N x with
    | false =>
      rw [ho] at cl;simp -implicitDefEqProofs (disch := first|go_size|fail) only [go_sem, i0, i1, i7, i8, c, a1, a2, cY, eO yg, List.nil_append, List.cons_append, cl]
      exact ⟨_, rfl, pt, .inr ⟨k, rfl, po, by rw [ht]; unfold kp at hp ⊢; rw [List.filter_append, hp]; simp [ho]⟩⟩
    | true =>
      rw [ho] at cl;simp -implicitDefEqProofs (disch := first|go_size|fail) only [go_sem, i0, i1, i7, i8, c, a1, a2, cY, eO yg, List.nil_append, List.cons_append, cl]
      exact ⟨l.length - (k + 1), po, k + 1, rfl, po, pt, by rw [ht]; unfold kp at hp ⊢; rw [List.filter_append, hp]; simp [ho], pt, pt, pt, pt⟩
  · have : k = l.length := po;subst this;rw [List.take_length] at hp;simp -implicitDefEqProofs (disch := first|go_size|fail) only [go_sem, i0, i1, i7, i8, c]
    exact ⟨_, rfl, pt, .inl ⟨rfl, hp⟩⟩
 obtain ⟨x, t, e, r, rfl, rfl, h1⟩ := key;exact ⟨r, e, h1⟩
set_option maxHeartbeats 8000000 in
theorem ab_ {s : St} (hw : Wf s) {b bl N : Nat} {l : List Int} {lv : V} (h : IP s b l) (hb : s.cl bl = some [lv]) (hne : bl ≠ b) (hlv : aM lv = some (.i (N : Nat))) (hl : l.length ≤ 100000) (d : Nat) :
 ∃ t, (K (d + 3)).call 25 [iv b l.length, .func 26 [] [.ptr bl 0]] s = some (iv b (kp N l).length, t) ∧ IP t b (kp N l) ∧ Fr s t [b] := by
 let Q : V → St → Prop := fun v t => v = iv b (kp N l).length ∧ IP t b (kp N l) ∧ Fr s t [b]
 suffices key : dg ((K (d + 3)).call 25 [iv b l.length, .func 26 [] [.ptr bl 0]] s) Q by
  obtain ⟨x, t, e, rfl, h2, h3⟩ := key;exact ⟨t, e, h2, h3⟩
 have hn : aM (iv b l.length) = some (.i (l.length : Nat)) := rfl;obtain ⟨r, e50, hr⟩ := afa hw h hb hlv hl d;rcases hr with ⟨rfl, hk⟩ | ⟨i0_, rfl, hi0, hk0⟩
 · simp -implicitDefEqProofs (disch := first|go_size|fail) only [aeW, go_sem, e50, eq_self]
   exact ⟨by rw [hk], by rw [hk]; exact h, Fr.refl hw _⟩
 have hc0 : ¬ ((i0_ : Nat) : Int) = -1 := po;obtain ⟨L, h1, h2, h3⟩ := h;simp -implicitDefEqProofs (disch := first|go_size|fail) only [aeW, go_sem, e50, hc0]
 refine bf (Q := fun r => dg (aV _ (di (cL 0 r) _)) _) (fun q e u => ∃ (j i : Nat) (M : List V), q = l.length - j ∧ j ≤ l.length ∧ i < j ∧ Fr s u [b] ∧ u.cl b = some M ∧ M.length = L.length ∧ (kp N (l.take j)).length = i ∧ (∀ (q : Nat) x, (kp N (l.take j))[q]? = some x → M[q]? = some (.i x)) ∧ (∀ (q : Nat) x, j ≤ q → l[q]? = some x → M[q]? = some (.i x)) ∧ g0 e = iv b l.length ∧ g1 e = .func 26 [] [.ptr bl 0] ∧ g5 e = .i (i : Nat) ∧ g6 e = .i (j : Nat)) ?_ (n := l.length - (i0_ + 1)) po ⟨i0_ + 1, i0_, L, po, po, po, Fr.refl hw _, h1, rfl, by rw [hk0, List.length_take]; omega, fun q x hq => ?_, fun q x _ hq => h3 q x hq, pt, pt, pt, pt⟩
 rotate_left
 · rw [hk0, List.getElem?_take] at hq;split at hq
   · exact h3 q x hq
   · cases hq
 rintro q e u ⟨j, i, M, rfl, hj, hij, fu, hM, hML, hi, hpre, hpost, i0, i1, i5, i6⟩;replace i0 : e.a0.a0 = _ := i0;replace i1 : e.a0.a1 = _ := i1;replace i5 : e.a0.a5 = _ := i5;replace i6 : e.a0.a6 = _ := i6;by_cases c : (j : Int) < ((l.length : Nat) : Int)
 · obtain ⟨x, hx⟩ : ∃ x, l[j]? = some x := ⟨_, List.getElem?_eq_getElem po⟩;have b1 : aP 1 (iv b l.length) (.i ((j : Nat) : Int)) = some (.ptr b j) := by unfold iv; rw [dL po po, Nat.zero_add, Int.toNat_natCast]
   have b2 : aP 1 (iv b l.length) (.i ((i : Nat) : Int)) = some (.ptr b i) := by unfold iv; rw [dL po po, Nat.zero_add, Int.toNat_natCast]
   have r1 : cP (.ptr b j) u = some (.i x) := aK fu.wf hM (hpost _ _ po hx);have cl := Sj fu.wf (fu.cl hw hb (by simpa using hne)) hlv x (d + 1)
   have ht : l.take (j + 1) = l.take j ++ [x] := by rw [List.take_succ, hx]; rfl
   cases ho : rL N x with
   | false =>
     rw [ho] at cl;have hk : kp N (l.take (j + 1)) = kp N (l.take j) := by rw [ht]; unfold kp; rw [List.filter_append]; simp [ho]
     simp -implicitDefEqProofs (disch := first|go_size|fail) only [go_sem, i0, i1, i5, i6, hn, c, b1, r1, cY, eO yg, List.nil_append, List.cons_append, cl]
     exact ⟨l.length - (j + 1), po, j + 1, i, M, rfl, po, po, fu, hM, hML, by rw [hk]; exact hi, by rw [hk]; exact hpre, fun q x hq => hpost q x po, pt, pt, pt, pt⟩
   | true =>
     rw [ho] at cl;have hk : kp N (l.take (j + 1)) = kp N (l.take j) ++ [x] := by rw [ht]; unfold kp; rw [List.filter_append]; simp [ho]
     obtain ⟨u2, p1, cM, fM, _⟩ := cC (s := u) (b := b) (o := i) (v := .i x) fu.wf hM po rfl;simp -implicitDefEqProofs (disch := first|go_size|fail) only [go_sem, i0, i1, i5, i6, hn, c, b1, b2, r1, cY, eO yg, List.nil_append, List.cons_append, cl, p1]
     refine ⟨l.length - (j + 1), po, j + 1, i + 1, M.set i (.i x), rfl, po, po, fu.trans fM, cM, by rw [List.length_set]; exact hML, by rw [hk, List.length_append, hi]; rfl, fun q z hq => ?_, fun q z hq hz => ?_, pt, pt, pt, pt⟩
     · rw [hk, List.getElem?_append, hi] at hq;rw [List.getElem?_set];split at hq
       · rw [if_neg po]; exact hpre q z hq
       · have hq0 : q - i = 0 := by
          have := (List.getElem?_eq_some_iff.1 hq).1;simp at this; omega
         rw [hq0] at hq;simp at hq;rw [if_pos po, if_pos po, hq]
     · rw [List.getElem?_set, if_neg po]; exact hpost q z po hz
 · have : j = l.length := po;subst this;rw [List.take_length] at hi hpre;have sl2 : oe 1 (iv b l.length) (some (.i ((i : Nat) : Int))) none none = some (.slice b i (l.length - i) none 1) := by
    unfold iv; rw [sM po po, Int.toNat_natCast, Nat.mul_one, Nat.zero_add]
   have sl3 : oe 1 (iv b l.length) none (some (.i ((i : Nat) : Int))) none = some (iv b i) := by
    unfold iv; rw [lV po po, Int.toNat_natCast]
   obtain ⟨u2, p1, cM, fM, _⟩ := sI (s := u) (b := b) (z := .i 0) (o := i) (len := l.length - i) (c := none) (es := 1) fu.wf hM po;simp -implicitDefEqProofs (disch := first|go_size|fail) only [go_sem, i0, i1, i5, i6, hn, c, sl2, sl3, p1]
   refine ⟨by rw [hi], ⟨_, cM, ?_, fun q x hq => ?_⟩, fu.trans fM⟩
   · rw [gF (by simp; omega)]; omega
   · have := (List.getElem?_eq_some_iff.1 hq).1;rw [iI (by simp; omega), if_neg (by simp; omega)]; exact hpre q x hq
theorem aew (x : Int) (s : St) (d : Nat) : (K (d + 1)).call 49 [.i x] s = some (.bool false, s) := by
 simp -implicitDefEqProofs (disch := first|go_size|fail) only [ag6, go_sem, eq_self]
 first | done | rfl
theorem Zf (x y : Int) (s : St) (d : Nat) : (K (d + 2)).call 48 [.i x, .i y] s = some (.bool (decide (x < y)), s) := by
 have e1 := KK x s d;simp -implicitDefEqProofs (disch := first|go_size|fail) only [afZ, go_sem, e1]
 first | done | rfl
set_option maxHeartbeats 4000000 in
theorem Fw {s : St} (hw : Wf s) {v : V} {l : List Int} (h : SL s v (l.map V.i)) (hs : l.Pairwise (· < ·)) (hl : l.length ≤ 100000) (a : Int) (d : Nat) :
 ∃ (i : Int) (ok : Bool), (K (d + 3)).call 30 [v, .i a] s = some (.bH [.i i, .bool ok], s) ∧ ((ok = true ∧ ∃ k : Nat, i = k ∧ l[k]? = some a) ∨ (ok = false ∧ a ∉ l)) := by
 have hlen := h.len;rw [List.length_map] at hlen;have lt : ∀ (i j : Nat) (x y : Int), i < j → l[i]? = some x → l[j]? = some y → x < y := fun i j x y hij hx hy => by
  obtain ⟨q1, q2⟩ := List.getElem?_eq_some_iff.1 hx;obtain ⟨q3, q4⟩ := List.getElem?_eq_some_iff.1 hy;have := List.pairwise_iff_getElem.1 hs i j q1 q3 hij;omega
 have key : dg ((K (d + 3)).call 30 [v, .i a] s) fun r t => ∃ (i : Int) (ok : Bool), r = .bH [.i i, .bool ok] ∧ t = s ∧ ((ok = true ∧ ∃ k : Nat, i = k ∧ l[k]? = some a) ∨ (ok = false ∧ a ∉ l)) := by
  simp -implicitDefEqProofs (disch := first|go_size|fail) only [afO, go_sem, hlen]
  refine bf (Q := fun r => dg (aV _ (di (cL 0 r) _)) _) (fun q e t => ∃ i j : Nat, q = j - i ∧ i ≤ j ∧ j ≤ l.length ∧ t = s ∧ (∀ (k : Nat) (y : Int), k < i → l[k]? = some y → y < a) ∧ (∀ (k : Nat) (y : Int), j ≤ k → l[k]? = some y → a ≤ y) ∧ g0 e = v ∧ g1 e = .i a ∧ g6 e = .i (l.length : Nat) ∧ g7 e = .i i ∧ g8 e = .i j) ?_ (n := l.length) po ⟨0, l.length, po, po, po, rfl, fun k y hk => by omega, fun k y hk hy => by have := (List.getElem?_eq_some_iff.1 hy).1; omega, pt, pt, pt, pt, pt⟩
  rintro q e t ⟨i, j, rfl, hij, hj, rfl, hlo, hhi, i0, i1, i6, i7, i8⟩;replace i0 : e.a0.a0 = _ := i0;replace i1 : e.a0.a1 = _ := i1;replace i6 : e.a0.a6 = _ := i6;replace i7 : e.a0.a7 = _ := i7;replace i8 : e.a0.a8 = _ := i8;by_cases c : (i : Int) < (j : Nat)
  · have e1 : ((i : Int) + j) / 2 = (((i + j) / 2 : Nat) : Int) := po;have hs := aeD (a := (i : Int) + j) po po;rw [e1] at hs;have hc := adp (a := (((i + j) / 2 : Nat) : Int)) po po;obtain ⟨m, hm⟩ : ∃ m, (i + j) / 2 = m := ⟨_, rfl⟩;rw [hm] at hs hc;have hmi : i ≤ m ∧ m < j := po;obtain ⟨y, hy⟩ : ∃ y, l[m]? = some y := ⟨_, List.getElem?_eq_getElem po⟩;obtain ⟨q, a1, a2⟩ := h.at hw (j := m) (x := .i y) (by rw [List.getElem?_map, hy]; rfl)
    have e2 := Zf y a t d;by_cases cy : y < a
    · simp -implicitDefEqProofs (disch := first|go_size|fail) only [go_sem, i0, i1, i6, i7, i8, c, hs, hc, a1, a2, e2, cy]
      exact ⟨j - (m + 1), po, m + 1, j, rfl, po, hj, pt, fun k z hk hz => by
       by_cases ek : k = m
       · subst ek; rw [hy] at hz; cases hz; exact cy
       · have := lt k m z y po hz hy; omega, hhi, pt, pt, pt, pt, pt⟩
    · simp -implicitDefEqProofs (disch := first|go_size|fail) only [go_sem, i0, i1, i6, i7, i8, c, hs, hc, a1, a2, e2, cy]
      exact ⟨m - i, po, i, m, rfl, po, po, pt, hlo, fun k z hk hz => by
       by_cases ek : k = m
       · subst ek; rw [hy] at hz; cases hz; omega
       · have := lt m k y z po hy hz; omega, pt, pt, pt, pt, pt⟩
  · have hij' : i = j := po;subst hij';by_cases cl : (i : Int) < ((l.length : Nat) : Int)
    · obtain ⟨y, hy⟩ : ∃ y, l[i]? = some y := ⟨_, List.getElem?_eq_getElem po⟩;obtain ⟨q, a1, a2⟩ := h.at hw (j := i) (x := .i y) (by rw [List.getElem?_map, hy]; rfl)
      have n1 := aew y t (d + 1);by_cases cy : y = a
      · simp -implicitDefEqProofs (disch := first|go_size|fail) only [go_sem, i0, i1, i6, i7, i8, c, cl, a1, a2, cy, eq_self]
        exact ⟨_, _, rfl, pt, .inl ⟨rfl, i, rfl, by rw [hy, cy]⟩⟩
      · simp -implicitDefEqProofs (disch := first|go_size|fail) only [go_sem, i0, i1, i6, i7, i8, c, cl, a1, a2, cy, n1]
        refine ⟨_, _, rfl, pt, .inr ⟨rfl, fun hm => ?_⟩⟩
        obtain ⟨k, hk⟩ := List.getElem?_of_mem hm;rcases Nat.lt_trichotomy k i with h1 | h1 | h1
        · have := hlo k a h1 hk; omega
        · subst h1; rw [hy] at hk; cases hk; exact cy rfl
        · have h2 := lt i k y a h1 hy hk;have h3 := hhi i y (Nat.le_refl _) hy; omega
    · simp -implicitDefEqProofs (disch := first|go_size|fail) only [go_sem, i0, i1, i6, i7, i8, c, cl]
      refine ⟨_, _, rfl, pt, .inr ⟨rfl, fun hm => ?_⟩⟩
      obtain ⟨k, hk⟩ := List.getElem?_of_mem hm;have := (List.getElem?_eq_some_iff.1 hk).1;have := hlo k a po hk; omega
 obtain ⟨r, t, e1, i, ok, rfl, rfl, h3⟩ := key;exact ⟨i, ok, e1, h3⟩
def eU (l : List In) (n : Nat) (x : In) : List Int := (if gU x.op = true then [bh l x.a] else []) ++ (if (gU x.op || eN x.op) = true then [((n + 1 : Nat) : Int)] else [])
def gK (l : List In) : List In → Nat → List Int
 | [], _ => []
 | x :: r, n => eU l n x ++ gK l r (n + 1)
theorem nA (l : List In) (x : In) : ∀ (r : List In) (n : Nat), gK l (r ++ [x]) n = gK l r n ++ eU l (n + r.length) x
 | [], n => by simp [gK]
 | y :: r, n => by
   show eU l n y ++ gK l (r ++ [x]) (n + 1) = _;rw [nA l x r (n + 1), ← List.append_assoc];have : n + 1 + r.length = n + (y :: r).length := by simp; omega
   rw [this]; rfl
theorem yO (l : List In) (n : Nat) (x : In) : (eU l n x).length ≤ 2 := by unfold eU; rw [List.length_append]; split <;> split <;> simp
theorem qj (l : List In) : ∀ (r : List In) (n : Nat), (gK l r n).length ≤ 2 * r.length
 | [], n => by simp [gK]
 | y :: r, n => by
   have := qj l r (n + 1);have := yO l n y;simp only [gK, List.length_append, List.length_cons]; omega
theorem vi {l : List In} {z : Int} : ∀ {r : List In} {n : Nat}, z ∈ gK l r n ↔ ∃ (i : Nat) (x : In), r[i]? = some x ∧ z ∈ eU l (n + i) x
 | [], n => by simp [gK]
 | y :: r, n => by
   show z ∈ eU l n y ++ gK l r (n + 1) ↔ _;rw [List.mem_append, vi (r := r)];constructor
   · rintro (h | ⟨i, x, hx, hz⟩)
     · exact ⟨0, y, rfl, h⟩
     · exact ⟨i + 1, x, by simpa using hx, by rwa [show n + (i + 1) = n + 1 + i by omega]⟩
   · rintro ⟨i, x, hx, hz⟩;cases i with
     | zero => simp at hx; subst hx; exact .inl hz
     | succ i => exact .inr ⟨i, x, by simpa using hx, by rwa [show n + 1 + i = n + (i + 1) by omega]⟩
def iO (l : List In) (y : Hd) : List Int := [bh l y.at_, bh l y.from_, bh l y.mw]
def FU (l : List In) (hs : List Hd) : List Int := 0 :: gK l l 0 ++ hs.flatMap (iO l)
def LL (l : List In) (hs : List Hd) : List Int := cp (fA (kp l.length (FU l hs)))
theorem BU {l : List In} {hs : List Hd} {z : Int} : z ∈ LL l hs ↔ z ∈ FU l hs ∧ 0 ≤ z ∧ z < (l.length : Nat) := by
 unfold LL kp;rw [qC, (ey _).mem_iff, List.mem_filter, kN]
theorem Br (l : List In) (hs : List Hd) : (LL l hs).Pairwise (· < ·) := kW (iN _)
theorem NC {l : List In} {hs : List Hd} {k : Nat} {f : Int} (h : (LL l hs)[k]? = some f) : 0 ≤ f ∧ f < (l.length : Nat) := (BU.1 (List.mem_of_getElem? h)).2
theorem w_ {Ls : List Int} (hs : Ls.Pairwise (· < ·)) {i j : Nat} {x y : Int} (h : i < j) (hx : Ls[i]? = some x) (hy : Ls[j]? = some y) : x < y := by
 obtain ⟨q1, q2⟩ := List.getElem?_eq_some_iff.1 hx;obtain ⟨q3, q4⟩ := List.getElem?_eq_some_iff.1 hy;have := List.pairwise_iff_getElem.1 hs i j q1 q3 h;omega
def fi (Ls : List Int) (a : Int) : Option Nat := Ls.findIdx? fun m => decide (m = a)
theorem xq {Ls : List Int} (hs : Ls.Pairwise (· < ·)) {k : Nat} {a : Int} (h : Ls[k]? = some a) : fi Ls a = some k := by
 obtain ⟨q1, q2⟩ := List.getElem?_eq_some_iff.1 h;unfold fi; rw [List.findIdx?_eq_some_iff_getElem];refine ⟨q1, by rw [q2]; simp, fun j hj => ?_⟩
 have := w_ hs hj (List.getElem?_eq_getElem po) h;simp; omega
theorem Pd {Ls : List Int} {a : Int} (h : a ∉ Ls) : fi Ls a = none := by
 unfold fi; rw [List.findIdx?_eq_none_iff];intro x hx;simp; rintro rfl; exact h hx
def ixs (Ls ns : List Int) : List Int := ns.filterMap fun n => (fi Ls n).map fun i => (i : Int)
theorem qJ (Ls ns : List Int) (n : Int) : ixs Ls (ns ++ [n]) = ixs Ls ns ++ (match fi Ls n with | some i => [(i : Int)] | none => []) := by
 unfold ixs; rw [List.filterMap_append];cases h : fi Ls n <;> simp [h]
theorem tU (Ls ns : List Int) : (ixs Ls ns).length ≤ ns.length := by unfold ixs; exact List.length_filterMap_le _ _
def ja (l : List In) (Ls : List Int) (k : Nat) : Int := match Ls[k + 1]? with | some x => x | none => (l.length : Nat)
def AP (s : St) (v : V) (l : List Int) : Prop := (l = [0] ∧ ∃ b, v = .slice b 0 1 (some 1) 1 ∧ s.cl b = some [.i 0]) ∨ ∃ b, v = iv b l.length ∧ s.cl b = some (l.map V.i)
section
variable {s : St} {v : V} {l : List Int}
theorem AP.fr {s' : St} {F : List Nat} (h : AP s v l) (hw : Wf s) (f : Fr s s' F) (hd : ∀ b ∈ aB v, b ∉ F) : AP s' v l := by
 rcases h with ⟨h1, b, rfl, h2⟩ | ⟨b, rfl, h2⟩
 · exact .inl ⟨h1, b, rfl, f.cl hw h2 (hd b (by simp [aB]))⟩
 · exact .inr ⟨b, rfl, f.cl hw h2 (hd b (by simp [iv, aB]))⟩
theorem AP.lt (h : AP s v l) (hw : Wf s) : ∀ b ∈ aB v, b < s.next := by
 rcases h with ⟨h1, b, rfl, h2⟩ | ⟨b, rfl, h2⟩
 · intro x hx; simp [aB] at hx; subst hx; exact bQ hw h2
 · intro x hx; simp [iv, aB] at hx; subst hx; exact bQ hw h2
theorem AP.push {n : Nat} {xs : List Int} (hw : Wf s) (h : AP s v l) (hn : xs.length = n) (h0 : 0 < n) (hn2 : n ≤ 100) (hl : l.length ≤ 1000000) :
 ∃ s1 s2, s.new (.cells n (cK (xs.map V.i))) = s1 ∧ xM 1 v (.slice s.next 0 n (some n) 1) s1 = some (iv (s.next + 1) (l.length + n), s2) ∧ AP s2 (iv (s.next + 1) (l.length + n)) (l ++ xs) ∧ Fr s s2 (aB v) ∧ s2.next = s.next + 2 := by
 obtain ⟨s1, k1, c1, f1, n1⟩ := bu (s := s) (l := xs.map V.i) (n := n) hw (by simp [hn])
 have hy : Src s1 1 (.slice s.next 0 n (some n) 1) n (xs.map V.i) := Src.full f1.wf c1 (by simp [hn]) (by intro y hy; obtain ⟨w, _, rfl⟩ := List.mem_map.1 hy; rfl) po
 rcases h with ⟨rfl, b, rfl, h2⟩ | ⟨b, rfl, h2⟩
 · obtain ⟨s2, p1, c2, f2, n2⟩ := Gn (s := s1) (b := b) (o := 0) (len := 1) (c := 1) (es := 1) f1.wf hy h0 po po (f1.cl hw h2 pm) pm;rw [n1] at p1 c2;refine ⟨s1, s2, k1, p1, .inr ⟨s.next + 1, by rw [List.length_append, hn], by rw [c2]; simp⟩, (f1.mono pm).trans (f2.mono pm), po⟩
 · obtain ⟨s2, p1, c2, f2, n2⟩ := mY (s := s1) (b := b) (o := 0) (len := l.length) (es := 1) f1.wf hy h0 po (f1.cl hw h2 pm) pm;rw [n1] at p1 c2;refine ⟨s1, s2, k1, p1, .inr ⟨s.next + 1, by rw [List.length_append, hn], by rw [c2, List.drop_zero, List.take_of_length_le pm]; simp⟩, (f1.mono pm).trans (f2.mono (by simp [iv, aB])), po⟩
end
theorem Om : fok.get 33 = some true := (rfl)
theorem RN.aee {es : Nat} {s : St} {v : V} {l : List (List V)} (h : RN es s v l) : v.one = true := by rcases h.2 with ⟨_, rfl | ⟨b, o, c, rfl⟩⟩ | ⟨b, o, c, n, f, rfl, _⟩ <;> rfl
set_option maxHeartbeats 16000000 in
theorem OR {s : St} (hw : Wf s) {v hv : V} {l : List In} {hs : List Hd} (h : RN 4 s v (l.map In.cells)) (L : Ll l) (hh : RN 4 s hv (hs.map Hd.cells)) (hhl : hs.length ≤ 100000) {m : Nat} (hm : 9 ≤ m) :
 ∃ t rv out, (K m).call 11 [v, hv] s = some (rv, t) ∧ Fr s t [] ∧ SL t rv (out.map V.bool) ∧ RJ l hs (-1) out [] ∧ Mk out 0 := by
 obtain ⟨d, rfl⟩ : ∃ d, m = d + 2 := ⟨m - 2, po⟩;have hl := L.len;have ln := h.len;rw [List.length_map] at ln;have lh := hh.len;rw [List.length_map] at lh;have hv1 := h.aee;let Q : V → St → Prop := fun rv t => ∃ out, Fr s t [] ∧ SL t rv (out.map V.bool) ∧ RJ l hs (-1) out [] ∧ Mk out 0
 suffices key : dg ((K (d + 2)).call 11 [v, hv] s) Q by
  obtain ⟨x, t, e, out, h1⟩ := key;exact ⟨t, x, out, e, h1⟩
 obtain ⟨s1, k1, c1, f1, n1⟩ := bu (s := s) (l := [v]) (n := 1) hw rfl;obtain ⟨s2, k2, c2, f2, n2⟩ := bu (s := s1) (l := List.replicate l.length (V.bool false)) (n := l.length) f1.wf pm;obtain ⟨s3, k3, c3, f3, n3⟩ := bu (s := s2) (l := [V.ay]) (n := 1) f2.wf rfl;obtain ⟨s4, p4, c4, f4, n4⟩ := cC (s := s3) (b := s2.next) (o := 0) (v := .slice s1.next 0 l.length (some l.length) 1) f3.wf c3 pm rfl;obtain ⟨s5, k5, c5, f5, n5⟩ := bu (s := s4) (l := [V.ay]) (n := 1) f4.wf rfl;have F5 : Fr s s5 [] := (((f1.trans f2).trans f3).trans' f4 (fun b hb => .inr (by simp at hb; omega))).trans f5
 have R0 : RS s s5 v s.next s2.next s4.next s1.next l.length [] (List.replicate l.length false) [] := by
  refine ⟨F5, ?_, ?_, ?_, ⟨.ay, c5, .inl ⟨rfl, rfl⟩, by simp [aB]⟩, pm, ⟨po, po, po, po⟩, ⟨po, po, po, po, po, po⟩, pm⟩
  · exact f5.cl f4.wf (f4.cl f3.wf (f3.cl f2.wf (f2.cl f1.wf c1 pm) pm) (by simp; omega)) pm
  · have := f5.cl f4.wf c4 pm
    simpa using this
  · have := f5.cl f4.wf (f4.cl f3.wf (f3.cl f2.wf c2 pm) (by simp; omega)) pm
    rw [List.map_replicate]; exact this
 have J0 : RJ l hs (-1) (List.replicate l.length false) [] := by
  have hno : ∀ k : Nat, (List.replicate l.length false)[k]? ≠ some true := fun k hk => by
   rw [List.getElem?_replicate] at hk; split at hk <;> simp at hk
  exact ⟨pm, pm, fun k hk => absurd hk (hno k), fun k hk => absurd hk (hno k)⟩
 have J1 := J0.meet (n := 0) (fun k e hk => by
  have : k = 0 := po;subst this; exact .zero hk)
 obtain ⟨t0, F0, m0, R1, z8, z9⟩ := R0.meet ln 0 pm d;have cn := EE (out := List.replicate l.length false) (todo := []) (n := 0);rw [List.count_replicate] at cn;simp only [BEq.rfl, if_true, List.length_nil, Nat.add_zero] at cn;have l5 := cS (o := 0) f1.wf c1 pm;simp only [List.getElem?_cons_zero] at l5;simp -implicitDefEqProofs (disch := first|go_size|fail) only [agO, go_sem, a_, k1, l5, ln, k2, k3, p4, k5, cY, eO Om, List.nil_append, List.cons_append, Int.toNat_natCast, m0]
 refine bf (Q := fun r => dg (aV _ (di (cL 0 r) _)) _) (fun q e t => ∃ (out : List Bool) (todo : List Int), q = out.count false + todo.length ∧ q ≤ l.length ∧ RS s t v s.next s2.next s4.next s1.next l.length [] out todo ∧ RJ l hs (-1) out todo ∧ Mk out 0 ∧ g1 e = hv ∧ g2 e = .ptr s.next 0 ∧ g5 e = .ptr s2.next 0 ∧ g6 e = .ptr s4.next 0 ∧ g7 e = .func 33 [] [.ptr s.next 0, .ptr s2.next 0, .ptr s4.next 0]) ?_ (n := (mO (List.replicate l.length false) 0).count false + (mT (List.replicate l.length false) [] 0).length) po ⟨mO (List.replicate l.length false) 0, mT (List.replicate l.length false) [] 0, rfl, po, R1, J1, wV, pt, pt, pt, pt, pt⟩
 have nb : s.next < s2.next ∧ s2.next < s4.next ∧ s1.next < s2.next ∧ s.next < s1.next := ⟨po, po, po, po⟩;clear z8 z9 R0 J0 R1 J1 m0 cn F0 k1 k2 k3 k5 p4 c1 c2 c3 c4 c5 f1 f2 f3 f4 f5 n1 n2 n3 n4 n5 F5 l5;rintro q e t ⟨out, todo, rfl, hq, R, J, hM, i1, i2, i5, i6, i7⟩;replace i1 : e.a0.a1 = _ := i1;replace i2 : e.a0.a2 = _ := i2;replace i5 : e.a0.a5 = _ := i5;replace i6 : e.a0.a6 = _ := i6;replace i7 : e.a0.a7 = _ := i7;obtain ⟨tv, h1, h2, h3⟩ := R.ht;obtain ⟨e1, e2, e3, e4, e5, e6⟩ := R.ne;have hwt := R.f.wf;have lt := cS (o := 0) hwt h1 pm;have lo := cS (o := 0) hwt R.ho pm;simp only [List.getElem?_cons_zero] at lt lo;rcases List.eq_nil_or_concat todo with rfl | ⟨rest, n, rfl⟩
 · have hlen : aM tv = some (.i 0) := by simpa using h2.len
   simp -implicitDefEqProofs (disch := first|go_size|fail) only [go_sem, i1, i2, i5, i6, i7, lt, hlen, lo]
   have hn : (out.map V.bool).length = l.length := by rw [List.length_map]; exact R.n
   have hsl := SL.of (l := out.map V.bool) (c := some l.length) (o := 0) hwt R.hb po (fun i hi => by rw [Nat.zero_add])
   rw [hn] at hsl;exact ⟨out, R.f, hsl, J, hM⟩
 rw [List.concat_eq_append] at *;obtain ⟨i, rfl, hil, hRi, J'⟩ := J.pop;obtain ⟨x, hx⟩ : ∃ x, l[i]? = some x := ⟨_, List.getElem?_eq_getElem hil⟩;have hlen := h2.len;rw [List.length_map, List.length_append, List.length_singleton] at hlen;rw [List.length_append, List.length_singleton] at hq;have c0 : ((rest.length + 1 : Nat) : Int) > 0 := po;have em : ((rest.length + 1 : Nat) : Int) - 1 = (rest.length : Nat) := po;obtain ⟨qq, a1, a2⟩ := (h2.sl hwt).at hwt (j := rest.length) (x := .i (i : Nat)) pm;have h2' : GP t tv (rest.map V.i ++ [V.i (i : Nat)]) := by simpa using h2
 obtain ⟨tv', q1, g1', b1'⟩ := h2'.pop;rw [List.length_map, em] at q1;obtain ⟨t1, p1, c1', f1', n1'⟩ := cC (s := t) (b := s4.next) (o := 0) (v := tv') hwt h1 pm g1'.one;have hbt := bQ hwt h1;have R1 : RS s t1 v s.next s2.next s4.next s1.next l.length [] out rest := by
  refine ⟨R.f.trans' f1' (fun b hb => .inr (by simp at hb; omega)), f1'.cl hwt R.hl (by simp; omega), f1'.cl hwt R.ho (by simp; omega), f1'.cl hwt R.hb (by simp; omega), ⟨tv', by simpa using c1', g1'.fr hwt f1' (fun b hb => ?_), fun b hb => ?_⟩, pm, R.nx, R.ne, R.n⟩
  · rw [b1'] at hb; simp; exact (h3 b hb).2.2.2.1
  · rw [b1'] at hb; exact h3 b hb
 have ll1 := cS (o := 0) R1.f.wf R1.hl pm;simp only [List.getElem?_cons_zero] at ll1;obtain ⟨t2, nv, x1, x2, x3, x4⟩ := xB R1.f.wf (h.fr hw R1.f pm) L (i : Nat) (m := d + 1) po;have nl := x2.len;rw [List.length_map] at nl;have hnl := jr l (i : Nat);have R3 : RS s t2 v s.next s2.next s4.next s1.next l.length (aB nv) out rest := (R1.fr x3).QN (fun b hb => by have := x4 b hb; have := bQ hwt R.hb; omega) (fun w hw' b hb hb' => by
  have h4 := x3.cl R1.f.wf c1' pm;rw [h4] at hw';simp at hw';subst hw';have := x4 b hb';have := GP.lt R1.f.wf (g1'.fr hwt f1' (fun b hb => by rw [b1'] at hb; simp; exact (h3 b hb).2.2.2.1)) b hb
  omega)
 simp -implicitDefEqProofs (disch := first|go_size|fail) only [go_sem, i1, i2, i5, i6, i7, lt, hlen, c0, em, a1, a2, q1, p1, ll1, x1, nl]
 refine bf (Q := fun r => og (cL 1 (di (cL 2 r) _)) _ _) (fun q e u => ∃ (k : Nat) (out' : List Bool) (todo' : List Int), q = (c_ l (i : Nat)).length - k ∧ k ≤ (c_ l (i : Nat)).length ∧ RS s u v s.next s2.next s4.next s1.next l.length (aB nv) out' todo' ∧ RJ l hs (i : Nat) out' todo' ∧ Mk out' 0 ∧ out'.count false + todo'.length = out.count false + rest.length ∧ SL u nv ((c_ l (i : Nat)).map V.i) ∧ (∀ z ∈ (c_ l (i : Nat)).take k, Mk out' z) ∧ g1 e = hv ∧ g2 e = .ptr s.next 0 ∧ g5 e = .ptr s2.next 0 ∧ g6 e = .ptr s4.next 0 ∧ g7 e = .func 33 [] [.ptr s.next 0, .ptr s2.next 0, .ptr s4.next 0] ∧ g8 e = .i (i : Nat) ∧ g35 e = nv ∧ g36 e = .i ((c_ l (i : Nat)).length : Nat) ∧ g37 e = .i (k : Nat)) ?_ (n := (c_ l (i : Nat)).length) po ⟨0, out, rest, po, po, R3, J', hM, rfl, x2, pm, pt, pt, pt, pt, pt, pt, pt, pt, pt⟩
 clear R3 R1 J' hM x1 x2 x3 x4 p1 q1 a1 a2 ll1 lt lo h1 h2 h3 h2' g1' b1' c1' f1' n1' hlen R J i1 i2 i5 i6 i7;rintro q e u ⟨k, out', todo', rfl, hk, R, J, hM, hc, hS, hT, i1, i2, i5, i6, i7, i8, i35, i36, i37⟩;replace i1 : e.a0.a1 = _ := i1;replace i2 : e.a0.a2 = _ := i2;replace i5 : e.a0.a5 = _ := i5;replace i6 : e.a0.a6 = _ := i6;replace i7 : e.a0.a7 = _ := i7;replace i8 : e.a0.a8 = _ := i8;replace i35 : e.a2.a3 = _ := i35;replace i36 : e.a2.a4 = _ := i36;replace i37 : e.a2.a5 = _ := i37;by_cases c : (k : Int) < (((c_ l (i : Nat)).length : Nat) : Int)
 · obtain ⟨z, hz⟩ : ∃ z, (c_ l (i : Nat))[k]? = some z := ⟨_, List.getElem?_eq_getElem po⟩;have hzm := List.mem_of_getElem? hz;obtain ⟨qq, a1, a2⟩ := hS.at R.f.wf (j := k) (x := .i z) (by rw [List.getElem?_map, hz]; rfl)
   obtain ⟨u2, F, y1, R', fF, hF⟩ := R.meet ln z po d;simp -implicitDefEqProofs (disch := first|go_size|fail) only [go_sem, i1, i2, i5, i6, i7, i8, i35, i36, i37, c, a1, a2, cY, eO Om, List.nil_append, List.cons_append, y1]
   refine ⟨(c_ l (i : Nat)).length - (k + 1), po, k + 1, _, _, rfl, po, R', J.meet (fun k' e hk' => .nx hRi (by rw [e]; exact hzm) hk'), hM.mono, (by rw [EE]; exact hc), hS.fr R.f.wf fF hF, fun w hw' => ?_, pt, pt, pt, pt, pt, pt, pt, pt, pt⟩
   rw [List.take_succ, hz] at hw';rcases List.mem_append.1 hw' with hw' | hw'
   · exact (hT w hw').mono
   · simp at hw'; subst hw'; exact wV
 have hke : k = (c_ l (i : Nat)).length := po;subst hke;rw [List.take_length] at hT;simp -implicitDefEqProofs (disch := first|go_size|fail) only [go_sem, i1, i2, i5, i6, i7, i8, i35, i36, i37, c, lh]
 refine bf (Q := fun r => og (cL 1 (cL 4 r)) _ _) (fun q e u => ∃ (k : Nat) (out' : List Bool) (todo' : List Int), q = hs.length - k ∧ k ≤ hs.length ∧ RS s u v s.next s2.next s4.next s1.next l.length [] out' todo' ∧ RJ l hs (i : Nat) out' todo' ∧ Mk out' 0 ∧ out'.count false + todo'.length = out.count false + rest.length ∧ (∀ z ∈ c_ l (i : Nat), Mk out' z) ∧ (∀ (k' : Nat) y, k' < k → hs[k']? = some y → y.from_ ≤ x.at_ → x.at_ < y.mw → Mk out' (bh l y.at_)) ∧ g1 e = hv ∧ g2 e = .ptr s.next 0 ∧ g5 e = .ptr s2.next 0 ∧ g6 e = .ptr s4.next 0 ∧ g7 e = .func 33 [] [.ptr s.next 0, .ptr s2.next 0, .ptr s4.next 0] ∧ g8 e = .i (i : Nat) ∧ g45 e = hv ∧ g46 e = .i (hs.length : Nat) ∧ g47 e = .i (k : Nat)) ?_ (n := hs.length) po ⟨0, out', todo', po, po, R.QN pm pm, J, hM, hc, hT, by intro k' y hk'; omega, pt, pt, pt, pt, pt, pt, pt, pt, pt⟩
 clear R J hM hc hS hT i1 i2 i5 i6 i7 i8 i35 i36 i37 c;rintro q e u ⟨k, out', todo', rfl, hk, R, J, hM, hc, hT, hD, i1, i2, i5, i6, i7, i8, i45, i46, i47⟩;replace i1 : e.a0.a1 = _ := i1;replace i2 : e.a0.a2 = _ := i2;replace i5 : e.a0.a5 = _ := i5;replace i6 : e.a0.a6 = _ := i6;replace i7 : e.a0.a7 = _ := i7;replace i8 : e.a0.a8 = _ := i8;replace i45 : e.a2.a13 = _ := i45;replace i46 : e.a2.a14 = _ := i46;replace i47 : e.a2.a15 = _ := i47;by_cases c : (k : Int) < ((hs.length : Nat) : Int)
 · obtain ⟨y, hy⟩ : ∃ y, hs[k]? = some y := ⟨_, List.getElem?_eq_getElem po⟩;have hym := List.mem_of_getElem? hy;obtain ⟨b, o, a1, _, a3, a4⟩ := (hh.fr hw R.f pm).at R.f.wf (i := k) (x := y.cells) (by rw [List.getElem?_map, hy]; rfl)
   obtain ⟨u1, k1, ck1, fk1, nk1⟩ := bu (s := u) (l := [V.i 0, .i 0, .i 0, .str []]) (n := 4) R.f.wf rfl;obtain ⟨u2, k2, ck2, fk2, nk2⟩ := cG (s := u1) (b := u.next) (o := 0) (vs := y.cells) (m := 4) fk1.wf ck1 y.row.1 pm y.row.2;replace ck2 : u2.cl u.next = some y.cells := by rw [ck2]; simp [dA, Hd.cells]
   have Fk : Fr u u2 [] := fk1.trans' fk2 (fun b hb => .inr (by simp at hb; omega))
   have R2 := R.fr Fk;have r0 : cP (.ptr u.next 0) u2 = some (.i y.from_) := aK Fk.wf ck2 rfl;have r1 : cP (.ptr u.next 1) u2 = some (.i y.mw) := aK Fk.wf ck2 rfl;have r2 : cP (.ptr u.next 2) u2 = some (.i y.at_) := aK Fk.wf ck2 rfl;have ll := cS (o := 0) R2.f.wf R2.hl pm;simp only [List.getElem?_cons_zero] at ll;have hR2 := h.fr hw R2.f pm;obtain ⟨b', o', a1', _, a3', _⟩ := hR2.at R2.f.wf (i := i) (x := x.cells) (by rw [List.getElem?_map, hx]; rfl)
   have r3 := a3' 0 _ rfl;rw [Nat.add_zero] at r3;have skip : ¬ (y.from_ ≤ x.at_ ∧ x.at_ < y.mw) → ∀ (k' : Nat) y, k' < k + 1 → hs[k']? = some y → y.from_ ≤ x.at_ → x.at_ < y.mw → Mk out' (bh l y.at_) := fun hn k' y' hk' hy' z1 z2 => by
    by_cases ek : k' = k
    · subst ek; rw [hy] at hy'; cases hy'; exact absurd ⟨z1, z2⟩ hn
    · exact hD k' y' po hy' z1 z2
   by_cases c1 : y.from_ ≤ x.at_
   · by_cases c2 : x.at_ < y.mw
     · obtain ⟨u3, w1, fw⟩ := nu R2.f.wf hR2 L y.at_ (m := d + 1) po;obtain ⟨u4, F, w2, R4, _, _⟩ := (R2.fr fw).meet ln (bh l y.at_) po d;simp -implicitDefEqProofs (disch := first|go_size|fail) only [go_sem, i1, i2, i5, i6, i7, i8, i45, i46, i47, c, a1, a4, a_, k1, k2, r0, r1, r2, ll, a1', r3, c1, c2, w1, cY, eO Om, List.nil_append, List.cons_append, w2]
       refine ⟨hs.length - (k + 1), po, k + 1, _, _, rfl, po, R4, J.meet (fun k' e hk' => .hd hRi hx hym c1 c2 e.symm), hM.mono, (by rw [EE]; exact hc), (fun z hz => (hT z hz).mono), (fun k' y' hk' hy' z1 z2 => ?_), pt, pt, pt, pt, pt, pt, pt, pt, pt⟩
       by_cases ek : k' = k
       · subst ek; rw [hy] at hy'; cases hy'; exact wV
       · exact (hD k' y' po hy' z1 z2).mono
     · simp -implicitDefEqProofs (disch := first|go_size|fail) only [go_sem, i1, i2, i5, i6, i7, i8, i45, i46, i47, c, a1, a4, a_, k1, k2, r0, r1, r2, ll, a1', r3, c1, c2]
       exact ⟨hs.length - (k + 1), po, k + 1, _, _, rfl, po, R2, J, hM, hc, hT, skip fun h => c2 h.2, pt, pt, pt, pt, pt, pt, pt, pt, pt⟩
   · simp -implicitDefEqProofs (disch := first|go_size|fail) only [go_sem, i1, i2, i5, i6, i7, i8, i45, i46, i47, c, a1, a4, a_, k1, k2, r0, r1, r2, ll, a1', r3, c1]
     exact ⟨hs.length - (k + 1), po, k + 1, _, _, rfl, po, R2, J, hM, hc, hT, skip fun h => c1 h.1, pt, pt, pt, pt, pt, pt, pt, pt, pt⟩
 · have hke : k = hs.length := po;subst hke;simp -implicitDefEqProofs (disch := first|go_size|fail) only [go_sem, i1, i2, i5, i6, i7, i8, i45, i46, i47, c]
   refine ⟨out'.count false + todo'.length, by rw [List.length_append, List.length_singleton]; omega, out', todo', rfl, po, R, J.close ⟨hT, fun x' hx' y hy z1 z2 => ?_⟩, hM, pt, pt, pt, pt, pt⟩
   rw [hx] at hx'; cases hx';obtain ⟨k', hk'⟩ := List.getElem?_of_mem hy;exact hD k' y (List.getElem?_eq_some_iff.1 hk').1 hk' z1 z2
def Rw (t : St) (l : List In) (Ls : List Int) (r : List V) (k : Nat) (f : Int) (P : Nat → Prop) : Prop := ∃ nv, r = [.i f, .i (ja l Ls k), nv] ∧ nv.one = true ∧ SL t nv ((ixs Ls (c_ l (ja l Ls k - 1))).map V.i) ∧ ∀ b ∈ aB nv, P b
theorem Rw.fr {t u : St} {l : List In} {Ls : List Int} {r : List V} {k : Nat} {f : Int} {P Q : Nat → Prop} {F : List Nat} (h : Rw t l Ls r k f P) (hw : Wf t) (fu : Fr t u F) (hd : ∀ b, P b → b ∉ F) (hq : ∀ b, P b → Q b) : Rw u l Ls r k f Q := by
 obtain ⟨nv, h1, h2, h3, h4⟩ := h;exact ⟨nv, h1, h2, h3.fr hw fu (fun b hb => hd b (h4 b hb)), fun b hb => hq b (h4 b hb)⟩
def zN (t : St) (v : V) (l : List In) (Ls : List Int) : Prop := ∃ rows, GN 3 t v rows ∧ rows.length = Ls.length ∧ ∀ (k : Nat) f, Ls[k]? = some f → ∃ r, rows[k]? = some r ∧ Rw t l Ls r k f fun _ => True
section
variable {s : St} (hw : Wf s) {v : V} {l : List In} (h : RN 4 s v (l.map In.cells)) (L : Ll l) {Ls : List Int} (hs : Ls.Pairwise (· < ·)) (hin : ∀ (k : Nat) f, Ls[k]? = some f → 0 ≤ f ∧ f < (l.length : Nat)) (hLl : Ls.length ≤ 100000)
include hw h L hs hin hLl
theorem wE {k : Nat} (hk : k < Ls.length) : 1 ≤ ja l Ls k ∧ ja l Ls k ≤ (l.length : Nat) ∧ (ja l Ls k = (l.length : Nat) ↔ k + 1 = Ls.length) := by
 unfold ja;obtain ⟨f, hf⟩ : ∃ f, Ls[k]? = some f := ⟨_, List.getElem?_eq_getElem hk⟩;have h0 := hin k f hf;cases hc : Ls[k + 1]? with
 | none =>
   have := List.getElem?_eq_none_iff.1 hc;exact ⟨by simp only; omega, by simp only; omega, ⟨fun _ => by omega, fun _ => rfl⟩⟩
 | some x =>
   have h1 := hin (k + 1) x hc;have h2 := w_ hs (show k < k + 1 by omega) hf hc
   have := (List.getElem?_eq_some_iff.1 hc).1;exact ⟨by simp only; omega, by simp only; omega, ⟨fun e => by simp only at e; omega, fun _ => by omega⟩⟩
theorem Zi {u : St} {e : E} {b bl nb k : Nat} {f : Int} {ov : V} {rows : List (List V)} (N : E → St → Prop) (Q : aE → Prop) (d : Nat) (hk : Ls[k]? = some f) (fu : Fr s u []) (hI : IP u b Ls) (hbl : u.cl bl = some [v]) (hnb : u.cl nb = some [.i f, .i (ja l Ls k), .ay])
 (hG : GN 3 u ov rows) (hrl : rows.length ≤ 100000) (i2 : e.a0.a2 = .ptr bl 0) (i5 : e.a0.a5 = iv b Ls.length) (i10 : e.a0.a10 = ov) (i13 : e.a0.a13 = .ptr nb 0)
 (hne : b ≠ nb ∧ bl ≠ nb ∧ nb ∉ aB ov ∧ bl ∉ aB ov)
 (key : ∀ (e' : E) (t : St) (ov' : V) (r : List V), Fr u t (nb :: aB ov) → GN 3 t ov' (rows ++ [r]) → (∀ b ∈ aB ov', u.next ≤ b) → (Rw t l Ls r k f fun b => u.next ≤ b ∧ b < t.next ∧ b ∉ aB ov') → e'.a0.a1 = e.a0.a1 → e'.a0.a2 = e.a0.a2 → e'.a0.a5 = e.a0.a5 → e'.a0.a10 = ov' → e'.a5.a2 = e.a5.a2 → e'.a5.a3 = e.a5.a3 → e'.a5.a4 = e.a5.a4 →
  if ja l Ls k = (l.length : Nat) then Q (.exit 4 e' t) else N e' t) :
 og (x_ (K (d + 8)) e u) N Q := by
 have hkl := (List.getElem?_eq_some_iff.1 hk).1;obtain ⟨t0, t1_, t2_⟩ := wE hw h L hs hin hLl hkl;have ln := h.len;rw [List.length_map] at ln;have hl := L.len;have ld := cS (o := 0) fu.wf hbl pm;simp only [List.getElem?_cons_zero] at ld;have r1 : cP (.ptr nb 1) u = some (.i (ja l Ls k)) := aK fu.wf hnb rfl;obtain ⟨w, nv, x1, x2, x3, x4⟩ := xB fu.wf (h.fr hw fu pm) L (ja l Ls k - 1) (m := d + 8) po;have nl := x2.len;rw [List.length_map] at nl;have hnl := jr l (ja l Ls k - 1);simp -implicitDefEqProofs (disch := first|go_size|fail) only [go_sem, x_.eq_1, i2, i5, i10, i13, ld, r1, x1, nl]
 generalize hNs : c_ l (ja l Ls k - 1) = Ns at *;refine bf (Q := fun r => og (di (cL 6 r) _) _ _) (fun q e2 y => ∃ (j : Nat) (cv : V), q = Ns.length - j ∧ j ≤ Ns.length ∧ Fr w y [nb] ∧ y.cl nb = some [.i f, .i (ja l Ls k), cv] ∧ GL y cv ((ixs Ls (Ns.take j)).map V.i) ∧ (∀ b ∈ aB cv, w.next ≤ b) ∧ e2.a0.a1 = e.a0.a1 ∧ e2.a0.a2 = .ptr bl 0 ∧ e2.a0.a5 = iv b Ls.length ∧ e2.a0.a10 = ov ∧ e2.a0.a13 = .ptr nb 0 ∧ e2.a5.a2 = e.a5.a2 ∧ e2.a5.a3 = e.a5.a3 ∧ e2.a5.a4 = e.a5.a4 ∧ e2.a6.a12 = nv ∧ e2.a6.a13 = .i (Ns.length : Nat) ∧ e2.a6.a14 = .i (j : Nat)) ?_ (n := Ns.length) po ⟨0, .ay, po, po, Fr.refl x3.wf _, x3.cl fu.wf hnb pm, .inl ⟨rfl, rfl⟩, by simp [aB], pt, pt, pt, pt, pt, pt, pt, pt, pt, pt, pt⟩
 rintro q e2 y ⟨j, cv, rfl, hj, fy, hny, hg, hcb, j1, j2, j5, j10, j13, j82, j83, j84, j108, j109, j110⟩;have hnl2 : nb < w.next := Nat.lt_of_lt_of_le (bQ fu.wf hnb) x3.nx;by_cases c : (j : Int) < ((Ns.length : Nat) : Int)
 · obtain ⟨n, hn⟩ : ∃ n, Ns[j]? = some n := ⟨_, List.getElem?_eq_getElem po⟩;obtain ⟨qq, a1, a2⟩ := (x2.fr x3.wf fy (fun b hb => by have := x4 b hb; have := bQ fu.wf hnb; simp; omega)).at fy.wf (j := j) (x := .i n) (by rw [List.getElem?_map, hn]; rfl)
   have hIy := (hI.fr fu.wf x3 pm).fr x3.wf fy (by simpa using hne.1)
   obtain ⟨i, ok, e39, hr⟩ := Fw fy.wf (hIy.sl fy.wf) hs hLl n (d + 5);have htk : Ns.take (j + 1) = Ns.take j ++ [n] := by rw [List.take_succ, hn]; rfl
   rcases hr with ⟨rfl, k', rfl, hk'⟩ | ⟨rfl, hno⟩
   · have hsn : ixs Ls (Ns.take (j + 1)) = ixs Ls (Ns.take j) ++ [(k' : Int)] := by rw [htk, qJ, xq hs hk']
     have r2 : cP (.ptr nb 2) y = some cv := aK fy.wf hny rfl;have hil := tU Ls (Ns.take j);rw [List.length_take] at hil;obtain ⟨y1, y2, z1, z2, z3, z4, z5⟩ := hg.push fy.wf (x := .i (k' : Nat)) rfl (by intro y hy; obtain ⟨w, _, rfl⟩ := List.mem_map.1 hy; rfl) (by rw [List.length_map]; omega)
     have hny2 := z4.cl fy.wf hny (fun hb => by have := hcb _ hb; omega)
     obtain ⟨y3, p1, c3, f3, n3⟩ := cC (s := y2) (b := nb) (o := 2) (v := .slice (y.next + 1) 0 (((ixs Ls (Ns.take j)).map V.i).length + 1) none 1) z4.wf hny2 pm rfl;simp -implicitDefEqProofs (disch := first|go_size|fail) only [go_sem, j1, j2, j5, j10, j13, j82, j83, j84, j108, j109, j110, c, a1, a2, e39, r2, z1, z2, p1]
     have hyn := fy.nx;refine ⟨Ns.length - (j + 1), po, j + 1, _, rfl, po, (fy.trans' z4 (fun b hb => .inr (hcb b hb))).trans f3, c3, ?_, fun b hb => by simp [aB] at hb; omega, pt, pt, pt, pt, pt, pt, pt, pt, pt, pt, pt⟩
     rw [hsn, List.map_append];exact z3.fr z4.wf f3 (fun b hb => by simp [aB] at hb; subst hb; simp; omega)
   · have hsn : ixs Ls (Ns.take (j + 1)) = ixs Ls (Ns.take j) := by rw [htk, qJ, Pd hno]; simp
     simp -implicitDefEqProofs (disch := first|go_size|fail) only [go_sem, j1, j2, j5, j10, j13, j82, j83, j84, j108, j109, j110, c, a1, a2, e39]
     exact ⟨Ns.length - (j + 1), po, j + 1, cv, rfl, po, fy, hny, by rw [hsn]; exact hg, hcb, pt, pt, pt, pt, pt, pt, pt, pt, pt, pt, pt⟩
 · have hje : j = Ns.length := po;subst hje;rw [List.take_length] at hg;have hcv1 : cv.one = true := by rcases hg with ⟨_, rfl⟩ | ⟨b, rfl, _⟩ <;> rfl
   have hrow : Row 3 [.i f, .i (ja l Ls k), cv] := ⟨rfl, by intro x hx; simp at hx; rcases hx with rfl | rfl | rfl <;> first | rfl | assumption⟩
   have ha1 : bn [.i f, .i (ja l Ls k), cv] = true := bN hrow.2;have ldn := dB (o := 0) (m := 3) fy.wf hny pm;replace ldn : gH 3 (.ptr nb 0) y = some (.agg [.i f, .i (ja l Ls k), cv]) := by rw [ldn]; rfl
   have F1 : Fr u y [nb] := (x3.mono pm).trans fy;have hG1 := hG.fr fu.wf F1 (fun b hb hb' => by simp at hb'; subst hb'; exact hne.2.2.1 hb)
   obtain ⟨y1, ov', y2, z1, z2, z3, z4, z5⟩ := hG1.push fy.wf hrow po;have hovw : ∀ b ∈ aB ov, b < u.next := hG.lt fu.wf;have hnew : nb ∉ aB ov := hne.2.2.1;have hny2 := z4.cl fy.wf hny hnew;have hbl2 := z4.cl fy.wf (F1.cl fu.wf hbl (by simpa using hne.2.1)) hne.2.2.2
   have hyn := fy.nx;have hwn := x3.nx;have F2 : Fr u y2 (nb :: aB ov) := (F1.mono pm).trans (z4.mono (fun j hj => .inl (by simp [hj])))
   have r1' : cP (.ptr nb 1) y2 = some (.i (ja l Ls k)) := aK z4.wf hny2 rfl;have ldb := cS (o := 0) z4.wf hbl2 pm;simp only [List.getElem?_cons_zero] at ldb;have hcl : ∀ b ∈ aB cv, b < y.next := fun b hb => by
    rcases hg with ⟨_, rfl⟩ | ⟨b', rfl, hc⟩
    · simp [aB] at hb
    · simp [aB] at hb; subst hb; exact bQ fy.wf hc
   have hovu : ∀ b ∈ aB cv, b ∉ aB ov := fun b hb hb' => by have := hcb b hb; have := hovw b hb'; omega
   have hRw : Rw y2 l Ls [.i f, .i (ja l Ls k), cv] k f fun b => u.next ≤ b ∧ b < y2.next ∧ b ∉ aB ov' := by
    refine ⟨cv, rfl, hcv1, ?_, fun b hb => ⟨by have := hcb b hb; omega, Nat.lt_of_lt_of_le (hcl b hb) z4.nx, fun hb' => by have := z5 b hb'; have := hcl b hb; omega⟩⟩
    rw [hNs];exact (hg.sl fy.wf).fr fy.wf z4 hovu
   have hov' : ∀ b ∈ aB ov', u.next ≤ b := fun b hb => by have := z5 b hb; omega
   by_cases ce : ja l Ls k = ((l.length : Nat) : Int)
   · simp -implicitDefEqProofs (disch := first|go_size|fail) only [go_sem, j1, j2, j5, j10, j13, j82, j83, j84, j108, j109, j110, c, ldn, z1, z2, r1', ldb, ln, decide_eq_true ce]
     refine Eq.mp (if_pos ce) (key _ y2 ov' _ F2 z3 hov' hRw ?_ ?_ ?_ ?_ ?_ ?_ ?_)
     all_goals first | rfl | assumption | (simp only [i2, i5])
   · simp -implicitDefEqProofs (disch := first|go_size|fail) only [go_sem, j1, j2, j5, j10, j13, j82, j83, j84, j108, j109, j110, c, ldn, z1, z2, r1', ldb, ln, decide_eq_false ce]
     refine Eq.mp (if_neg ce) (key _ y2 ov' _ F2 z3 hov' hRw ?_ ?_ ?_ ?_ ?_ ?_ ?_)
     all_goals first | rfl | assumption | (simp only [i2, i5])
end
end
end Go.Proofs.YtcgdlgbomjnnnaaGreatLab
