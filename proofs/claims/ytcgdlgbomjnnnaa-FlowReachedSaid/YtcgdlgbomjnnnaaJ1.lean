/- Parts of the proof: contracts of functions, joined. No condition on the program. -/
import Derived.Test.YtcgdlgbomjnnnaaJ0
import Derived.SizedLaws
import Derived.ChangeSlices
namespace Go.Proofs.YtcgdlgbomjnnnaaLab
open Go
set_option linter.all false
set_option maxRecDepth 10000
noncomputable section
def mCells (nm ds : List Nat) (st : Bool) (n : Nat) (cv hv fv : V) : List V := [.str nm, .str ds, .bool st, .bool false, .i 16, .i (n : Nat), cv, hv, fv]
theorem fb9 (nm ds : List Nat) (st : Bool) (n : Nat) : fillV [V.str [], .str [], .bool false, .bool false, .i 0, .i 0, .nils, .nils, .nils] [(0, 1, .str nm), (1, 1, .str ds), (2, 1, .bool st), (4, 1, .i 16), (5, 1, .i (n : Nat))] = some (mCells nm ds st n .nils .nils .nils) := (rfl)
theorem fb4 (a b c : Int) : fillV [V.i 0, .i 0, .i 0, .str []] [(0, 1, .i a), (1, 1, .i b), (2, 1, .i c), (3, 1, .str [84, 104, 114, 111, 119, 97, 98, 108, 101])] = some [.i a, .i b, .i c, .str thr] := (rfl)
theorem mCells_one {nm ds : List Nat} {st : Bool} {n : Nat} {cv hv fv : V} (h1 : cv.one = true) (h2 : hv.one = true) (h3 : fv.one = true) : ∀ v ∈ mCells nm ds st n cv hv fv, v.one = true := by
 intro v hv; simp [mCells] at hv
 rcases hv with rfl | rfl | rfl | rfl | rfl | rfl | rfl | rfl | rfl <;> first | rfl | assumption
theorem GN.one {es : Nat} {s : St} {v : V} {l : List (List V)} (h : GN es s v l) : v.one = true := by rcases h.2 with ⟨_, rfl | ⟨b, rfl, _⟩⟩ | ⟨b, rfl, _⟩ <;> rfl
theorem GN.same {es : Nat} {s : St} {v : V} {l : List (List V)} (h : GN es s v l) : sameV 100 v v = true := by rcases h.2 with ⟨_, rfl | ⟨b, rfl, _⟩⟩ | ⟨b, rfl, _⟩; exact same_nils; exact same_slice _ _ _ _ _; exact same_slice _ _ _ _ _
structure MOk (s t : St) (nm ds : List Nat) (st : Bool) (n : Nat) (code : List Nat) (hr : List (List V)) (c : List V) : Prop where
 ex : ∃ (cv hv fv : V) (rows : List (List V)), c = mCells nm ds st n cv hv fv ∧ SL t cv (code.map byteV) ∧ cv.one = true ∧ RN 4 t hv hr ∧ hv.one = true ∧ RN 3 t fv rows ∧ fv.one = true ∧ (∀ r ∈ rows, FRow r) ∧ rows.length ≤ 1000 ∧ ∀ b, b ∈ blkV cv ∨ b ∈ blkV hv ∨ b ∈ blkV fv → s.next ≤ b ∧ b < t.next
set_option maxHeartbeats 8000000 in
theorem MK.done {s0 s : St} {mb rb : Nat} {g : G} (H : MK s0 s mb rb g) (nm ds : List Nat) (st : Bool) (hok : ∀ x ∈ g.ls, okD g.labels x) (hl : g.ls.length ≤ 400) (hlab : g.labels ≤ 1000) (hth : g.th.length ≤ 1000) (hhl : g.hs.length ≤ 1000) (hh : ∀ h ∈ g.hs, h.1 < g.labels ∧ h.2.1 < g.labels ∧ h.2.2 < g.labels)
 (hI : ∀ x ∈ (runI (runP g.labels g.ls).1 g.ls).1, okI x) (hat : ∀ i x, (runI (runP g.labels g.ls).1 g.ls).1[i]? = some x → x.at_ = (((encB ((runI (runP g.labels g.ls).1 g.ls).1.take i)).length : Nat) : Int)) (hb : (encB (runI (runP g.labels g.ls).1 g.ls).1).length ≤ 1024) {m : Nat} (hm : 5 ≤ m) :
 ∃ (t : St) (c : List V), (K m).call 68 [.ptr mb 0, .str nm, .str ds, .bool st] s = some (.agg c, t) ∧ MOk s t nm ds st (tyL g.plain).length (encB (runI (runP g.labels g.ls).1 g.ls).1) (g.hs.map (hRow (runP g.labels g.ls).1)) c ∧ Fr s t [] := by
 obtain ⟨d, rfl⟩ : ∃ d, m = d + 1 := ⟨m - 1, by omega⟩
 have hw := H.wf
 have hml := H.mlt
 obtain ⟨s1, e1, c1, f1, n1⟩ := new_ex (s := s) (l := [V.str [], .str [], .bool false, .bool false, .i 0, .i 0, .nils, .nils, .nils]) (n := 9) hw rfl
 have H1 := H.mv f1 (by simp)
 have l3 := H1.ld3
 obtain ⟨s2, e2, c2, f2, n2⟩ := new_ex (s := s1) (l := List.replicate g.labels (V.i 0)) (n := g.labels) f1.wf (by simp)
 have F2 := f1.trans f2
 generalize hP : (runP g.labels g.ls).1 = P at *
 have hPl : P.length = g.labels := by rw [← hP]; exact (runP_len _ _).1
 have hPin : ∀ (i : Nat) (x : Int), P[i]? = some x → 0 ≤ x ∧ x ≤ 1200 := fun i x hx => by rw [← hP] at hx; have := runP_in _ _ i x hx; omega
 generalize hIs : (runI P g.ls).1 = I at *
 have hb8 : s.next < s2.next := by omega
 let Q : V → St → Prop := fun x t => ∃ c, x = .agg c ∧ MOk s t nm ds st (tyL g.plain).length (encB I) (g.hs.map (hRow P)) c ∧ Fr s t []
 have rest3 : ∀ (e : E) (t : St) (cv hv fv : V) (rows : List (List V)) (bo : Nat), Fr s t [] → t.cl s.next = some [V.str [], .str [], .bool false, .bool false, .i 0, .i 0, .nils, .nils, .nils] → t.cl bo = some (mCells nm ds st (tyL g.plain).length cv hv fv) → bo ≠ s.next → s.next ≤ bo → SL t cv ((encB I).map byteV) → cv.one = true → RN 4 t hv (g.hs.map (hRow P)) → hv.one = true → RN 3 t fv rows → fv.one = true → (∀ r ∈ rows, FRow r) → rows.length ≤ 1000 → (∀ b, b ∈ blkV cv ∨ b ∈ blkV hv ∨ b ∈ blkV fv → s.next ≤ b ∧ b < t.next ∧ b ≠ s.next ∧ b ≠ bo) → e.a0.a8 = .ptr s.next 0 → e.a0.a13 = .ptr bo 0 → Ret (retR (resV [rC true 9 g8]) (p68_78 (K d) e t)) Q := by
  intro e t cv hv fv rows bo ft c8 co hne hbo hcv hc1 hhv hh1 hfv hf1 hfr hrl hbl i8 i13
  have ld := dLdN_eq (o := 0) (m := 9) ft.wf co (by simp [mCells])
  replace ld : ldNP 9 (.ptr bo 0) t = some (.agg (mCells nm ds st (tyL g.plain).length cv hv fv)) := by rw [ld]; rfl
  obtain ⟨t2, p2, c2', f2', n2'⟩ := eSt_exN (s := t) (b := s.next) (o := 0) (vs := mCells nm ds st (tyL g.plain).length cv hv fv) (m := 9) ft.wf c8 rfl (by simp) (mCells_one hc1 hh1 hf1)
  have ld2 := dLdN_eq (o := 0) (m := 9) f2'.wf c2' (by simp [putL, mCells])
  replace ld2 : ldNP 9 (.ptr s.next 0) t2 = some (.agg (mCells nm ds st (tyL g.plain).length cv hv fv)) := by rw [ld2]; simp [putL, mCells]
  have hres : resV [rC true 9 g8] = fun e s => ldNP 9 (g8 e) s := by funext e s; rfl
  rw [hres]
  simp -implicitDefEqProofs (disch := first|go_size|fail) only [go_sem, ↓p68_78.eq_1, ↓p68_61.eq_1, ↓p68_25.eq_1, i8, i13, ld, p2, ld2]
  exact ⟨_, rfl, ⟨cv, hv, fv, rows, rfl, hcv.fr ft.wf f2' (fun b hb => by have := hbl b (.inl hb); simp; omega), hc1, hhv.fr ft.wf f2' (fun b hb => by have := hbl b (.inr (.inl hb)); simp; omega), hh1, hfv.fr ft.wf f2' (fun b hb => by have := hbl b (.inr (.inr hb)); simp; omega), hf1, hfr, hrl, fun b hb => by have := hbl b hb; have := f2'.nx; omega⟩, ft.trans' f2' (fun b hb => .inr (by simp at hb; omega))⟩
 have hPd : ∀ k : Nat, k < g.labels → P[k]? = some (P.getD k 0) := fun k hk => by rw [List.getD_eq_getElem?_getD, List.getElem?_eq_getElem (by omega)]; rfl
 have rest2 : ∀ (e : E) (t : St) (cv fv : V) (rows : List (List V)) (bo : Nat), Fr s t [] → t.cl s.next = some [V.str [], .str [], .bool false, .bool false, .i 0, .i 0, .nils, .nils, .nils] → t.cl s1.next = some (P.map V.i) → t.cl bo = some (mCells nm ds st (tyL g.plain).length .nils .nils fv) → bo ≠ s.next → bo ≠ s1.next → s.next ≤ bo → RN 4 t cv (I.map In.cells) → (∀ b ∈ blkV cv, b < t.next) → GN 3 t fv rows → (∀ r ∈ rows, FRow r) → rows.length ≤ 1000 → (∀ b ∈ blkV fv, s.next ≤ b ∧ b < t.next ∧ b ≠ s.next ∧ b ≠ bo ∧ b ≠ s1.next) → e.a0.a0 = .ptr mb 0 → e.a0.a8 = .ptr s.next 0 → e.a0.a9 = .slice s1.next 0 g.labels (some g.labels) 1 → e.a0.a12 = cv → e.a0.a13 = .ptr bo 0 → Ret (retR (resV [rC true 9 g8]) (p68_61 (K d) e t)) Q := by
  intro e t cv fv rows bo ft c8 cpb co hne hne1 hbo hcv hcvl hfv hfr hrl hfb i0 i8 i9 i12 i13
  have hIl : I.length ≤ 400 := by rw [← hIs]; have := (runI_len P g.ls).1; omega
  obtain ⟨t1, bv, e84, sl1, ft1, hb1⟩ := encode_eq ft.wf hcv (by omega) hI hat hb hcvl (m := d) (by omega)
  have hbv1 : bv.one = true := by rcases sl1 with ⟨_, rfl | ⟨b, o, c, rfl⟩⟩ | ⟨b, o, c, n, f, rfl, _⟩ <;> rfl
  have co1 := ft1.cl ft.wf co (by simp)
  have hbol := cl_lt ft.wf co
  have hsl := cl_lt ft.wf c8
  have hpbl := cl_lt ft.wf cpb
  obtain ⟨t2, p2, c2', ft2, nt2⟩ := eSt_ex (s := t1) (b := bo) (o := 6) (v := bv) ft1.wf co1 (by simp [mCells]) hbv1
  replace c2' : t2.cl bo = some (mCells nm ds st (tyL g.plain).length bv .nils fv) := by rw [c2']; rfl
  have Ft2 : Fr s t2 [] := (ft.trans ft1).trans' ft2 (fun b hb => .inr (by simp at hb; omega))
  have H2 := H.mv Ft2 (by simp)
  obtain ⟨hv0, lh, _, lenh, _⟩ := H2.hands
  have s1n : s.next < s1.next := by omega
  have c8' := ft2.cl ft1.wf (ft1.cl ft.wf c8 (by simp)) (by simpa using fun h => hne h.symm)
  have cpb' := ft2.cl ft1.wf (ft1.cl ft.wf cpb (by simp)) (by simpa using fun h => hne1 h.symm)
  have sl2 := sl1.fr ft1.wf ft2 (fun b hb => by have := hb1 b hb; simp; omega)
  have fv2 := (hfv.fr ft.wf ft1 (by simp)).fr ft1.wf ft2 (fun b hb => by have := hfb b hb; simp; omega)
  have hft1 := ft1.nx
  have hft2 := ft2.nx
  simp -implicitDefEqProofs (disch := first|go_size|fail) only [go_sem, ↓p68_61.eq_1, ↓p68_25.eq_1, i0, i8, i9, i12, i13, e84, p2, lh, lenh]
  refine loop_at (Q := fun r => Ret (retR _ (seqR (blkR 4 r) _)) _) (fun q e t' => ∃ (j : Nat) (hv : V), q = g.hs.length - j ∧ j ≤ g.hs.length ∧ Fr t2 t' [bo] ∧ t'.cl bo = some (mCells nm ds st (tyL g.plain).length bv hv fv) ∧ GN 4 t' hv ((g.hs.take j).map (hRow P)) ∧ (∀ b ∈ blkV hv, t2.next ≤ b) ∧ g0 e = .ptr mb 0 ∧ g8 e = .ptr s.next 0 ∧ g9 e = .slice s1.next 0 g.labels (some g.labels) 1 ∧ g13 e = .ptr bo 0 ∧ g16 e = .i ((g.hs.length : Int) - 1 - j)) ?_ (n := g.hs.length) (by omega) ⟨0, .nils, by omega, by omega, Fr.refl ft2.wf _, c2', ⟨by simp, .inl ⟨rfl, .inl rfl⟩⟩, by simp [blkV], (by trivial), (by trivial), (by trivial), (by trivial), by show V.i _ = V.i _; congr 1; omega⟩
  rintro q e t' ⟨j, hv, rfl, hj, f', co', gh, hhb, j0, j8, j9, j13, j16⟩
  replace j0 : e.a0.a0 = _ := j0
  replace j8 : e.a0.a8 = _ := j8
  replace j9 : e.a0.a9 = _ := j9
  replace j13 : e.a0.a13 = _ := j13
  replace j16 : e.a1.a0 = _ := j16
  have Ft : Fr s t' [] := Ft2.trans' f' (fun b hb => .inr (by simp at hb; omega))
  have H' := H.mv Ft (by simp)
  have hf' := f'.nx
  by_cases c : (0 : Int) ≤ (g.hs.length : Int) - 1 - j
  · obtain ⟨x, hx⟩ : ∃ x, g.hs[j]? = some x := ⟨_, List.getElem?_eq_getElem (by omega)⟩
    obtain ⟨hv1, lh1, rh1, lenh1, _⟩ := H'.hands
    obtain ⟨b, o, a1, _, _, a2⟩ := rh1.at f'.wf (i := j) (x := hC x) (by rw [List.getElem?_map, hx]; rfl)
    replace a2 : ldNP 3 (.ptr b o) t' = some (.agg [.i (x.1 : Nat), .i (x.2.1 : Nat), .i (x.2.2 : Nat)]) := a2
    have em : (g.hs.length : Int) - 1 - ((g.hs.length : Int) - 1 - j) = (j : Nat) := by omega
    obtain ⟨u1', k1, ck1, fk1, nk1⟩ := new_ex (s := t') (l := [V.i 0, .i 0, .i 0]) (n := 3) f'.wf rfl
    obtain ⟨u2', k2, ck2, fk2, nk2⟩ := eSt_exN (s := u1') (b := t'.next) (o := 0) (vs := [V.i (x.1 : Nat), .i (x.2.1 : Nat), .i (x.2.2 : Nat)]) (m := 3) fk1.wf ck1 rfl (by simp) (by intro v hv; simp at hv; rcases hv with rfl | rfl | rfl <;> rfl)
    replace ck2 : u2'.cl t'.next = some [V.i (x.1 : Nat), .i (x.2.1 : Nat), .i (x.2.2 : Nat)] := by rw [ck2]; simp [putL]
    have Fk : Fr t' u2' [] := fk1.trans' fk2 (fun b hb => .inr (by simp at hb; omega))
    have cob := Fk.cl f'.wf co' (by simp)
    have hbol' := cl_lt f'.wf co'
    have q7 : ldP (.ptr bo 7) u2' = some hv := dLd_eq fk2.wf cob rfl
    have qa : ldP (.ptr t'.next 0) u2' = some (.i (x.1 : Nat)) := dLd_eq fk2.wf ck2 rfl
    have qb : ldP (.ptr t'.next 1) u2' = some (.i (x.2.1 : Nat)) := dLd_eq fk2.wf ck2 rfl
    have qc : ldP (.ptr t'.next 2) u2' = some (.i (x.2.2 : Nat)) := dLd_eq fk2.wf ck2 rfl
    obtain ⟨ha, hb', hc⟩ := hh x (List.mem_of_getElem? hx)
    have cpb2 := Fk.cl f'.wf (f'.cl ft2.wf cpb' (by simpa using fun h => hne1 h.symm)) (by simp)
    have pl : ∀ k : Nat, k < g.labels → ldP (.ptr s1.next k) u2' = some (.i (P.getD k 0)) := fun k hk => dLd_eq fk2.wf cpb2 (by rw [List.getElem?_map, hPd k hk]; rfl)
    have gh2 := gh.fr f'.wf Fk (by simp)
    have hsame := gh.same
    obtain ⟨u3', v3, u4', k3, k4, gh4, fk4, hb4⟩ := gh2.push fk2.wf (hRow_row P x) (by simp; omega)
    have hab : bslP 1 4 [V.i 0, .i 0, .i 0, .str []] [(0, 4, .agg [.i (P.getD x.1 0), .i (P.getD x.2.1 0), .i (P.getD x.2.2 0), .str thr])] u2'.next = some (.slice u2'.next 0 1 (some 1) 4, .cells 4 (ofL (hRow P x))) := aBSl_agg rfl rfl (allOne_of (hRow_row P x).2)
    have hbon : bo ∉ blkV hv := fun h => by have := hhb bo h; omega
    have cob4 := fk4.cl fk2.wf cob hbon
    obtain ⟨u5', k5, ck5, fk5, nk5⟩ := eSt_ex (s := u4') (b := bo) (o := 7) (v := v3) fk4.wf cob4 (by simp [mCells]) gh4.one
    replace ck5 : u5'.cl bo = some (mCells nm ds st (tyL g.plain).length bv v3 fv) := by rw [ck5]; rfl
    have htk : (g.hs.take j).map (hRow P) ++ [hRow P x] = (g.hs.take (j + 1)).map (hRow P) := by rw [List.take_succ, hx]; simp
    rw [htk] at gh4
    have s144 : sameV 100 hv1 hv1 = true := by
     rcases rh1.2 with ⟨_, rfl | ⟨b, o, c, rfl⟩⟩ | ⟨b, o, c, n, f, rfl, _⟩; exact same_nils; exact same_slice _ _ _ _ _; exact same_slice _ _ _ _ _
    have sagg : sameV 100 (.agg [.i (x.1 : Nat), .i (x.2.1 : Nat), .i (x.2.2 : Nat)]) (.agg [.i (x.1 : Nat), .i (x.2.1 : Nat), .i (x.2.2 : Nat)]) = true := by
     show and (eqI _ _) (and (eqI _ _) (and (eqI _ _) true)) = true
     rw [eqI_self, eqI_self, eqI_self]; rfl
    simp -implicitDefEqProofs (disch := first|go_size|fail) only [go_sem, ↓p68_61.eq_1, ↓p68_25.eq_1, j0, j8, j9, j13, j16, c, lh1, lenh1, em, a1, a2, aAl_eq, k1, k2, q7, qa, qb, qc, ha, hb', hc, pl, Int.toNat_natCast, fb4, hab, k3, k4, k5, Nat.zero_add, s144, sagg, hsame]
    refine ⟨g.hs.length - (j + 1), by omega, j + 1, v3, rfl, by omega, (((f'.trans' Fk (by simp)).trans' fk4 (fun b hb => .inr (hhb b hb)))).trans fk5, ck5, gh4.fr fk4.wf fk5 (fun b hb => by have := hb4 b hb; have := Fk.nx; simp; omega), fun b hb => by have := hb4 b hb; have := Fk.nx; omega, (by trivial), (by trivial), (by trivial), (by trivial), by show V.i _ = V.i _; congr 1; omega⟩
  · have hjl : j = g.hs.length := by omega
    subst hjl
    rw [List.take_length] at gh
    simp -implicitDefEqProofs (disch := first|go_size|fail) only [go_sem, ↓p68_61.eq_1, ↓p68_25.eq_1, j16, c]
    have bb : ∀ b, b ∈ blkV bv ∨ b ∈ blkV hv ∨ b ∈ blkV fv → s.next ≤ b ∧ b < t'.next ∧ b ≠ s.next ∧ b ≠ bo := fun b hb => by
     have := ft.nx
     rcases hb with hb | hb | hb
     · have := hb1 b hb; omega
     · have := hhb b hb; have := gh.lt f'.wf b hb; omega
     · have := hfb b hb; omega
    exact rest3 _ t' bv hv fv rows bo Ft (f'.cl ft2.wf c8' (by simpa using fun h => hne h.symm)) co' hne hbo (sl2.fr ft2.wf f' (fun b hb => by have := bb b (.inl hb); simp; omega)) hbv1 (gh.rn f'.wf) gh.one ((fv2.fr ft2.wf f' (fun b hb => by have := bb b (.inr (.inr hb)); simp; omega)).rn f'.wf) fv2.one hfr hrl bb (by trivial) (by trivial)
 have hIn : ∀ k, 0 ≤ (runI P (g.ls.take k)).2 ∧ (runI P (g.ls.take k)).2 ≤ 1200 := fun k => by
  have := runI_len P (g.ls.take k)
  have h2 : (g.ls.take k).length ≤ g.ls.length := List.length_take_le' k g.ls
  omega
 have rest1 : ∀ (e : E) (t : St), Fr s t [] → t.cl s.next = some [V.str [], .str [], .bool false, .bool false, .i 0, .i 0, .nils, .nils, .nils] → t.cl s1.next = some (P.map V.i) → e.a0.a0 = .ptr mb 0 → e.a0.a1 = .str nm → e.a0.a2 = .str ds → e.a0.a3 = .bool st → e.a0.a8 = .ptr s.next 0 → e.a0.a9 = .slice s1.next 0 g.labels (some g.labels) 1 → Ret (retR (resV [rC true 9 g8]) (p68_25 (K d) e t)) Q := by
  intro e t ft c8 cpb i0 i1 i2 i3 i8 i9
  have Ht := H.mv ft (by simp)
  have hsl := cl_lt ft.wf c8
  have hpbl := cl_lt ft.wf cpb
  obtain ⟨t1, e75, Ht1, _, ft1, _⟩ := Ht.types (m := d) (by omega)
  obtain ⟨t2, k2, ck2, ft2, nt2⟩ := new_ex (s := t1) (l := [V.str [], .str [], .bool false, .bool false, .i 0, .i 0, .nils, .nils, .nils]) (n := 9) ft1.wf rfl
  obtain ⟨t3, k3, ck3, ft3, nt3⟩ := eSt_exN (s := t2) (b := t1.next) (o := 0) (vs := mCells nm ds st (tyL g.plain).length .nils .nils .nils) (m := 9) ft2.wf ck2 rfl (by simp) (mCells_one rfl rfl rfl)
  replace ck3 : t3.cl t1.next = some (mCells nm ds st (tyL g.plain).length .nils .nils .nils) := by rw [ck3]; simp [putL, mCells]
  have hft1 := ft1.nx
  have F3 : Fr t t3 [] := (ft1.trans ft2).trans' ft3 (fun b hb => .inr (by simp at hb; omega))
  have Fs3 : Fr s t3 [] := ft.trans F3
  have c83 := F3.cl ft.wf c8 (by simp)
  have cpb3 := F3.cl ft.wf cpb (by simp)
  have hst := ft.nx
  simp -implicitDefEqProofs (disch := first|go_size|fail) only [go_sem, ↓p68_78.eq_1, ↓p68_25.eq_1, i0, i1, i2, i3, i8, i9, e75, uLenS_slice, fb9, aAl_eq, k2, k3]
  refine loop_at (Q := fun r => Ret (retR _ (seqR (blkR 2 r) _)) _) (fun q e t' => ∃ (i : Nat) (cv fv : V) (rows : List (List V)), q = g.ls.length - i ∧ i ≤ g.ls.length ∧ Fr t3 t' [t1.next] ∧ t'.cl t1.next = some (mCells nm ds st (tyL g.plain).length .nils .nils fv) ∧ GN 4 t' cv ((runI P (g.ls.take i)).1.map In.cells) ∧ GN 3 t' fv rows ∧ (∀ r ∈ rows, FRow r) ∧ rows.length ≤ i ∧ (∀ b ∈ blkV cv, t3.next ≤ b ∧ b ∉ blkV fv) ∧ (∀ b ∈ blkV fv, t3.next ≤ b) ∧ g0 e = .ptr mb 0 ∧ g8 e = .ptr s.next 0 ∧ g9 e = .slice s1.next 0 g.labels (some g.labels) 1 ∧ g12 e = cv ∧ g13 e = .ptr t1.next 0 ∧ g10 e = .i (runI P (g.ls.take i)).2 ∧ g14 e = .i (i : Nat)) ?_ (n := g.ls.length) (by omega) ⟨0, .nils, .nils, [], by omega, by omega, Fr.refl ft3.wf _, ck3, ⟨by simp [runI], .inl ⟨rfl, .inl rfl⟩⟩, ⟨by simp, .inl ⟨rfl, .inl rfl⟩⟩, by simp, by simp, by simp [blkV], by simp [blkV], (by trivial), (by trivial), (by trivial), (by trivial), (by trivial), (by trivial), (by trivial)⟩
  rintro q e t' ⟨i, cv, fv, rows, rfl, hi, f', co', gc, gf, hfr, hrl, hcb, hfb, j0, j8, j9, j12, j13, j10, j14⟩
  replace j0 : e.a0.a0 = _ := j0
  replace j8 : e.a0.a8 = _ := j8
  replace j9 : e.a0.a9 = _ := j9
  replace j12 : e.a0.a12 = _ := j12
  replace j13 : e.a0.a13 = _ := j13
  replace j10 : e.a0.a10 = _ := j10
  replace j14 : e.a0.a14 = _ := j14
  have Ft : Fr s t' [] := Fs3.trans' f' (fun b hb => .inr (by simp at hb; omega))
  have H' := H.mv Ft (by simp)
  have hf' := f'.nx
  obtain ⟨lv, hlv, rlv, llv, _⟩ := H'.lines
  have hbol := cl_lt f'.wf co'
  have hat' := hIn i
  generalize hat0 : (runI P (g.ls.take i)).2 = at0 at *
  by_cases c : (i : Int) < ((g.ls.length : Nat) : Int)
  · obtain ⟨x, hx⟩ : ∃ x, g.ls[i]? = some x := ⟨_, List.getElem?_eq_getElem (by omega)⟩
    have hokx := hok x (List.mem_of_getElem? hx)
    have htk := take_snocL hx
    have hrs := runI_snoc P (g.ls.take i) x
    rw [← htk] at hrs
    obtain ⟨b, o, a1, _, _, a2⟩ := rlv.at f'.wf (i := i) (x := x.cells) (by rw [List.getElem?_map, hx]; rfl)
    obtain ⟨w1', k4, ck4, fk4, nk4⟩ := new_ex (s := t') (l := [V.i 0, .i 0, .i 0, .i 0, .i 0, .i 0]) (n := 6) f'.wf rfl
    obtain ⟨w2', k5, ck5, fk5, nk5⟩ := eSt_exN (s := w1') (b := t'.next) (o := 0) (vs := x.cells) (m := 6) fk4.wf ck4 x.row.1 (by simp) x.row.2
    have hx6 := x.row.1
    replace ck5 : w2'.cl t'.next = some x.cells := by rw [ck5]; simp [putL, hx6]
    have Fk : Fr t' w2' [] := fk4.trans' fk5 (fun b hb => .inr (by simp at hb; omega))
    have co2 := Fk.cl f'.wf co' (by simp)
    have gc2 := gc.fr f'.wf Fk (by simp)
    have gf2 := gf.fr f'.wf Fk (by simp)
    have Hw2 := H'.mv Fk (by simp)
    have hFk := Fk.nx
    have gcl := gc.lt f'.wf
    have gfl := gf.lt f'.wf
    cases x with
    | here l =>
      have q5 : ldP (.ptr t'.next 5) w2' = some (.i (l : Nat)) := dLd_eq fk5.wf ck5 rfl
      have q8 : ldP (.ptr t1.next 8) w2' = some fv := dLd_eq fk5.wf co2 rfl
      obtain ⟨w3', k6, Hw3, _, fk6, _⟩ := Hw2.types (m := d) (by omega)
      have hk6 := fk6.nx
      have ck6 := fk6.cl fk5.wf ck5 (by simp)
      have co3 := fk6.cl fk5.wf co2 (by simp)
      have q5' : ldP (.ptr t'.next 5) w3' = some (.i (l : Nat)) := dLd_eq fk6.wf ck6 rfl
      have q8' : ldP (.ptr t1.next 8) w3' = some fv := dLd_eq fk6.wf co3 rfl
      obtain ⟨ct, k7⟩ := Hw3.caught l (by omega) (m := d) (by omega)
      have gf3 := gf2.fr fk5.wf fk6 (by simp)
      have gc3 := gc2.fr fk5.wf fk6 (by simp)
      obtain ⟨w4', fv', rows', k8, gf4, hfr4, hrl4, fk8, hfb4, hf1⟩ := frame_eq fk6.wf gf3 hfr (by omega) (tv := .slice w2'.next 0 (tyL g.plain).length (some (tyL g.plain).length) 1) rfl (a := at0) (by omega) (by omega) ct (m := d) (by omega)
      have hk8 := fk8.nx
      have co4 := fk8.cl fk6.wf co3 (fun h => by have := hfb _ h; omega)
      have gc4 := gc3.fr fk6.wf fk8 (fun b hb => (hcb b hb).2)
      obtain ⟨w5', k9, ck9, fk9, nk9⟩ := eSt_ex (s := w4') (b := t1.next) (o := 8) (v := fv') fk8.wf co4 (by simp [mCells]) hf1
      replace ck9 : w5'.cl t1.next = some (mCells nm ds st (tyL g.plain).length .nils .nils fv') := by rw [ck9]; rfl
      have hsm := gf.same
      have hfb' : ∀ b ∈ blkV fv', t3.next ≤ b := fun b hb => by rcases hfb4 b hb with h | h; exact hfb b h; omega
      have Fall : Fr t3 w5' [t1.next] := (((f'.trans' Fk (by simp)).trans' fk6 (by simp)).trans' fk8 (fun b hb => .inr (hfb b hb))).trans fk9
      have cge : (0 : Int) ≤ ((l : Nat) : Int) := by omega
      simp -implicitDefEqProofs (disch := first|go_size|fail) only [go_sem, ↓p68_78.eq_1, ↓p68_25.eq_1, j0, j8, j9, j12, j13, j10, j14, hlv, llv, c, a1, a2, aAl_eq, k4, k5, q5, q8, k6, q5', q8', k7, k8, k9, hsm, cge, Nat.zero_add]
      refine ⟨g.ls.length - (i + 1), by omega, i + 1, cv, fv', rows', rfl, by omega, Fall, ck9, ?_, gf4.fr fk8.wf fk9 (fun b hb => by have := hfb' b hb; simp; omega), hfr4, by omega, fun b hb => ⟨(hcb b hb).1, fun h => ?_⟩, hfb', (by trivial), (by trivial), (by trivial), (by trivial), (by trivial), ?_, (by trivial)⟩
      · rw [hrs]
        exact gc4.fr fk8.wf fk9 (fun b hb => by have := (hcb b hb).1; simp; omega)
      · rcases hfb4 b h with h | h
        · exact (hcb b hb).2 h
        · have := gcl b hb; omega
      · rw [hrs]; show _ = V.i (runI P (g.ls.take i)).2; rw [hat0]
    | op o' x' y' =>
      have q5 : ldP (.ptr t'.next 5) w2' = some (.i (-1)) := dLd_eq fk5.wf ck5 rfl
      obtain ⟨w3', k6, ck6, fk6, nk6⟩ := eSt_ex (s := w2') (b := t'.next) (o := 0) (v := .i at0) fk5.wf ck5 (by simp [L.cells]) rfl
      replace ck6 : w3'.cl t'.next = some [V.i at0, .i o', .i x', .i y', .i (-1), .i (-1)] := by rw [ck6]; rfl
      have q4 : ldP (.ptr t'.next 4) w3' = some (.i (-1)) := dLd_eq fk6.wf ck6 rfl
      have qn : ldNP 4 (.ptr t'.next 0) w3' = some (.agg (In.cells ⟨at0, o', x', y'⟩)) := by rw [dLdN_eq (o := 0) (m := 4) fk6.wf ck6 (by simp)]; rfl
      have gc3 := gc2.fr fk5.wf fk6 (fun b hb => by have := gcl b hb; simp; omega)
      have gf3 := gf2.fr fk5.wf fk6 (fun b hb => by have := gfl b hb; simp; omega)
      have co3 := fk6.cl fk5.wf co2 (by simp; omega)
      have hIl := (runI_len P (g.ls.take i)).1
      have hIl2 : (g.ls.take i).length ≤ 400 := by have := List.length_take_le' i g.ls; omega
      obtain ⟨w4', v4, w5', k7, k8, gc5, fk8, hb8'⟩ := gc3.push fk6.wf (In.row ⟨at0, o', x', y'⟩) (by rw [List.length_map]; omega)
      have hab : bslP 1 4 [V.i 0, .i 0, .i 0, .i 0] [(0, 4, .agg (In.cells ⟨at0, o', x', y'⟩))] w3'.next = some (.slice w3'.next 0 1 (some 1) 4, .cells 4 (ofL (In.cells ⟨at0, o', x', y'⟩))) := aBSl_agg rfl rfl (allOne_of (In.row _).2)
      have hx5 : t'.next ∉ blkV cv := fun h => by have := gcl _ h; omega
      have ck8 := fk8.cl fk6.wf ck6 hx5
      have q1 : ldP (.ptr t'.next 1) w5' = some (.i o') := dLd_eq fk8.wf ck8 rfl
      have z46 := cc46 hokx.1 hokx.2 w5' (m := d) (by omega)
      have hk6 := fk6.nx
      have hk8 := fk8.nx
      have Fall : Fr t3 w5' [t1.next] := ((f'.trans' Fk (by simp)).trans' fk6 (fun b hb => .inr (by simp at hb; omega))).trans' fk8 (fun b hb => .inr (hcb b hb).1)
      have hsz := sizeI_le o'
      simp -implicitDefEqProofs (disch := first|go_size|fail) only [go_sem, ↓p68_78.eq_1, ↓p68_25.eq_1, j0, j8, j9, j12, j13, j10, j14, hlv, llv, c, a1, a2, aAl_eq, k4, k5, q5, k6, q4, qn, hab, k7, k8, q1, z46, Nat.zero_add]
      refine ⟨g.ls.length - (i + 1), by omega, i + 1, v4, fv, rows, rfl, by omega, Fall, fk8.cl fk6.wf co3 (fun h => by have := (hcb _ h).1; omega), ?_, gf3.fr fk6.wf fk8 (fun b hb h => (hcb b h).2 hb), hfr, by omega, fun b hb => ⟨by have := hb8' b hb; omega, fun h => by have := hb8' b hb; have := gfl b h; omega⟩, hfb, (by trivial), (by trivial), (by trivial), (by trivial), (by trivial), ?_, (by trivial)⟩
      · rw [hrs]; show GN 4 w5' v4 (((runI P (g.ls.take i)).1 ++ [(⟨(runI P (g.ls.take i)).2, o', x', y'⟩ : In)]).map In.cells)
        rw [hat0, List.map_append]; exact gc5
      · rw [hrs]; show _ = V.i ((runI P (g.ls.take i)).2 + sizeI o'); rw [hat0]
    | jmp o' l =>
      have q5 : ldP (.ptr t'.next 5) w2' = some (.i (-1)) := dLd_eq fk5.wf ck5 rfl
      obtain ⟨w3', k6, ck6, fk6, nk6⟩ := eSt_ex (s := w2') (b := t'.next) (o := 0) (v := .i at0) fk5.wf ck5 (by simp [L.cells]) rfl
      replace ck6 : w3'.cl t'.next = some [V.i at0, .i o', .i 0, .i 0, .i (l : Nat), .i (-1)] := by rw [ck6]; rfl
      have q4 : ldP (.ptr t'.next 4) w3' = some (.i (l : Nat)) := dLd_eq fk6.wf ck6 rfl
      have cge : (0 : Int) ≤ ((l : Nat) : Int) := by omega
      have cpbw := fk6.cl fk5.wf (Fk.cl f'.wf (f'.cl ft3.wf cpb3 (by simp; omega)) (by simp)) (by have := cl_lt ft.wf cpb; simp; omega)
      have hln := hokx.2.2
      have ql : ldP (.ptr s1.next l) w3' = some (.i (P.getD l 0)) := dLd_eq fk6.wf cpbw (by rw [List.getElem?_map, hPd l hln]; rfl)
      obtain ⟨w4', k7, ck7, fk7, nk7⟩ := eSt_ex (s := w3') (b := t'.next) (o := 2) (v := .i (P.getD l 0)) fk6.wf ck6 (by simp) rfl
      replace ck7 : w4'.cl t'.next = some [V.i at0, .i o', .i (P.getD l 0), .i 0, .i (l : Nat), .i (-1)] := by rw [ck7]; rfl
      have qn : ldNP 4 (.ptr t'.next 0) w4' = some (.agg (In.cells ⟨at0, o', P.getD l 0, 0⟩)) := by rw [dLdN_eq (o := 0) (m := 4) fk7.wf ck7 (by simp)]; rfl
      have gc3 := (gc2.fr fk5.wf fk6 (fun b hb => by have := gcl b hb; simp; omega)).fr fk6.wf fk7 (fun b hb => by have := gcl b hb; simp; omega)
      have gf3 := (gf2.fr fk5.wf fk6 (fun b hb => by have := gfl b hb; simp; omega)).fr fk6.wf fk7 (fun b hb => by have := gfl b hb; simp; omega)
      have co3 := fk7.cl fk6.wf (fk6.cl fk5.wf co2 (by simp; omega)) (by simp; omega)
      have hIl := (runI_len P (g.ls.take i)).1
      have hIl2 : (g.ls.take i).length ≤ 400 := by have := List.length_take_le' i g.ls; omega
      obtain ⟨w5', v4, w6', k8, k9, gc5, fk9, hb8'⟩ := gc3.push fk7.wf (In.row ⟨at0, o', P.getD l 0, 0⟩) (by rw [List.length_map]; omega)
      have hab : bslP 1 4 [V.i 0, .i 0, .i 0, .i 0] [(0, 4, .agg (In.cells ⟨at0, o', P.getD l 0, 0⟩))] w4'.next = some (.slice w4'.next 0 1 (some 1) 4, .cells 4 (ofL (In.cells ⟨at0, o', P.getD l 0, 0⟩))) := aBSl_agg rfl rfl (allOne_of (In.row _).2)
      have hx5 : t'.next ∉ blkV cv := fun h => by have := gcl _ h; omega
      have ck8 := fk9.cl fk7.wf ck7 hx5
      have q1 : ldP (.ptr t'.next 1) w6' = some (.i o') := dLd_eq fk9.wf ck8 rfl
      have z46 := cc46 hokx.1 hokx.2.1 w6' (m := d) (by omega)
      have hk6 := fk6.nx
      have hk7 := fk7.nx
      have hk8 := fk9.nx
      have Fall : Fr t3 w6' [t1.next] := (((f'.trans' Fk (by simp)).trans' fk6 (fun b hb => .inr (by simp at hb; omega))).trans' fk7 (fun b hb => .inr (by simp at hb; omega))).trans' fk9 (fun b hb => .inr (hcb b hb).1)
      have hsz := sizeI_le o'
      simp -implicitDefEqProofs (disch := first|go_size|fail) only [go_sem, ↓p68_78.eq_1, ↓p68_25.eq_1, j0, j8, j9, j12, j13, j10, j14, hlv, llv, c, a1, a2, aAl_eq, k4, k5, q5, k6, q4, cge, hln, Int.toNat_natCast, ql, k7, qn, hab, k8, k9, q1, z46, Nat.zero_add]
      refine ⟨g.ls.length - (i + 1), by omega, i + 1, v4, fv, rows, rfl, by omega, Fall, fk9.cl fk7.wf co3 (fun h => by have := (hcb _ h).1; omega), ?_, gf3.fr fk7.wf fk9 (fun b hb h => (hcb b h).2 hb), hfr, by omega, fun b hb => ⟨by have := hb8' b hb; omega, fun h => by have := hb8' b hb; have := gfl b h; omega⟩, hfb, (by trivial), (by trivial), (by trivial), (by trivial), (by trivial), ?_, (by trivial)⟩
      · rw [hrs]; show GN 4 w6' v4 (((runI P (g.ls.take i)).1 ++ [(⟨(runI P (g.ls.take i)).2, o', P.getD l 0, 0⟩ : In)]).map In.cells)
        rw [hat0, List.map_append]; exact gc5
      · rw [hrs]; show _ = V.i ((runI P (g.ls.take i)).2 + sizeI o'); rw [hat0]
  · have hil : i = g.ls.length := by omega
    subst hil
    rw [List.take_length, hIs] at gc
    simp -implicitDefEqProofs (disch := first|go_size|fail) only [go_sem, ↓p68_78.eq_1, ↓p68_25.eq_1, j0, j14, hlv, llv, c]
    exact rest2 _ t' cv fv rows t1.next Ft (f'.cl ft3.wf c83 (by simp; omega)) (f'.cl ft3.wf cpb3 (by simp; omega)) co' (by omega) (by omega) (by omega) (gc.rn f'.wf) (gc.lt f'.wf) gf hfr (by omega) (fun b hb => by have := hfb b hb; have := gf.lt f'.wf b hb; omega) (by trivial) (by trivial) (by trivial) (by trivial) (by trivial)
 suffices key : Ret ((K (d + 1)).call 68 [.ptr mb 0, .str nm, .str ds, .bool st] s) Q by
  obtain ⟨x, t, e, c, rfl, h1, h2⟩ := key
  exact ⟨t, c, e, h1, h2⟩
 have hPn : ∀ k, 0 ≤ (runP g.labels (g.ls.take k)).2 ∧ (runP g.labels (g.ls.take k)).2 ≤ 1200 ∧ (runP g.labels (g.ls.take k)).1.length = g.labels := fun k => by
  have := runP_len g.labels (g.ls.take k)
  have h2 : (g.ls.take k).length ≤ g.ls.length := List.length_take_le' k g.ls
  omega
 simp -implicitDefEqProofs (disch := first|go_size|fail) only [op68, go_sem, ↓p68_78.eq_1, ↓p68_61.eq_1, aAl_eq, e1, l3, aMkS_i, Int.toNat_natCast, e2]
 refine loop_at (Q := fun r => Ret (retR _ (seqR (blkR 0 r) _)) _) (fun q e t => ∃ i : Nat, q = g.ls.length - i ∧ i ≤ g.ls.length ∧ Fr s2 t [s1.next] ∧ t.cl s1.next = some ((runP g.labels (g.ls.take i)).1.map V.i) ∧ g0 e = .ptr mb 0 ∧ g1 e = .str nm ∧ g2 e = .str ds ∧ g3 e = .bool st ∧ g8 e = .ptr s.next 0 ∧ g9 e = .slice s1.next 0 g.labels (some g.labels) 1 ∧ g10 e = .i (runP g.labels (g.ls.take i)).2 ∧ g11 e = .i (i : Nat)) ?_ (n := g.ls.length) (by omega) ⟨0, by omega, by omega, Fr.refl f2.wf _, by rw [c2]; simp [runP], (by trivial), (by trivial), (by trivial), (by trivial), (by trivial), (by trivial), (by trivial), (by trivial)⟩
 rintro q e t ⟨i, rfl, hi, f', cp, j0, j1, j2, j3, j8, j9, j10, j11⟩
 replace j0 : e.a0.a0 = _ := j0
 replace j1 : e.a0.a1 = _ := j1
 replace j2 : e.a0.a2 = _ := j2
 replace j3 : e.a0.a3 = _ := j3
 replace j8 : e.a0.a8 = _ := j8
 replace j9 : e.a0.a9 = _ := j9
 replace j10 : e.a0.a10 = _ := j10
 replace j11 : e.a0.a11 = _ := j11
 have Ft : Fr s t [] := F2.trans' f' (fun b hb => .inr (by simp at hb; omega))
 have H' := H.mv Ft (by simp)
 obtain ⟨lv, hlv, rlv, llv, _⟩ := H'.lines
 obtain ⟨p0, p1, pl⟩ := hPn i
 by_cases c : (i : Int) < ((g.ls.length : Nat) : Int)
 · obtain ⟨x, hx⟩ : ∃ x, g.ls[i]? = some x := ⟨_, List.getElem?_eq_getElem (by omega)⟩
   have hokx := hok x (List.mem_of_getElem? hx)
   have htk := take_snocL hx
   have hrs := runP_snoc g.labels (g.ls.take i) x
   rw [← htk] at hrs
   obtain ⟨b, o, a1, _, a2, _⟩ := rlv.at f'.wf (i := i) (x := x.cells) (by rw [List.getElem?_map, hx]; rfl)
   cases x with
   | here l =>
     have q5 := a2 5 (.i (l : Nat)) rfl
     have cge : (0 : Int) ≤ ((l : Nat) : Int) := by omega
     have hln : l < g.labels := hokx
     obtain ⟨t3, k3, ck3, fk3, nk3⟩ := eSt_ex (s := t) (b := s1.next) (o := l) (v := .i (runP g.labels (g.ls.take i)).2) f'.wf cp (by rw [List.length_map]; omega) rfl
     simp -implicitDefEqProofs (disch := first|go_size|fail) only [go_sem, ↓p68_78.eq_1, ↓p68_61.eq_1, j0, j1, j2, j3, j8, j9, j10, j11, hlv, llv, c, a1, q5, cge, hln, Int.toNat_natCast, k3, Nat.zero_add]
     refine ⟨g.ls.length - (i + 1), by omega, i + 1, rfl, by omega, f'.trans fk3, ?_, (by trivial), (by trivial), (by trivial), (by trivial), (by trivial), (by trivial), ?_, (by trivial)⟩
     · rw [ck3, hrs]; show _ = some (((runP g.labels (g.ls.take i)).1.set l (runP g.labels (g.ls.take i)).2).map V.i); rw [List.map_set]
     · rw [hrs]; rfl
   | op o' x' y' =>
     have q5 := a2 5 (.i (-1)) rfl
     have q1 := a2 1 (.i o') rfl
     have z46 := cc46 hokx.1 hokx.2 t (m := d) (by omega)
     have hsz := sizeI_le o'
     simp -implicitDefEqProofs (disch := first|go_size|fail) only [go_sem, ↓p68_78.eq_1, ↓p68_61.eq_1, j0, j1, j2, j3, j8, j9, j10, j11, hlv, llv, c, a1, q5, q1, z46]
     refine ⟨g.ls.length - (i + 1), by omega, i + 1, rfl, by omega, f', ?_, (by trivial), (by trivial), (by trivial), (by trivial), (by trivial), (by trivial), ?_, (by trivial)⟩
     · rw [hrs]; exact cp
     · rw [hrs]; rfl
   | jmp o' l =>
     have q5 := a2 5 (.i (-1)) rfl
     have q1 := a2 1 (.i o') rfl
     have z46 := cc46 hokx.1 hokx.2.1 t (m := d) (by omega)
     have hsz := sizeI_le o'
     simp -implicitDefEqProofs (disch := first|go_size|fail) only [go_sem, ↓p68_78.eq_1, ↓p68_61.eq_1, j0, j1, j2, j3, j8, j9, j10, j11, hlv, llv, c, a1, q5, q1, z46]
     refine ⟨g.ls.length - (i + 1), by omega, i + 1, rfl, by omega, f', ?_, (by trivial), (by trivial), (by trivial), (by trivial), (by trivial), (by trivial), ?_, (by trivial)⟩
     · rw [hrs]; exact cp
     · rw [hrs]; rfl
 · have hil : i = g.ls.length := by omega
   subst hil
   rw [List.take_length, hP] at cp
   simp -implicitDefEqProofs (disch := first|go_size|fail) only [go_sem, ↓p68_78.eq_1, ↓p68_61.eq_1, j0, j11, hlv, llv, c]
   exact rest1 _ t Ft (f'.cl f2.wf (f2.cl f1.wf c1 (by simp)) (by simp; omega)) cp (by trivial) (by trivial) (by trivial) (by trivial) (by trivial) (by trivial)
structure Made (ls : List L) (n : Nat) (hs : List (Nat × Nat × Nat)) : Prop where
 ok : ∀ x ∈ ls, okL x
 here : (heres ls).Perm (List.range' 0 n)
 tgt : ∀ t ∈ targets ls, t < n
 hok : ∀ h ∈ hs, HOk ls h ∧ h.2.2 < n
 len : ls.length ≤ 300
 n54 : n ≤ 54
 hl : hs.length ≤ 54
 last : ∃ l o, ls = l ++ [.op o 0 0] ∧ endsI o = true
theorem mem_heres {l : Nat} : ∀ {ls : List L}, L.here l ∈ ls → l ∈ heres ls
 | .here k :: r, h => by
   simp only [heres, List.mem_cons]
   rcases List.mem_cons.1 h with h | h
   · cases h; exact .inl rfl
   · exact .inr (mem_heres h)
 | .op _ _ _ :: r, h => by
   rcases List.mem_cons.1 h with h | h
   · cases h
   · exact mem_heres (ls := r) h
 | .jmp _ _ :: r, h => by
   rcases List.mem_cons.1 h with h | h
   · cases h
   · exact mem_heres (ls := r) h
theorem mem_targets {o : Int} {l : Nat} : ∀ {ls : List L}, L.jmp o l ∈ ls → l ∈ targets ls
 | .jmp _ k :: r, h => by
   simp only [targets, List.mem_cons]
   rcases List.mem_cons.1 h with h | h
   · cases h; exact .inl rfl
   · exact .inr (mem_targets h)
 | .op _ _ _ :: r, h => by
   rcases List.mem_cons.1 h with h | h
   · cases h
   · exact mem_targets (ls := r) h
 | .here _ :: r, h => by
   rcases List.mem_cons.1 h with h | h
   · cases h
   · exact mem_targets (ls := r) h
section
variable {ls : List L} {n : Nat} {hs : List (Nat × Nat × Nat)} (M : Made ls n hs)
include M
theorem Made.lt {l : Nat} (h : L.here l ∈ ls) : l < n := by
 have := M.here.mem_iff.1 (mem_heres h)
 simpa using this
theorem Made.okD : ∀ x ∈ ls, okD n x := fun x hx => by
 have h := M.ok x hx
 cases x with
 | op o a b => rcases h with h | ⟨rfl, _⟩; exact ⟨h.1.1, h.1.2.1⟩; exact ⟨by omega, by omega⟩
 | jmp o l => exact ⟨h.1, h.2.1, M.tgt l (mem_targets hx)⟩
 | here l => exact M.lt hx
theorem Made.hh : ∀ h ∈ hs, h.1 < n ∧ h.2.1 < n ∧ h.2.2 < n := fun h hh => by
 obtain ⟨⟨A, B, C, e, _⟩, h3⟩ := M.hok h hh
 exact ⟨M.lt (by rw [e]; simp), M.lt (by rw [e]; simp), h3⟩
end
theorem sgn_br {o : Int} (h : brI o = true) : sgnI o = true := by unfold sgnI; cases isIn o [16, 17] with | true => rfl | false => exact h
structure Ins (P : List Int) (l : List L) : Prop where
 ok : ∀ x ∈ (runI P l).1, okI x
 sum : (runI P l).2 = (((encB (runI P l).1).length : Nat) : Int)
 at_ : ∀ i x, (runI P l).1[i]? = some x → x.at_ = (((encB ((runI P l).1.take i)).length : Nat) : Int)
theorem Ins.push {P : List Int} {l : List L} (h : Ins P l) {x : L} {y : In} (hx : stepI P (runI P l) x = ((runI P l).1 ++ [y], (runI P l).2 + sizeI y.op)) (hy : okI y) (ha : y.at_ = (runI P l).2) : Ins P (l ++ [x]) := by
 have e : runI P (l ++ [x]) = ((runI P l).1 ++ [y], (runI P l).2 + sizeI y.op) := by rw [runI_snoc, hx]
 have hl := encI_len hy
 refine ⟨?_, ?_, ?_⟩
 · rw [e]; intro z hz
   rcases List.mem_append.1 hz with hz | hz
   · exact h.ok z hz
   · simp at hz; subst hz; exact hy
 · rw [e]; simp only; rw [encB_snoc, List.length_append, h.sum]; omega
 · rw [e]; simp only
   intro i z hz
   by_cases c : i < (runI P l).1.length
   · rw [List.getElem?_append_left c] at hz
     rw [List.take_append_of_le_length (by omega)]
     exact h.at_ i z hz
   · rw [List.getElem?_append_right (by omega)] at hz
     have : i = (runI P l).1.length := by
      have := (List.getElem?_eq_some_iff.1 hz).1
      simp at this; omega
     subst this
     simp at hz; subst hz
     rw [List.take_append_of_le_length (by omega), List.take_length, ha, h.sum]
theorem ins_of {P : List Int} {n : Nat} (hP : ∀ l, l < n → 0 ≤ P.getD l 0 ∧ P.getD l 0 ≤ 900) : ∀ (l : List L), (∀ x ∈ l, okL x) → (∀ t ∈ targets l, t < n) → l.length ≤ 300 → Ins P l := fun l h1 h2 h3 => by
 rcases List.eq_nil_or_concat l with rfl | ⟨l, x, rfl⟩
 · exact ⟨by simp [runI], by simp [runI, encB], by simp [runI]⟩
 · rw [List.concat_eq_append] at *
   rw [targets_app] at h2
   have ih := ins_of hP l (fun x hx => h1 x (by simp [hx])) (fun t ht => h2 t (by simp [ht])) (by simp at h3; omega)
   have hok := h1 x (by simp)
   have hr := runI_len P l
   have hl3 : l.length ≤ 300 := by simp at h3; omega
   cases x with
   | here k =>
     have e : runI P (l ++ [.here k]) = runI P l := by rw [runI_snoc]; rfl
     exact ⟨by rw [e]; exact ih.ok, by rw [e]; exact ih.sum, by rw [e]; exact ih.at_⟩
   | op o a b =>
     refine ih.push (y := ⟨(runI P l).2, o, a, b⟩) rfl ?_ rfl
     rcases hok with ⟨⟨q0, q1, q2, q3⟩, q4, q5⟩ | ⟨rfl, q1, q2, rfl⟩
     · have harg : In.arg ⟨(runI P l).2, o, a, b⟩ = a := by unfold In.arg; simp only; rw [q2]; rfl
       by_cases c : o = 132
       · have := q4 c
         exact ⟨⟨q0, q1, q3, by show _ ≤ (runI P l).2; omega, by show (runI P l).2 ≤ _; omega, by show _ ≤ a; omega, by show a ≤ _; omega⟩, fun _ => by show 0 ≤ a ∧ a ≤ 255 ∧ -128 ≤ b ∧ b ≤ 127; omega, fun h => absurd c h⟩
       · obtain ⟨w1, w2, w3, w4⟩ := q5 c
         have hab : -65536 ≤ a ∧ a ≤ 65536 := by
          rcases sizeI_cases o with h | h | h | h
          · exact absurd h q3
          · have := w2 h; omega
          · have := w3 h; omega
          · obtain ⟨z1, z2⟩ := w4 h
            cases hs : sgnI o with
            | true => have := z1 hs; omega
            | false => have := z2 hs; omega
         refine ⟨⟨q0, q1, q3, by show _ ≤ (runI P l).2; omega, by show (runI P l).2 ≤ _; omega, by show _ ≤ a; omega, by show a ≤ _; omega⟩, fun h => absurd h c, fun _ => ⟨w1, w2, fun h => ⟨fun hs => ?_, fun hs => ?_⟩, fun h => ⟨fun hs => ?_, fun hs => ?_⟩⟩⟩
         · have := (w3 h).1; rw [this] at hs; cases hs
         · have := (w3 h).2; show 0 ≤ a ∧ a ≤ 255; omega
         · rw [harg]; have := (w4 h).1 hs; omega
         · rw [harg]; have := (w4 h).2 hs; omega
     · refine ⟨⟨by show (0 : Int) ≤ 16; omega, by show (16 : Int) < 256; omega, by show sizeI 16 ≠ 0; decide, by show _ ≤ (runI P l).2; omega, by show (runI P l).2 ≤ _; omega, by show _ ≤ a; omega, by show a ≤ _; omega⟩, fun h => absurd h (by show (16 : Int) ≠ 132; decide), fun _ => ⟨rfl, fun h => absurd h (by show sizeI 16 ≠ 1; decide), fun _ => ⟨fun _ => by show -128 ≤ a ∧ a ≤ 127; omega, fun h => absurd h (by show sgnI 16 ≠ false; decide)⟩, fun h => absurd h (by show sizeI 16 ≠ 3; decide)⟩⟩
   | jmp o k =>
     obtain ⟨q0, q1, q2⟩ := hok
     have hk := hP k (h2 k (by simp [targets]))
     have h3 := brI_size q2
     have hsg := sgn_br q2
     have harg : In.arg ⟨(runI P l).2, o, P.getD k 0, 0⟩ = P.getD k 0 - (runI P l).2 := by unfold In.arg; simp only; rw [if_pos q2]
     refine ih.push (y := ⟨(runI P l).2, o, P.getD k 0, 0⟩) rfl ⟨⟨q0, q1, by show sizeI o ≠ 0; omega, by show _ ≤ (runI P l).2; omega, by show (runI P l).2 ≤ _; omega, by show _ ≤ P.getD k 0; omega, by show P.getD k 0 ≤ _; omega⟩, fun h => ?_, fun _ => ⟨rfl, fun h => absurd h (by show sizeI o ≠ 1; omega), fun h => absurd h (by show sizeI o ≠ 2; omega), fun _ => ⟨fun _ => by rw [harg]; omega, fun hs => absurd hs (by show sgnI o ≠ false; rw [hsg]; decide)⟩⟩⟩ rfl
     have h : o = 132 := h
     rw [h] at q2; cases q2
termination_by l => l.length
decreasing_by simp_wf; simp_all
theorem Made.places {ls : List L} {n : Nat} {hs : List (Nat × Nat × Nat)} (M : Made ls n hs) : ∀ l, l < n → 0 ≤ (runP n ls).1.getD l 0 ∧ (runP n ls).1.getD l 0 ≤ 900 := fun l hl => by
 have h1 := (runP_len n ls).1
 rw [List.getD_eq_getElem?_getD, List.getElem?_eq_getElem (by omega)]
 have := runP_in n ls l _ (List.getElem?_eq_getElem (by omega))
 have := M.len
 simp only [Option.getD_some]; omega
theorem Made.ins {ls : List L} {n : Nat} {hs : List (Nat × Nat × Nat)} (M : Made ls n hs) : Ins (runP n ls).1 ls ∧ (encB (runI (runP n ls).1 ls).1).length ≤ 1024 := by
 have h := ins_of M.places ls M.ok M.tgt M.len
 refine ⟨h, ?_⟩
 have h1 := h.sum
 have h2 := runI_len (runP n ls).1 ls
 have h3 := M.len
 omega
def gz (plain : Bool) : G := ⟨[], 0, plain, 110, 0, [], []⟩
theorem mb10 (rb : Nat) (pv : V) (plain : Bool) (hp : pv.one = true) : fillV [V.nilp, .nils, .nils, .i 0, .bool false, .i 0, .i 0, .nils, .nils, .nils] [(0, 1, .ptr rb 0), (1, 1, pv), (4, 1, .bool plain), (5, 1, .i 110)] = some (mbC (gz plain) rb pv .nils .nils .nils) := by
 rw [fillV_one rfl (by simp)]; simp only [List.set_cons_zero]
 rw [fillV_one hp (by simp)]; simp only [List.set_cons_zero, List.set_cons_succ]
 rfl
theorem RC.mono {s0 s1 s : St} {rb : Nat} (h : RC s0 s rb) (hle : s0.next ≤ s1.next) : RC s1 s rb := by
 obtain ⟨lv, l, a, h1, h2, h3, h4, h5, h6⟩ := h
 exact ⟨lv, l, a, h1, h2, h3, h4, h5, fun b hb => ⟨by have := (h6 b hb).1; omega, (h6 b hb).2⟩⟩
theorem RN.frS {s s' : St} {pv : V} {pool : List Cst} {b0 : Nat} {zs : List V} (h : RN 5 s pv (pool.map Cst.cells)) (hw : Wf s) (f : Fr s s' [b0]) (hz : s.cl b0 = some zs) (hn : ∀ v ∈ zs, ∀ n, v ≠ .int .i32 n) : RN 5 s' pv (pool.map Cst.cells) := by
 refine ⟨h.1, ?_⟩
 rcases h.2 with h0 | ⟨b, o, c, n, g', rfl, h2, h3, h4⟩
 · exact .inl h0
 · by_cases hb : b = b0
   · subst hb
     cases pool with
     | nil => exact .inl ⟨rfl, .inr ⟨_, _, _, rfl⟩⟩
     | cons x pool =>
       exfalso
       obtain ⟨xs, q1, q2, _⟩ := cl_inv hw hz
       rw [rdOf_cells q1] at h2
       cases h2
       have := h4 0 x.cells rfl 1 (by omega)
       have hl : o + 0 * 5 + 1 < zs.length := by simp at h3; omega
       rw [q2 _ hl] at this
       have hm := List.mem_of_getElem? (this.trans rfl)
       exact hn _ hm _ rfl
   · exact .inr ⟨b, o, c, n, g', rfl, (rd_same (f.same b (rd_lt hw h2) (by simpa using hb))).trans h2, h3, h4⟩
theorem MOk.mono {s s' t t' : St} {nm ds : List Nat} {st : Bool} {n : Nat} {code : List Nat} {hr : List (List V)} {c : List V} {L : List Nat} (h : MOk s t nm ds st n code hr c) (hw : Wf t) (f : Fr t t' L) (hL : ∀ b ∈ L, b < s.next ∨ t.next ≤ b) (hs : s'.next ≤ s.next) : MOk s' t' nm ds st n code hr c := by
 obtain ⟨cv, hv, fv, rows, h0, o1, o2, o3, o4, o5, o6, o7, o8, o9⟩ := h.ex
 have no : ∀ b, b ∈ blkV cv ∨ b ∈ blkV hv ∨ b ∈ blkV fv → b ∉ L := fun b hb hm => by have := o9 b hb; have := hL b hm; omega
 exact ⟨cv, hv, fv, rows, h0, o1.fr hw f (fun b hb => no b (.inl hb)), o2, o3.fr hw f (fun b hb => no b (.inr (.inl hb))), o4, o5.fr hw f (fun b hb => no b (.inr (.inr hb))), o6, o7, o8, fun b hb => by have := o9 b hb; have := f.nx; omega⟩
theorem eql_gg : eqL [103, 111] [103, 111] = true := (rfl)
theorem eql_rg : eqL [114, 117, 110] [103, 111] = false := (rfl)
theorem Emit.fo {c : Nat} {g g' : G} (h : Emit c g g') : Fo [] g g' := (Fo.refl g).emit h
theorem made_of {plain : Bool} {g : G} (h : Fo [] (gz plain) g) (h54 : g.labels ≤ 54) (hl : -60 ≤ g.left) (hlast : ∃ l o, g.ls = l ++ [.op o 0 0] ∧ endsI o = true) : Made g.ls g.labels g.hs := by
 obtain ⟨⟨new, hn, tn, e1, e2, e3, e4, e5, e6, e7⟩, h2, h3, h4, h5⟩ := h
 have e1 : g.ls = new := by rw [e1]; rfl
 have e2 : g.hs = hn := by rw [e2]; rfl
 subst e1 e2
 rw [List.append_nil] at e5
 simp only [gz, List.length_nil] at h3 h4
 exact ⟨e4, e5, fun t ht => (e6 t ht).2, fun h hh => ⟨(e7 h hh).1, (e7 h hh).2.2⟩, by omega, h54, by omega, hlast⟩
set_option maxHeartbeats 4000000 in
theorem body_eq {s : St} {rb : Nat} {pv : V} {pool : List Cst} (hw : Wf s) (rc : RC s s rb) (hrb : rb < s.next) (hp : RN 5 s pv (pool.map Cst.cells)) (hpl : pool.length ≤ 256) (hpb : ∀ b ∈ blkV pv, b ≠ rb ∧ b < s.next) (nm ds : List Nat) (st plain gives : Bool) (hnm : st = true ∨ nm = [103, 111] ∨ nm = [114, 117, 110]) (fm : Nat) (hf : fm ≤ 10) {m : Nat} (hm : 30 ≤ m) :
 ∃ (t : St) (c : List V) (pv' : V) (pool' : List Cst) (ls : List L) (n k : Nat) (hs : List (Nat × Nat × Nat)), (K m).call 48 [.ptr rb 0, pv, .str nm, .str ds, .bool st, .bool plain, .bool gives, .i (fm : Nat)] s = some (.tup [.agg c, pv'], t) ∧ Made ls n hs ∧ MOk s t nm ds st k (encB (runI (runP n ls).1 ls).1) (hs.map (hRow (runP n ls).1)) c ∧
   RN 5 t pv' (pool'.map Cst.cells) ∧ pool'.length ≤ 256 ∧ (∀ b ∈ blkV pv', b ≠ rb ∧ b < t.next) ∧ RC t t rb ∧ Fr s t [rb] := by
 obtain ⟨d, rfl⟩ : ∃ d, m = d + 1 := ⟨m - 1, by omega⟩
 obtain ⟨s1, e1, c1, f1, n1⟩ := new_ex (s := s) (l := [V.str [], .str [], .bool false, .bool false, .i 0, .i 0, .nils, .nils, .nils]) (n := 9) hw rfl
 have hpv1 : pv.one = true := by rcases hp.2 with ⟨_, rfl | ⟨b, o, c, rfl⟩⟩ | ⟨b, o, c, n, f, rfl, _⟩ <;> rfl
 have hmbo : ∀ v ∈ mbC (gz plain) rb pv .nils .nils .nils, v.one = true := by
  intro v hv; simp [mbC] at hv
  rcases hv with rfl | rfl | rfl | rfl | rfl | rfl | rfl | rfl | rfl | rfl <;> first | rfl | exact hpv1
 obtain ⟨s2, e2, c2, f2, n2⟩ := new_ex (s := s1) (l := mbC (gz plain) rb pv .nils .nils .nils) (n := 10) f1.wf rfl
 have hbox : boxP (.agg (mbC (gz plain) rb pv .nils .nils .nils)) s1.next = some (.ptr s1.next 0, .cells 10 (ofL (mbC (gz plain) rb pv .nils .nils .nils))) := aBox_agg (allOne_of hmbo)
 have rc1 : RC s1 s1 rb := (rc.fr hw hrb f1 (by simp)).mono (by omega)
 have H : MK s1 s2 s1.next rb (gz plain) := ⟨f2.mono (by simp), rc1.fr f1.wf (by omega) f2 (by simp), by omega, Nat.le_refl _, pv, .nils, .nils, .nils, pool, c2, (hp.fr hw f1 (by simp)).fr f1.wf f2 (by simp), hpl, ⟨by simp [gz], .inl ⟨rfl, .inl rfl⟩⟩, ⟨by simp [gz], .inl ⟨rfl, .inl rfl⟩⟩, .inl ⟨rfl, rfl⟩, by simp [blkV], by simp [blkV], by simp [blkV], fun b hb => by have := hpb b hb; omega⟩
 let Q : V → St → Prop := fun x t => ∃ (c : List V) (pv' : V) (pool' : List Cst) (ls : List L) (n k : Nat) (hs : List (Nat × Nat × Nat)), x = .tup [.agg c, pv'] ∧ Made ls n hs ∧ MOk s t nm ds st k (encB (runI (runP n ls).1 ls).1) (hs.map (hRow (runP n ls).1)) c ∧
     RN 5 t pv' (pool'.map Cst.cells) ∧ pool'.length ≤ 256 ∧ (∀ b ∈ blkV pv', b ≠ rb ∧ b < t.next) ∧ RC t t rb ∧ Fr s t [rb]
 suffices key : Ret ((K (d + 1)).call 48 [.ptr rb 0, pv, .str nm, .str ds, .bool st, .bool plain, .bool gives, .i (fm : Nat)] s) Q by
  obtain ⟨x, t, e, c, pv', pool', ls, n, k, hs, rfl, h⟩ := key
  exact ⟨t, c, pv', pool', ls, n, k, hs, e, h⟩
 have hres : resV [rC true 9 g16, rT g17] = fun e s => (ldNP 9 (g16 e) s).map fun a => .tup [a, g17 e] := by
  funext e s
  have e1 : rC true 9 g16 e s = ldNP 9 (g16 e) s := rfl
  unfold resV
  simp only [evR, e1, rT]
  cases ldNP 9 (g16 e) s <;> rfl
 have rest2 : ∀ (e : E) (t : St) (g : G), MK s1 t s1.next rb g → Made g.ls g.labels g.hs → g.th.length ≤ 1000 → e.a0.a2 = .str nm → e.a0.a3 = .str ds → e.a0.a4 = .bool st → e.a1.a0 = .ptr s.next 0 → e.a1.a2 = .ptr s1.next 0 → Ret (retR (resV [rC true 9 g16, rT g17]) (p48_43 (K d) e t)) Q := by
  intro e t g Hg M hth i2 i3 i4 i16 i18
  obtain ⟨MI, hb⟩ := M.ins
  have hM := M.len
  have hM2 := M.n54
  have hM3 := M.hl
  obtain ⟨t1, c, e68, mo, ft1⟩ := Hg.done nm ds st M.okD (by omega) (by omega) hth (by omega) M.hh MI.ok MI.at_ hb (m := d) (by omega)
  have Hg1 := Hg.mv ft1 (by simp)
  obtain ⟨cv, hv, fv, rows, rfl, o1, o2, o3, o4, o5, o6, o7, o8, o9⟩ := mo.ex
  have hone := mCells_one (nm := nm) (ds := ds) (st := st) (n := (tyL g.plain).length) o2 o4 o6
  obtain ⟨t2, k2, ck2, ft2, nt2⟩ := new_ex (s := t1) (l := [V.str [], .str [], .bool false, .bool false, .i 0, .i 0, .nils, .nils, .nils]) (n := 9) ft1.wf rfl
  obtain ⟨t3, k3, ck3, ft3, nt3⟩ := eSt_exN (s := t2) (b := t1.next) (o := 0) (vs := mCells nm ds st (tyL g.plain).length cv hv fv) (m := 9) ft2.wf ck2 rfl (by simp) hone
  replace ck3 : t3.cl t1.next = some (mCells nm ds st (tyL g.plain).length cv hv fv) := by rw [ck3]; simp [putL, mCells]
  have q9 : ldNP 9 (.ptr t1.next 0) t3 = some (.agg (mCells nm ds st (tyL g.plain).length cv hv fv)) := by rw [dLdN_eq (o := 0) (m := 9) ft3.wf ck3 (by simp [mCells])]; rfl
  have F13 : Fr t1 t3 [] := ft2.trans' ft3 (fun b hb => .inr (by simp at hb; omega))
  have Hg3 := Hg1.mv F13 (by simp)
  obtain ⟨pv', lv', hv', tv', pool', w1, w2, w3, w4, w5, w6, x1, x2, x3, x4⟩ := Hg3.ex
  have qp : ldP (.ptr s1.next 1) t3 = some pv' := dLd_eq ft3.wf w1 rfl
  have hFr := Hg.fr
  have hnx := Hg3.fr.nx
  have c16 : t3.cl s.next = some [V.str [], .str [], .bool false, .bool false, .i 0, .i 0, .nils, .nils, .nils] := Hg3.fr.cl f1.wf c1 (by simp; omega)
  obtain ⟨t4, k4, ck4, ft4, nt4⟩ := eSt_exN (s := t3) (b := s.next) (o := 0) (vs := mCells nm ds st (tyL g.plain).length cv hv fv) (m := 9) ft3.wf c16 rfl (by simp) hone
  replace ck4 : t4.cl s.next = some (mCells nm ds st (tyL g.plain).length cv hv fv) := by rw [ck4]; simp [putL, mCells]
  have q16 : ldNP 9 (.ptr s.next 0) t4 = some (.agg (mCells nm ds st (tyL g.plain).length cv hv fv)) := by rw [dLdN_eq (o := 0) (m := 9) ft4.wf ck4 (by simp [mCells])]; rfl
  have w1' := ft4.cl ft3.wf w1 (by simp; omega)
  have qp' : ldP (.ptr s1.next 1) t4 = some pv' := dLd_eq ft4.wf w1' rfl
  have spv : sameV 100 pv' pv' = true := by
   rcases w2.2 with ⟨_, rfl | ⟨b, o, c, rfl⟩⟩ | ⟨b, o, c, n, f, rfl, _⟩; exact same_nils; exact same_slice _ _ _ _ _; exact same_slice _ _ _ _ _
  rw [hres]
  simp -implicitDefEqProofs (disch := first|go_size|fail) only [go_sem, ↓p48_43.eq_1, ↓p48_31.eq_1, i2, i3, i4, i16, i18, e68, aAl_eq, k2, k3, q9, qp, qp', k4, spv, q16]
  have htn : s.next < t.next := by have := Hg.fr.nx; omega
  have F34 : Fr t1 t4 [s.next] := (F13.mono (by simp)).trans ft4
  obtain ⟨lr, ll, la, y1, y2, y3, y4, y5, y6⟩ := Hg3.rc
  have hft4 := ft4.nx
  have hrb4 := ft4.cl ft3.wf y1 (by simp; omega)
  exact ⟨_, pv', pool', g.ls, g.labels, (tyL g.plain).length, g.hs, rfl, M, mo.mono ft1.wf F34 (fun b hb => by simp at hb; omega) (by omega), w2.frS ft3.wf ft4 c16 (by intro v hv n h; subst h; simp at hv), w3, fun b hb => ⟨(x4 b hb).2.1, by have := (x4 b hb).2.2; omega⟩, ⟨lr, ll, la, hrb4, y2.fr ft3.wf ft4 (fun b hb => by have := y6 b hb; simp; omega), y3, y4, y5, fun b hb => by have := y6 b hb; have := Hg3.fr.nx; omega⟩, ((f1.mono (l' := [rb]) (by simp)).trans Hg3.fr).trans' ft4 (fun b hb => .inr (by simp at hb; omega))⟩
 have rest1 : ∀ (e : E) (t : St) (g : G), MK s1 t s1.next rb g → Emit 6 (gz plain) g → e.a0.a2 = .str nm → e.a0.a3 = .str ds → e.a0.a4 = .bool st → e.a0.a6 = .bool gives → e.a0.a7 = .i (fm : Nat) → e.a1.a0 = .ptr s.next 0 → e.a1.a2 = .ptr s1.next 0 → Ret (retR (resV [rC true 9 g16, rT g17]) (p48_31 (K d) e t)) Q := by
  intro e t g Hg Eg i2 i3 i4 i6 i7 i16 i18
  have N0 := Eg.nums
  have S0 := Eg.same
  simp only [gz, List.length_nil] at N0 S0
  obtain ⟨t1, ga, e65, H1, E1⟩ := Hg.fillE st nm hnm fm hf (by omega) (by omega) (by omega) (m := d) (by omega)
  have N1 := E1.nums
  have ok1 : Ok ga := ⟨by omega, by omega, by omega, by omega, by omega, by omega⟩
  obtain ⟨t2, gb, e66, H2, R2⟩ := (stmts 4 (by omega)).2 d (by omega) _ _ 6 H1 ok1 (by show ga.depth = 4 - ((4 : Nat) : Int); omega) (by omega) (by omega)
  have N2 := R2.nums
  have C2 := R2.fo.cnt
  simp only [List.length_nil] at C2
  have lo2 : -21 ≤ gb.left := by have := N2.1; omega
  have Fb : Fo [] (gz plain) gb := (Eg.fo.emit E1).frag R2.fo
  cases gives with
  | true =>
    obtain ⟨t3, gc, e67, H3, E3⟩ := (num_ref 2 (by omega)).1 d (by omega) _ _ H2 (by have : cst 2 = 10 := rfl; omega) (by have : cst 2 = 10 := rfl; omega) (by omega)
    have N3 := E3.nums
    have c2 : cst 2 = 10 := rfl
    replace e67 : (K d).call 67 [.ptr s1.next 0, .i 2] _ = _ := e67
    obtain ⟨t4, e64, H4, _⟩ := H3.put 172 0 0 (by omega) (by omega) (by omega) (m := d) (by omega)
    have Fd := (Fb.emit E3).emit (Emit.put (g := gc) (o := 172) (a := 0) (b := 0) (ok_one (isIn_iff.1 rfl)))
    have Md := made_of Fd (by show gc.labels ≤ 54; omega) (by show -60 ≤ gc.left - 1; omega) ⟨gc.ls, 172, rfl, rfl⟩
    have hth := Fd.tc
    simp only [gz, List.length_nil] at hth
    simp -implicitDefEqProofs (disch := first|go_size|fail) only [go_sem, ↓p48_31.eq_1, i2, i3, i4, i6, i7, i16, i18, e65, e66, e67, e64]
    exact rest2 _ t4 _ H4 Md (by show gc.th.length ≤ 1000; omega) (by trivial) (by trivial) (by trivial) (by trivial) (by trivial)
  | false =>
    obtain ⟨t4, e64, H4, _⟩ := H2.put 177 0 0 (by omega) (by omega) (by omega) (m := d) (by omega)
    have Fd := Fb.emit (Emit.put (g := gb) (o := 177) (a := 0) (b := 0) (ok_one (isIn_iff.1 rfl)))
    have Md := made_of Fd (by show gb.labels ≤ 54; omega) (by show -60 ≤ gb.left - 1; omega) ⟨gb.ls, 177, rfl, rfl⟩
    have hth := Fd.tc
    simp only [gz, List.length_nil] at hth
    simp -implicitDefEqProofs (disch := first|go_size|fail) only [go_sem, ↓p48_31.eq_1, i2, i3, i4, i6, i7, i16, i18, e65, e66, e64]
    exact rest2 _ t4 _ H4 Md (by show gb.th.length ≤ 1000; omega) (by trivial) (by trivial) (by trivial) (by trivial) (by trivial)
 have z1 : (gz plain).ls.length ≤ 100000 := by simp [gz]
 rcases Bool.eq_false_or_eq_true st with hst | hst
 · subst hst
   simp -implicitDefEqProofs (disch := first|go_size|fail) only [op48, go_sem, ↓p48_43.eq_1, e1, aAl_eq, mb10, hbox, e2]
   exact rest1 _ s2 _ H ((Emit.refl _).trans (Emit.refl _) (by omega)) (by trivial) (by trivial) (by trivial) (by trivial) (by trivial) (by trivial) (by trivial)
 · subst hst
   rcases hnm with h | h | h
   · cases h
   · subst h
     obtain ⟨ta, Ga, ea, Ha, Ea, xa⟩ := H.put' (o := 25) (a := 0) (b := 0) (ok_two (by decide) (by omega) (by omega)) z1 (by show _ ≤ (110 : Int); omega) (by show (110 : Int) ≤ _; omega) (m := d) (by omega)
     have La := Ea.len
     simp only [gz, List.length_nil] at La
     obtain ⟨tb, Gb, eb, Hb, Eb, xb⟩ := Ha.put' (o := 58) (a := 4) (b := 0) (ok_two (by decide) (by omega) (by omega)) (by omega) (by omega) (by omega) (m := d) (by omega)
     have Lb := Eb.len
     obtain ⟨tc, Gc, ec, Hc, Ec, xc⟩ := Hb.put' (o := 21) (a := 1) (b := 0) (ok_two (by decide) (by omega) (by omega)) (by omega) (by omega) (by omega) (m := d) (by omega)
     have Lc := Ec.len
     obtain ⟨td, Gd, ed, Hd, Ed, xd⟩ := Hc.put' (o := 54) (a := 2) (b := 0) (ok_two (by decide) (by omega) (by omega)) (by omega) (by omega) (by omega) (m := d) (by omega)
     have Ld := Ed.len
     obtain ⟨te, Ge, ee, He, Ee, xe⟩ := Hd.put' (o := 3) (a := 0) (b := 0) (ok_one (isIn_iff.1 rfl)) (by omega) (by omega) (by omega) (m := d) (by omega)
     have Le := Ee.len
     obtain ⟨tf, Gf, ef, Hf, Ef, xf⟩ := He.put' (o := 54) (a := 0) (b := 0) (ok_two (by decide) (by omega) (by omega)) (by omega) (by omega) (by omega) (m := d) (by omega)
     simp -implicitDefEqProofs (disch := first|go_size|fail) only [op48, go_sem, ↓p48_43.eq_1, e1, aAl_eq, mb10, hbox, e2, bS_str, eql_gg, ea, eb, ec, ed, ee, ef]
     exact rest1 _ tf _ Hf (((((Ea.trans Eb (Nat.le_refl _)).trans Ec (Nat.le_refl _)).trans Ed (Nat.le_refl _)).trans Ee (Nat.le_refl _)).trans Ef (by omega)) (by trivial) (by trivial) (by trivial) (by trivial) (by trivial) (by trivial) (by trivial)
   · subst h
     obtain ⟨ta, Ga, ea, Ha, Ea, xa⟩ := H.put' (o := 25) (a := 0) (b := 0) (ok_two (by decide) (by omega) (by omega)) z1 (by show _ ≤ (110 : Int); omega) (by show (110 : Int) ≤ _; omega) (m := d) (by omega)
     have La := Ea.len
     simp only [gz, List.length_nil] at La
     obtain ⟨tb, Gb, eb, Hb, Eb, xb⟩ := Ha.put' (o := 58) (a := 8) (b := 0) (ok_two (by decide) (by omega) (by omega)) (by omega) (by omega) (by omega) (m := d) (by omega)
     have Lb := Eb.len
     obtain ⟨tc, Gc, ec, Hc, Ec, xc⟩ := Hb.put' (o := 3) (a := 0) (b := 0) (ok_one (isIn_iff.1 rfl)) (by omega) (by omega) (by omega) (m := d) (by omega)
     have Lc := Ec.len
     obtain ⟨td, Gd, ed, Hd, Ed, xd⟩ := Hc.put' (o := 54) (a := 0) (b := 0) (ok_two (by decide) (by omega) (by omega)) (by omega) (by omega) (by omega) (m := d) (by omega)
     have Ld := Ed.len
     obtain ⟨te, Ge, ee, He, Ee, xe⟩ := Hd.put' (o := 3) (a := 0) (b := 0) (ok_one (isIn_iff.1 rfl)) (by omega) (by omega) (by omega) (m := d) (by omega)
     have Le := Ee.len
     obtain ⟨tf, Gf, ef, Hf, Ef, xf⟩ := He.put' (o := 54) (a := 1) (b := 0) (ok_two (by decide) (by omega) (by omega)) (by omega) (by omega) (by omega) (m := d) (by omega)
     simp -implicitDefEqProofs (disch := first|go_size|fail) only [op48, go_sem, ↓p48_43.eq_1, e1, aAl_eq, mb10, hbox, e2, bS_str, eql_rg, ea, eb, ec, ed, ee, ef]
     exact rest1 _ tf _ Hf (((((Ea.trans Eb (Nat.le_refl _)).trans Ec (Nat.le_refl _)).trans Ed (Nat.le_refl _)).trans Ee (Nat.le_refl _)).trans Ef (by omega)) (by trivial) (by trivial) (by trivial) (by trivial) (by trivial) (by trivial) (by trivial)
theorem lit_a (id : Nat) : bslP 4 3 [V.str [], .str [], .bool false, V.str [], .str [], .bool false, V.str [], .str [], .bool false, V.str [], .str [], .bool false] [(0, 3, .agg [V.str [120], .str [73], .bool false]), (3, 3, .agg [V.str [110, 101, 120, 116], .str [76, 65, 59], .bool false]), (6, 3, .agg [V.str [115], .str [73], .bool true]), (9, 3, .agg [V.str [114], .str [76, 65, 59], .bool true])] id = some (.slice id 0 4 (some 4) 3, .cells 12 (ofL [V.str [120], .str [73], .bool false, V.str [110, 101, 120, 116], .str [76, 65, 59], .bool false, V.str [115], .str [73], .bool true, V.str [114], .str [76, 65, 59], .bool true])) := (rfl)
theorem lit_b (id : Nat) : bslP 2 3 [V.str [], .str [], .bool false, V.str [], .str [], .bool false] [(0, 3, .agg [V.str [121], .str [73], .bool false]), (3, 3, .agg [V.str [111, 116, 104, 101, 114], .str [76, 65, 59], .bool false])] id = some (.slice id 0 2 (some 2) 3, .cells 6 (ofL [V.str [121], .str [73], .bool false, V.str [111, 116, 104, 101, 114], .str [76, 65, 59], .bool false])) := (rfl)
theorem fld_0 : fillV [V.str [], .str [], .bool false] [(0, 1, .str [120]), (1, 1, .str [73])] = some [V.str [120], .str [73], .bool false] := (rfl)
theorem fld_1 : fillV [V.str [], .str [], .bool false] [(0, 1, .str [110, 101, 120, 116]), (1, 1, .str [76, 65, 59])] = some [V.str [110, 101, 120, 116], .str [76, 65, 59], .bool false] := (rfl)
theorem fld_2 : fillV [V.str [], .str [], .bool false] [(0, 1, .str [115]), (1, 1, .str [73]), (2, 1, .bool true)] = some [V.str [115], .str [73], .bool true] := (rfl)
theorem fld_3 : fillV [V.str [], .str [], .bool false] [(0, 1, .str [114]), (1, 1, .str [76, 65, 59]), (2, 1, .bool true)] = some [V.str [114], .str [76, 65, 59], .bool true] := (rfl)
theorem fld_4 : fillV [V.str [], .str [], .bool false] [(0, 1, .str [121]), (1, 1, .str [73])] = some [V.str [121], .str [73], .bool false] := (rfl)
theorem fld_5 : fillV [V.str [], .str [], .bool false] [(0, 1, .str [111, 116, 104, 101, 114]), (1, 1, .str [76, 65, 59])] = some [V.str [111, 116, 104, 101, 114], .str [76, 65, 59], .bool false] := (rfl)
theorem clsF (a b : List Nat) (v : V) (hv : v.one = true) : fillV [V.str [], .str [], .nils, .nils, .nils] [(0, 1, .str a), (1, 1, .str b), (3, 1, v)] = some [.str a, .str b, .nils, v, .nils] := by
 rw [fillV_one rfl (by simp)]; simp only [List.set_cons_zero]
 rw [fillV_one rfl (by simp)]; simp only [List.set_cons_zero, List.set_cons_succ]
 rw [fillV_one hv (by simp)]; simp only [List.set_cons_zero, List.set_cons_succ]
 rfl
theorem clsN (a b : List Nat) : fillV [V.str [], .str [], .nils, .nils, .nils] [(0, 1, .str a), (1, 1, .str b)] = some [.str a, .str b, .nils, .nils, .nils] := (rfl)
theorem one5 {a b c d e : V} (h1 : a.one = true) (h2 : b.one = true) (h3 : c.one = true) (h4 : d.one = true) (h5 : e.one = true) : ∀ v ∈ [a, b, c, d, e], v.one = true := by
 intro v hv; simp at hv; rcases hv with rfl | rfl | rfl | rfl | rfl <;> assumption
theorem RN.one {es : Nat} {s : St} {v : V} {l : List (List V)} (h : RN es s v l) : v.one = true := by rcases h.2 with ⟨_, rfl | ⟨b, o, c, rfl⟩⟩ | ⟨b, o, c, n, f, rfl, _⟩ <;> rfl
theorem MOk.row {s t : St} {nm ds : List Nat} {st : Bool} {n : Nat} {code : List Nat} {hr : List (List V)} {c : List V} (h : MOk s t nm ds st n code hr c) : Row 9 c := by
 obtain ⟨cv, hv, fv, rows, rfl, _, o2, _, o4, _, o6, _⟩ := h.ex
 exact ⟨rfl, mCells_one o2 o4 o6⟩
theorem meth_eq {t : St} (hw : Wf t) {b bm : Nat} {x1 x2 f0 pv : V} {c zm : List V} (hc : t.cl b = some [x1, x2, .nils, f0, .nils]) (hm : t.cl bm = some zm) (hz : zm.length = 9) (hne : b ≠ bm) (hr : Row 9 c) (hpv : pv.one = true) :
 ∃ (t1 t2 t3 t4 t5 : St) (mv : V), stP 9 (.ptr bm 0) (.agg c) t = some (.tup [], t1) ∧ stP 1 (.ptr b 2) pv t1 = some (.tup [], t2) ∧ ldP (.ptr b 4) t2 = some .nils ∧ ldNP 9 (.ptr bm 0) t2 = some (.agg c) ∧
   bslP 1 9 [V.str [], .str [], .bool false, .bool false, .i 0, .i 0, .nils, .nils, .nils] [(0, 9, .agg c)] t2.next = some (.slice t2.next 0 1 (some 1) 9, .cells 9 (ofL c)) ∧ t2.new (.cells 9 (ofL c)) = t3 ∧ apW 9 .nils (.slice t2.next 0 1 (some 1) 9) t3 = some (mv, t4) ∧ stP 1 (.ptr b 4) mv t4 = some (.tup [], t5) ∧
   t5.cl b = some [x1, x2, pv, f0, mv] ∧ GN 9 t5 mv [c] ∧ mv.one = true ∧ t5.cl bm = some c ∧ Fr t t5 [b, bm] := by
 obtain ⟨t1, k1, c1, f1, n1⟩ := eSt_exN (s := t) (b := bm) (o := 0) (vs := c) (m := 9) hw hm hr.1 (by omega) hr.2
 have hcl := hr.1
 have hpl : putL zm 0 c = c := by simp [putL, hcl, hz]
 rw [hpl] at c1
 have cb1 := f1.cl hw hc (by simpa using hne)
 obtain ⟨t2, k2, c2, f2, n2⟩ := eSt_ex (s := t1) (b := b) (o := 2) (v := pv) f1.wf cb1 (by simp) hpv
 replace c2 : t2.cl b = some [x1, x2, pv, f0, .nils] := by rw [c2]; rfl
 have cm2 := f2.cl f1.wf c1 (by simpa using fun h => hne h.symm)
 have q1 : ldP (.ptr b 4) t2 = some .nils := dLd_eq f2.wf c2 rfl
 have q2 : ldNP 9 (.ptr bm 0) t2 = some (.agg c) := by rw [dLdN_eq (o := 0) (m := 9) f2.wf cm2 (by omega), List.drop_zero, List.take_of_length_le (by omega)]
 have g0' : GN 9 t2 .nils [] := ⟨by simp, .inl ⟨rfl, .inl rfl⟩⟩
 obtain ⟨t3, mv, t4, k3, k4, g4', f4, hb4⟩ := g0'.push f2.wf hr (by simp)
 have cb4 := f4.cl f2.wf c2 (by simp [blkV])
 have cm4 := f4.cl f2.wf cm2 (by simp [blkV])
 obtain ⟨t5, k5, c5, f5, n5⟩ := eSt_ex (s := t4) (b := b) (o := 4) (v := mv) f4.wf cb4 (by simp) g4'.one
 replace c5 : t5.cl b = some [x1, x2, pv, f0, mv] := by rw [c5]; rfl
 have hbl := cl_lt hw hc
 have h1 := f1.nx
 have h2 := f2.nx
 exact ⟨t1, t2, t3, t4, t5, mv, k1, k2, q1, q2, aBSl_agg rfl hcl (allOne_of hr.2), k3, k4, k5, c5, g4'.fr f4.wf f5 (fun x hx => by have := hb4 x hx; simp; omega), g4'.one, f5.cl f4.wf cm4 (by simpa using fun h => hne h.symm), (((f1.mono (by simp)).trans (f2.mono (by simp))).trans (f4.mono (by simp [blkV]))).trans (f5.mono (by simp))⟩
structure ClOk (s t : St) (cv : V) : Prop where
 ex : ∃ (rows : List (List V)) (cls : List V) (mv : V) (ms : List (List V)) (c : List V) (nm ds : List Nat) (st : Bool) (k : Nat) (ls : List L) (n : Nat) (hs : List (Nat × Nat × Nat)), RN 5 t cv rows ∧ rows.length = 4 ∧ rows[3]? = some cls ∧ cls[4]? = some mv ∧ RN 9 t mv ms ∧ ms[0]? = some c ∧ Made ls n hs ∧ MOk s t nm ds st k (encB (runI (runP n ls).1 ls).1) (hs.map (hRow (runP n ls).1)) c
theorem len5 {l : List V} (h : l.length = 5) : ∃ a b c d e, l = [a, b, c, d, e] := by
 match l, h with
 | [a, b, c, d, e], _ => exact ⟨a, b, c, d, e, rfl⟩
theorem RN.ni {es : Nat} {s : St} {v : V} {l : List (List V)} (h : RN es s v l) (n : Int) : v ≠ .int .i32 n := by rcases h.2 with ⟨_, rfl | ⟨b, o, c, rfl⟩⟩ | ⟨b, o, c, n, f, rfl, _⟩ <;> simp
theorem SL.ni {s : St} {v : V} {l : List V} (h : SL s v l) (n : Int) : v ≠ .int .i32 n := by rcases h with ⟨_, rfl | ⟨b, o, c, rfl⟩⟩ | ⟨b, o, c, n, f, rfl, _⟩ <;> simp
theorem bs29 (c1 c2 : List V) (h1 : Row 9 c1) (h2 : Row 9 c2) (id : Nat) : bslP 2 9 ([V.str [], .str [], .bool false, .bool false, .i 0, .i 0, .nils, .nils, .nils, V.str [], .str [], .bool false, .bool false, .i 0, .i 0, .nils, .nils, .nils]) [(0, 9, .agg c1), (9, 9, .agg c2)] id = some (.slice id 0 2 (some 2) 9, .cells 18 (ofL (c1 ++ c2))) := by
 have l1 := h1.1
 have l2 := h2.1
 have hf : fillV ([V.str [], .str [], .bool false, .bool false, .i 0, .i 0, .nils, .nils, .nils, V.str [], .str [], .bool false, .bool false, .i 0, .i 0, .nils, .nils, .nils]) [(0, 9, .agg c1), (9, 9, .agg c2)] = some (c1 ++ c2) := by
  rw [fillV_agg l1 (by simp), fillV_agg l2 (by simp [putL, l1]), fillV_nil]
  congr 1
  simp [putL, l1, l2, List.take_append, List.drop_append]
 unfold bslP
 rw [hf]; simp only
 have e1 : allOne (c1 ++ c2) = true := allOne_of fun v hv => (List.mem_append.1 hv).elim (h1.2 v) (h2.2 v)
 have e2 : (c1 ++ c2).length = 18 := by simp [l1, l2]
 rw [e1, e2]; rfl
theorem bs45 (a b c d : List V) (h1 : Row 5 a) (h2 : Row 5 b) (h3 : Row 5 c) (h4 : Row 5 d) (id : Nat) : bslP 4 5 ([V.str [], .str [], .nils, .nils, .nils, V.str [], .str [], .nils, .nils, .nils, V.str [], .str [], .nils, .nils, .nils, V.str [], .str [], .nils, .nils, .nils]) [(0, 5, .agg a), (5, 5, .agg b), (10, 5, .agg c), (15, 5, .agg d)] id = some (.slice id 0 4 (some 4) 5, .cells 20 (ofL (a ++ b ++ c ++ d))) := by
 have l1 := h1.1
 have l2 := h2.1
 have l3 := h3.1
 have l4 := h4.1
 obtain ⟨a1, a2, a3, a4, a5, rfl⟩ := len5 l1
 obtain ⟨b1, b2, b3, b4, b5, rfl⟩ := len5 l2
 obtain ⟨c1, c2, c3, c4, c5, rfl⟩ := len5 l3
 obtain ⟨d1, d2, d3, d4, d5, rfl⟩ := len5 l4
 have hf : fillV ([V.str [], .str [], .nils, .nils, .nils, V.str [], .str [], .nils, .nils, .nils, V.str [], .str [], .nils, .nils, .nils, V.str [], .str [], .nils, .nils, .nils]) [(0, 5, .agg [a1, a2, a3, a4, a5]), (5, 5, .agg [b1, b2, b3, b4, b5]), (10, 5, .agg [c1, c2, c3, c4, c5]), (15, 5, .agg [d1, d2, d3, d4, d5])] = some ([a1, a2, a3, a4, a5] ++ [b1, b2, b3, b4, b5] ++ [c1, c2, c3, c4, c5] ++ [d1, d2, d3, d4, d5]) := by
  rfl
 unfold bslP
 rw [hf]; simp only
 have e1 : allOne ([a1, a2, a3, a4, a5] ++ [b1, b2, b3, b4, b5] ++ [c1, c2, c3, c4, c5] ++ [d1, d2, d3, d4, d5]) = true := allOne_of fun v hv => by
  rcases List.mem_append.1 hv with hv | hv
  · rcases List.mem_append.1 hv with hv | hv
    · rcases List.mem_append.1 hv with hv | hv
      · exact h1.2 v hv
      · exact h2.2 v hv
    · exact h3.2 v hv
  · exact h4.2 v hv
 rw [e1]; rfl
set_option maxHeartbeats 8000000 in
theorem classes_eq {s : St} (hw : Wf s) {v : V} {l : List Int} (hv : SL s v (l.map V.i)) (hv1 : v.one = true) (hI : ∀ x ∈ l, I64 x) (hl : l.length ≤ 17592186044416) (hvb : ∀ b ∈ blkV v, b < s.next) {m : Nat} (hm : 31 ≤ m) :
 ∃ (t : St) (cv : V), (K m).call 34 [v] s = some (cv, t) ∧ ClOk s t cv ∧ Fr s t [] := by
 obtain ⟨d, rfl⟩ : ∃ d, m = d + 1 := ⟨m - 1, by omega⟩
 obtain ⟨s1, e1, c1, f1, n1⟩ := new_ex (s := s) (l := [v, V.i 0]) (n := 2) hw rfl
 have hbox : boxP (.agg [v, .i 0]) s.next = some (.ptr s.next 0, .cells 2 (ofL [v, V.i 0])) := aBox_agg (allOne_of (by intro x hx; simp at hx; rcases hx with rfl | rfl; exact hv1; rfl))
 have hfv : fillV [V.nils, .i 0] [(0, 1, v)] = some [v, .i 0] := by rw [fillV_one hv1 (by simp)]; rfl
 have rc1 : RC s1 s1 s.next := ⟨v, l, 0, c1, hv.fr hw f1 (by simp), hI, by omega, hl, fun b hb => by have := hvb b hb; omega⟩
 let Q : V → St → Prop := fun x t => ClOk s t x ∧ Fr s t []
 suffices key : Ret ((K (d + 1)).call 34 [v] s) Q by
  obtain ⟨x, t, e, h1, h2⟩ := key
  exact ⟨t, x, e, h1, h2⟩
 have rest : ∀ (e : E) (t : St) (ba bb bm : Nat) (la lb zm : List V), Fr s t [] → RC t t s.next → t.cl ba = some la → Row 5 la → t.cl bb = some lb → Row 5 lb → t.cl bm = some zm → zm.length = 9 → s.next < ba → ba < bm → bm < bb → e.a0.a3 = .ptr s.next 0 → e.a0.a4 = .ptr ba 0 → e.a0.a5 = .ptr bm 0 → e.a0.a7 = .ptr bb 0 → Ret (retR (resV [rT g2]) (p34_23 (K d) e t)) Q := by
  intro e t ba bb bm la lb zm ft rc ca ra cb rb' cm hz h1 h2 h3 i3 i4 i5 i7
  have hbb := cl_lt ft.wf cb
  obtain ⟨t1, k1, ck1, fk1, nk1⟩ := new_ex (s := t) (l := [V.str [], .str [], .nils, .nils, .nils]) (n := 5) ft.wf rfl
  obtain ⟨t2, k2, ck2, fk2, nk2⟩ := eSt_exN (s := t1) (b := t.next) (o := 0) (vs := [.str [84], .str [84, 104, 114, 101, 97, 100], .nils, .nils, .nils]) (m := 5) fk1.wf ck1 rfl (by simp) (one5 rfl rfl rfl rfl rfl)
  replace ck2 : t2.cl t.next = some [.str [84], .str [84, 104, 114, 101, 97, 100], .nils, .nils, .nils] := by rw [ck2]; simp [putL]
  have F2 : Fr t t2 [] := fk1.trans' fk2 (fun b hb => .inr (by simp at hb; omega))
  have hF2 := F2.nx
  have rc2 := ((rc.fr ft.wf (by omega) F2 (by simp)).mono hF2)
  have q2 : ldP (.ptr t.next 2) t2 = some .nils := dLd_eq fk2.wf ck2 rfl
  obtain ⟨t3, cc, pv3, pl3, ls3, n3', k3', hs3, e3, M3, mo3, rp3, hpl3, hpb3, rc3, ft3⟩ := body_eq (pv := .nils) (pool := []) fk2.wf rc2 (by omega) ⟨by simp, .inl ⟨rfl, .inl rfl⟩⟩ (by simp) (by simp [blkV]) [114, 117, 110] [40, 41, 86] false false false (.inr (.inr rfl)) 1 (by omega) (m := d) (by omega)
  replace e3 : (K d).call 48 [.ptr s.next 0, .nils, .str [114, 117, 110], .str [40, 41, 86], .bool false, .bool false, .bool false, .i 1] t2 = _ := e3
  have hft3 := ft3.nx
  have ct3 := ft3.cl fk2.wf ck2 (by simp; omega)
  have cm3 := ft3.cl fk2.wf (F2.cl ft.wf cm (by simp)) (by simp; omega)
  have ca3 := ft3.cl fk2.wf (F2.cl ft.wf ca (by simp)) (by simp; omega)
  have cb3 := ft3.cl fk2.wf (F2.cl ft.wf cb (by simp)) (by simp; omega)
  obtain ⟨t4, t5, t6, t7, t8, mv8, w1, w2, w3, w4, w5, w6, w7, w8, ct8, gm8, mv81, cm8, f8⟩ := meth_eq (b := t.next) (bm := bm) ft3.wf ct3 cm3 hz (by omega) mo3.row rp3.one
  have hf8 := f8.nx
  have ca8 := f8.cl ft3.wf ca3 (by simp; omega)
  have cb8 := f8.cl ft3.wf cb3 (by simp; omega)
  have rc8 : RC t8 t8 s.next := by
   obtain ⟨lr, ll, lx, y1, y2, y3, y4, y5, y6⟩ := rc3
   exact ⟨lr, ll, lx, f8.cl ft3.wf y1 (by simp; omega), y2.fr ft3.wf f8 (fun b hb => by have := y6 b hb; simp; omega), y3, y4, y5, fun b hb => by have := y6 b hb; omega⟩
  obtain ⟨t9, k9, ck9, fk9, nk9⟩ := new_ex (s := t8) (l := [V.str [], .str [], .nils, .nils, .nils]) (n := 5) f8.wf rfl
  obtain ⟨ta, ka, cka, fka, nka⟩ := eSt_exN (s := t9) (b := t8.next) (o := 0) (vs := [.str [77, 97, 105, 110], .str [79, 98, 106, 101, 99, 116], .nils, .nils, .nils]) (m := 5) fk9.wf ck9 rfl (by simp) (one5 rfl rfl rfl rfl rfl)
  replace cka : ta.cl t8.next = some [.str [77, 97, 105, 110], .str [79, 98, 106, 101, 99, 116], .nils, .nils, .nils] := by rw [cka]; simp [putL]
  have Fa : Fr t8 ta [] := fk9.trans' fka (fun b hb => .inr (by simp at hb; omega))
  have hFa := Fa.nx
  have rca := ((rc8.fr f8.wf (by omega) Fa (by simp)).mono hFa)
  have qa : ldP (.ptr t8.next 2) ta = some .nils := dLd_eq fka.wf cka rfl
  obtain ⟨tb, cb', pvb, plb, lsb, nb', kb', hsb, eb, Mb, mob, rpb, hplb, hpbb, rcb, ftb⟩ := body_eq (pv := .nils) (pool := []) fka.wf rca (by omega) ⟨by simp, .inl ⟨rfl, .inl rfl⟩⟩ (by simp) (by simp [blkV]) [109, 97, 105, 110] [40, 41, 86] true false false (.inl rfl) 0 (by omega) (m := d) (by omega)
  replace eb : (K d).call 48 [.ptr s.next 0, .nils, .str [109, 97, 105, 110], .str [40, 41, 86], .bool true, .bool false, .bool false, .i 0] ta = _ := eb
  have hftb := ftb.nx
  have cmb := ftb.cl fka.wf (Fa.cl f8.wf cm8 (by simp)) (by simp; omega)
  have hrm := mo3.row.1
  have hbmt := cl_lt ft.wf cm
  obtain ⟨tc, kc', ckc, fkc, nkc⟩ := eSt_exN (s := tb) (b := bm) (o := 0) (vs := cb') (m := 9) ftb.wf cmb mob.row.1 (by omega) mob.row.2
  have hrb9 := mob.row.1
  have hpl9 : putL cc 0 cb' = cb' := by simp [putL, hrb9, hrm]
  rw [hpl9] at ckc
  have hfkc := fkc.nx
  have rcc : RC tc tc s.next := by
   obtain ⟨lr, ll, lx, y1, y2, y3, y4, y5, y6⟩ := rcb
   exact ⟨lr, ll, lx, fkc.cl ftb.wf y1 (by simp; omega), y2.fr ftb.wf fkc (fun b hb => by have := y6 b hb; simp; omega), y3, y4, y5, fun b hb => by have := y6 b hb; omega⟩
  have rpc := rpb.frS ftb.wf fkc cmb (by
   obtain ⟨cv, hv, fv, rows, rfl, z1, _, z3, _, z5, _⟩ := mo3.ex
   intro v hv' n h; subst h
   simp only [mCells, List.mem_cons, List.not_mem_nil, or_false, reduceCtorEq, false_or] at hv'
   rcases hv' with h | h | h
   · exact z1.ni n h.symm
   · exact z3.ni n h.symm
   · exact z5.ni n h.symm)
  obtain ⟨td, cd', pvd, pld, lsd, nd', kd', hsd, ed, Md, mod_, rpd, hpld, hpbd, rcd, ftd⟩ := body_eq fkc.wf rcc (by omega) rpc hplb (fun b hb => by have := hpbb b hb; omega) [99, 97, 108, 99] [40, 73, 73, 41, 73] true true true (.inl rfl) 2 (by omega) (m := d) (by omega)
  replace ed : (K d).call 48 [.ptr s.next 0, pvb, .str [99, 97, 108, 99], .str [40, 73, 73, 41, 73], .bool true, .bool true, .bool true, .i 2] tc = _ := ed
  have hftd := ftd.nx
  obtain ⟨te, ke, cke, fke, nke⟩ := new_ex (s := td) (l := [V.str [], .str [], .bool false, .bool false, .i 0, .i 0, .nils, .nils, .nils]) (n := 9) ftd.wf rfl
  obtain ⟨tf, kf, ckf, fkf, nkf⟩ := eSt_exN (s := te) (b := td.next) (o := 0) (vs := cd') (m := 9) fke.wf cke mod_.row.1 (by simp) mod_.row.2
  have hrd9 := mod_.row.1
  replace ckf : tf.cl td.next = some cd' := by rw [ckf]; congr 1; simp [putL, hrd9]
  have Ff : Fr td tf [] := fke.trans' fkf (fun b hb => .inr (by simp at hb; omega))
  have cbc := Ff.cl ftd.wf (ftd.cl fkc.wf (fkc.cl ftb.wf (ftb.cl fka.wf cka (by simp; omega)) (by simp; omega)) (by simp; omega)) (by simp)
  have cbm := Ff.cl ftd.wf (ftd.cl fkc.wf ckc (by simp; omega)) (by simp)
  have hFf := Ff.nx
  obtain ⟨tg, kg, ckg, fkg, nkg⟩ := eSt_ex (s := tf) (b := t8.next) (o := 2) (v := pvd) fkf.wf cbc (by simp) rpd.one
  replace ckg : tg.cl t8.next = some [.str [77, 97, 105, 110], .str [79, 98, 106, 101, 99, 116], pvd, .nils, .nils] := by rw [ckg]; rfl
  have qg : ldP (.ptr t8.next 4) tg = some .nils := dLd_eq fkg.wf ckg rfl
  have cbmg := fkg.cl fkf.wf cbm (by simp; omega)
  have cbng := fkg.cl fkf.wf ckf (by simp; omega)
  have qm : ldNP 9 (.ptr bm 0) tg = some (.agg cb') := by rw [dLdN_eq (o := 0) (m := 9) fkg.wf cbmg (by omega), List.drop_zero, List.take_of_length_le (by omega)]
  have qn : ldNP 9 (.ptr td.next 0) tg = some (.agg cd') := by rw [dLdN_eq (o := 0) (m := 9) fkg.wf cbng (by omega), List.drop_zero, List.take_of_length_le (by omega)]
  obtain ⟨th, kh, ckh, fkh, nkh⟩ := new_ex (s := tg) (l := cb' ++ cd') (n := 18) fkg.wf (by simp [hrb9, hrd9])
  have hsrc : Src th 9 (.slice tg.next 0 2 (some 2) 9) [cb', cd'].length [cb', cd'].flatten := by
   have := Src.full (es := 9) (n2 := 2) (c2 := some 2) fkh.wf ckh (by simp [hrb9, hrd9]) (fun v hv => (List.mem_append.1 hv).elim (mob.row.2 v) (mod_.row.2 v)) (by omega)
   simpa using this
  have gz0 : GN 9 th .nils [] := ⟨by simp, .inl ⟨rfl, .inl rfl⟩⟩
  obtain ⟨mvi, ti, ki, gmi, fki, hbi⟩ := gz0.app fkh.wf hsrc (by intro x hx; simp at hx; rcases hx with rfl | rfl; exact mob.row; exact mod_.row) (by simp)
  have cbci := fki.cl fkh.wf (fkh.cl fkg.wf ckg (by simp)) (by simp [blkV])
  obtain ⟨tj, kj, ckj, fkj, nkj⟩ := eSt_ex (s := ti) (b := t8.next) (o := 4) (v := mvi) fki.wf cbci (by simp) gmi.one
  replace ckj : tj.cl t8.next = some [.str [77, 97, 105, 110], .str [79, 98, 106, 101, 99, 116], pvd, .nils, mvi] := by rw [ckj]; rfl
  have hfki := fki.nx
  have hfkh := fkh.nx
  have FA : Fr t8 tj [s.next, bm, t8.next] := by
   have a1 : Fr t8 tc [s.next, bm, t8.next] := ((Fa.mono (by simp)).trans (ftb.mono (by simp))).trans (fkc.mono (by simp))
   have a2 : Fr t8 tg [s.next, bm, t8.next] := ((a1.trans (ftd.mono (by simp))).trans (Ff.mono (by simp))).trans (fkg.mono (by simp))
   exact ((a2.trans (fkh.mono (by simp))).trans (fki.mono (by simp [blkV]))).trans (fkj.mono (by simp))
  have caj := FA.cl f8.wf ca8 (by simp; omega)
  have cbj := FA.cl f8.wf cb8 (by simp; omega)
  have ctj := FA.cl f8.wf ct8 (by simp; omega)
  have rt := one5 (a := .str [84]) (b := .str [84, 104, 114, 101, 97, 100]) (c := pv3) (d := .nils) (e := mv8) rfl rfl rp3.one rfl mv81
  have rm := one5 (a := .str [77, 97, 105, 110]) (b := .str [79, 98, 106, 101, 99, 116]) (c := pvd) (d := .nils) (e := mvi) rfl rfl rpd.one rfl gmi.one
  have q5 : ∀ (b : Nat) (x : List V), tj.cl b = some x → x.length = 5 → ldNP 5 (.ptr b 0) tj = some (.agg x) := fun b x h1 h2 => by rw [dLdN_eq (o := 0) (m := 5) fkj.wf h1 (by omega), List.drop_zero, List.take_of_length_le (by omega)]
  have qa5 := q5 ba la caj ra.1
  have qb5 := q5 bb lb cbj rb'.1
  have qt5 := q5 t.next _ ctj rfl
  have qc5 := q5 t8.next _ ckj rfl
  have hb45 := bs45 la lb [.str [84], .str [84, 104, 114, 101, 97, 100], pv3, .nils, mv8] [.str [77, 97, 105, 110], .str [79, 98, 106, 101, 99, 116], pvd, .nils, mvi] ra rb' ⟨rfl, rt⟩ ⟨rfl, rm⟩ tj.next
  obtain ⟨tk, kk, ckk, fkk, nkk⟩ := new_ex (s := tj) (l := la ++ lb ++ [.str [84], .str [84, 104, 114, 101, 97, 100], pv3, .nils, mv8] ++ [.str [77, 97, 105, 110], .str [79, 98, 106, 101, 99, 116], pvd, .nils, mvi]) (n := 20) fkj.wf (by simp [ra.1, rb'.1])
  have hb29 := bs29 cb' cd' mob.row mod_.row tg.next
  simp -implicitDefEqProofs (disch := first|go_size|fail) only [go_sem, ↓p34_23.eq_1, i3, i4, i5, i7, clsN, aAl_eq, k1, k2, q2, e3, w1, w2, w3, w4, w5, w6, w7, w8, k9, ka, qa, eb, kc', ed, ke, kf, kg, qg, qm, qn, hb29, kh, ki, kj, qa5, qb5, qt5, qc5, hb45, kk]
  have hrow : ∀ x ∈ [la, lb, [.str [84], .str [84, 104, 114, 101, 97, 100], pv3, .nils, mv8], [.str [77, 97, 105, 110], .str [79, 98, 106, 101, 99, 116], pvd, .nils, mvi]], Row 5 x := by
   intro x hx; simp at hx; rcases hx with rfl | rfl | rfl | rfl
   · exact ra
   · exact rb'
   · exact ⟨rfl, rt⟩
   · exact ⟨rfl, rm⟩
  have hGN : RN 5 tk (.slice tj.next 0 4 (some 4) 5) [la, lb, [.str [84], .str [84, 104, 114, 101, 97, 100], pv3, .nils, mv8], [.str [77, 97, 105, 110], .str [79, 98, 106, 101, 99, 116], pvd, .nils, mvi]] := by
   have := RN.of (es := 5) (o := 0) (c := some 4) hrow fkk.wf ckk (by simp [ra.1, rb'.1]) (fun i x hi j hj => by
    rw [Nat.zero_add, ← flat_at hrow hi hj]; simp)
   exact this
  have hmo : MOk s tk [109, 97, 105, 110] [40, 41, 86] true kb' (encB (runI (runP nb' lsb).1 lsb).1) (hsb.map (hRow (runP nb' lsb).1)) cb' := by
   have fx : Fr tb tk [bm, s.next, t8.next] := by
    have a1 : Fr tb tg [bm, s.next, t8.next] := (((fkc.mono (by simp)).trans (ftd.mono (by simp))).trans (Ff.mono (by simp))).trans (fkg.mono (by simp))
    exact (((a1.trans (fkh.mono (by simp))).trans (fki.mono (by simp [blkV]))).trans (fkj.mono (by simp))).trans (fkk.mono (by simp))
   exact mob.mono ftb.wf fx (fun b hb => by simp at hb; rcases hb with rfl | rfl | rfl <;> left <;> omega) (by have := ft.nx; omega)
  refine ⟨⟨_, _, mvi, [cb', cd'], cb', _, _, _, _, lsb, nb', hsb, hGN, rfl, rfl, rfl, ?_, rfl, Mb, hmo⟩, ?_⟩
  · have := (gmi.fr fki.wf fkj (fun b hb => by have := hbi b hb; simp [blkV] at this; simp; omega)).fr fkj.wf fkk (by simp)
    have h2 := this.rn fkk.wf
    simpa using h2
  · have hst := ft.nx
    have b1 : Fr s t8 [] := ((ft.trans F2).trans' ft3 (fun b hb => .inr (by simp at hb; omega))).trans' f8 (fun b hb => .inr (by simp at hb; omega))
    exact (b1.trans' FA (fun b hb => .inr (by simp at hb; omega))).trans fkk
 have rcup : ∀ {t t' : St} {L : List Nat}, Wf t → RC t t s.next → s.next < t.next → Fr t t' L → (∀ b ∈ L, s.next < b) → RC t' t' s.next := fun hw' rc' hlt f hL => by
  obtain ⟨lr, ll, lx, y1, y2, y3, y4, y5, y6⟩ := rc'
  have := f.nx
  exact ⟨lr, ll, lx, f.cl hw' y1 (fun h => by have := hL _ h; omega), y2.fr hw' f (fun b hb h => by have := hL _ h; have := y6 b hb; omega), y3, y4, y5, fun b hb => by have := y6 b hb; omega⟩
 obtain ⟨s2, e2, c2, f2, n2⟩ := new_ex (s := s1) (l := [V.str [120], .str [73], .bool false, V.str [110, 101, 120, 116], .str [76, 65, 59], .bool false, V.str [115], .str [73], .bool true, V.str [114], .str [76, 65, 59], .bool true]) (n := 12) f1.wf rfl
 obtain ⟨s3, k3, c3, f3, n3⟩ := new_ex (s := s2) (l := [V.str [], .str [], .nils, .nils, .nils]) (n := 5) f2.wf rfl
 obtain ⟨s4, k4, c4, f4, n4⟩ := eSt_exN (s := s3) (b := s2.next) (o := 0) (vs := [.str [65], .str [79, 98, 106, 101, 99, 116], .nils, .slice s1.next 0 4 (some 4) 3, .nils]) (m := 5) f3.wf c3 rfl (by simp) (one5 rfl rfl rfl rfl rfl)
 replace c4 : s4.cl s2.next = some [.str [65], .str [79, 98, 106, 101, 99, 116], .nils, .slice s1.next 0 4 (some 4) 3, .nils] := by rw [c4]; simp [putL]
 have F14 : Fr s1 s4 [] := (f2.trans f3).trans' f4 (fun b hb => .inr (by simp at hb; omega))
 have hF14 := F14.nx
 have rc4 := rcup f1.wf rc1 (by omega) F14 (by simp)
 have q4 : ldP (.ptr s2.next 2) s4 = some .nils := dLd_eq f4.wf c4 rfl
 obtain ⟨s5, ca, pva, pla, lsa, na, ka, hsa, ea, Ma, moa, rpa, hpla, hpba, rca, fta⟩ := body_eq (pv := .nils) (pool := []) f4.wf rc4 (by omega) ⟨by simp, .inl ⟨rfl, .inl rfl⟩⟩ (by simp) (by simp [blkV]) [103, 111] [40, 73, 41, 73] false false true (.inr (.inl rfl)) 2 (by omega) (m := d) (by omega)
 replace ea : (K d).call 48 [.ptr s.next 0, .nils, .str [103, 111], .str [40, 73, 41, 73], .bool false, .bool false, .bool true, .i 2] s4 = _ := ea
 have hfta := fta.nx
 have c5 := fta.cl f4.wf c4 (by simp; omega)
 obtain ⟨s6, k6, c6, f6, n6⟩ := new_ex (s := s5) (l := [V.str [], .str [], .bool false, .bool false, .i 0, .i 0, .nils, .nils, .nils]) (n := 9) fta.wf rfl
 have c56 := f6.cl fta.wf c5 (by simp)
 have hb5 := cl_lt fta.wf c5
 obtain ⟨s7, s8, s9, s10, s11, mva, w1, w2, w3, w4, w5, w6, w7, w8, c11, gma, mva1, cm11, f11⟩ := meth_eq (b := s2.next) (bm := s5.next) f6.wf c56 c6 rfl (by omega) moa.row rpa.one
 have hf11 := f11.nx
 obtain ⟨s12, k12, c12, f12, n12⟩ := new_ex (s := s11) (l := [V.str [121], .str [73], .bool false, V.str [111, 116, 104, 101, 114], .str [76, 65, 59], .bool false]) (n := 6) f11.wf rfl
 obtain ⟨s13, k13, c13, f13, n13⟩ := new_ex (s := s12) (l := [V.str [], .str [], .nils, .nils, .nils]) (n := 5) f12.wf rfl
 obtain ⟨s14, k14, c14, f14, n14⟩ := eSt_exN (s := s13) (b := s12.next) (o := 0) (vs := [.str [66], .str [65], .nils, .slice s11.next 0 2 (some 2) 3, .nils]) (m := 5) f13.wf c13 rfl (by simp) (one5 rfl rfl rfl rfl rfl)
 replace c14 : s14.cl s12.next = some [.str [66], .str [65], .nils, .slice s11.next 0 2 (some 2) 3, .nils] := by rw [c14]; simp [putL]
 have F1114 : Fr s11 s14 [] := (f12.trans f13).trans' f14 (fun b hb => .inr (by simp at hb; omega))
 have hF1114 := F1114.nx
 have rc14 := rcup f11.wf (rcup f6.wf (rcup fta.wf rca (by omega) f6 (by simp)) (by omega) f11 (by simp; omega)) (by omega) F1114 (by simp)
 obtain ⟨kk, s15, e15, kk0, kk1, rc15, f15, n15⟩ := rc14.take f14.wf (by omega) (n := 2) (by omega) (by omega) (m := d) (by omega)
 have rc15' : RC s15 s15 s.next := rc15.mono (by omega)
 have c15a := f15.cl f14.wf (F1114.cl f11.wf c11 (by simp)) (by simp; omega)
 have c15m := f15.cl f14.wf (F1114.cl f11.wf cm11 (by simp)) (by simp; omega)
 have c15b := f15.cl f14.wf c14 (by simp; omega)
 have hb11 := cl_lt f11.wf c11
 have Fs5 : Fr s s5 [] := (f1.trans F14).trans' fta (fun b hb => .inr (by simp at hb; omega))
 have Fs11 : Fr s s11 [] := (Fs5.trans f6).trans' f11 (fun b hb => .inr (by simp at hb; omega))
 have Fs15 : Fr s s15 [] := (Fs11.trans F1114).trans' f15 (fun b hb => .inr (by simp at hb; omega))
 have ra5 : Row 5 [.str [65], .str [79, 98, 106, 101, 99, 116], pva, .slice s1.next 0 4 (some 4) 3, mva] := ⟨rfl, one5 rfl rfl rpa.one rfl mva1⟩
 have hm9 := moa.row.1
 by_cases ck : kk = 0
 · have q15 : ldP (.ptr s12.next 2) s15 = some .nils := dLd_eq f15.wf c15b rfl
   obtain ⟨s16, cb, pvb, plb, lsb, nb, kb, hsb, eb, Mb, mob, rpb, hplb, hpbb, rcb, ftb⟩ := body_eq (pv := .nils) (pool := []) f15.wf rc15' (by omega) ⟨by simp, .inl ⟨rfl, .inl rfl⟩⟩ (by simp) (by simp [blkV]) [103, 111] [40, 73, 41, 73] false false true (.inr (.inl rfl)) 2 (by omega) (m := d) (by omega)
   replace eb : (K d).call 48 [.ptr s.next 0, .nils, .str [103, 111], .str [40, 73, 41, 73], .bool false, .bool false, .bool true, .i 2] s15 = _ := eb
   have hftb := ftb.nx
   have c16b := ftb.cl f15.wf c15b (by simp; omega)
   have c16m := ftb.cl f15.wf c15m (by simp; omega)
   have c16a := ftb.cl f15.wf c15a (by simp; omega)
   obtain ⟨u7, u8, u9, u10', u11', mvb, x1, x2, x3, x4, x5, x6, x7, x8, c21, gmb, mvb1, cm21, f21⟩ := meth_eq (b := s12.next) (bm := s5.next) ftb.wf c16b c16m hm9 (by omega) mob.row rpb.one
   have hf21 := f21.nx
   simp -implicitDefEqProofs (disch := first|go_size|fail) only [op34, go_sem, hfv, hbox, e1, fld_0, fld_1, fld_2, fld_3, fld_4, fld_5, lit_a, lit_b, e2, clsF, aAl_eq, k3, k4, q4, ea, k6, w1, w2, w3, w4, w5, w6, w7, w8, k12, k13, k14, e15, ck, q15, eb, x1, x2, x3, x4, x5, x6, x7, x8]
   exact rest _ u11' s2.next s12.next s5.next _ _ cb ((Fs15.trans' ftb (fun b hb => .inr (by simp at hb; omega))).trans' f21 (fun b hb => .inr (by simp at hb; omega))) (rcup ftb.wf rcb (by omega) f21 (by simp; omega)) (f21.cl ftb.wf c16a (by simp; omega)) ra5 c21 ⟨rfl, one5 rfl rfl rpb.one rfl mvb1⟩ cm21 mob.row.1 (by omega) (by omega) (by omega) (by trivial) (by trivial) (by trivial) (by trivial)
 · simp -implicitDefEqProofs (disch := first|go_size|fail) only [op34, go_sem, hfv, hbox, e1, fld_0, fld_1, fld_2, fld_3, fld_4, fld_5, lit_a, lit_b, e2, clsF, aAl_eq, k3, k4, q4, ea, k6, w1, w2, w3, w4, w5, w6, w7, w8, k12, k13, k14, e15, ck]
   exact rest _ s15 s2.next s12.next s5.next _ _ ca Fs15 rc15' c15a ra5 c15b ⟨rfl, one5 rfl rfl rfl rfl rfl⟩ c15m hm9 (by omega) (by omega) (by omega) (by trivial) (by trivial) (by trivial) (by trivial)
def s8 (n : Nat) : Int := if n < 128 then n else (n : Int) - 256
def s16 (n : Nat) : Int := if n < 32768 then n else (n : Int) - 65536
theorem bi64 {n : Nat} (h : n < 256) : cInt .i64 (byteV n) = some (.i (n : Nat)) := by
 show some (V.i (w64 (n : Int))) = _; rw [w64_of ⟨by omega, by omega⟩]
theorem bi8 {n : Nat} (h : n < 256) : cInt .i8 (byteV n) = some (.int .i8 (s8 n)) := by
 show some (V.int .i8 (IntKind.wrap .i8 (n : Int))) = _
 have : IntKind.wrap .i8 (n : Int) = s8 n := by
  unfold s8
  simp [IntKind.wrap, IntKind.bits, IntKind.signed]
  split <;> split <;> omega
 rw [this]
theorem i8i64 {z : Int} (h0 : -1000000 ≤ z) (h1 : z ≤ 1000000) : cInt .i64 (.int .i8 z) = some (.i z) := by
 show some (V.i (w64 z)) = _; rw [w64_of ⟨by omega, by omega⟩]
theorem i16i64 {z : Int} (h0 : -1000000 ≤ z) (h1 : z ≤ 1000000) : cInt .i64 (.int .i16 z) = some (.i z) := by
 show some (V.i (w64 z)) = _; rw [w64_of ⟨by omega, by omega⟩]
theorem bu16 {n : Nat} (h : n < 256) : cInt .u16 (byteV n) = some (.int .u16 (n : Nat)) := by
 show some (V.int .u16 (IntKind.wrap .u16 (n : Int))) = _
 have : IntKind.wrap .u16 (n : Int) = (n : Int) := by simp [IntKind.wrap, IntKind.bits, IntKind.signed]; omega
 rw [this]
theorem u16i16 {n : Nat} (h : n < 65536) : cInt .i16 (.int .u16 (n : Nat)) = some (.int .i16 (s16 n)) := by
 show some (V.int .i16 (IntKind.wrap .i16 (n : Int))) = _
 have : IntKind.wrap .i16 (n : Int) = s16 n := by
  unfold s16
  simp [IntKind.wrap, IntKind.bits, IntKind.signed]
  split <;> split <;> omega
 rw [this]
theorem shlU {a : Nat} (h : a < 256) : bSh .shl .u16 (.int .u16 (a : Nat)) (.int .u64 8) = some (.int .u16 ((a * 256 : Nat) : Int)) := by
 show some (V.int .u16 (IntKind.wrap .u16 (Int.mul (a : Int) (Int.ofNat (Nat.pow 2 (min (8 : Int).toNat IntKind.u16.bits)))))) = _
 have e : Int.ofNat (Nat.pow 2 (min (8 : Int).toNat IntKind.u16.bits)) = 256 := rfl
 have e2 : Int.mul (a : Int) 256 = ((a * 256 : Nat) : Int) := by show (a : Int) * 256 = _; omega
 rw [e, e2]
 have : IntKind.wrap .u16 ((a * 256 : Nat) : Int) = ((a * 256 : Nat) : Int) := by simp [IntKind.wrap, IntKind.bits, IntKind.signed]; omega
 rw [this]
theorem shlI {a : Nat} (h : a < 256) : bSh .shl .i64 (.i (a : Nat)) (.int .u64 8) = some (.i ((a * 256 : Nat) : Int)) := by
 show some (V.i (w64 (Int.mul (a : Int) (Int.ofNat (Nat.pow 2 (min (8 : Int).toNat IntKind.i64.bits)))))) = _
 have e : Int.ofNat (Nat.pow 2 (min (8 : Int).toNat IntKind.i64.bits)) = 256 := rfl
 have e2 : Int.mul (a : Int) 256 = ((a * 256 : Nat) : Int) := by show (a : Int) * 256 = _; omega
 rw [e, e2, w64_of ⟨by omega, by omega⟩]
theorem or_add (a b : Nat) (hb : b < 256) : a * 256 ||| b = a * 256 + b := by
 have := Nat.shiftLeft_add_eq_or_of_lt (i := 8) (show b < 2 ^ 8 from hb) a
 rw [Nat.shiftLeft_eq] at this
 exact this.symm
theorem orU {a b : Nat} (ha : a < 256) (hb : b < 256) : bK .u16 (fun a b => mkI .u16 (bitsI .or .u16 a b)) (.int .u16 ((a * 256 : Nat) : Int)) (.int .u16 (b : Nat)) = some (.int .u16 ((a * 256 + b : Nat) : Int)) := by
 show some (V.int .u16 (bitsI .or .u16 ((a * 256 : Nat) : Int) (b : Int))) = _
 have : bitsI .or .u16 ((a * 256 : Nat) : Int) (b : Int) = ((a * 256 + b : Nat) : Int) := by
  show IntKind.wrap .u16 (((BitVec.ofInt 16 ((a * 256 : Nat) : Int) ||| BitVec.ofInt 16 (b : Int)).toNat : Nat) : Int) = _
  rw [BitVec.toNat_or, BitVec.ofInt_natCast, BitVec.ofInt_natCast, BitVec.toNat_ofNat, BitVec.toNat_ofNat, Nat.mod_eq_of_lt (by omega), Nat.mod_eq_of_lt (by omega), or_add a b hb]
  simp [IntKind.wrap, IntKind.bits, IntKind.signed]; omega
 rw [this]
theorem orI {a b : Nat} (ha : a < 256) (hb : b < 256) : bI (fun a b => mkI .i64 (bitsI .or .i64 a b)) (.i ((a * 256 : Nat) : Int)) (.i (b : Nat)) = some (.i ((a * 256 + b : Nat) : Int)) := by
 show some (V.i (bitsI .or .i64 ((a * 256 : Nat) : Int) (b : Int))) = _
 have : bitsI .or .i64 ((a * 256 : Nat) : Int) (b : Int) = ((a * 256 + b : Nat) : Int) := by
  show IntKind.wrap .i64 (((BitVec.ofInt 64 ((a * 256 : Nat) : Int) ||| BitVec.ofInt 64 (b : Int)).toNat : Nat) : Int) = _
  rw [BitVec.toNat_or, BitVec.ofInt_natCast, BitVec.ofInt_natCast, BitVec.toNat_ofNat, BitVec.toNat_ofNat, Nat.mod_eq_of_lt (by omega), Nat.mod_eq_of_lt (by omega), or_add a b hb]
  simp [IntKind.wrap, IntKind.bits, IntKind.signed]; omega
 rw [this]
theorem s8_in (n : Nat) (h : n < 256) : -128 ≤ s8 n ∧ s8 n ≤ 127 := by unfold s8; split <;> omega
theorem s16_in (n : Nat) (h : n < 65536) : -32768 ≤ s16 n ∧ s16 n ≤ 32767 := by unfold s16; split <;> omega
def bAt (bs : List Nat) (i : Nat) : Nat := bs.getD i 0
def szA (bs : List Nat) (p : Nat) : Nat := (sizeI (bAt bs p : Nat)).toNat
def rawA (bs : List Nat) (p : Nat) : Int :=
 if ((bAt bs p : Nat) : Int) = 132 then bAt bs (p + 1)
 else if sizeI (bAt bs p : Nat) = 2 then (if sgnI (bAt bs p : Nat) = true then s8 (bAt bs (p + 1)) else bAt bs (p + 1))
 else if sizeI (bAt bs p : Nat) = 3 then (if sgnI (bAt bs p : Nat) = true then s16 (bAt bs (p + 1) * 256 + bAt bs (p + 2)) else ((bAt bs (p + 1) * 256 + bAt bs (p + 2) : Nat) : Int))
 else 0
def decI (bs : List Nat) (p : Nat) : In := ⟨p, bAt bs p, if brI (bAt bs p : Nat) = true then rawA bs p + p else rawA bs p, if ((bAt bs p : Nat) : Int) = 132 then s8 (bAt bs (p + 2)) else 0⟩
inductive Dec (bs : List Nat) : List In → Nat → Prop
 | nil : Dec bs [] 0
 | snoc (l : List In) (p : Nat) : Dec bs l p → p < bs.length → szA bs p ≠ 0 → p + szA bs p ≤ bs.length → Dec bs (l ++ [decI bs p]) (p + szA bs p)
theorem Dec.le {bs : List Nat} {l : List In} {p : Nat} (h : Dec bs l p) : p ≤ bs.length ∧ l.length ≤ p := by
 induction h with
 | nil => simp
 | snoc l p h h1 h2 h3 ih => simp; omega
def Refd (bs : List Nat) : Prop := bs.length > 1024 ∨ ∃ l p, Dec bs l p ∧ p < bs.length ∧ (szA bs p = 0 ∨ bs.length < p + szA bs p)
theorem if2 (a b : Int) : fillV [V.i 0, .i 0, .i 0, .i 0] [(0, 1, .i a), (1, 1, .i b)] = some [.i a, .i b, .i 0, .i 0] := (rfl)
theorem szA_eq (bs : List Nat) (p : Nat) : ((szA bs p : Nat) : Int) = sizeI (bAt bs p : Nat) := by
 unfold szA; have := sizeI_le (bAt bs p : Nat); omega
set_option maxHeartbeats 8000000 in
theorem decode_eq {s : St} (hw : Wf s) {v : V} {bs : List Nat} (h : SL s v (bs.map byteV)) (h256 : ∀ n ∈ bs, n < 256) (hlen : bs.length ≤ 9223372036854775807) (hvb : ∀ b ∈ blkV v, b < s.next) {m : Nat} (hm : 2 ≤ m) :
 ∃ (t : St) (lv : V) (er at_ : Int) (l : List In), (K m).call 33 [v] s = some (.tup [lv, .i er, .i at_], t) ∧ RN 4 t lv (l.map In.cells) ∧ ((er = 0 ∧ Dec bs l bs.length ∧ bs.length ≤ 1024) ∨ (er ≠ 0 ∧ l = [] ∧ Refd bs)) ∧ Fr s t [] ∧ ∀ b ∈ blkV lv, s.next ≤ b ∧ b < t.next := by
 obtain ⟨d, rfl⟩ : ∃ d, m = d + 1 := ⟨m - 1, by omega⟩
 have ln := h.len
 rw [List.length_map] at ln
 have hb : ∀ p, bAt bs p < 256 := fun p => by
  unfold bAt; rw [List.getD_eq_getElem?_getD]
  cases hp : bs[p]? with
  | none => simp
  | some n => exact h256 n (List.mem_of_getElem? hp)
 have hg : ∀ p, p < bs.length → bs[p]? = some (bAt bs p) := fun p hp => by unfold bAt; rw [List.getD_eq_getElem?_getD, List.getElem?_eq_getElem hp]; rfl
 let Q : V → St → Prop := fun x t => ∃ (lv : V) (er at_ : Int) (l : List In), x = .tup [lv, .i er, .i at_] ∧ RN 4 t lv (l.map In.cells) ∧ ((er = 0 ∧ Dec bs l bs.length ∧ bs.length ≤ 1024) ∨ (er ≠ 0 ∧ l = [] ∧ Refd bs)) ∧ Fr s t [] ∧ ∀ b ∈ blkV lv, s.next ≤ b ∧ b < t.next
 suffices key : Ret ((K (d + 1)).call 33 [v] s) Q by
  obtain ⟨x, t, e, lv, er, at_, l, rfl, h1⟩ := key
  exact ⟨t, lv, er, at_, l, e, h1⟩
 have nope : ∀ (t : St) (er at_ : Int), Fr s t [] → er ≠ 0 → Refd bs → Q (.tup [.nils, .i er, .i at_]) t := fun t er at_ ft h1 h2 => ⟨.nils, er, at_, [], rfl, ⟨by simp, .inl ⟨rfl, .inl rfl⟩⟩, .inr ⟨h1, rfl, h2⟩, ft, by simp [blkV]⟩
 by_cases c0 : (1024 : Int) < ((bs.length : Nat) : Int)
 · simp -implicitDefEqProofs (disch := first|go_size|fail) only [op33, go_sem, ln, c0, resV_ttt]
   exact nope s 3 0 (Fr.refl hw _) (by decide) (.inl (by omega))
 simp -implicitDefEqProofs (disch := first|go_size|fail) only [op33, go_sem, ln, c0, resV_ttt]
 refine loop_at (Q := fun r => Ret (retR _ (seqR (blkR 0 r) _)) _) (fun q e t => ∃ (p : Nat) (l : List In) (ov : V), q = bs.length - p ∧ Dec bs l p ∧ Fr s t [] ∧ GN 4 t ov (l.map In.cells) ∧ (∀ b ∈ blkV ov, s.next ≤ b) ∧ g0 e = v ∧ g5 e = ov ∧ g6 e = .i (p : Nat)) ?_ (n := bs.length) (by omega) ⟨0, [], .nils, by omega, .nil, Fr.refl hw _, ⟨by simp, .inl ⟨rfl, .inl rfl⟩⟩, by simp [blkV], (by trivial), (by trivial), (by trivial)⟩
 rintro q e t ⟨p, l, ov, rfl, hD, ft, go', hob, i0, i5, i6⟩
 replace i0 : e.a0.a0 = _ := i0
 replace i5 : e.a0.a5 = _ := i5
 replace i6 : e.a0.a6 = _ := i6
 obtain ⟨hpl, hll⟩ := hD.le
 by_cases c : (p : Int) < ((bs.length : Nat) : Int)
 · have hpb : p < bs.length := by omega
   have hn0 := hb p
   have hn1 := hb (p + 1)
   have hn2 := hb (p + 2)
   have hvt := h.fr hw ft (by simp)
   obtain ⟨qq, a1, a2⟩ := hvt.at ft.wf (j := p) (x := byteV (bAt bs p)) (by rw [List.getElem?_map, hg p hpb]; rfl)
   obtain ⟨w1', k1, ck1, fk1, nk1⟩ := new_ex (s := t) (l := [V.i 0, .i 0, .i 0, .i 0]) (n := 4) ft.wf rfl
   obtain ⟨w2', k2, ck2, fk2, nk2⟩ := eSt_exN (s := w1') (b := t.next) (o := 0) (vs := [V.i (p : Nat), .i (bAt bs p : Nat), .i 0, .i 0]) (m := 4) fk1.wf ck1 rfl (by simp) (by intro v hv; simp at hv; rcases hv with rfl | rfl | rfl | rfl <;> rfl)
   replace ck2 : w2'.cl t.next = some [V.i (p : Nat), .i (bAt bs p : Nat), .i 0, .i 0] := by rw [ck2]; simp [putL]
   have Fk : Fr t w2' [] := fk1.trans' fk2 (fun b hb => .inr (by simp at hb; omega))
   have Fs2 : Fr s w2' [] := ft.trans Fk
   have hv2 := h.fr hw Fs2 (by simp)
   have r1 : ldP (.ptr t.next 1) w2' = some (.i (bAt bs p : Nat)) := dLd_eq fk2.wf ck2 rfl
   have z46 := cc46 (n := (bAt bs p : Nat)) (by omega) (by omega) w2' (m := d) (by omega)
   have z47 := cc47 (n := (bAt bs p : Nat)) (by omega) (by omega) w2' (m := d) (by omega)
   have hsz := szA_eq bs p
   have fin : ∀ u : St, Fr t u [] → u.cl t.next = some (decI bs p).cells → ∃ (y1 y2 : St) (v4 : V), ldNP 4 (.ptr t.next 0) u = some (.agg (decI bs p).cells) ∧ bslP 1 4 [V.i 0, .i 0, .i 0, .i 0] [(0, 4, .agg (decI bs p).cells)] u.next = some (.slice u.next 0 1 (some 1) 4, .cells 4 (ofL (decI bs p).cells)) ∧ u.new (.cells 4 (ofL (decI bs p).cells)) = y1 ∧ apW 4 ov (.slice u.next 0 1 (some 1) 4) y1 = some (v4, y2) ∧ Fr s y2 [] ∧ GN 4 y2 v4 ((l ++ [decI bs p]).map In.cells) ∧ ∀ b ∈ blkV v4, s.next ≤ b := by
    intro u fu cu
    have gu := go'.fr ft.wf fu (by simp)
    obtain ⟨y1, v4, y2, b1, b2, b3, b4, b5⟩ := gu.push fu.wf (decI bs p).row (by rw [List.length_map]; omega)
    refine ⟨y1, y2, v4, by rw [dLdN_eq (o := 0) (m := 4) fu.wf cu (by simp [In.cells])]; rfl, aBSl_agg rfl rfl (allOne_of (In.row _).2), b1, b2, (ft.trans fu).trans' b4 (fun b hb => .inr (hob b hb)), ?_, fun b hb => by have := b5 b hb; have := ft.nx; have := fu.nx; omega⟩
    rw [List.map_append]; exact b3
   have byte : ∀ (u : St) (i : Nat), Fr s u [] → p + i < bs.length → ∃ q, bIdx 1 v (.i ((p : Nat) + (i : Nat) : Int)) = some q ∧ ldP q u = some (byteV (bAt bs (p + i))) := fun u i fu hi => by
    obtain ⟨q, b1, b2⟩ := (h.fr hw fu (by simp)).at fu.wf (j := p + i) (x := byteV (bAt bs (p + i))) (by rw [List.getElem?_map, hg _ hi]; rfl)
    exact ⟨q, b1, b2⟩
   have stp : ∀ (u : St) (i : Nat) (z : Int) (cs : List V), Fr t u [] → u.cl t.next = some cs → i < cs.length → ∃ u', stP 1 (.ptr t.next i) (.i z) u = some (.tup [], u') ∧ u'.cl t.next = some (cs.set i (.i z)) ∧ Fr t u' [] := fun u i z cs fu cu hi => by
    obtain ⟨u', b1, b2, b3, b4⟩ := eSt_ex (s := u) (b := t.next) (o := i) (v := .i z) fu.wf cu hi rfl
    exact ⟨u', b1, b2, fu.trans' b3 (fun b hb => .inr (by simp at hb; omega))⟩
   rcases sizeI_cases (bAt bs p : Nat) with hs | hs | hs | hs
   · rw [hs] at z46
     simp -implicitDefEqProofs (disch := first|go_size|fail) only [go_sem, i0, i5, i6, ln, c, a1, a2, bi64, hn0, if2, aAl_eq, k1, k2, r1, z46, resV_ttt]
     exact nope _ 15 _ Fs2 (by decide) (.inr ⟨l, p, hD, hpb, .inl (by omega)⟩)
   · rw [hs] at z46
     by_cases cl : ((bs.length : Nat) : Int) < (p : Int) + 1
     · simp -implicitDefEqProofs (disch := first|go_size|fail) only [go_sem, i0, i5, i6, ln, c, a1, a2, bi64, hn0, if2, aAl_eq, k1, k2, r1, z46, cl, resV_ttt]
       exact nope _ 10 _ Fs2 (by decide) (.inr ⟨l, p, hD, hpb, .inr (by omega)⟩)
     · have hn132 : True := trivial
       have c132 : ¬ ((bAt bs p : Nat) : Int) = 132 := fun h => by rw [h] at hs; exact absurd hs (by decide)
       have hbr : brI (bAt bs p : Nat) = false := by cases hq : brI (bAt bs p : Nat) with | false => rfl | true => have := brI_size hq; omega
       have ry1 : ldP (.ptr t.next 1) w2' = some (.i (bAt bs p : Nat)) := dLd_eq Fk.wf ck2 rfl
       have z18 := cc18 (n := (bAt bs p : Nat)) (by omega) (by omega) w2' (m := d) (by omega)
       rw [hbr] at z18
       have hdec : (decI bs p).cells = [V.i ((p : Nat)), .i ((bAt bs p : Nat)), .i (0), .i (0)] := by
        unfold decI rawA In.cells; simp only [c132, hs, hbr, if_false, reduceCtorEq, Int.reduceEq, if_true]; try rfl
       obtain ⟨y1, y2, v4, t1', t2', t3', t4', fs, gf, hb4⟩ := fin w2' Fk (by rw [hdec]; exact ck2)
       rw [hdec] at t1' t2' t3'
       simp -implicitDefEqProofs (disch := first|go_size|fail) only [go_sem, i0, i5, i6, ln, c, a1, a2, bi64, bi8, bu16, u16i16, shlU, shlI, orU, orI, i8i64, i16i64, hn0, hn1, hn2, if2, aAl_eq, k1, k2, r1, z46, z47, cl,  ry1, z18, c132,   t1', t2', t3', t4', Nat.zero_add]
       exact ⟨bs.length - (p + szA bs p), by omega, p + szA bs p, l ++ [decI bs p], v4, rfl, .snoc l p hD hpb (by omega) (by omega), fs, gf, hb4, (by trivial), (by trivial), by show V.i _ = V.i _; congr 1; omega⟩
   · rw [hs] at z46
     by_cases cl : ((bs.length : Nat) : Int) < (p : Int) + 2
     · simp -implicitDefEqProofs (disch := first|go_size|fail) only [go_sem, i0, i5, i6, ln, c, a1, a2, bi64, hn0, if2, aAl_eq, k1, k2, r1, z46, cl, resV_ttt]
       exact nope _ 10 _ Fs2 (by decide) (.inr ⟨l, p, hD, hpb, .inr (by omega)⟩)
     · have hn132 : True := trivial
       have c132 : ¬ ((bAt bs p : Nat) : Int) = 132 := fun h => by rw [h] at hs; exact absurd hs (by decide)
       have hbr : brI (bAt bs p : Nat) = false := by cases hq : brI (bAt bs p : Nat) with | false => rfl | true => have := brI_size hq; omega
       cases hsg : sgnI (bAt bs p : Nat) with
       | true =>
         rw [hsg] at z47
         have w8 := s8_in _ hn1
         obtain ⟨qb1, b1a, b1b⟩ := byte w2' 1 Fs2 (by omega)
         replace b1a : bIdx 1 v (.i ((p : Nat) + 1)) = some qb1 := b1a
         obtain ⟨x1, s1', cx1, fx1⟩ := stp w2' 2 (s8 (bAt bs (p + 1))) _ Fk ck2 (by simp)
         simp only [List.set_cons_zero, List.set_cons_succ] at cx1
         have ry1 : ldP (.ptr t.next 1) x1 = some (.i (bAt bs p : Nat)) := dLd_eq fx1.wf cx1 rfl
         have z18 := cc18 (n := (bAt bs p : Nat)) (by omega) (by omega) x1 (m := d) (by omega)
         rw [hbr] at z18
         have hdec : (decI bs p).cells = [V.i ((p : Nat)), .i ((bAt bs p : Nat)), .i (s8 (bAt bs (p + 1))), .i (0)] := by
          unfold decI rawA In.cells; simp only [c132, hs, hbr, hsg, if_false, reduceCtorEq, Int.reduceEq, if_true]; try rfl
         obtain ⟨y1, y2, v4, t1', t2', t3', t4', fs, gf, hb4⟩ := fin x1 fx1 (by rw [hdec]; exact cx1)
         rw [hdec] at t1' t2' t3'
         simp -implicitDefEqProofs (disch := first|go_size|fail) only [go_sem, i0, i5, i6, ln, c, a1, a2, bi64, bi8, bu16, u16i16, shlU, shlI, orU, orI, i8i64, i16i64, hn0, hn1, hn2, if2, aAl_eq, k1, k2, r1, z46, z47, cl, b1a, b1b,  ry1, z18, c132,  s1',  t1', t2', t3', t4', Nat.zero_add]
         exact ⟨bs.length - (p + szA bs p), by omega, p + szA bs p, l ++ [decI bs p], v4, rfl, .snoc l p hD hpb (by omega) (by omega), fs, gf, hb4, (by trivial), (by trivial), by show V.i _ = V.i _; congr 1; omega⟩
       | false =>
         rw [hsg] at z47
         obtain ⟨qb1, b1a, b1b⟩ := byte w2' 1 Fs2 (by omega)
         replace b1a : bIdx 1 v (.i ((p : Nat) + 1)) = some qb1 := b1a
         obtain ⟨x1, s1', cx1, fx1⟩ := stp w2' 2 ((bAt bs (p + 1) : Nat)) _ Fk ck2 (by simp)
         simp only [List.set_cons_zero, List.set_cons_succ] at cx1
         have ry1 : ldP (.ptr t.next 1) x1 = some (.i (bAt bs p : Nat)) := dLd_eq fx1.wf cx1 rfl
         have z18 := cc18 (n := (bAt bs p : Nat)) (by omega) (by omega) x1 (m := d) (by omega)
         rw [hbr] at z18
         have hdec : (decI bs p).cells = [V.i ((p : Nat)), .i ((bAt bs p : Nat)), .i ((bAt bs (p + 1) : Nat)), .i (0)] := by
          unfold decI rawA In.cells; simp only [c132, hs, hbr, hsg, if_false, reduceCtorEq, Int.reduceEq, if_true, Bool.false_eq_true]; try rfl
         obtain ⟨y1, y2, v4, t1', t2', t3', t4', fs, gf, hb4⟩ := fin x1 fx1 (by rw [hdec]; exact cx1)
         rw [hdec] at t1' t2' t3'
         simp -implicitDefEqProofs (disch := first|go_size|fail) only [go_sem, i0, i5, i6, ln, c, a1, a2, bi64, bi8, bu16, u16i16, shlU, shlI, orU, orI, i8i64, i16i64, hn0, hn1, hn2, if2, aAl_eq, k1, k2, r1, z46, z47, cl, b1a, b1b,  ry1, z18, c132,  s1',  t1', t2', t3', t4', Nat.zero_add]
         exact ⟨bs.length - (p + szA bs p), by omega, p + szA bs p, l ++ [decI bs p], v4, rfl, .snoc l p hD hpb (by omega) (by omega), fs, gf, hb4, (by trivial), (by trivial), by show V.i _ = V.i _; congr 1; omega⟩
   · rw [hs] at z46
     by_cases cl : ((bs.length : Nat) : Int) < (p : Int) + 3
     · simp -implicitDefEqProofs (disch := first|go_size|fail) only [go_sem, i0, i5, i6, ln, c, a1, a2, bi64, hn0, if2, aAl_eq, k1, k2, r1, z46, cl, resV_ttt]
       exact nope _ 10 _ Fs2 (by decide) (.inr ⟨l, p, hD, hpb, .inr (by omega)⟩)
     · have hn132 : True := trivial
       by_cases c132 : ((bAt bs p : Nat) : Int) = 132
       · have w8 := s8_in _ hn2
         have hbr : brI (bAt bs p : Nat) = false := by rw [c132]; rfl
         obtain ⟨qb1, b1a, b1b⟩ := byte w2' 1 Fs2 (by omega)
         replace b1a : bIdx 1 v (.i ((p : Nat) + 1)) = some qb1 := b1a
         obtain ⟨qb2, b2a, b2b⟩ := byte w2' 2 Fs2 (by omega)
         replace b2a : bIdx 1 v (.i ((p : Nat) + 2)) = some qb2 := b2a
         obtain ⟨x1, s1', cx1, fx1⟩ := stp w2' 2 ((bAt bs (p + 1) : Nat)) _ Fk ck2 (by simp)
         simp only [List.set_cons_zero, List.set_cons_succ] at cx1
         obtain ⟨qc1, d1a, d1b⟩ := byte x1 1 (ft.trans fx1) (by omega)
         replace d1a : bIdx 1 v (.i ((p : Nat) + 1)) = some qc1 := d1a
         obtain rfl : qb1 = qc1 := by rw [d1a] at b1a; exact (Option.some.inj b1a).symm
         obtain ⟨qc2, d2a, d2b⟩ := byte x1 2 (ft.trans fx1) (by omega)
         replace d2a : bIdx 1 v (.i ((p : Nat) + 2)) = some qc2 := d2a
         obtain rfl : qb2 = qc2 := by rw [d2a] at b2a; exact (Option.some.inj b2a).symm
         obtain ⟨x2, s2', cx2, fx2⟩ := stp x1 3 (s8 (bAt bs (p + 2))) _ fx1 cx1 (by simp)
         simp only [List.set_cons_zero, List.set_cons_succ] at cx2
         have ry1 : ldP (.ptr t.next 1) x2 = some (.i (bAt bs p : Nat)) := dLd_eq fx2.wf cx2 rfl
         have z18 := cc18 (n := (bAt bs p : Nat)) (by omega) (by omega) x2 (m := d) (by omega)
         rw [hbr] at z18
         have hdec : (decI bs p).cells = [V.i ((p : Nat)), .i ((bAt bs p : Nat)), .i ((bAt bs (p + 1) : Nat)), .i (s8 (bAt bs (p + 2)))] := by
          unfold decI rawA In.cells; simp only [c132, hbr, if_false, reduceCtorEq, Int.reduceEq, if_true, Bool.false_eq_true]; try rfl
         obtain ⟨y1, y2, v4, t1', t2', t3', t4', fs, gf, hb4⟩ := fin x2 fx2 (by rw [hdec]; exact cx2)
         rw [hdec] at t1' t2' t3'
         simp only [c132] at k2 r1 ry1 z46 z47 z18 t1' t2' t3'
         simp -implicitDefEqProofs (disch := first|go_size|fail) only [go_sem, i0, i5, i6, ln, c, a1, a2, bi64, bi8, bu16, u16i16, shlU, shlI, orU, orI, i8i64, i16i64, hn0, hn1, hn2, if2, aAl_eq, k1, k2, r1, z46, z47, cl, b1a, b1b, b2a, b2b,  ry1, z18, c132,  s1', d1b, d2b, s2',  t1', t2', t3', t4', Nat.zero_add]
         exact ⟨bs.length - (p + szA bs p), by omega, p + szA bs p, l ++ [decI bs p], v4, rfl, .snoc l p hD hpb (by omega) (by omega), fs, gf, hb4, (by trivial), (by trivial), by show V.i _ = V.i _; congr 1; omega⟩
       · cases hsg : sgnI (bAt bs p : Nat) with
         | true =>
           rw [hsg] at z47
           have h16 : bAt bs (p + 1) * 256 + bAt bs (p + 2) < 65536 := by omega
           have w16 := s16_in _ h16
           cases hbr : brI (bAt bs p : Nat) with
           | true =>
             obtain ⟨qb1, b1a, b1b⟩ := byte w2' 1 Fs2 (by omega)
             replace b1a : bIdx 1 v (.i ((p : Nat) + 1)) = some qb1 := b1a
             obtain ⟨qb2, b2a, b2b⟩ := byte w2' 2 Fs2 (by omega)
             replace b2a : bIdx 1 v (.i ((p : Nat) + 2)) = some qb2 := b2a
             obtain ⟨x1, s1', cx1, fx1⟩ := stp w2' 2 (s16 (bAt bs (p + 1) * 256 + bAt bs (p + 2))) _ Fk ck2 (by simp)
             simp only [List.set_cons_zero, List.set_cons_succ] at cx1
             obtain ⟨x2, s2', cx2, fx2⟩ := stp x1 2 (s16 (bAt bs (p + 1) * 256 + bAt bs (p + 2)) + p) _ fx1 cx1 (by simp)
             simp only [List.set_cons_zero, List.set_cons_succ] at cx2
             have ry1 : ldP (.ptr t.next 1) x1 = some (.i (bAt bs p : Nat)) := dLd_eq fx1.wf cx1 rfl
             have z18 := cc18 (n := (bAt bs p : Nat)) (by omega) (by omega) x1 (m := d) (by omega)
             rw [hbr] at z18
             have ry2 : ldP (.ptr t.next 2) x1 = some (.i (s16 (bAt bs (p + 1) * 256 + bAt bs (p + 2)))) := dLd_eq fx1.wf cx1 rfl
             have hdec : (decI bs p).cells = [V.i ((p : Nat)), .i ((bAt bs p : Nat)), .i (s16 (bAt bs (p + 1) * 256 + bAt bs (p + 2)) + p), .i (0)] := by
              unfold decI rawA In.cells; simp only [c132, hs, hbr, hsg, h16, if_false, reduceCtorEq, Int.reduceEq, if_true]; try rfl
             obtain ⟨y1, y2, v4, t1', t2', t3', t4', fs, gf, hb4⟩ := fin x2 fx2 (by rw [hdec]; exact cx2)
             rw [hdec] at t1' t2' t3'
             simp -implicitDefEqProofs (disch := first|go_size|fail) only [go_sem, i0, i5, i6, ln, c, a1, a2, bi64, bi8, bu16, u16i16, shlU, shlI, orU, orI, i8i64, i16i64, hn0, hn1, hn2, if2, aAl_eq, k1, k2, r1, z46, z47, cl, b1a, b1b, b2a, b2b,  ry1, z18, c132, h16,  s1', s2', ry2,  t1', t2', t3', t4', Nat.zero_add]
             exact ⟨bs.length - (p + szA bs p), by omega, p + szA bs p, l ++ [decI bs p], v4, rfl, .snoc l p hD hpb (by omega) (by omega), fs, gf, hb4, (by trivial), (by trivial), by show V.i _ = V.i _; congr 1; omega⟩
           | false =>
             obtain ⟨qb1, b1a, b1b⟩ := byte w2' 1 Fs2 (by omega)
             replace b1a : bIdx 1 v (.i ((p : Nat) + 1)) = some qb1 := b1a
             obtain ⟨qb2, b2a, b2b⟩ := byte w2' 2 Fs2 (by omega)
             replace b2a : bIdx 1 v (.i ((p : Nat) + 2)) = some qb2 := b2a
             obtain ⟨x1, s1', cx1, fx1⟩ := stp w2' 2 (s16 (bAt bs (p + 1) * 256 + bAt bs (p + 2))) _ Fk ck2 (by simp)
             simp only [List.set_cons_zero, List.set_cons_succ] at cx1
             have ry1 : ldP (.ptr t.next 1) x1 = some (.i (bAt bs p : Nat)) := dLd_eq fx1.wf cx1 rfl
             have z18 := cc18 (n := (bAt bs p : Nat)) (by omega) (by omega) x1 (m := d) (by omega)
             rw [hbr] at z18
             have hdec : (decI bs p).cells = [V.i ((p : Nat)), .i ((bAt bs p : Nat)), .i (s16 (bAt bs (p + 1) * 256 + bAt bs (p + 2))), .i (0)] := by
              unfold decI rawA In.cells; simp only [c132, hs, hbr, hsg, h16, if_false, reduceCtorEq, Int.reduceEq, if_true, Bool.false_eq_true]; try rfl
             obtain ⟨y1, y2, v4, t1', t2', t3', t4', fs, gf, hb4⟩ := fin x1 fx1 (by rw [hdec]; exact cx1)
             rw [hdec] at t1' t2' t3'
             simp -implicitDefEqProofs (disch := first|go_size|fail) only [go_sem, i0, i5, i6, ln, c, a1, a2, bi64, bi8, bu16, u16i16, shlU, shlI, orU, orI, i8i64, i16i64, hn0, hn1, hn2, if2, aAl_eq, k1, k2, r1, z46, z47, cl, b1a, b1b, b2a, b2b,  ry1, z18, c132, h16,  s1',  t1', t2', t3', t4', Nat.zero_add]
             exact ⟨bs.length - (p + szA bs p), by omega, p + szA bs p, l ++ [decI bs p], v4, rfl, .snoc l p hD hpb (by omega) (by omega), fs, gf, hb4, (by trivial), (by trivial), by show V.i _ = V.i _; congr 1; omega⟩
         | false =>
           rw [hsg] at z47
           have hbr : brI (bAt bs p : Nat) = false := by cases hq : brI (bAt bs p : Nat) with | false => rfl | true => have := sgn_br hq; rw [hsg] at this; cases this
           obtain ⟨qb1, b1a, b1b⟩ := byte w2' 1 Fs2 (by omega)
           replace b1a : bIdx 1 v (.i ((p : Nat) + 1)) = some qb1 := b1a
           obtain ⟨qb2, b2a, b2b⟩ := byte w2' 2 Fs2 (by omega)
           replace b2a : bIdx 1 v (.i ((p : Nat) + 2)) = some qb2 := b2a
           obtain ⟨x1, s1', cx1, fx1⟩ := stp w2' 2 (((bAt bs (p + 1) * 256 + bAt bs (p + 2) : Nat) : Int)) _ Fk ck2 (by simp)
           simp only [List.set_cons_zero, List.set_cons_succ] at cx1
           have ry1 : ldP (.ptr t.next 1) x1 = some (.i (bAt bs p : Nat)) := dLd_eq fx1.wf cx1 rfl
           have z18 := cc18 (n := (bAt bs p : Nat)) (by omega) (by omega) x1 (m := d) (by omega)
           rw [hbr] at z18
           have hdec : (decI bs p).cells = [V.i ((p : Nat)), .i ((bAt bs p : Nat)), .i (((bAt bs (p + 1) * 256 + bAt bs (p + 2) : Nat) : Int)), .i (0)] := by
            unfold decI rawA In.cells; simp only [c132, hs, hbr, hsg, if_false, reduceCtorEq, Int.reduceEq, if_true, Bool.false_eq_true]; try rfl
           obtain ⟨y1, y2, v4, t1', t2', t3', t4', fs, gf, hb4⟩ := fin x1 fx1 (by rw [hdec]; exact cx1)
           rw [hdec] at t1' t2' t3'
           simp -implicitDefEqProofs (disch := first|go_size|fail) only [go_sem, i0, i5, i6, ln, c, a1, a2, bi64, bi8, bu16, u16i16, shlU, shlI, orU, orI, i8i64, i16i64, hn0, hn1, hn2, if2, aAl_eq, k1, k2, r1, z46, z47, cl, b1a, b1b, b2a, b2b,  ry1, z18, c132,  s1',  t1', t2', t3', t4', Nat.zero_add]
           exact ⟨bs.length - (p + szA bs p), by omega, p + szA bs p, l ++ [decI bs p], v4, rfl, .snoc l p hD hpb (by omega) (by omega), fs, gf, hb4, (by trivial), (by trivial), by show V.i _ = V.i _; congr 1; omega⟩
 · have hpe : p = bs.length := by omega
   subst hpe
   simp -implicitDefEqProofs (disch := first|go_size|fail) only [go_sem, i0, i5, i6, ln, c, resV_ttt]
   exact ⟨ov, 0, 0, l, rfl, go'.rn ft.wf, .inl ⟨rfl, hD, by omega⟩, ft, fun b hb => ⟨hob b hb, go'.lt ft.wf b hb⟩⟩
theorem encI_lt (x : In) : ∀ n ∈ encI x, n < 256 := fun n hn => by
 have := byt_lt x.op; have := byt_lt x.a; have := byt_lt x.b; have := byt_lt x.arg; have := byt_lt (x.arg / 256)
 unfold encI at hn
 split at hn
 · simp at hn; rcases hn with rfl | rfl | rfl <;> assumption
 · split at hn
   · simp at hn; subst hn; assumption
   · split at hn
     · simp at hn; rcases hn with rfl | rfl <;> assumption
     · simp at hn; rcases hn with rfl | rfl | rfl <;> assumption
theorem encB_lt (l : List In) : ∀ n ∈ encB l, n < 256 := fun n hn => by
 unfold encB at hn
 obtain ⟨x, hx, hn⟩ := List.mem_flatten.1 hn
 obtain ⟨y, _, rfl⟩ := List.mem_map.1 hx
 exact encI_lt y n hn
def mIns (n : Nat) (ls : List L) : List In := (runI (runP n ls).1 ls).1
structure CodeOk (bs : List Nat) (l : List In) (hr : List (List V)) : Prop where
 ex : (hr = [] ∧ l ≠ [] ∧ Dec bs l bs.length ∧ bs.length < 300) ∨ ∃ ls n hs, Made ls n hs ∧ hr = hs.map (hRow (runP n ls).1) ∧ (Dec (encB (mIns n ls)) l (encB (mIns n ls)).length ∨ (l = [] ∧ Refd (encB (mIns n ls))))
theorem SL.any {s : St} {v : V} {l : List V} (h : SL s v l) : True := trivial
set_option maxHeartbeats 8000000 in
theorem code_eq {s : St} (hw : Wf s) {v w : V} {bs : List Nat} {l : List Int} (h : SL s v (bs.map byteV)) (h256 : ∀ n ∈ bs, n < 256) (hlen : bs.length ≤ 9223372036854775807) (hvb : ∀ b ∈ blkV v, b < s.next)
 (hv : SL s w (l.map V.i)) (hv1 : w.one = true) (hI : ∀ x ∈ l, I64 x) (hl : l.length ≤ 17592186044416) (hwb : ∀ b ∈ blkV w, b < s.next) {m : Nat} (hm : 32 ≤ m) :
 ∃ (t : St) (lv hv fv : V) (I : List In) (hr fr : List (List V)), (K m).call 13 [v, w] s = some (.tup [lv, hv, fv], t) ∧ RN 4 t lv (I.map In.cells) ∧ RN 4 t hv hr ∧ RN 3 t fv fr ∧ (∀ r ∈ fr, FRow r) ∧ fr.length ≤ 1000 ∧ CodeOk bs I hr ∧ Fr s t [] ∧ ∀ b, b ∈ blkV lv ∨ b ∈ blkV hv ∨ b ∈ blkV fv → b < t.next := by
 obtain ⟨d, rfl⟩ : ∃ d, m = d + 1 := ⟨m - 1, by omega⟩
 have ln := h.len
 rw [List.length_map] at ln
 obtain ⟨t1, lv, er, at_, I, e1, r1, k1, f1, b1⟩ := decode_eq hw h h256 hlen hvb (m := d) (by omega)
 have rl := r1.len
 rw [List.length_map] at rl
 have nn : ∀ {es : Nat} {t : St}, RN es t .nils [] := fun {es t} => ⟨by simp, .inl ⟨rfl, .inl rfl⟩⟩
 have hf1 := f1.nx
 let Q : V → St → Prop := fun x t => ∃ (lv hv fv : V) (I : List In) (hr fr : List (List V)), x = .tup [lv, hv, fv] ∧ RN 4 t lv (I.map In.cells) ∧ RN 4 t hv hr ∧ RN 3 t fv fr ∧ (∀ r ∈ fr, FRow r) ∧ fr.length ≤ 1000 ∧ CodeOk bs I hr ∧ Fr s t [] ∧ ∀ b, b ∈ blkV lv ∨ b ∈ blkV hv ∨ b ∈ blkV fv → b < t.next
 suffices key : Ret ((K (d + 1)).call 13 [v, w] s) Q by
  obtain ⟨x, t, e, lv, hv, fv, l, hr, fr, rfl, h1⟩ := key
  exact ⟨t, lv, hv, fv, l, hr, fr, e, h1⟩
 obtain ⟨t2, cv, e2, ⟨rows, cls, mv, ms, c, nm, ds, st, k, ls, n, hs, p1, p2, p3, p4, p5, p6, M, mo⟩, f2⟩ := classes_eq f1.wf (hv.fr hw f1 (by simp)) hv1 hI hl (fun b hb => by have := hwb b hb; omega) (m := d) (by omega)
 have hf2 := f2.nx
 have cl : uLenS cv = some (.i 4) := by rw [p1.len, p2]; rfl
 obtain ⟨ba, oa, a1, a2, a3, a4⟩ := p1.at f2.wf p3
 replace a1 : bIdx 5 cv (.i 3) = some (.ptr ba oa) := a1
 have a5 := a3 4 mv p4
 obtain ⟨bm, om, c1, c2, c3, c4⟩ := p5.at f2.wf p6
 replace c1 : bIdx 9 mv (.i 0) = some (.ptr bm om) := c1
 have rc := mo.row
 obtain ⟨t3, k3, ck3, f3, nx3⟩ := new_ex (s := t2) (l := [.str [], .str [], .bool false, .bool false, .i 0, .i 0, .nils, .nils, .nils]) (n := 9) f2.wf rfl
 obtain ⟨t4, k4, ck4, f4, nx4⟩ := eSt_exN (s := t3) (b := t2.next) (o := 0) (vs := c) (m := 9) f3.wf ck3 rc.1 (by simp) rc.2
 obtain ⟨zv, hv', fv, fr, hc, z1, z2, z3, z4, z5, z6, z7, z8, z9⟩ := mo.ex
 replace ck4 : t4.cl t2.next = some c := by rw [ck4]; have := rc.1; simp [putL, this]
 rw [hc] at ck4 c4 k4
 have F34 : Fr t2 t4 [] := f3.trans' f4 (fun b hb => .inr (by simp at hb; omega))
 have hf34 := F34.nx
 have q6 : ldP (.ptr t2.next 6) t4 = some zv := dLd_eq f4.wf ck4 rfl
 obtain ⟨Mi, hbl⟩ := M.ins
 have z1' := z1.fr f2.wf F34 (by simp)
 obtain ⟨t5, lv5, er5, at5, I5, e5, r5, k5, f5, b5⟩ := decode_eq f4.wf z1' (encB_lt _) (by omega) (fun b hb => by have := z9 b (.inl hb); omega) (m := d) (by omega)
 have hf5 := f5.nx
 have ck5 := f5.cl f4.wf ck4 (by simp)
 have q7 : ldP (.ptr t2.next 7) t5 = some hv' := dLd_eq f5.wf ck5 rfl
 have q8 : ldP (.ptr t2.next 8) t5 = some fv := dLd_eq f5.wf ck5 rfl
 have F45 : Fr t2 t5 [] := F34.trans f5
 have fin : Q (.tup [lv5, hv', fv]) t5 := by
  refine ⟨lv5, hv', fv, I5, _, fr, rfl, r5, z3.fr f2.wf F45 (by simp), z5.fr f2.wf F45 (by simp), z7, z8, ⟨.inr ⟨ls, n, hs, M, rfl, ?_⟩⟩, (f1.trans f2).trans F45, ?_⟩
  · rcases k5 with ⟨_, y1, _⟩ | ⟨_, y1, y2⟩
    · exact .inl y1
    · exact .inr ⟨y1, y2⟩
  · intro b hb
    rcases hb with hb | hb | hb
    · exact (b5 b hb).2
    · have := z9 b (.inr (.inl hb)); omega
    · have := z9 b (.inr (.inr hb)); omega
 by_cases ce : er = 0
 · subst ce
   rcases k1 with ⟨_, y1, _⟩ | ⟨y0, _⟩
   · by_cases cI : (0 : Int) < ((I.length : Nat) : Int)
     · by_cases c3 : ((bs.length : Nat) : Int) < 300
       · simp -implicitDefEqProofs (disch := first|go_size|fail) only [op13, go_sem, e1, ln, rl, cI, c3]
         exact ⟨lv, .nils, .nils, I, [], [], rfl, r1, nn, nn, by simp, by simp, ⟨.inl ⟨rfl, by intro h; subst h; simp at cI, y1, by omega⟩⟩, f1, fun b hb => by simp [blkV] at hb; exact (b1 b hb).2⟩
       · simp -implicitDefEqProofs (disch := first|go_size|fail) only [op13, go_sem, e1, ln, rl, cI, c3, e2, cl, a1, a5, c1, c4, aAl_eq, k3, k4, q6, e5, q7, q8]
         exact fin
     · simp -implicitDefEqProofs (disch := first|go_size|fail) only [op13, go_sem, e1, ln, rl, cI, e2, cl, a1, a5, c1, c4, aAl_eq, k3, k4, q6, e5, q7, q8]
       exact fin
   · exact absurd rfl y0
 · simp -implicitDefEqProofs (disch := first|go_size|fail) only [op13, go_sem, e1, ln, rl, ce, e2, cl, a1, a5, c1, c4, aAl_eq, k3, k4, q6, e5, q7, q8]
   exact fin
structure Ll (l : List In) : Prop where
 len : l.length ≤ 1024
 op : ∀ (i : Nat) (x : In), l[i]? = some x → 0 ≤ x.op ∧ x.op < 256 ∧ 0 ≤ x.at_ ∧ x.at_ ≤ 1024
 lt : ∀ (i j : Nat) (x y : In), i < j → l[i]? = some x → l[j]? = some y → x.at_ < y.at_
theorem bAt_lt {bs : List Nat} (h : ∀ n ∈ bs, n < 256) (p : Nat) : bAt bs p < 256 := by
 unfold bAt; rw [List.getD_eq_getElem?_getD]
 cases hp : bs[p]? with
 | none => simp
 | some n => exact h n (List.mem_of_getElem? hp)
theorem Dec.ll {bs : List Nat} {l : List In} {p : Nat} (h : Dec bs l p) (h256 : ∀ n ∈ bs, n < 256) (hl : bs.length ≤ 1024) : (∀ (i : Nat) (x : In), l[i]? = some x → 0 ≤ x.op ∧ x.op < 256 ∧ 0 ≤ x.at_ ∧ x.at_ < (p : Int)) ∧ ∀ (i j : Nat) (x y : In), i < j → l[i]? = some x → l[j]? = some y → x.at_ < y.at_ := by
 induction h with
 | nil => simp
 | snoc l p h h1 h2 h3 ih =>
   obtain ⟨ih1, ih2⟩ := ih
   have hb := bAt_lt h256 p
   constructor
   · intro i x hx
     rw [List.getElem?_append] at hx
     split at hx
     · have := ih1 i x hx; omega
     · rename_i hi
       have : i - l.length = 0 := by have := (List.getElem?_eq_some_iff.1 hx).1; simp at this; omega
       rw [this] at hx
       simp at hx; subst hx
       simp only [decI]; omega
   · intro i j x y hij hx hy
     have hj := (List.getElem?_eq_some_iff.1 hy).1
     rw [List.length_append, List.length_singleton] at hj
     rw [List.getElem?_append_left (by omega)] at hx
     by_cases c : j < l.length
     · rw [List.getElem?_append_left c] at hy; exact ih2 i j x y hij hx hy
     · have : j = l.length := by omega
       subst this
       rw [List.getElem?_append_right (by omega), Nat.sub_self] at hy
       simp at hy; subst hy
       have := ih1 i x hx
       simp only [decI]; omega
theorem Ll.nil : Ll [] := ⟨by simp, by simp, by simp⟩
theorem Dec.Ll {bs : List Nat} {l : List In} (h : Dec bs l bs.length) (h256 : ∀ n ∈ bs, n < 256) (hl : bs.length ≤ 1024) : Ll l := by
 obtain ⟨h1, h2⟩ := h.ll h256 hl
 exact ⟨by have := h.le; omega, fun i x hx => by have := h1 i x hx; omega, h2⟩
theorem CodeOk.ll {bs : List Nat} {l : List In} {hr : List (List V)} (h : CodeOk bs l hr) (h256 : ∀ n ∈ bs, n < 256) : Ll l := by
 obtain ⟨_, _, h1, h2⟩ | ⟨ls, n, hs, M, _, h | ⟨h, _⟩⟩ := h.ex
 · exact h1.Ll h256 (by omega)
 · exact h.Ll (encB_lt _) M.ins.2
 · rw [h]; exact Ll.nil
def findN (l : List In) (a : Int) : Option Nat := l.findIdx? fun x => decide (x.at_ = a)
def findL (l : List In) (a : Int) : Int := match findN l a with | some i => (i : Int) | none => -1
theorem findL_none {l : List In} {a : Int} (h : ∀ (i : Nat) (x : In), l[i]? = some x → x.at_ ≠ a) : findL l a = -1 := by
 have : findN l a = none := by
  unfold findN; rw [List.findIdx?_eq_none_iff]
  intro x hx
  obtain ⟨i, hi⟩ := List.getElem?_of_mem hx
  simpa using h i x hi
 unfold findL; rw [this]
theorem findL_some {l : List In} {a : Int} {i : Nat} {x : In} (hx : l[i]? = some x) (ha : x.at_ = a) (h : ∀ (j : Nat) (y : In), j < i → l[j]? = some y → y.at_ ≠ a) : findL l a = i := by
 obtain ⟨q1, q2⟩ := List.getElem?_eq_some_iff.1 hx
 have : findN l a = some i := by
  unfold findN; rw [List.findIdx?_eq_some_iff_getElem]
  refine ⟨q1, by rw [q2]; simpa using ha, fun j hj => ?_⟩
  have := h j l[j] hj (List.getElem?_eq_getElem (by omega))
  simpa using this
 unfold findL; rw [this]
theorem findL_cases (l : List In) (a : Int) : (findL l a = -1 ∧ ∀ (i : Nat) (x : In), l[i]? = some x → x.at_ ≠ a) ∨ ∃ (i : Nat) (x : In), findL l a = i ∧ l[i]? = some x ∧ x.at_ = a := by
 unfold findL
 cases h : findN l a with
 | none =>
   refine .inl ⟨rfl, fun i x hx => ?_⟩
   unfold findN at h; rw [List.findIdx?_eq_none_iff] at h
   have := h x (List.mem_of_getElem? hx)
   simpa using this
 | some i =>
   unfold findN at h; rw [List.findIdx?_eq_some_iff_getElem] at h
   obtain ⟨h1, h2, _⟩ := h
   exact .inr ⟨i, l[i], rfl, List.getElem?_eq_getElem h1, by simpa using h2⟩
theorem findL_lt {l : List In} (a : Int) : -1 ≤ findL l a ∧ findL l a < (l.length : Nat) := by
 rcases findL_cases l a with ⟨h, _⟩ | ⟨i, x, h, h2, _⟩
 · rw [h]; omega
 · have := (List.getElem?_eq_some_iff.1 h2).1; omega
theorem nan45 (x : Int) (s : St) (d : Nat) : (K (d + 1)).call 45 [.i x] s = some (.bool false, s) := by
 rw [op45]
 simp -implicitDefEqProofs (disch := first|go_size|fail) only [go_sem, eq_self]
def cmpI (x y : Int) : Int := if x < y then -1 else if y < x then 1 else 0
theorem cmp30 (x y : Int) (s : St) (d : Nat) : (K (d + 2)).call 30 [.i x, .i y] s = some (.i (cmpI x y), s) := by
 have e1 := nan45 x s d
 have e2 := nan45 y s d
 rw [op30]
 unfold cmpI
 by_cases c1 : x < y
 · simp -implicitDefEqProofs (disch := first|go_size|fail) only [go_sem, e1, e2, c1, if_true, if_false]
 · by_cases c2 : y < x
   · simp -implicitDefEqProofs (disch := first|go_size|fail) only [go_sem, e1, e2, c1, c2, if_true, if_false]
   · simp -implicitDefEqProofs (disch := first|go_size|fail) only [go_sem, e1, e2, c1, c2, if_true, if_false]
theorem fok29 : fok.get 29 = some true := (rfl)
theorem cmp29 {s : St} (hw : Wf s) (x : In) (a : Int) (d : Nat) : ∃ t, (K (d + 3)).call 29 [.agg x.cells, .i a] s = some (.i (cmpI x.at_ a), t) ∧ Fr s t [] := by
 obtain ⟨s1, e1, c1, f1, n1⟩ := new_ex (s := s) (l := x.cells) (n := 4) hw rfl
 have hbox : boxP (.agg x.cells) s.next = some (.ptr s.next 0, .cells 4 (ofL x.cells)) := aBox_agg (allOne_of x.row.2)
 have r0 : ldP (.ptr s.next 0) s1 = some (.i x.at_) := dLd_eq f1.wf c1 rfl
 have e2 := cmp30 x.at_ a s1 d
 refine ⟨s1, ?_, f1⟩
 rw [op29]
 simp -implicitDefEqProofs (disch := first|go_size|fail) only [go_sem, hbox, e1, r0, e2]
theorem shr1 {a : Int} (h0 : 0 ≤ a) (h1 : a < 18446744073709551616) : bSh .shr .u64 (.int .u64 a) (.int .u64 1) = some (.int .u64 (a / 2)) := by
 show some (V.int .u64 (Int.fdiv a (Int.ofNat (Nat.pow 2 (min (1 : Int).toNat IntKind.u64.bits))))) = _
 have e : Int.ofNat (Nat.pow 2 (min (1 : Int).toNat IntKind.u64.bits)) = 2 := rfl
 rw [e, Int.fdiv_eq_ediv_of_nonneg a (by omega)]
theorem cI64 {a : Int} (h0 : 0 ≤ a) (h1 : a < 9223372036854775808) : cInt .i64 (.int .u64 a) = some (.i a) := by
 show some (V.i (w64 a)) = _
 rw [w64_of ⟨by omega, by omega⟩]
theorem cmpI_neg {x y : Int} : (cmpI x y < 0) ↔ x < y := by unfold cmpI; split <;> (try split) <;> omega
theorem cmpI_zero {x y : Int} : (cmpI x y = 0) ↔ x = y := by unfold cmpI; split <;> (try split) <;> omega
set_option maxHeartbeats 4000000 in
theorem search28 {s : St} (hw : Wf s) {v : V} {l : List In} (h : RN 4 s v (l.map In.cells)) (L : Ll l) (a : Int) (d : Nat) : ∃ (t : St) (i : Int) (ok : Bool), (K (d + 4)).call 28 [v, .i a, .func 29 [] []] s = some (.tup [.i i, .bool ok], t) ∧ Fr s t [] ∧ ((ok = true ∧ findL l a = i) ∨ (ok = false ∧ findL l a = -1)) := by
 have hlen := h.len
 rw [List.length_map] at hlen
 have hl := L.len
 have key : Ret ((K (d + 4)).call 28 [v, .i a, .func 29 [] []] s) fun r t => ∃ (i : Int) (ok : Bool), r = .tup [.i i, .bool ok] ∧ Fr s t [] ∧ ((ok = true ∧ findL l a = i) ∨ (ok = false ∧ findL l a = -1)) := by
  simp -implicitDefEqProofs (disch := first|go_size|fail) only [op28, go_sem, hlen]
  refine loop_at (Q := fun r => Ret (retR _ (seqR (blkR 0 r) _)) _) (fun q e t => ∃ i j : Nat, q = j - i ∧ i ≤ j ∧ j ≤ l.length ∧ Fr s t [] ∧ (∀ (k : Nat) (y : In), k < i → l[k]? = some y → y.at_ < a) ∧ (∀ (k : Nat) (y : In), j ≤ k → l[k]? = some y → a ≤ y.at_) ∧ g0 e = v ∧ g1 e = .i a ∧ g2 e = .func 29 [] [] ∧ g8 e = .i (l.length : Nat) ∧ g9 e = .i i ∧ g10 e = .i j) ?_ (n := l.length) (by omega) ⟨0, l.length, by omega, by omega, by omega, Fr.refl hw _, fun k y hk => absurd hk (Nat.not_lt_zero k), fun k y hk hy => by have := (List.getElem?_eq_some_iff.1 hy).1; omega, (by trivial), (by trivial), (by trivial), (by trivial), (by trivial), (by trivial)⟩
  rintro q e t ⟨i, j, rfl, hij, hj, ft, hlo, hhi, i0, i1, i2, i8, i9, i10⟩
  replace i0 : e.a0.a0 = _ := i0
  replace i1 : e.a0.a1 = _ := i1
  replace i2 : e.a0.a2 = _ := i2
  replace i8 : e.a0.a8 = _ := i8
  replace i9 : e.a0.a9 = _ := i9
  replace i10 : e.a0.a10 = _ := i10
  have ht := h.fr hw ft (by simp)
  by_cases c : (i : Int) < (j : Nat)
  · have e1 : ((i : Int) + j) / 2 = (((i + j) / 2 : Nat) : Int) := by omega
    have hs := shr1 (a := (i : Int) + j) (by omega) (by omega)
    rw [e1] at hs
    have hc := cI64 (a := (((i + j) / 2 : Nat) : Int)) (by omega) (by omega)
    obtain ⟨m, hm⟩ : ∃ m, (i + j) / 2 = m := ⟨_, rfl⟩
    rw [hm] at hs hc
    have hmi : i ≤ m ∧ m < j := by omega
    obtain ⟨y, hy⟩ : ∃ y, l[m]? = some y := ⟨_, List.getElem?_eq_getElem (by omega)⟩
    obtain ⟨b, o, a1, _, _, a4⟩ := ht.at ft.wf (i := m) (x := y.cells) (by rw [List.getElem?_map, hy]; rfl)
    obtain ⟨t1, e2, f1⟩ := cmp29 ft.wf y a d
    by_cases cy : cmpI y.at_ a < 0
    · simp -implicitDefEqProofs (disch := first|go_size|fail) only [go_sem, i0, i1, i2, i8, i9, i10, c, hs, hc, a1, a4, eCallV_def, cvV_func fok29, List.nil_append, List.cons_append, List.append_nil, e2, cy]
      rw [cmpI_neg] at cy
      exact ⟨j - (m + 1), by omega, m + 1, j, rfl, by omega, hj, ft.trans f1, fun k z hk hz => by
       by_cases ek : k = m
       · subst ek; rw [hy] at hz; cases hz; exact cy
       · have := L.lt k m z y (by omega) hz hy; omega, hhi, (by trivial), (by trivial), (by trivial), (by trivial), (by trivial), (by trivial)⟩
    · simp -implicitDefEqProofs (disch := first|go_size|fail) only [go_sem, i0, i1, i2, i8, i9, i10, c, hs, hc, a1, a4, eCallV_def, cvV_func fok29, List.nil_append, List.cons_append, List.append_nil, e2, cy]
      rw [cmpI_neg] at cy
      exact ⟨m - i, by omega, i, m, rfl, by omega, by omega, ft.trans f1, hlo, fun k z hk hz => by
       by_cases ek : k = m
       · subst ek; rw [hy] at hz; cases hz; omega
       · have := L.lt m k y z (by omega) hy hz; omega, (by trivial), (by trivial), (by trivial), (by trivial), (by trivial), (by trivial)⟩
  · have hij' : i = j := by omega
    subst hij'
    by_cases cl : (i : Int) < ((l.length : Nat) : Int)
    · obtain ⟨y, hy⟩ : ∃ y, l[i]? = some y := ⟨_, List.getElem?_eq_getElem (by omega)⟩
      obtain ⟨b, o, a1, _, _, a4⟩ := ht.at ft.wf (i := i) (x := y.cells) (by rw [List.getElem?_map, hy]; rfl)
      obtain ⟨t1, e2, f1⟩ := cmp29 ft.wf y a d
      by_cases cy : cmpI y.at_ a = 0
      · simp -implicitDefEqProofs (disch := first|go_size|fail) only [go_sem, i0, i1, i2, i8, i9, i10, c, cl, a1, a4, eCallV_def, cvV_func fok29, List.nil_append, List.cons_append, List.append_nil, e2, cy, eq_self]
        rw [cmpI_zero] at cy
        exact ⟨_, _, rfl, ft.trans f1, .inl ⟨rfl, findL_some hy cy fun k z hk hz => by have := hlo k z hk hz; omega⟩⟩
      · simp -implicitDefEqProofs (disch := first|go_size|fail) only [go_sem, i0, i1, i2, i8, i9, i10, c, cl, a1, a4, eCallV_def, cvV_func fok29, List.nil_append, List.cons_append, List.append_nil, e2, cy]
        rw [cmpI_zero] at cy
        refine ⟨_, _, rfl, ft.trans f1, .inr ⟨rfl, findL_none fun k z hz => ?_⟩⟩
        rcases Nat.lt_trichotomy k i with h1 | h1 | h1
        · have := hlo k z h1 hz; omega
        · subst h1; rw [hy] at hz; cases hz; exact cy
        · have h2 := L.lt i k y z h1 hy hz
          have h3 := hhi i y (Nat.le_refl _) hy; omega
    · simp -implicitDefEqProofs (disch := first|go_size|fail) only [go_sem, i0, i1, i2, i8, i9, i10, c, cl]
      refine ⟨_, _, rfl, ft, .inr ⟨rfl, findL_none fun k z hz => ?_⟩⟩
      have := (List.getElem?_eq_some_iff.1 hz).1
      have := hlo k z (by omega) hz; omega
 obtain ⟨r, t, e1, i, ok, rfl, h2, h3⟩ := key
 exact ⟨t, i, ok, e1, h2, h3⟩
theorem find11 {s : St} (hw : Wf s) {v : V} {l : List In} (h : RN 4 s v (l.map In.cells)) (L : Ll l) (a : Int) {m : Nat} (hm : 5 ≤ m) : ∃ t, (K m).call 11 [v, .i a] s = some (.i (findL l a), t) ∧ Fr s t [] := by
 obtain ⟨d, rfl⟩ : ∃ d, m = d + 5 := ⟨m - 5, by omega⟩
 obtain ⟨t, i, ok, e1, f1, hh⟩ := search28 hw h L a d
 refine ⟨t, ?_, f1⟩
 rw [op11]
 rcases hh with ⟨rfl, h1⟩ | ⟨rfl, h1⟩
 · simp -implicitDefEqProofs (disch := first|go_size|fail) only [go_sem, e1, h1]
 · simp -implicitDefEqProofs (disch := first|go_size|fail) only [go_sem, e1, h1]
def endL (l : List In) : Int := match l.getLast? with | some x => x.at_ + sizeI x.op | none => 0
/-! ### Plain -/
structure Hd where
 from_ : Int
 to_ : Int
 at_ : Int
 ty : List Nat
def Hd.cells (x : Hd) : List V := [.i x.from_, .i x.to_, .i x.at_, .str x.ty]
theorem Hd.row (x : Hd) : Row 4 x.cells := ⟨rfl, by intro v hv; simp [Hd.cells] at hv; rcases hv with rfl | rfl | rfl | rfl <;> rfl⟩
structure Fm where
 at_ : Int
 x : V
 y : V
def Fm.cells (x : Fm) : List V := [.i x.at_, x.x, x.y]
def badH (l : List In) (h : Hd) : Prop := findL l h.from_ < 0 ∨ findL l h.at_ < 0 ∨ (findL l h.to_ < 0 ∧ h.to_ ≠ endL l) ∨ h.from_ ≥ h.to_
instance (l : List In) (h : Hd) : Decidable (badH l h) := by unfold badH; infer_instance
theorem GN.pre {s : St} {v : V} {es : Nat} {l : List (List V)} (hw : Wf s) (h : GN es s v l) {i : Nat} (hi : i < l.length) : ∃ v', slV es v none (some (.i (i : Nat))) none = some v' ∧ RN es s v' (l.take i) ∧ blkV v' = blkV v := by
 have hr := (GN.rn hw h).2
 rcases h.2 with ⟨rfl, _⟩ | ⟨b, rfl, hb⟩
 · simp at hi
 · refine ⟨_, pSl_hN (hi := ((i : Nat) : Int)) (by omega) (by omega), ?_, rfl⟩
   have hl : (l.take i).length = i := by rw [List.length_take]; omega
   have := RN.of (es := es) (l := l.take i) (o := 0) (c := none) (fun x hx => h.1 x (List.mem_of_mem_take hx)) hw hb (by rw [hl, flat_len h.1, Nat.zero_add]; exact Nat.mul_le_mul_right _ (by omega)) (fun k x hk j hj => by
    rw [Nat.zero_add]
    have hki := (List.getElem?_eq_some_iff.1 hk).1
    rw [List.getElem?_take] at hk
    split at hk
    · exact flat_at h.1 hk hj
    · cases hk)
   rw [hl] at this
   exact this
theorem srt_ex {s : St} {b : Nat} {l : List Int} (hw : Wf s) (h : s.cl b = some (l.map V.i)) (hl : l.length ≤ 100000000) (h0 : 0 < l.length) : ∃ s', srtV (.slice b 0 l.length none 1) s = some (.tup [], s') ∧ s'.cl b = some ((srtI l).map V.i) ∧ Fr s s' [b] ∧ s'.next = s.next := by
 obtain ⟨xs, p1, p2, _⟩ := cl_inv hw h
 have hp := (srtI_perm l).length_eq
 obtain ⟨q1, q2, q3⟩ := st_ok (o := 0) (vs := (srtI l).map V.i) hw h (by simp; omega)
 have hput : putL (l.map V.i) 0 ((srtI l).map V.i) = (srtI l).map V.i := by
  refine List.ext_getElem? fun i => ?_
  rw [putL_get (by simp; omega)]
  simp only [List.length_map, Nat.zero_add, Nat.zero_le, true_and, Nat.sub_zero]
  split
  · rfl
  · rw [List.getElem?_eq_none (by simp; omega), List.getElem?_eq_none (by simp; omega)]
 rw [hput] at q1
 refine ⟨_, ?_, q1, q2, q3⟩
 have e : s.st b 0 ((srtI l).map V.i) = s.put b (.cells l.length (setL xs 0 ((srtI l).map V.i))) := by unfold St.st; rw [p1, List.length_map]
 rw [e]
 rw [List.length_map] at p1 p2
 have hld : ldc xs.get l.length 0 = some (l.map V.i) := ldc_list (by simp) (fun i hi => by rw [Nat.zero_add]; exact p2 i hi)
 have hb : blkOf s b = some (l.length, xs) := by unfold blkOf; rw [p1]
 obtain ⟨n, hn⟩ : ∃ n, l.length = n + 1 := ⟨l.length - 1, by omega⟩
 show (Bool.casesOn (motive := fun _ => Option (V × St)) (and (Nat.beq 1 1) (Nat.ble l.length 100000000)) none (Nat.casesOn (motive := fun _ => Option (V × St)) l.length (some (.tup [], s)) fun _ => match blkOf s b with
  | some (n, xs) => Bool.casesOn (motive := fun _ => Option (V × St)) (Nat.ble (Nat.add 0 l.length) n) none (match ldc xs.get l.length 0 with
    | some vs => (match intsV vs with
      | some l => some (.tup [], s.put b (.cells n (setL xs 0 ((srtI l).map V.i))))
      | none => none)
    | none => none)
  | none => none)) = _
 rw [ble_true hl, hb]
 dsimp only
 rw [hld]
 dsimp only
 rw [intsV_map]
 dsimp only
 rw [show Nat.add 0 l.length = l.length from Nat.zero_add _, ble_true (Nat.le_refl _), hn]
 rfl
theorem sort26 {s : St} {v : V} {l : List Int} (hw : Wf s) (h : GL s v (l.map V.i)) (hl : l.length ≤ 100000000) {m : Nat} (hm : 1 ≤ m) : ∃ s', (K m).call 26 [v] s = some (.tup [], s') ∧ GL s' v ((srtI l).map V.i) ∧ Fr s s' (blkV v) ∧ s'.next = s.next := by
 obtain ⟨d, rfl⟩ : ∃ d, m = d + 1 := ⟨m - 1, by omega⟩
 have hp := (srtI_perm l).length_eq
 have z : ∀ s', srtV v s = some (.tup [], s') → (K (d + 1)).call 26 [v] s = some (.tup [], s') := fun s' hs => fSrt_call rfl hs
 rcases h with ⟨h0, rfl⟩ | ⟨b, rfl, hb⟩
 · have : l = [] := by simpa using h0
   subst this
   exact ⟨s, z s rfl, .inl ⟨rfl, rfl⟩, Fr.refl hw _, rfl⟩
 · rw [List.length_map] at z ⊢
   by_cases c : l.length = 0
   · have : l = [] := List.eq_nil_of_length_eq_zero c
     subst this
     exact ⟨s, z s rfl, .inr ⟨b, rfl, hb⟩, Fr.refl hw _, rfl⟩
   · obtain ⟨s', e1, e2, e3, e4⟩ := srt_ex hw hb hl (by omega)
     exact ⟨s', z s' e1, .inr ⟨b, by rw [List.length_map, hp], e2⟩, e3, e4⟩
def dd : List Int → List Int
 | [x, y] => if x = y then [x] else [x, y]
 | l => l
theorem compact27 {s : St} {v : V} {l : List Int} (hw : Wf s) (h : GL s v (l.map V.i)) (hl : l.length ≤ 2) {m : Nat} (hm : 1 ≤ m) : ∃ s' v', (K m).call 27 [v] s = some (v', s') ∧ SL s' v' ((dd l).map V.i) ∧ Fr s s' (blkV v) ∧ blkV v' = blkV v := by
 obtain ⟨d, rfl⟩ : ∃ d, m = d + 1 := ⟨m - 1, by omega⟩
 have hlen := h.len
 rw [List.length_map] at hlen
 by_cases c : ((l.length : Nat) : Int) < 2
 · refine ⟨s, v, ?_, ?_, Fr.refl hw _, rfl⟩
   · rw [op27]; simp -implicitDefEqProofs (disch := first|go_size|fail) only [go_sem, hlen, c]
   · have : dd l = l := by
      match l, c with
      | [], _ => rfl
      | [x], _ => rfl
      | x :: y :: l, c => simp at c; omega
     rw [this]; exact GL.sl hw h
 · match l, hl, c, h, hlen with
   | [x, y], _, _, h, hlen =>
     rcases h with ⟨h0, _⟩ | ⟨b, rfl, hb⟩
     · cases h0
     · replace hb : s.cl b = some [V.i x, .i y] := hb
       have r0 : ldP (.ptr b 0) s = some (.i x) := dLd_eq hw hb rfl
       have r1 : ldP (.ptr b 1) s = some (.i y) := dLd_eq hw hb rfl
       show ∃ s' v', (K (d + 1)).call 27 [.slice b 0 2 none 1] s = some (v', s') ∧ _
       have i0 : bIdx 1 (.slice b 0 2 none 1) (.i 0) = some (.ptr b 0) := rfl
       have i1 : bIdx 1 (.slice b 0 2 none 1) (.i 1) = some (.ptr b 1) := rfl
       have hs : slV 1 (.slice b 0 2 none 1) (some (.i 1)) none none = some (.slice b 1 1 none 1) := rfl
       have hs2 : slV 1 (.slice b 0 2 none 1) none (some (.i 1)) none = some (.slice b 0 1 none 1) := rfl
       have hK := Kfuel d
       have n2 : ((2 : Nat) : Int) = 2 := rfl
       have n1 : ((1 : Nat) : Int) = 1 := rfl
       obtain ⟨s', q1, q2, q3, q4⟩ := eClr_ex (z := .i 0) (o := 1) (len := 1) (c := none) (es := 1) hw hb (by simp)
       have key : Ret ((K (d + 1)).call 27 [.slice b 0 2 none 1] s) fun v' t => SL t v' ((dd [x, y]).map V.i) ∧ Fr s t [b] ∧ blkV v' = [b] := by
        simp -implicitDefEqProofs (disch := first|go_size|fail) only [op27, go_sem, uLenS_slice, n2, n1, Int.reduceLT, decide_true, decide_false, Int.reduceAdd, Int.reduceSub]
        refine loop_at (Q := fun r => Ret (retR _ (seqR (blkR 0 r) _)) _) (fun q e t => ∃ i : Nat, q = 2 - i ∧ 1 ≤ i ∧ i ≤ 2 ∧ (i = 2 → x ≠ y) ∧ t = s ∧ g0 e = .slice b 0 2 none 1 ∧ g3 e = .i (i : Nat)) ?_ (n := 1) (by omega) ⟨1, by omega, by omega, by omega, by omega, rfl, (by trivial), (by trivial)⟩
        rintro q e t ⟨i, rfl, h1, h2, hne, rfl, j0, j3⟩
        replace j0 : e.a0.a0 = _ := j0
        replace j3 : e.a0.a3 = _ := j3
        by_cases ci : i = 1
        · subst ci
          replace j3 : e.a0.a3 = .i 1 := j3
          by_cases cx : y = x
          · subst cx
            simp -implicitDefEqProofs (disch := first|go_size|fail) only [go_sem, j0, j3, i0, i1, r0, r1, uLenS_slice, n2, n1, Int.reduceLT, decide_true, decide_false, Int.reduceAdd, Int.reduceSub, eq_self, hs]
            refine loop_at (Q := fun r => rnd (seqR (blkR 1 (seqR (blkR 2 r) _)) _) _ _) (fun q e t' => q = 0 ∧ t' = t ∧ True ∧ g0 e = .slice b 0 2 none 1 ∧ g3 e = .i 1 ∧ g4 e = .slice b 1 1 none 1 ∧ g5 e = .i 1) ?_ (n := 0) (by omega) ⟨rfl, rfl, trivial, (by trivial), (by trivial), (by trivial), (by trivial)⟩
            rintro q e t' ⟨rfl, rfl, -, k0, k3, k4, k5⟩
            replace k0 : e.a0.a0 = _ := k0
            replace k3 : e.a0.a3 = _ := k3
            replace k4 : e.a0.a4 = _ := k4
            replace k5 : e.a0.a5 = _ := k5
            simp -implicitDefEqProofs (disch := first|go_size|fail) only [go_sem, k0, k3, k4, k5, uLenS_slice, n2, n1, Int.reduceLT, decide_true, decide_false, Int.reduceAdd, Int.reduceSub, hs, hs2, q1]
            refine ⟨?_, q3, rfl⟩
            have : dd [y, y] = [y] := if_pos rfl
            rw [this]
            exact SL.of q3.wf q2 (by simp [putL]) (fun i hi => by simp at hi; subst hi; simp [putL])
          · simp -implicitDefEqProofs (disch := first|go_size|fail) only [go_sem, j0, j3, i0, i1, r0, r1, uLenS_slice, n2, n1, Int.reduceLT, decide_true, decide_false, Int.reduceAdd, Int.reduceSub, cx]
            exact ⟨0, by omega, 2, rfl, by omega, by omega, fun _ h => cx h.symm, (by trivial), (by trivial), (by trivial)⟩
        · have ci2 : i = 2 := by omega
          subst ci2
          replace j3 : e.a0.a3 = .i 2 := j3
          simp -implicitDefEqProofs (disch := first|go_size|fail) only [go_sem, j0, j3, uLenS_slice, n2, n1, Int.reduceLT, decide_true, decide_false, Int.reduceAdd, Int.reduceSub]
          refine ⟨?_, Fr.refl hw _, rfl⟩
          have : dd [x, y] = [x, y] := if_neg (hne rfl)
          rw [this]
          exact SL.of hw hb (by simp) (fun i hi => by rw [Nat.zero_add]; rfl)
       obtain ⟨x', t, e1, e2, e3, e4⟩ := key
       exact ⟨t, x', e1, e2, e3, e4⟩
   | [], _, c, _, _ => exact absurd (by simp) c
   | [x], _, c, _, _ => exact absurd (by simp) c
def nxA (l : List In) (n : Int) (x : In) : List Int := if endsI x.op = false ∧ n + 1 < (l.length : Nat) then [n + 1] else []
def put2 (o : List Int) (k : Int) : List Int := match o with
 | [m] => if m < k then [m, k] else if k < m then [k, m] else [m]
 | _ => [k]
def nxB (l : List In) (o : List Int) (x : In) : List Int := if brI x.op = true ∧ 0 ≤ findL l x.a then put2 o (findL l x.a) else o
def nextL (l : List In) (n : Int) : List Int := if n < 0 ∨ (l.length : Nat) ≤ n then [] else match l[n.toNat]? with
 | none => []
 | some x => nxB l (nxA l n x) x
theorem nextL_out {l : List In} {n : Int} (h : n < 0 ∨ (l.length : Nat) ≤ n) : nextL l n = [] := if_pos h
theorem nextL_in {l : List In} {n : Nat} {x : In} (h : l[n]? = some x) : nextL l (n : Nat) = nxB l (nxA l (n : Nat) x) x := by
 have := (List.getElem?_eq_some_iff.1 h).1
 unfold nextL
 rw [if_neg (by omega), show ((n : Nat) : Int).toNat = n by omega, h]
theorem nxA_le (l : List In) (n : Int) (x : In) : nxA l n x = [] ∨ nxA l n x = [n + 1] := by unfold nxA; split <;> simp
theorem dd_two (m k : Int) : dd (srtI [m, k]) = put2 [m] k := by
 have e : srtI [m, k] = if k < m then [k, m] else [m, k] := by
  show insI m [k] = _
  unfold insI
  rw [ltI_eq k m]
  by_cases c : k < m
  · rw [decide_eq_true c, if_pos c]; rfl
  · rw [decide_eq_false c, if_neg c]
 rw [e]
 have p : put2 [m] k = if m < k then [m, k] else if k < m then [k, m] else [m] := rfl
 rw [p]
 by_cases c : k < m
 · rw [if_pos c, if_neg (by omega), if_pos c]
   exact if_neg (by omega)
 · rw [if_neg c]
   by_cases e : m = k
   · subst e; rw [if_neg (by omega), if_neg (by omega)]; exact if_pos rfl
   · rw [if_pos (by omega)]; exact if_neg e
theorem nextL_len (l : List In) (k : Int) : (nextL l k).length ≤ 2 := by
 unfold nextL; split
 · simp
 · split
   · simp
   · rename_i x _
     have hA := nxA_le l k x
     unfold nxB
     split
     · rcases hA with h | h <;> rw [h]
       · simp [put2]
       · unfold put2; simp only; split
         · simp
         · split <;> simp
     · rcases hA with h | h <;> rw [h] <;> simp
set_option maxHeartbeats 4000000 in
theorem next10f {s : St} (hw : Wf s) {v : V} {l : List In} (h : RN 4 s v (l.map In.cells)) (L : Ll l) (n : Int) {m : Nat} (hm : 7 ≤ m) : ∃ t ov, (K m).call 10 [v, .i n] s = some (ov, t) ∧ SL t ov ((nextL l n).map V.i) ∧ Fr s t [] ∧ ∀ b ∈ blkV ov, s.next ≤ b ∧ b < t.next := by
 obtain ⟨d, rfl⟩ : ∃ d, m = d + 1 := ⟨m - 1, by omega⟩
 have hl := L.len
 have ln := h.len
 rw [List.length_map] at ln
 let Q : V → St → Prop := fun ov t => SL t ov ((nextL l n).map V.i) ∧ Fr s t [] ∧ ∀ b ∈ blkV ov, s.next ≤ b ∧ b < t.next
 suffices key : Ret ((K (d + 1)).call 10 [v, .i n] s) Q by
  obtain ⟨x, t, e, h1⟩ := key
  exact ⟨t, x, e, h1⟩
 by_cases c0 : n < 0
 · simp -implicitDefEqProofs (disch := first|go_size|fail) only [op10, go_sem, ln, c0]
   exact ⟨by rw [nextL_out (.inl c0)]; exact .inl ⟨rfl, .inl rfl⟩, Fr.refl hw _, by simp [blkV]⟩
 by_cases c1 : n ≥ ((l.length : Nat) : Int)
 · simp -implicitDefEqProofs (disch := first|go_size|fail) only [op10, go_sem, ln, c0, c1]
   exact ⟨by rw [nextL_out (.inr c1)]; exact .inl ⟨rfl, .inl rfl⟩, Fr.refl hw _, by simp [blkV]⟩
 obtain ⟨i, rfl⟩ : ∃ i : Nat, n = i := ⟨n.toNat, by omega⟩
 obtain ⟨x, hx⟩ : ∃ x, l[i]? = some x := ⟨_, List.getElem?_eq_getElem (by omega)⟩
 obtain ⟨q1, q2, q3, q4⟩ := L.op _ x hx
 have hN := nextL_in hx
 have rest25 : ∀ (e : E) (t : St) (ov : V) (o : List Int), Fr s t [] → GL t ov (o.map V.i) → (∀ b ∈ blkV ov, s.next ≤ b) → o.length ≤ 2 → dd (srtI o) = nextL l (i : Nat) → e.a0.a5 = ov → Ret (retR (resV [rT g4]) (p10_25 (K d) e t)) Q := by
  intro e t ov o ft hg hb ho hr i5
  obtain ⟨t1, e1, g1', f1, n1⟩ := sort26 ft.wf hg (by omega) (m := d) (by omega)
  have hp := (srtI_perm o).length_eq
  obtain ⟨t2, ov2, e2, g2', f2, b2⟩ := compact27 f1.wf g1' (by omega) (m := d) (by omega)
  simp -implicitDefEqProofs (disch := first|go_size|fail) only [go_sem, p10_25.eq_1, i5, e1, e2]
  refine ⟨by rw [← hr]; exact g2', (ft.trans' f1 (fun b hb' => .inr (hb b hb'))).trans' f2 (fun b hb' => .inr (hb b hb')), fun b hb' => ?_⟩
  rw [b2] at hb'
  have q0 := hb b hb'
  have q1 : b < t.next := by
   rcases hg with ⟨_, rfl⟩ | ⟨b', rfl, hc⟩
   · simp [blkV] at hb'
   · simp [blkV] at hb'; subst hb'; exact cl_lt ft.wf hc
  have q2 := f2.nx
  omega
 have rest15 : ∀ (e : E) (t : St) (ov : V), Fr s t [] → GL t ov ((nxA l (i : Nat) x).map V.i) → (∀ b ∈ blkV ov, s.next ≤ b) → e.a0.a0 = v → e.a0.a1 = .i (i : Nat) → e.a0.a5 = ov → Ret (retR (resV [rT g4]) (p10_15 (K d) e t)) Q := by
  intro e t ov ft hg hb i0 i1 i5
  have hA := nxA_le l (i : Nat) x
  obtain ⟨b, o, a1, _, a3, _⟩ := (h.fr hw ft (by simp)).at ft.wf (i := i) (x := x.cells) (by rw [List.getElem?_map, hx]; rfl)
  have r1 := a3 1 _ rfl
  have r2 := a3 2 _ rfl
  have e1 := cc21 (n := x.op) q1 q2 t (m := d) (by omega)
  obtain ⟨t1, e2, f1⟩ := find11 ft.wf (h.fr hw ft (by simp)) L x.a (m := d) (by omega)
  have hA1 : dd (srtI (nxA l (i : Nat) x)) = nxA l (i : Nat) x := by rcases hA with h | h <;> rw [h] <;> rfl
  cases hbr : brI x.op with
  | false =>
    rw [hbr] at e1
    simp -implicitDefEqProofs (disch := first|go_size|fail) only [go_sem, p10_15.eq_1, i0, i1, i5, a1, r1, r2, e1]
    exact rest25 _ t ov (nxA l (i : Nat) x) ft hg hb (by rcases hA with h | h <;> rw [h] <;> simp) (by rw [hN, hA1]; unfold nxB; rw [hbr]; simp) (by trivial)
  | true =>
    rw [hbr] at e1
    by_cases ck : findL l x.a ≥ 0
    · have hg1 := hg.fr ft.wf f1 (by simp)
      obtain ⟨y1, y2, z1, z2, z3, z4, z5⟩ := hg1.push f1.wf (x := .i (findL l x.a)) rfl (by intro y hy; obtain ⟨w, _, rfl⟩ := List.mem_map.1 hy; rfl) (by rw [List.length_map]; rcases hA with h | h <;> rw [h] <;> simp)
      have hlz : (List.map V.i (nxA l (i : Nat) x) ++ [V.i (findL l x.a)]) = (nxA l (i : Nat) x ++ [findL l x.a]).map V.i := by simp
      rw [hlz] at z3
      have hf1 := f1.nx
      have hft := ft.nx
      simp -implicitDefEqProofs (disch := first|go_size|fail) only [go_sem, p10_15.eq_1, i0, i1, i5, a1, r1, r2, e1, e2, ck, z1, z2]
      refine rest25 _ y2 _ (nxA l (i : Nat) x ++ [findL l x.a]) ((ft.trans f1).trans' z4 (fun b hb' => .inr (hb b hb'))) z3 (fun b hb' => by simp [blkV] at hb'; omega) (by rcases hA with h | h <;> rw [h] <;> simp) ?_ (by trivial)
      rw [hN]; unfold nxB; rw [if_pos ⟨hbr, ck⟩]
      rcases hA with h | h <;> rw [h]
      · rfl
      · exact dd_two _ _
    · simp -implicitDefEqProofs (disch := first|go_size|fail) only [go_sem, p10_15.eq_1, i0, i1, i5, a1, r1, r2, e1, e2, ck]
      exact rest25 _ t1 ov (nxA l (i : Nat) x) (ft.trans f1) (hg.fr ft.wf f1 (by simp)) hb (by rcases hA with h | h <;> rw [h] <;> simp) (by rw [hN, hA1]; unfold nxB; rw [if_neg (fun hh => ck hh.2)]) (by trivial)
 obtain ⟨b, o, a1, _, a3, _⟩ := h.at hw (i := i) (x := x.cells) (by rw [List.getElem?_map, hx]; rfl)
 have r1 := a3 1 _ rfl
 have e1 := cc22 (n := x.op) q1 q2 s (m := d) (by omega)
 cases he : endsI x.op with
 | true =>
   rw [he] at e1
   simp -implicitDefEqProofs (disch := first|go_size|fail) only [op10, go_sem, ln, c0, c1, a1, r1, e1]
   exact rest15 _ s .nils (Fr.refl hw _) (by unfold nxA; rw [he]; simp; exact .inl ⟨rfl, rfl⟩) (by simp [blkV]) (by trivial) (by trivial) (by trivial)
 | false =>
   rw [he] at e1
   by_cases c2 : (i : Int) + 1 < ((l.length : Nat) : Int)
   · obtain ⟨y1, y2, z1, z2, z3, z4, z5⟩ := GL.push (s := s) (v := .nils) (l := []) hw (.inl ⟨rfl, rfl⟩) (x := .i ((i : Int) + 1)) rfl (by simp) (by simp)
     simp -implicitDefEqProofs (disch := first|go_size|fail) only [op10, go_sem, ln, c0, c1, a1, r1, e1, c2, z1, z2]
     exact rest15 _ y2 _ (z4.mono (by simp [blkV])) (by unfold nxA; rw [if_pos ⟨he, c2⟩]; exact z3) (fun b hb' => by simp [blkV] at hb'; omega) (by trivial) (by trivial) (by trivial)
   · simp -implicitDefEqProofs (disch := first|go_size|fail) only [op10, go_sem, ln, c0, c1, a1, r1, e1, c2]
     exact rest15 _ s .nils (Fr.refl hw _) (by unfold nxA; rw [if_neg (fun hh => c2 hh.2)]; exact .inl ⟨rfl, rfl⟩) (by simp [blkV]) (by trivial) (by trivial) (by trivial)
theorem next10 {s : St} (hw : Wf s) {v : V} {l : List In} (h : RN 4 s v (l.map In.cells)) (L : Ll l) (n : Int) {m : Nat} (hm : 7 ≤ m) : ∃ t ov, (K m).call 10 [v, .i n] s = some (ov, t) ∧ SL t ov ((nextL l n).map V.i) ∧ Fr s t [] := by
 obtain ⟨t, ov, a, b, c, _⟩ := next10f hw h L n hm
 exact ⟨t, ov, a, b, c⟩
def GP (s : St) (v : V) (l : List V) : Prop := (l = [] ∧ v = .nils) ∨ ∃ b L, v = .slice b 0 l.length none 1 ∧ s.cl b = some L ∧ l <+: L
section
variable {s : St} {v x : V} {l : List V}
theorem GL.gp (h : GL s v l) : GP s v l := by
 rcases h with h | ⟨b, rfl, h2⟩
 · exact .inl h
 · exact .inr ⟨b, l, rfl, h2, List.prefix_refl _⟩
theorem GP.fr {s' : St} {L : List Nat} (h : GP s v l) (hw : Wf s) (f : Fr s s' L) (hd : ∀ b, b ∈ blkV v → b ∉ L) : GP s' v l := by
 rcases h with h | ⟨b, L', rfl, h2, h3⟩
 · exact .inl h
 · exact .inr ⟨b, L', rfl, f.cl hw h2 (hd b (by simp [blkV])), h3⟩
theorem GP.len (h : GP s v l) : uLenS v = some (.i (l.length : Nat)) := by
 rcases h with ⟨rfl, rfl⟩ | ⟨b, L, rfl, _⟩ <;> rfl
theorem GP.sl (hw : Wf s) (h : GP s v l) : SL s v l := by
 rcases h with h | ⟨b, L, rfl, h2, t, rfl⟩
 · exact .inl ⟨h.1, .inl h.2⟩
 · exact SL.of hw h2 (by simp) (fun i hi => by rw [Nat.zero_add, List.getElem?_append_left hi])
theorem GP.push (hw : Wf s) (h : GP s v l) (h1 : x.one = true) (ho : ∀ y ∈ l, y.one = true) (hl : l.length ≤ 17596481011712) :
 ∃ s1 s2, s.new (.cells 1 (ofL [x])) = s1 ∧ (apP 1 v (.slice s.next 0 1 (some 1) 1) s1 = some (.slice (s.next + 1) 0 (l.length + 1) none 1, s2)) ∧
   GL s2 (.slice (s.next + 1) 0 (l.length + 1) none 1) (l ++ [x]) ∧ Fr s s2 (blkV v) ∧ s2.next = s.next + 2 := by
 obtain ⟨s1, e1, c1, f1, n1⟩ := new_ex (s := s) (l := [x]) (n := 1) hw rfl
 have hy : Src s1 1 (.slice s.next 0 1 (some 1) 1) 1 [x] := Src.full f1.wf c1 rfl (by simpa using h1) (by omega)
 rcases h with ⟨rfl, rfl⟩ | ⟨b, L, rfl, h2, t, rfl⟩
 · obtain ⟨s2, e2, c2, f2, n2⟩ := eAp_nil f1.wf hy (by omega)
   rw [n1] at e2 c2
   exact ⟨s1, s2, e1, e2, .inr ⟨_, rfl, c2⟩, f1.trans f2, by omega⟩
 · have hb := cl_lt hw h2
   obtain ⟨s2, e2, c2, f2, n2⟩ := eAp_move (s := s1) (es := 1) (len := l.length) (o := 0) (b := b) f1.wf hy (by omega) hl (f1.cl hw h2 (by simp)) (by simp)
   rw [n1] at e2 c2
   refine ⟨s1, s2, e1, e2, .inr ⟨s.next + 1, by simp, ?_⟩, (f1.mono (by simp)).trans f2, by omega⟩
   rw [c2]; simp
theorem GP.pop (h : GP s v (l ++ [x])) : ∃ v', slV 1 v none (some (.i (((l.length + 1 : Nat) : Int) - 1))) none = some v' ∧ GP s v' l ∧ blkV v' = blkV v := by
 rcases h with ⟨h, _⟩ | ⟨b, L, rfl, h2, t, rfl⟩
 · simp at h
 · refine ⟨.slice b 0 l.length none 1, ?_, .inr ⟨b, _, rfl, h2, ?_⟩, rfl⟩
   · rw [pSl_hN (by omega) (by simp; omega)]
     congr 2; omega
   · exact ⟨[x] ++ t, by simp⟩
end
def Mk (out : List Bool) (n : Int) : Prop := 0 ≤ n → n < (out.length : Nat) → out[n.toNat]? = some true
def mO (out : List Bool) (n : Int) : List Bool := if 0 ≤ n ∧ out[n.toNat]? = some false then out.set n.toNat true else out
def mT (out : List Bool) (todo : List Int) (n : Int) : List Int := if 0 ≤ n ∧ out[n.toNat]? = some false then todo ++ [n] else todo
section
variable {out : List Bool} {todo : List Int} {n : Int}
theorem mO_len : (mO out n).length = out.length := by unfold mO; split <;> simp
theorem mO_mono {j : Nat} (h : out[j]? = some true) : (mO out n)[j]? = some true := by
 unfold mO; split
 · rw [List.getElem?_set]; split
   · rw [if_pos (by have := (List.getElem?_eq_some_iff.1 h).1; omega)]
   · exact h
 · exact h
theorem Mk.mono {k : Int} (h : Mk out k) : Mk (mO out n) k := fun h0 h1 => mO_mono (h h0 (by rwa [mO_len] at h1))
theorem mO_mk : Mk (mO out n) n := by
 intro h0 h1
 rw [mO_len] at h1
 unfold mO
 split
 · rw [List.getElem?_set, if_pos rfl, if_pos (by omega)]
 · rename_i hn
   have hl : n.toNat < out.length := by omega
   rw [List.getElem?_eq_getElem hl] at hn ⊢
   cases hb : out[n.toNat] with
   | false => exact absurd ⟨h0, by rw [hb]⟩ hn
   | true => rfl
theorem mO_inv {j : Nat} (todo : List Int) (h : (mO out n)[j]? = some true) : out[j]? = some true ∨ ((j : Int) = n ∧ (j : Int) ∈ mT out todo n) := by
 unfold mO at h; unfold mT
 split at h
 · rename_i hc
   rw [List.getElem?_set] at h
   split at h
   · rename_i e
     have : (j : Int) = n := by omega
     exact .inr ⟨this, by rw [if_pos hc, this]; simp⟩
   · exact .inl h
 · exact .inl h
theorem mT_sub {x : Int} (h : x ∈ todo) : x ∈ mT out todo n := by unfold mT; split <;> simp [h]
theorem mT_inv {x : Int} (h : x ∈ mT out todo n) : x ∈ todo ∨ (x = n ∧ 0 ≤ n ∧ n < (out.length : Nat)) := by
 unfold mT at h; split at h
 · rename_i hc
   have := (List.getElem?_eq_some_iff.1 hc.2).1
   rcases List.mem_append.1 h with h | h
   · exact .inl h
   · simp at h; exact .inr ⟨h, hc.1, by omega⟩
 · exact .inl h
theorem cnt_set : ∀ (l : List Bool) (i : Nat), l[i]? = some false → (l.set i true).count false + 1 = l.count false
 | [], i, h => by simp at h
 | b :: l, 0, h => by simp at h; subst h; simp
 | b :: l, i + 1, h => by
   have := cnt_set l i (by simpa using h)
   simp only [List.set_cons_succ, List.count_cons]; omega
theorem m_cnt : (mO out n).count false + (mT out todo n).length = out.count false + todo.length := by
 unfold mO mT; split
 · rename_i hc
   have := cnt_set _ _ hc.2
   simp; omega
 · rfl
end
inductive Rch (l : List In) (hs : List Hd) : Nat → Prop
 | zero : 0 < l.length → Rch l hs 0
 | nx {i k : Nat} : Rch l hs i → (k : Int) ∈ nextL l (i : Nat) → k < l.length → Rch l hs k
 | hd {i k : Nat} {x : In} {y : Hd} : Rch l hs i → l[i]? = some x → y ∈ hs → y.from_ ≤ x.at_ → x.at_ < y.to_ → findL l y.at_ = (k : Int) → Rch l hs k
def Cl (l : List In) (hs : List Hd) (out : List Bool) (i : Nat) : Prop := (∀ k ∈ nextL l (i : Nat), Mk out k) ∧ ∀ x, l[i]? = some x → ∀ y ∈ hs, y.from_ ≤ x.at_ → x.at_ < y.to_ → Mk out (findL l y.at_)
theorem Cl.mono {l : List In} {hs : List Hd} {out : List Bool} {i : Nat} {n : Int} (h : Cl l hs out i) : Cl l hs (mO out n) i := ⟨fun k hk => (h.1 k hk).mono, fun x hx y hy a b => (h.2 x hx y hy a b).mono⟩
structure RJ (l : List In) (hs : List Hd) (i : Int) (out : List Bool) (todo : List Int) : Prop where
 len : out.length = l.length
 td : ∀ n ∈ todo, ∃ k : Nat, n = k ∧ out[k]? = some true
 so : ∀ k : Nat, out[k]? = some true → Rch l hs k
 cl : ∀ k : Nat, out[k]? = some true → (k : Int) ∈ todo ∨ (k : Int) = i ∨ Cl l hs out k
theorem RJ.meet {l : List In} {hs : List Hd} {i : Int} {out : List Bool} {todo : List Int} (h : RJ l hs i out todo) {n : Int} (hn : ∀ k : Nat, (k : Int) = n → k < l.length → Rch l hs k) : RJ l hs i (mO out n) (mT out todo n) where
 len := by rw [mO_len]; exact h.len
 td := fun x hx => by
  rcases mT_inv hx with hx | ⟨rfl, h0, h1⟩
  · obtain ⟨k, e, hk⟩ := h.td x hx; exact ⟨k, e, mO_mono hk⟩
  · exact ⟨x.toNat, by omega, mO_mk h0 (by rwa [mO_len])⟩
 so := fun k hk => by
  have hlt := (List.getElem?_eq_some_iff.1 hk).1
  rw [mO_len, h.len] at hlt
  rcases mO_inv todo hk with hk | ⟨e, _⟩
  · exact h.so k hk
  · exact hn k e hlt
 cl := fun k hk => by
  rcases mO_inv todo hk with hk | ⟨_, e⟩
  · rcases h.cl k hk with h1 | h1 | h1
    · exact .inl (mT_sub h1)
    · exact .inr (.inl h1)
    · exact .inr (.inr h1.mono)
  · exact .inl e
theorem RJ.pop {l : List In} {hs : List Hd} {out : List Bool} {todo : List Int} {n : Int} (h : RJ l hs (-1) out (todo ++ [n])) : ∃ i : Nat, n = i ∧ i < l.length ∧ Rch l hs i ∧ RJ l hs (i : Nat) out todo := by
 obtain ⟨i, e, hi⟩ := h.td n (by simp)
 have hlt := (List.getElem?_eq_some_iff.1 hi).1
 rw [h.len] at hlt
 refine ⟨i, e, hlt, h.so i hi, h.len, fun x hx => h.td x (by simp [hx]), h.so, fun k hk => ?_⟩
 rcases h.cl k hk with h1 | h1 | h1
 · rcases List.mem_append.1 h1 with h1 | h1
   · exact .inl h1
   · simp at h1; exact .inr (.inl (by omega))
 · omega
 · exact .inr (.inr h1)
theorem RJ.close {l : List In} {hs : List Hd} {out : List Bool} {todo : List Int} {i : Nat} (h : RJ l hs (i : Nat) out todo) (hc : Cl l hs out i) : RJ l hs (-1) out todo := by
 refine ⟨h.len, h.td, h.so, fun k hk => ?_⟩
 rcases h.cl k hk with h1 | h1 | h1
 · exact .inl h1
 · have : k = i := by omega
   subst this; exact .inr (.inr hc)
 · exact .inr (.inr h1)
theorem nextL_lt {l : List In} {n k : Int} (h : k ∈ nextL l n) : 0 ≤ k ∧ k < (l.length : Nat) := by
 unfold nextL at h
 split at h
 · simp at h
 · rename_i hn
   split at h
   · simp at h
   · rename_i x hx
     have hA : ∀ z ∈ nxA l n x, 0 ≤ z ∧ z < (l.length : Nat) := fun z hz => by
      unfold nxA at hz; split at hz
      · rename_i hc; simp at hz; omega
      · simp at hz
     unfold nxB at h; split at h
     · rename_i hc
       have hf := findL_lt (l := l) x.a
       have hP : ∀ z ∈ put2 (nxA l n x) (findL l x.a), z ∈ nxA l n x ∨ z = findL l x.a := fun z hz => by
        rcases nxA_le l n x with e | e <;> rw [e] at hz ⊢
        · simp [put2] at hz; exact .inr hz
        · unfold put2 at hz; simp only at hz
          split at hz
          · simp at hz; simp; exact hz
          · split at hz
            · simp at hz; simp; omega
            · simp at hz; simp; exact .inl hz
       rcases hP k h with h | h
       · exact hA k h
       · omega
     · exact hA k h
structure RS (s0 s : St) (lv : V) (bl bo bt ob N : Nat) (W : List Nat) (out : List Bool) (todo : List Int) : Prop where
 f : Fr s0 s []
 hl : s.cl bl = some [lv]
 ho : s.cl bo = some [.slice ob 0 N (some N) 1]
 hb : s.cl ob = some (out.map V.bool)
 ht : ∃ tv, s.cl bt = some [tv] ∧ GP s tv (todo.map V.i) ∧ ∀ b ∈ blkV tv, s0.next ≤ b ∧ b ≠ bl ∧ b ≠ bo ∧ b ≠ bt ∧ b ≠ ob ∧ b ∉ W
 w : ∀ b ∈ W, b < s.next ∧ b ≠ bt ∧ b ≠ ob
 nx : s0.next ≤ bl ∧ s0.next ≤ bo ∧ s0.next ≤ bt ∧ s0.next ≤ ob
 ne : bl ≠ bo ∧ bl ≠ bt ∧ bl ≠ ob ∧ bo ≠ bt ∧ bo ≠ ob ∧ bt ≠ ob
 n : out.length = N
theorem RS.fr {s0 s s' : St} {lv : V} {bl bo bt ob N : Nat} {W : List Nat} {out : List Bool} {todo : List Int} (h : RS s0 s lv bl bo bt ob N W out todo) (f : Fr s s' []) : RS s0 s' lv bl bo bt ob N W out todo := by
 obtain ⟨tv, h1, h2, h3⟩ := h.ht
 exact ⟨h.f.trans f, f.cl h.f.wf h.hl (by simp), f.cl h.f.wf h.ho (by simp), f.cl h.f.wf h.hb (by simp), ⟨tv, f.cl h.f.wf h1 (by simp), h2.fr h.f.wf f (by simp), h3⟩, fun b hb => ⟨Nat.lt_of_lt_of_le (h.w b hb).1 f.nx, (h.w b hb).2⟩, h.nx, h.ne, h.n⟩
theorem RS.setW {s0 s : St} {lv : V} {bl bo bt ob N : Nat} {W W' : List Nat} {out : List Bool} {todo : List Int} (h : RS s0 s lv bl bo bt ob N W out todo) (hw : ∀ b ∈ W', b < s.next ∧ b ≠ bt ∧ b ≠ ob) (ht : ∀ tv, s.cl bt = some [tv] → ∀ b ∈ blkV tv, b ∉ W') : RS s0 s lv bl bo bt ob N W' out todo := by
 obtain ⟨tv, h1, h2, h3⟩ := h.ht
 exact ⟨h.f, h.hl, h.ho, h.hb, ⟨tv, h1, h2, fun b hb => ⟨(h3 b hb).1, (h3 b hb).2.1, (h3 b hb).2.2.1, (h3 b hb).2.2.2.1, (h3 b hb).2.2.2.2.1, ht tv h1 b hb⟩⟩, hw, h.nx, h.ne, h.n⟩
theorem GP.lt {s : St} {v : V} {l : List V} (hw : Wf s) (h : GP s v l) : ∀ b ∈ blkV v, b < s.next := fun b hb => by
 rcases h with ⟨_, rfl⟩ | ⟨b', L, rfl, h2, _⟩
 · simp [blkV] at hb
 · simp [blkV] at hb; subst hb; exact cl_lt hw h2
theorem GP.one {s : St} {v : V} {l : List V} (h : GP s v l) : v.one = true := by rcases h with ⟨_, rfl⟩ | ⟨b', L, rfl, h2, _⟩ <;> rfl
set_option maxHeartbeats 4000000 in
theorem RS.meet {s0 s : St} {lv : V} {bl bo bt ob N : Nat} {W : List Nat} {out : List Bool} {todo : List Int} (H : RS s0 s lv bl bo bt ob N W out todo) (hlv : uLenS lv = some (.i (N : Nat))) (n : Int) (hl : todo.length ≤ 1000000) (d : Nat) :
 ∃ t F, (K (d + 1)).call 40 [.i n, .ptr bl 0, .ptr bo 0, .ptr bt 0] s = some (.tup [], t) ∧ RS s0 t lv bl bo bt ob N W (mO out n) (mT out todo n) ∧ Fr s t F ∧ ∀ b ∈ W, b ∉ F := by
 obtain ⟨tv, h1, h2, h3⟩ := H.ht
 obtain ⟨e1, e2, e3, e4, e5, e6⟩ := H.ne
 have hw := H.f.wf
 have hN := H.n
 have ll := dLd_at (o := 0) hw H.hl (by simp)
 have lo := dLd_at (o := 0) hw H.ho (by simp)
 have lt := dLd_at (o := 0) hw h1 (by simp)
 simp only [List.getElem?_cons_zero] at ll lo lt
 rw [op40]
 by_cases c0 : n ≥ 0
 · by_cases c1 : n < ((N : Nat) : Int)
   · obtain ⟨i, rfl⟩ : ∃ i : Nat, n = i := ⟨n.toNat, by omega⟩
     have hi : i < out.length := by omega
     have hx : out[i]? = some out[i] := List.getElem?_eq_getElem hi
     have hm : (out.map V.bool)[i]? = some (.bool out[i]) := by rw [List.getElem?_map, hx]; rfl
     have ld := dLd_eq hw H.hb hm
     have bi : bIdx 1 (.slice ob 0 N (some N) 1) (.i (i : Nat)) = some (.ptr ob i) := by rw [bIdx1_eq (by omega) (by omega), Nat.zero_add, Int.toNat_natCast]
     cases hv : out[i] with
     | true =>
       rw [hv] at ld hx
       refine ⟨s, [], ?_, ?_, Fr.refl hw _, by simp⟩
       · simp -implicitDefEqProofs (disch := first|go_size|fail) only [go_sem, ll, lo, hlv, c0, c1, bi, ld]
       · unfold mO mT
         rw [if_neg (by rw [Int.toNat_natCast, hx]; simp), if_neg (by rw [Int.toNat_natCast, hx]; simp)]
         exact H
     | false =>
       rw [hv] at ld hx
       obtain ⟨s1, p1, c1', f1, n1⟩ := eSt_ex (s := s) (b := ob) (o := i) (v := .bool true) hw H.hb (by simpa using hi) rfl
       have ht1 := f1.cl hw h1 (by simp; exact e6)
       have lt1 := dLd_at (o := 0) f1.wf ht1 (by simp)
       simp only [List.getElem?_cons_zero] at lt1
       have g1' := h2.fr hw f1 (fun b hb => by simp; exact (h3 b hb).2.2.2.2.1)
       obtain ⟨s2, s3, q1, q2, g2', f2, n2⟩ := g1'.push f1.wf (x := .i (i : Nat)) rfl (by intro y hy; obtain ⟨w, _, rfl⟩ := List.mem_map.1 hy; rfl) (by rw [List.length_map]; omega)
       have hb1 := f1.cl hw H.hl (by simp; exact e3)
       have hb2 := f1.cl hw H.ho (by simp; exact e5)
       have hb3 := f2.cl f1.wf ht1 (fun hh => (h3 _ hh).2.2.2.1 rfl)
       obtain ⟨s4, p4, c4, f4, n4⟩ := eSt_ex (s := s3) (b := bt) (o := 0) (v := .slice (s1.next + 1) 0 ((todo.map V.i).length + 1) none 1) f2.wf hb3 (by simp) rfl
       have hbt := cl_lt hw h1
       have hbl := cl_lt hw H.hl
       have hbo := cl_lt hw H.ho
       have hbb := cl_lt hw H.hb
       have hf0 := H.f.nx
       refine ⟨s4, ob :: bt :: blkV tv, ?_, ?_, ((f1.mono (by simp)).trans (f2.mono (fun j hj => .inl (by simp [hj])))).trans (f4.mono (by simp)), fun b hb hf => ?_⟩
       · simp -implicitDefEqProofs (disch := first|go_size|fail) only [go_sem, ll, lo, hlv, c0, c1, bi, ld, p1, lt1, q1, q2, p4, List.length_map]
         first | done | (rw [List.length_map] at q2 p4; simp -implicitDefEqProofs (disch := first|go_size|fail) only [go_sem, ll, lo, hlv, c0, c1, bi, ld, p1, lt1, q1, q2, p4])
       · have hcond : 0 ≤ ((i : Nat) : Int) ∧ out[((i : Nat) : Int).toNat]? = some false := ⟨by omega, by rw [Int.toNat_natCast, hx]⟩
         unfold mO mT
         rw [if_pos hcond, if_pos hcond, Int.toNat_natCast]
         have F2 := (H.f.trans' f1 (fun b hb => .inr (by simp at hb; subst hb; exact H.nx.2.2.2))).trans' f2 (fun b hb => .inr (h3 b hb).1)
         refine ⟨F2.trans' f4 (fun b hb => .inr (by simp at hb; subst hb; exact H.nx.2.2.1)), ?_, ?_, ?_, ⟨_, c4, ?_, ?_⟩, fun b hb => ?_, H.nx, H.ne, by rw [List.length_set]; exact hN⟩
         · exact f4.cl f2.wf (f2.cl f1.wf hb1 (fun hh => (h3 _ hh).2.1 rfl)) (by simp; exact e2)
         · exact f4.cl f2.wf (f2.cl f1.wf hb2 (fun hh => (h3 _ hh).2.2.1 rfl)) (by simp; exact e4)
         · rw [List.map_set]
           exact f4.cl f2.wf (f2.cl f1.wf c1' (fun hh => (h3 _ hh).2.2.2.2.1 rfl)) (by simp; exact fun h => e6 h.symm)
         · rw [List.map_append]
           exact (g2'.fr f2.wf f4 (fun b hb => by simp [blkV] at hb; subst hb; simp; omega)).gp
         · intro b hb
           simp [blkV] at hb; subst hb
           exact ⟨by omega, by omega, by omega, by omega, by omega, fun hh => by have := (H.w _ hh).1; omega⟩
         · have := H.w b hb
           exact ⟨by omega, this.2⟩
       · have hwb := H.w b hb
         simp only [List.mem_cons] at hf
         rcases hf with hf | hf | hf
         · exact hwb.2.2 hf
         · exact hwb.2.1 hf
         · exact (h3 b hf).2.2.2.2.2 hb
   · refine ⟨s, [], ?_, ?_, Fr.refl hw _, by simp⟩
     · simp -implicitDefEqProofs (disch := first|go_size|fail) only [go_sem, ll, lo, hlv, c0, c1]
     · have hx : out[n.toNat]? = none := List.getElem?_eq_none (by omega)
       unfold mO mT
       rw [if_neg (by rw [hx]; simp), if_neg (by rw [hx]; simp)]
       exact H
 · refine ⟨s, [], ?_, ?_, Fr.refl hw _, by simp⟩
   · simp -implicitDefEqProofs (disch := first|go_size|fail) only [go_sem, ll, lo, hlv, c0]
   · unfold mO mT
     rw [if_neg (by omega), if_neg (by omega)]
     exact H
theorem fok40 : fok.get 40 = some true := (rfl)
theorem RN.one1 {es : Nat} {s : St} {v : V} {l : List (List V)} (h : RN es s v l) : v.one = true := by rcases h.2 with ⟨_, rfl | ⟨b, o, c, rfl⟩⟩ | ⟨b, o, c, n, f, rfl, _⟩ <;> rfl
set_option maxHeartbeats 16000000 in
theorem reach20 {s : St} (hw : Wf s) {v hv : V} {l : List In} {hs : List Hd} (h : RN 4 s v (l.map In.cells)) (L : Ll l) (hh : RN 4 s hv (hs.map Hd.cells)) (hhl : hs.length ≤ 100000) {m : Nat} (hm : 9 ≤ m) :
 ∃ t rv out, (K m).call 20 [v, hv] s = some (rv, t) ∧ Fr s t [] ∧ SL t rv (out.map V.bool) ∧ RJ l hs (-1) out [] ∧ Mk out 0 := by
 obtain ⟨d, rfl⟩ : ∃ d, m = d + 2 := ⟨m - 2, by omega⟩
 have hl := L.len
 have ln := h.len
 rw [List.length_map] at ln
 have lh := hh.len
 rw [List.length_map] at lh
 have hv1 := h.one1
 let Q : V → St → Prop := fun rv t => ∃ out, Fr s t [] ∧ SL t rv (out.map V.bool) ∧ RJ l hs (-1) out [] ∧ Mk out 0
 suffices key : Ret ((K (d + 2)).call 20 [v, hv] s) Q by
  obtain ⟨x, t, e, out, h1⟩ := key
  exact ⟨t, x, out, e, h1⟩
 obtain ⟨s1, k1, c1, f1, n1⟩ := new_ex (s := s) (l := [v]) (n := 1) hw rfl
 obtain ⟨s2, k2, c2, f2, n2⟩ := new_ex (s := s1) (l := List.replicate l.length (V.bool false)) (n := l.length) f1.wf (by simp)
 obtain ⟨s3, k3, c3, f3, n3⟩ := new_ex (s := s2) (l := [V.nils]) (n := 1) f2.wf rfl
 obtain ⟨s4, p4, c4, f4, n4⟩ := eSt_ex (s := s3) (b := s2.next) (o := 0) (v := .slice s1.next 0 l.length (some l.length) 1) f3.wf c3 (by simp) rfl
 obtain ⟨s5, k5, c5, f5, n5⟩ := new_ex (s := s4) (l := [V.nils]) (n := 1) f4.wf rfl
 have F5 : Fr s s5 [] := (((f1.trans f2).trans f3).trans' f4 (fun b hb => .inr (by simp at hb; omega))).trans f5
 have R0 : RS s s5 v s.next s2.next s4.next s1.next l.length [] (List.replicate l.length false) [] := by
  refine ⟨F5, ?_, ?_, ?_, ⟨.nils, c5, .inl ⟨rfl, rfl⟩, by simp [blkV]⟩, by simp, ⟨by omega, by omega, by omega, by omega⟩, ⟨by omega, by omega, by omega, by omega, by omega, by omega⟩, by simp⟩
  · exact f5.cl f4.wf (f4.cl f3.wf (f3.cl f2.wf (f2.cl f1.wf c1 (by simp)) (by simp)) (by simp; omega)) (by simp)
  · have := f5.cl f4.wf c4 (by simp)
    simpa using this
  · have := f5.cl f4.wf (f4.cl f3.wf (f3.cl f2.wf c2 (by simp)) (by simp; omega)) (by simp)
    rw [List.map_replicate]; exact this
 have J0 : RJ l hs (-1) (List.replicate l.length false) [] := by
  have hno : ∀ k : Nat, (List.replicate l.length false)[k]? ≠ some true := fun k hk => by
   rw [List.getElem?_replicate] at hk; split at hk <;> simp at hk
  exact ⟨by simp, by simp, fun k hk => absurd hk (hno k), fun k hk => absurd hk (hno k)⟩
 have J1 := J0.meet (n := 0) (fun k e hk => by
  have : k = 0 := by omega
  subst this; exact .zero hk)
 obtain ⟨t0, F0, m0, R1, z8, z9⟩ := R0.meet ln 0 (by simp) d
 have cn := m_cnt (out := List.replicate l.length false) (todo := []) (n := 0)
 rw [List.count_replicate] at cn
 simp only [BEq.rfl, if_true, List.length_nil, Nat.add_zero] at cn
 have l5 := dLd_at (o := 0) f1.wf c1 (by simp)
 simp only [List.getElem?_cons_zero] at l5
 simp -implicitDefEqProofs (disch := first|go_size|fail) only [op20, go_sem, aAl_eq, k1, l5, ln, k2, k3, p4, k5, eCallV_def, cvV_func fok40, List.nil_append, List.cons_append, Int.toNat_natCast, m0]
 refine loop_at (Q := fun r => Ret (retR _ (seqR (blkR 0 r) _)) _) (fun q e t => ∃ (out : List Bool) (todo : List Int), q = out.count false + todo.length ∧ q ≤ l.length ∧ RS s t v s.next s2.next s4.next s1.next l.length [] out todo ∧ RJ l hs (-1) out todo ∧ Mk out 0 ∧ g1 e = hv ∧ g2 e = .ptr s.next 0 ∧ g5 e = .ptr s2.next 0 ∧ g6 e = .ptr s4.next 0 ∧ g7 e = .func 40 [] [.ptr s.next 0, .ptr s2.next 0, .ptr s4.next 0]) ?_ (n := (mO (List.replicate l.length false) 0).count false + (mT (List.replicate l.length false) [] 0).length) (by omega) ⟨mO (List.replicate l.length false) 0, mT (List.replicate l.length false) [] 0, rfl, by omega, R1, J1, mO_mk, (by trivial), (by trivial), (by trivial), (by trivial), (by trivial)⟩
 have nb : s.next < s2.next ∧ s2.next < s4.next ∧ s1.next < s2.next ∧ s.next < s1.next := ⟨by omega, by omega, by omega, by omega⟩
 clear z8 z9 R0 J0 R1 J1 m0 cn F0 k1 k2 k3 k5 p4 c1 c2 c3 c4 c5 f1 f2 f3 f4 f5 n1 n2 n3 n4 n5 F5 l5
 rintro q e t ⟨out, todo, rfl, hq, R, J, hM, i1, i2, i5, i6, i7⟩
 replace i1 : e.a0.a1 = _ := i1
 replace i2 : e.a0.a2 = _ := i2
 replace i5 : e.a0.a5 = _ := i5
 replace i6 : e.a0.a6 = _ := i6
 replace i7 : e.a0.a7 = _ := i7
 obtain ⟨tv, h1, h2, h3⟩ := R.ht
 obtain ⟨e1, e2, e3, e4, e5, e6⟩ := R.ne
 have hwt := R.f.wf
 have lt := dLd_at (o := 0) hwt h1 (by simp)
 have lo := dLd_at (o := 0) hwt R.ho (by simp)
 simp only [List.getElem?_cons_zero] at lt lo
 rcases List.eq_nil_or_concat todo with rfl | ⟨rest, n, rfl⟩
 · have hlen : uLenS tv = some (.i 0) := by simpa using h2.len
   simp -implicitDefEqProofs (disch := first|go_size|fail) only [go_sem, i1, i2, i5, i6, i7, lt, hlen, lo]
   have hn : (out.map V.bool).length = l.length := by rw [List.length_map]; exact R.n
   have hsl := SL.of (l := out.map V.bool) (c := some l.length) (o := 0) hwt R.hb (by omega) (fun i hi => by rw [Nat.zero_add])
   rw [hn] at hsl
   exact ⟨out, R.f, hsl, J, hM⟩
 rw [List.concat_eq_append] at *
 obtain ⟨i, rfl, hil, hRi, J'⟩ := J.pop
 obtain ⟨x, hx⟩ : ∃ x, l[i]? = some x := ⟨_, List.getElem?_eq_getElem hil⟩
 have hlen := h2.len
 rw [List.length_map, List.length_append, List.length_singleton] at hlen
 rw [List.length_append, List.length_singleton] at hq
 have c0 : ((rest.length + 1 : Nat) : Int) > 0 := by omega
 have em : ((rest.length + 1 : Nat) : Int) - 1 = (rest.length : Nat) := by omega
 obtain ⟨qq, a1, a2⟩ := (h2.sl hwt).at hwt (j := rest.length) (x := .i (i : Nat)) (by simp)
 have h2' : GP t tv (rest.map V.i ++ [V.i (i : Nat)]) := by simpa using h2
 obtain ⟨tv', q1, g1', b1'⟩ := h2'.pop
 rw [List.length_map, em] at q1
 obtain ⟨t1, p1, c1', f1', n1'⟩ := eSt_ex (s := t) (b := s4.next) (o := 0) (v := tv') hwt h1 (by simp) g1'.one
 have hbt := cl_lt hwt h1
 have R1 : RS s t1 v s.next s2.next s4.next s1.next l.length [] out rest := by
  refine ⟨R.f.trans' f1' (fun b hb => .inr (by simp at hb; omega)), f1'.cl hwt R.hl (by simp; omega), f1'.cl hwt R.ho (by simp; omega), f1'.cl hwt R.hb (by simp; omega), ⟨tv', by simpa using c1', g1'.fr hwt f1' (fun b hb => ?_), fun b hb => ?_⟩, by simp, R.nx, R.ne, R.n⟩
  · rw [b1'] at hb; simp; exact (h3 b hb).2.2.2.1
  · rw [b1'] at hb; exact h3 b hb
 have ll1 := dLd_at (o := 0) R1.f.wf R1.hl (by simp)
 simp only [List.getElem?_cons_zero] at ll1
 obtain ⟨t2, nv, x1, x2, x3, x4⟩ := next10f R1.f.wf (h.fr hw R1.f (by simp)) L (i : Nat) (m := d + 1) (by omega)
 have nl := x2.len
 rw [List.length_map] at nl
 have hnl := nextL_len l (i : Nat)
 have R3 : RS s t2 v s.next s2.next s4.next s1.next l.length (blkV nv) out rest := (R1.fr x3).setW (fun b hb => by have := x4 b hb; have := cl_lt hwt R.hb; omega) (fun w hw' b hb hb' => by
  have h4 := x3.cl R1.f.wf c1' (by simp)
  rw [h4] at hw'
  simp at hw'
  subst hw'
  have := x4 b hb'
  have := GP.lt R1.f.wf (g1'.fr hwt f1' (fun b hb => by rw [b1'] at hb; simp; exact (h3 b hb).2.2.2.1)) b hb
  omega)
 simp -implicitDefEqProofs (disch := first|go_size|fail) only [go_sem, i1, i2, i5, i6, i7, lt, hlen, c0, em, a1, a2, q1, p1, ll1, x1, nl]
 refine loop_at (Q := fun r => rnd (blkR 1 (seqR (blkR 2 r) _)) _ _) (fun q e u => ∃ (k : Nat) (out' : List Bool) (todo' : List Int), q = (nextL l (i : Nat)).length - k ∧ k ≤ (nextL l (i : Nat)).length ∧ RS s u v s.next s2.next s4.next s1.next l.length (blkV nv) out' todo' ∧ RJ l hs (i : Nat) out' todo' ∧ Mk out' 0 ∧ out'.count false + todo'.length = out.count false + rest.length ∧ SL u nv ((nextL l (i : Nat)).map V.i) ∧ (∀ z ∈ (nextL l (i : Nat)).take k, Mk out' z) ∧ g1 e = hv ∧ g2 e = .ptr s.next 0 ∧ g5 e = .ptr s2.next 0 ∧ g6 e = .ptr s4.next 0 ∧ g7 e = .func 40 [] [.ptr s.next 0, .ptr s2.next 0, .ptr s4.next 0] ∧ g8 e = .i (i : Nat) ∧ g35 e = nv ∧ g36 e = .i ((nextL l (i : Nat)).length : Nat) ∧ g37 e = .i (k : Nat)) ?_ (n := (nextL l (i : Nat)).length) (by omega) ⟨0, out, rest, by omega, by omega, R3, J', hM, rfl, x2, by simp, (by trivial), (by trivial), (by trivial), (by trivial), (by trivial), (by trivial), (by trivial), (by trivial), (by trivial)⟩
 clear R3 R1 J' hM x1 x2 x3 x4 p1 q1 a1 a2 ll1 lt lo h1 h2 h3 h2' g1' b1' c1' f1' n1' hlen R J i1 i2 i5 i6 i7
 rintro q e u ⟨k, out', todo', rfl, hk, R, J, hM, hc, hS, hT, i1, i2, i5, i6, i7, i8, i35, i36, i37⟩
 replace i1 : e.a0.a1 = _ := i1
 replace i2 : e.a0.a2 = _ := i2
 replace i5 : e.a0.a5 = _ := i5
 replace i6 : e.a0.a6 = _ := i6
 replace i7 : e.a0.a7 = _ := i7
 replace i8 : e.a0.a8 = _ := i8
 replace i35 : e.a2.a3 = _ := i35
 replace i36 : e.a2.a4 = _ := i36
 replace i37 : e.a2.a5 = _ := i37
 by_cases c : (k : Int) < (((nextL l (i : Nat)).length : Nat) : Int)
 · obtain ⟨z, hz⟩ : ∃ z, (nextL l (i : Nat))[k]? = some z := ⟨_, List.getElem?_eq_getElem (by omega)⟩
   have hzm := List.mem_of_getElem? hz
   obtain ⟨qq, a1, a2⟩ := hS.at R.f.wf (j := k) (x := .i z) (by rw [List.getElem?_map, hz]; rfl)
   obtain ⟨u2, F, y1, R', fF, hF⟩ := R.meet ln z (by omega) d
   simp -implicitDefEqProofs (disch := first|go_size|fail) only [go_sem, i1, i2, i5, i6, i7, i8, i35, i36, i37, c, a1, a2, eCallV_def, cvV_func fok40, List.nil_append, List.cons_append, y1]
   refine ⟨(nextL l (i : Nat)).length - (k + 1), by omega, k + 1, _, _, rfl, by omega, R', J.meet (fun k' e hk' => .nx hRi (by rw [e]; exact hzm) hk'), hM.mono, (by rw [m_cnt]; exact hc), hS.fr R.f.wf fF hF, fun w hw' => ?_, (by trivial), (by trivial), (by trivial), (by trivial), (by trivial), (by trivial), (by trivial), (by trivial), (by trivial)⟩
   rw [List.take_succ, hz] at hw'
   rcases List.mem_append.1 hw' with hw' | hw'
   · exact (hT w hw').mono
   · simp at hw'; subst hw'; exact mO_mk
 have hke : k = (nextL l (i : Nat)).length := by omega
 subst hke
 rw [List.take_length] at hT
 simp -implicitDefEqProofs (disch := first|go_size|fail) only [go_sem, i1, i2, i5, i6, i7, i8, i35, i36, i37, c, lh]
 refine loop_at (Q := fun r => rnd (blkR 1 (blkR 4 r)) _ _) (fun q e u => ∃ (k : Nat) (out' : List Bool) (todo' : List Int), q = hs.length - k ∧ k ≤ hs.length ∧ RS s u v s.next s2.next s4.next s1.next l.length [] out' todo' ∧ RJ l hs (i : Nat) out' todo' ∧ Mk out' 0 ∧ out'.count false + todo'.length = out.count false + rest.length ∧ (∀ z ∈ nextL l (i : Nat), Mk out' z) ∧ (∀ (k' : Nat) y, k' < k → hs[k']? = some y → y.from_ ≤ x.at_ → x.at_ < y.to_ → Mk out' (findL l y.at_)) ∧ g1 e = hv ∧ g2 e = .ptr s.next 0 ∧ g5 e = .ptr s2.next 0 ∧ g6 e = .ptr s4.next 0 ∧ g7 e = .func 40 [] [.ptr s.next 0, .ptr s2.next 0, .ptr s4.next 0] ∧ g8 e = .i (i : Nat) ∧ g45 e = hv ∧ g46 e = .i (hs.length : Nat) ∧ g47 e = .i (k : Nat)) ?_ (n := hs.length) (by omega) ⟨0, out', todo', by omega, by omega, R.setW (by simp) (by simp), J, hM, hc, hT, by intro k' y hk'; omega, (by trivial), (by trivial), (by trivial), (by trivial), (by trivial), (by trivial), (by trivial), (by trivial), (by trivial)⟩
 clear R J hM hc hS hT i1 i2 i5 i6 i7 i8 i35 i36 i37 c
 rintro q e u ⟨k, out', todo', rfl, hk, R, J, hM, hc, hT, hD, i1, i2, i5, i6, i7, i8, i45, i46, i47⟩
 replace i1 : e.a0.a1 = _ := i1
 replace i2 : e.a0.a2 = _ := i2
 replace i5 : e.a0.a5 = _ := i5
 replace i6 : e.a0.a6 = _ := i6
 replace i7 : e.a0.a7 = _ := i7
 replace i8 : e.a0.a8 = _ := i8
 replace i45 : e.a2.a13 = _ := i45
 replace i46 : e.a2.a14 = _ := i46
 replace i47 : e.a2.a15 = _ := i47
 by_cases c : (k : Int) < ((hs.length : Nat) : Int)
 · obtain ⟨y, hy⟩ : ∃ y, hs[k]? = some y := ⟨_, List.getElem?_eq_getElem (by omega)⟩
   have hym := List.mem_of_getElem? hy
   obtain ⟨b, o, a1, _, a3, a4⟩ := (hh.fr hw R.f (by simp)).at R.f.wf (i := k) (x := y.cells) (by rw [List.getElem?_map, hy]; rfl)
   obtain ⟨u1, k1, ck1, fk1, nk1⟩ := new_ex (s := u) (l := [V.i 0, .i 0, .i 0, .str []]) (n := 4) R.f.wf rfl
   obtain ⟨u2, k2, ck2, fk2, nk2⟩ := eSt_exN (s := u1) (b := u.next) (o := 0) (vs := y.cells) (m := 4) fk1.wf ck1 y.row.1 (by simp) y.row.2
   replace ck2 : u2.cl u.next = some y.cells := by rw [ck2]; simp [putL, Hd.cells]
   have Fk : Fr u u2 [] := fk1.trans' fk2 (fun b hb => .inr (by simp at hb; omega))
   have R2 := R.fr Fk
   have r0 : ldP (.ptr u.next 0) u2 = some (.i y.from_) := dLd_eq Fk.wf ck2 rfl
   have r1 : ldP (.ptr u.next 1) u2 = some (.i y.to_) := dLd_eq Fk.wf ck2 rfl
   have r2 : ldP (.ptr u.next 2) u2 = some (.i y.at_) := dLd_eq Fk.wf ck2 rfl
   have ll := dLd_at (o := 0) R2.f.wf R2.hl (by simp)
   simp only [List.getElem?_cons_zero] at ll
   have hR2 := h.fr hw R2.f (by simp)
   obtain ⟨b', o', a1', _, a3', _⟩ := hR2.at R2.f.wf (i := i) (x := x.cells) (by rw [List.getElem?_map, hx]; rfl)
   have r3 := a3' 0 _ rfl
   rw [Nat.add_zero] at r3
   have skip : ¬ (y.from_ ≤ x.at_ ∧ x.at_ < y.to_) → ∀ (k' : Nat) y, k' < k + 1 → hs[k']? = some y → y.from_ ≤ x.at_ → x.at_ < y.to_ → Mk out' (findL l y.at_) := fun hn k' y' hk' hy' z1 z2 => by
    by_cases ek : k' = k
    · subst ek; rw [hy] at hy'; cases hy'; exact absurd ⟨z1, z2⟩ hn
    · exact hD k' y' (by omega) hy' z1 z2
   by_cases c1 : y.from_ ≤ x.at_
   · by_cases c2 : x.at_ < y.to_
     · obtain ⟨u3, w1, fw⟩ := find11 R2.f.wf hR2 L y.at_ (m := d + 1) (by omega)
       obtain ⟨u4, F, w2, R4, _, _⟩ := (R2.fr fw).meet ln (findL l y.at_) (by omega) d
       simp -implicitDefEqProofs (disch := first|go_size|fail) only [go_sem, i1, i2, i5, i6, i7, i8, i45, i46, i47, c, a1, a4, aAl_eq, k1, k2, r0, r1, r2, ll, a1', r3, c1, c2, w1, eCallV_def, cvV_func fok40, List.nil_append, List.cons_append, w2]
       refine ⟨hs.length - (k + 1), by omega, k + 1, _, _, rfl, by omega, R4, J.meet (fun k' e hk' => .hd hRi hx hym c1 c2 e.symm), hM.mono, (by rw [m_cnt]; exact hc), (fun z hz => (hT z hz).mono), (fun k' y' hk' hy' z1 z2 => ?_), (by trivial), (by trivial), (by trivial), (by trivial), (by trivial), (by trivial), (by trivial), (by trivial), (by trivial)⟩
       by_cases ek : k' = k
       · subst ek; rw [hy] at hy'; cases hy'; exact mO_mk
       · exact (hD k' y' (by omega) hy' z1 z2).mono
     · simp -implicitDefEqProofs (disch := first|go_size|fail) only [go_sem, i1, i2, i5, i6, i7, i8, i45, i46, i47, c, a1, a4, aAl_eq, k1, k2, r0, r1, r2, ll, a1', r3, c1, c2]
       exact ⟨hs.length - (k + 1), by omega, k + 1, _, _, rfl, by omega, R2, J, hM, hc, hT, skip fun h => c2 h.2, (by trivial), (by trivial), (by trivial), (by trivial), (by trivial), (by trivial), (by trivial), (by trivial), (by trivial)⟩
   · simp -implicitDefEqProofs (disch := first|go_size|fail) only [go_sem, i1, i2, i5, i6, i7, i8, i45, i46, i47, c, a1, a4, aAl_eq, k1, k2, r0, r1, r2, ll, a1', r3, c1]
     exact ⟨hs.length - (k + 1), by omega, k + 1, _, _, rfl, by omega, R2, J, hM, hc, hT, skip fun h => c1 h.1, (by trivial), (by trivial), (by trivial), (by trivial), (by trivial), (by trivial), (by trivial), (by trivial), (by trivial)⟩
 · have hke : k = hs.length := by omega
   subst hke
   simp -implicitDefEqProofs (disch := first|go_size|fail) only [go_sem, i1, i2, i5, i6, i7, i8, i45, i46, i47, c]
   refine ⟨out'.count false + todo'.length, by rw [List.length_append, List.length_singleton]; omega, out', todo', rfl, by omega, R, J.close ⟨hT, fun x' hx' y hy z1 z2 => ?_⟩, hM, (by trivial), (by trivial), (by trivial), (by trivial), (by trivial)⟩
   rw [hx] at hx'; cases hx'
   obtain ⟨k', hk'⟩ := List.getElem?_of_mem hy
   exact hD k' y (List.getElem?_eq_some_iff.1 hk').1 hk' z1 z2
theorem byt_of {n : Int} (h0 : 0 ≤ n) (h1 : n < 256) : ((byt n : Nat) : Int) = n := by unfold byt; omega
theorem s8_byt {n : Int} (h0 : -128 ≤ n) (h1 : n ≤ 127) : s8 (byt n) = n := by unfold s8 byt; split <;> omega
theorem w16_byt {n : Int} (h0 : 0 ≤ n) (h1 : n ≤ 65535) : ((byt (n / 256) * 256 + byt n : Nat) : Int) = n := by unfold byt; omega
theorem s16_byt {n : Int} (h0 : -32768 ≤ n) (h1 : n ≤ 32767) : s16 (byt (n / 256) * 256 + byt n) = n := by unfold s16 byt; split <;> omega
theorem dec_one {bs : List Nat} {p : Nat} {x : In} (ok : okI x) (hat : x.at_ = (p : Int)) (hb : ∀ j n, (encI x)[j]? = some n → bAt bs (p + j) = n) : decI bs p = x ∧ szA bs p = (encI x).length := by
 obtain ⟨⟨o0, o1, o2, a0', a1', b0', b1'⟩, h132, hn⟩ := ok
 have hop : bAt bs p = byt x.op := by
  have := hb 0 (byt x.op) (by unfold encI; (repeat' split) <;> rfl)
  simpa using this
 have hopI : ((bAt bs p : Nat) : Int) = x.op := by rw [hop, byt_of o0 o1]
 obtain ⟨at_, op, a, b⟩ := x
 simp only at hat hopI o0 o1 o2 h132 hn
 subst hat
 by_cases c : op = 132
 · subst c
   have he : encI ⟨p, 132, a, b⟩ = [byt 132, byt a, byt b] := if_pos rfl
   rw [he] at hb
   have h1 := hb 1 _ rfl
   have h2 := hb 2 _ rfl
   obtain ⟨q0, q1, q2, q3⟩ := h132 rfl
   constructor
   · unfold decI rawA
     rw [hopI, h1, h2, if_pos rfl, if_pos rfl, s8_byt q2 q3, byt_of q0 (by omega)]
     rfl
   · unfold szA; rw [hopI, he]; rfl
 · obtain ⟨hb0, n1, n2, n3⟩ := hn c
   subst hb0
   rcases sizeI_cases op with hs | hs | hs | hs
   · exact absurd hs o2
   · have he : encI ⟨p, op, a, 0⟩ = [byt op] := by unfold encI; rw [if_neg c, if_pos hs]
     have hbr : brI op = false := by cases hq : brI op with | false => rfl | true => have := brI_size hq; omega
     constructor
     · unfold decI rawA
       rw [hopI, if_neg c, if_neg c, hbr, hs, n1 hs]
       rfl
     · unfold szA; rw [hopI, he, hs]; rfl
   · have he : encI ⟨p, op, a, 0⟩ = [byt op, byt (In.arg ⟨p, op, a, 0⟩)] := by unfold encI; rw [if_neg c, if_neg (by rw [hs]; decide), if_pos hs]
     have hbr : brI op = false := by cases hq : brI op with | false => rfl | true => have := brI_size hq; omega
     have harg : In.arg ⟨p, op, a, 0⟩ = a := by unfold In.arg; rw [hbr]; rfl
     rw [he, harg] at hb
     have h1 := hb 1 _ rfl
     obtain ⟨z1, z2⟩ := n2 hs
     constructor
     · unfold decI rawA
       rw [hopI, if_neg c, if_neg c, hbr, hs, if_pos rfl, h1]
       cases hg : sgnI op with
       | true => obtain ⟨y0, y1⟩ := z1 hg; simp [s8_byt y0 y1]
       | false => obtain ⟨y0, y1⟩ := z2 hg; simp [byt_of y0 (by omega)]
     · unfold szA; rw [hopI, he, hs]; rfl
   · have he : encI ⟨p, op, a, 0⟩ = [byt op, byt (In.arg ⟨p, op, a, 0⟩ / 256), byt (In.arg ⟨p, op, a, 0⟩)] := by unfold encI; rw [if_neg c, if_neg (by rw [hs]; decide), if_neg (by rw [hs]; decide)]
     rw [he] at hb
     have h1 := hb 1 _ rfl
     have h2 := hb 2 _ rfl
     obtain ⟨z1, z2⟩ := n3 hs
     constructor
     · unfold decI rawA
       rw [hopI, if_neg c, if_neg c, hs, if_neg (show ¬ (3 : Int) = 2 by decide), if_pos rfl, h1, h2]
       cases hg : sgnI op with
       | true =>
         obtain ⟨y0, y1⟩ := z1 hg
         rw [if_pos rfl, s16_byt y0 y1]
         cases hbr : brI op with
         | true =>
           have harg : In.arg ⟨p, op, a, 0⟩ = a - p := by unfold In.arg; rw [hbr]; rfl
           rw [harg, if_pos rfl, show a - (p : Int) + p = a by omega]
         | false =>
           have harg : In.arg ⟨p, op, a, 0⟩ = a := by unfold In.arg; rw [hbr]; rfl
           rw [harg]; rfl
       | false =>
         obtain ⟨y0, y1⟩ := z2 hg
         have hbr : brI op = false := by cases hq : brI op with | false => rfl | true => have := sgn_br hq; rw [hg] at this; cases this
         have harg : In.arg ⟨p, op, a, 0⟩ = a := by unfold In.arg; rw [hbr]; rfl
         rw [w16_byt y0 y1, hbr, harg]; simp
     · unfold szA; rw [hopI, he, hs]; rfl
theorem enc_dec {I : List In} (ok : ∀ x ∈ I, okI x) (hat : ∀ i x, I[i]? = some x → x.at_ = (((encB (I.take i)).length : Nat) : Int)) : ∀ i, i ≤ I.length → Dec (encB I) (I.take i) (encB (I.take i)).length
 | 0, _ => by simp [encB]; exact .nil
 | i + 1, hi => by
   have ih := enc_dec ok hat i (by omega)
   obtain ⟨x, hx⟩ : ∃ x, I[i]? = some x := ⟨_, List.getElem?_eq_getElem (by omega)⟩
   have hts : I.take (i + 1) = I.take i ++ [x] := by rw [List.take_succ, hx]; rfl
   have hall : encB I = encB (I.take i) ++ (encI x ++ encB (I.drop (i + 1))) := by
    have : I = I.take i ++ ([x] ++ I.drop (i + 1)) := by
     rw [← List.append_assoc, ← hts, List.take_append_drop]
    conv => lhs; rw [this]
    simp [encB]
   have hok := ok x (List.mem_of_getElem? hx)
   have hb : ∀ j n, (encI x)[j]? = some n → bAt (encB I) ((encB (I.take i)).length + j) = n := fun j n hj => by
    have hjl := (List.getElem?_eq_some_iff.1 hj).1
    unfold bAt
    rw [List.getD_eq_getElem?_getD, hall, List.getElem?_append_right (by omega), Nat.add_sub_cancel_left, List.getElem?_append_left hjl, hj]; rfl
   obtain ⟨d1, d2⟩ := dec_one hok (hat i x hx) hb
   have hlen : 0 < (encI x).length := by
    unfold encI; (repeat' split) <;> simp
   have hle : (encB I).length = (encB (I.take i)).length + ((encI x).length + (encB (I.drop (i + 1))).length) := by rw [hall]; simp
   have := Dec.snoc (bs := encB I) (I.take i) (encB (I.take i)).length ih (by omega) (by omega) (by omega)
   rw [d1, d2] at this
   rw [hts, encB_snoc, List.length_append]
   exact this
theorem Dec.same {bs : List Nat} {I : List In} {q : Nat} (h : Dec bs I q) : ∀ {l : List In} {p : Nat}, Dec bs l p → p ≤ q → (p = q ∧ l = I) ∨ (p < q ∧ szA bs p ≠ 0 ∧ p + szA bs p ≤ q) := by
 induction h with
 | nil =>
   intro l p hl hp
   have := hl.le
   have h0 : l = [] := List.eq_nil_of_length_eq_zero (by omega)
   exact .inl ⟨by omega, h0⟩
 | snoc I' q' hI h1 h2 h3 ih =>
   have gap : ∀ {l : List In} {p : Nat}, Dec bs l p → ¬ (q' < p ∧ p < q' + szA bs q') := by
    intro l p hl
    induction hl with
    | nil => omega
    | snoc l0 p0 hl0 g1 g2 g3 ih0 =>
      intro hb
      by_cases c : p0 ≤ q'
      · rcases ih hl0 c with ⟨e, _⟩ | ⟨_, _, e⟩
        · subst e; omega
        · omega
      · exact ih0 ⟨by omega, by omega⟩
   intro l p hl hp
   by_cases c : p ≤ q'
   · rcases ih hl c with ⟨e, e2⟩ | ⟨e1, e2, e3⟩
     · subst e; exact .inr ⟨by omega, h2, by omega⟩
     · exact .inr ⟨by omega, e2, by omega⟩
   · have hq : p = q' + szA bs q' := by
      have := gap hl; omega
     refine .inl ⟨hq, ?_⟩
     cases hl with
     | nil => omega
     | snoc l0 p0 hl0 g1 g2 g3 =>
       by_cases c0 : p0 ≤ q'
       · rcases ih hl0 c0 with ⟨e, e2⟩ | ⟨_, _, e⟩
         · subst e; rw [e2]
         · omega
       · exact absurd ⟨by omega, by omega⟩ (gap hl0)
theorem Dec.not_refd {bs : List Nat} {I : List In} (h : Dec bs I bs.length) (hl : bs.length ≤ 1024) : ¬ Refd bs := by
 rintro (h1 | ⟨l, p, h1, h2, h3⟩)
 · omega
 · rcases h.same h1 (by omega) with ⟨e, _⟩ | ⟨_, e1, e2⟩
   · omega
   · omega
theorem CodeOk.made {l : List In} {hr : List (List V)} (h : CodeOk [] l hr) : ∃ ls n hs, Made ls n hs ∧ hr = hs.map (hRow (runP n ls).1) ∧ l = mIns n ls := by
 rcases h.ex with ⟨_, h1, h2, _⟩ | ⟨ls, n, hs, M, h1, h2⟩
 · have := h2.le; exact absurd (List.eq_nil_of_length_eq_zero (Nat.le_zero.1 this.2)) h1
 · obtain ⟨J, hlen⟩ := M.ins
   have hd : Dec (encB (mIns n ls)) (mIns n ls) (encB (mIns n ls)).length := by
    have := enc_dec (I := mIns n ls) J.ok J.at_ (mIns n ls).length (Nat.le_refl _)
    rwa [List.take_length] at this
   refine ⟨ls, n, hs, M, h1, ?_⟩
   rcases h2 with h2 | ⟨_, h2⟩
   · rcases hd.same h2 (Nat.le_refl _) with ⟨_, e⟩ | ⟨e, _⟩
     · exact e
     · omega
   · exact absurd h2 (hd.not_refd hlen)
def hdOf (P : List Int) (x : Nat × Nat × Nat) : Hd := ⟨P.getD x.1 0, P.getD x.2.1 0, P.getD x.2.2 0, thr⟩
theorem foldP_get {k : Nat} : ∀ (B : List L) (st : List Int × Int), k ∉ heres B → (B.foldl stepP st).1[k]? = st.1[k]?
 | [], st, _ => rfl
 | .here l :: B, st, h => by
   simp only [heres, List.mem_cons, not_or] at h
   rw [List.foldl_cons, foldP_get B _ h.2]
   show (st.1.set l st.2)[k]? = _
   rw [List.getElem?_set_ne (Ne.symm h.1)]
 | .op o a b :: B, st, h => by rw [List.foldl_cons, foldP_get B _ (by simpa [heres] using h)]; rfl
 | .jmp o l :: B, st, h => by rw [List.foldl_cons, foldP_get B _ (by simpa [heres] using h)]; rfl
theorem foldI_pre (P : List Int) : ∀ (B : List L) (st : List In × Int), ∃ r, (B.foldl (stepI P) st).1 = st.1 ++ r
 | [], st => ⟨[], by simp⟩
 | .here l :: B, st => foldI_pre P B st
 | .op o a b :: B, st => by
   obtain ⟨r, h⟩ := foldI_pre P B (stepI P st (.op o a b))
   exact ⟨[⟨st.2, o, a, b⟩] ++ r, by rw [List.foldl_cons, h]; simp [stepI]⟩
 | .jmp o l :: B, st => by
   obtain ⟨r, h⟩ := foldI_pre P B (stepI P st (.jmp o l))
   exact ⟨[⟨st.2, o, P.getD l 0, 0⟩] ++ r, by rw [List.foldl_cons, h]; simp [stepI]⟩
theorem foldI_first (P : List Int) : ∀ (B : List L) (st : List In × Int), (∃ x ∈ B, x.ins = true) → ∃ x, (B.foldl (stepI P) st).1[st.1.length]? = some x ∧ x.at_ = st.2
 | [], st, h => by simp at h
 | .here l :: B, st, h => foldI_first P B st (by
   obtain ⟨x, hx, hi⟩ := h
   rcases List.mem_cons.1 hx with rfl | hx
   · cases hi
   · exact ⟨x, hx, hi⟩)
 | .op o a b :: B, st, h => by
   obtain ⟨r, hr⟩ := foldI_pre P B (stepI P st (.op o a b))
   refine ⟨⟨st.2, o, a, b⟩, ?_, rfl⟩
   rw [List.foldl_cons, hr]; simp [stepI]
 | .jmp o l :: B, st, h => by
   obtain ⟨r, hr⟩ := foldI_pre P B (stepI P st (.jmp o l))
   refine ⟨⟨st.2, o, P.getD l 0, 0⟩, ?_, rfl⟩
   rw [List.foldl_cons, hr]; simp [stepI]
theorem fold_pos (P : List Int) : ∀ (B : List L) (a : List Int × Int) (b : List In × Int), a.2 = b.2 → (B.foldl stepP a).2 = (B.foldl (stepI P) b).2
 | [], a, b, h => h
 | .here l :: B, a, b, h => fold_pos P B _ _ h
 | .op o x y :: B, a, b, h => fold_pos P B _ _ (by show a.2 + _ = b.2 + _; rw [h])
 | .jmp o l :: B, a, b, h => fold_pos P B _ _ (by show a.2 + _ = b.2 + _; rw [h])
theorem run_pos (n : Nat) (P : List Int) (B : List L) : (runP n B).2 = (runI P B).2 := fold_pos P B _ _ rfl
theorem foldP_mono : ∀ (B : List L) (st : List Int × Int), st.2 ≤ (B.foldl stepP st).2
 | [], st => Int.le_refl _
 | .here l :: B, st => foldP_mono B (stepP st (.here l))
 | .op o x y :: B, st => by
   have := foldP_mono B (stepP st (.op o x y))
   have h : (stepP st (.op o x y)).2 = st.2 + sizeI o := rfl
   have := sizeI_le o
   rw [List.foldl_cons]; omega
 | .jmp o l :: B, st => by
   have := foldP_mono B (stepP st (.jmp o l))
   have h : (stepP st (.jmp o l)).2 = st.2 + sizeI o := rfl
   have := sizeI_le o
   rw [List.foldl_cons]; omega
theorem foldP_grows : ∀ (B : List L) (st : List Int × Int), (∀ x ∈ B, okL x) → (∃ x ∈ B, x.ins = true) → st.2 < (B.foldl stepP st).2
 | [], st, _, h => by simp at h
 | .here l :: B, st, ok, h => foldP_grows B (stepP st (.here l)) (fun x hx => ok x (by simp [hx])) (by
   obtain ⟨x, hx, hi⟩ := h
   rcases List.mem_cons.1 hx with rfl | hx
   · cases hi
   · exact ⟨x, hx, hi⟩)
 | .op o x y :: B, st, ok, h => by
   have := foldP_mono B (stepP st (.op o x y))
   have h : (stepP st (.op o x y)).2 = st.2 + sizeI o := rfl
   have h1 : sizeI o ≠ 0 := by
    rcases ok (.op o x y) (by simp) with h | ⟨rfl, _⟩
    · exact h.1.2.2.2
    · decide
   have := sizeI_le o
   rw [List.foldl_cons]; omega
 | .jmp o l :: B, st, ok, h => by
   have := foldP_mono B (stepP st (.jmp o l))
   have h : (stepP st (.jmp o l)).2 = st.2 + sizeI o := rfl
   have h1 := brI_size (ok (.jmp o l) (by simp)).2.2
   rw [List.foldl_cons]; omega
section
variable {ls : List L} {n : Nat} {hs : List (Nat × Nat × Nat)} (M : Made ls n hs)
include M
theorem Made.split {k : Nat} {A B : List L} (e : ls = A ++ .here k :: B) : (runP n ls).1.getD k 0 = (runP n A).2 := by
 have hnd : (heres ls).Nodup := M.here.nodup_iff.2 List.nodup_range'
 have hk : k < n := M.lt (by rw [e]; simp)
 have hkB : k ∉ heres B := by
  rw [e, heres_app] at hnd
  have := (List.nodup_append.1 hnd).2.1
  simp only [heres] at this
  exact (List.nodup_cons.1 this).1
 rw [List.getD_eq_getElem?_getD]
 have h1 : (runP n ls).1[k]? = ((runP n A).1.set k (runP n A).2)[k]? := by
  unfold runP
  rw [e, List.foldl_append, List.foldl_cons, foldP_get B _ hkB]; rfl
 rw [h1, List.getElem?_set, if_pos rfl, if_pos (by rw [(runP_len n A).1]; exact hk)]; rfl
theorem Made.at_lab {k : Nat} {A B : List L} (e : ls = A ++ .here k :: B) : ∃ (i : Nat) (x : In), (mIns n ls)[i]? = some x ∧ x.at_ = (runP n ls).1.getD k 0 := by
 obtain ⟨l, o, hl, _⟩ := M.last
 have hB : ∃ x ∈ B, x.ins = true := by
  rcases List.eq_nil_or_concat B with rfl | ⟨B', x, rfl⟩
  · rw [hl] at e
    have := congrArg List.getLast? e
    simp at this
  · refine ⟨x, by simp, ?_⟩
    rw [hl] at e
    have := congrArg List.getLast? e
    simp [List.getLast?_append, List.getLast?_cons] at this
    rw [← this]; rfl
 obtain ⟨x, h1, h2⟩ := foldI_first (runP n ls).1 B (runI (runP n ls).1 A) hB
 refine ⟨(runI (runP n ls).1 A).1.length, x, ?_, by rw [h2, M.split e, run_pos n (runP n ls).1 A]⟩
 have h3 : mIns n ls = (B.foldl (stepI (runP n ls).1) (runI (runP n ls).1 A)).1 := by
  unfold mIns
  conv => lhs; unfold runI; arg 1; arg 3; rw [e]
  rw [List.foldl_append, List.foldl_cons]; rfl
 rw [h3]; exact h1
theorem here_split {k : Nat} : ∀ {ls : List L}, k ∈ heres ls → ∃ A B, ls = A ++ .here k :: B
 | .here l :: r, h => by
   simp only [heres, List.mem_cons] at h
   rcases h with rfl | h
   · exact ⟨[], r, rfl⟩
   · obtain ⟨A, B, e⟩ := here_split h; exact ⟨.here l :: A, B, by rw [e]; rfl⟩
 | .op o a b :: r, h => by obtain ⟨A, B, e⟩ := here_split (ls := r) h; exact ⟨.op o a b :: A, B, by rw [e]; rfl⟩
 | .jmp o l :: r, h => by obtain ⟨A, B, e⟩ := here_split (ls := r) h; exact ⟨.jmp o l :: A, B, by rw [e]; rfl⟩
theorem Made.found {k : Nat} (hk : k < n) : 0 ≤ findL (mIns n ls) ((runP n ls).1.getD k 0) := by
 have hm : k ∈ heres ls := M.here.mem_iff.2 (by simp; exact hk)
 obtain ⟨A, B, e⟩ := here_split M hm
 obtain ⟨i, x, h1, h2⟩ := M.at_lab e
 rcases findL_cases (mIns n ls) ((runP n ls).1.getD k 0) with ⟨_, h⟩ | ⟨j, y, h, _⟩
 · exact absurd h2 (h i x h1)
 · omega
end
section
variable {ls : List L} {n : Nat} {hs : List (Nat × Nat × Nat)} (M : Made ls n hs)
include M
theorem Made.hfound : ∀ y ∈ hs.map (hdOf (runP n ls).1), 0 ≤ findL (mIns n ls) y.from_ ∧ 0 ≤ findL (mIns n ls) y.at_ ∧ 0 ≤ findL (mIns n ls) y.to_ ∧ y.from_ < y.to_ := fun y hy => by
 obtain ⟨h, hh, rfl⟩ := List.mem_map.1 hy
 obtain ⟨h1, h2, h3⟩ := M.hh h hh
 refine ⟨M.found h1, M.found h3, M.found h2, ?_⟩
 obtain ⟨⟨A, B, C, e, hB⟩, _⟩ := M.hok h hh
 show (runP n ls).1.getD h.1 0 < (runP n ls).1.getD h.2.1 0
 rw [M.split (k := h.2.1) e, M.split (k := h.1) (A := A) (B := B ++ .here h.2.1 :: C) (by rw [e]; simp)]
 have := foldP_grows B (runP n (A ++ [.here h.1])) (fun x hx => M.ok x (by rw [e]; simp [hx])) hB
 have h4 : runP n (A ++ .here h.1 :: B) = B.foldl stepP (runP n (A ++ [.here h.1])) := by
  unfold runP; rw [← List.foldl_append]; simp
 rw [h4]
 have h5 : (runP n (A ++ [.here h.1])).2 = (runP n A).2 := by rw [runP_snoc]; rfl
 omega
theorem Made.last_ : ∃ x, (mIns n ls)[(mIns n ls).length - 1]? = some x ∧ endsI x.op = true := by
 obtain ⟨l, o, hl, ho⟩ := M.last
 have e : ∃ J a, mIns n ls = J ++ [⟨a, o, 0, 0⟩] := by
  refine ⟨(runI (runP n ls).1 l).1, (runI (runP n ls).1 l).2, ?_⟩
  unfold mIns
  generalize (runP n ls).1 = P
  rw [hl, runI_snoc]; rfl
 obtain ⟨J, a, e⟩ := e
 exact ⟨⟨a, o, 0, 0⟩, by rw [e]; simp, ho⟩
theorem Made.ne : mIns n ls ≠ [] := by
 obtain ⟨x, h, _⟩ := M.last_
 intro e; rw [e] at h; simp at h
end
theorem Mk.at_ {out : List Bool} {z : Int} (h : Mk out z) (h0 : 0 ≤ z) (h1 : z < (out.length : Nat)) : ∃ j : Nat, z = j ∧ (out.map V.bool)[j]? = some (.bool true) := ⟨z.toNat, by omega, by rw [List.getElem?_map, h h0 h1]; rfl⟩
set_option maxHeartbeats 16000000 in
theorem run6_eq {s : St} (hw : Wf s) {w : V} {l : List Int} (hv0 : SL s w (l.map V.i)) (hv1 : w.one = true) (hI : ∀ x ∈ l, I64 x) (hl : l.length ≤ 17592186044416) (hwb : ∀ b ∈ blkV w, b < s.next) {m : Nat} (hm : 33 ≤ m) :
 ∃ t, (K m).call 6 [w] s = some (.bool true, t) := by
 obtain ⟨d, rfl⟩ : ∃ d, m = d + 1 := ⟨m - 1, by omega⟩
 let Q : V → St → Prop := fun x t => x = .bool true
 suffices key : Ret ((K (d + 1)).call 6 [w] s) Q by
  obtain ⟨x, t, e, rfl⟩ := key
  exact ⟨t, e⟩
 obtain ⟨s1, lv, mv, gv, I, hr, fr, e1, r1, r2, r3, r4, r5, ok, f1, b1⟩ := code_eq (bs := []) hw (v := .nils) (.inl ⟨rfl, .inl rfl⟩) (by simp) (by simp) (by simp [blkV]) hv0 hv1 hI hl hwb (m := d) (by omega)
 have L := ok.ll (by simp)
 obtain ⟨ls, n, hs, M, rfl, rfl⟩ := ok.made
 have hne := M.ne
 have hf := M.hfound
 have hhl := M.hl
 replace r2 : RN 4 s1 mv ((hs.map (hdOf (runP n ls).1)).map Hd.cells) := by rw [List.map_map]; exact r2
 generalize hys : hs.map (hdOf (runP n ls).1) = ys at *
 have hyl : ys.length ≤ 54 := by rw [← hys, List.length_map]; exact hhl
 clear hys ok M hhl hv0 hv1 hI hl hwb b1 r3 r4 r5
 generalize mIns n ls = I at *
 have ln := r1.len
 rw [List.length_map] at ln
 have lh := r2.len
 rw [List.length_map] at lh
 have hl1 := L.len
 obtain ⟨t0, rv, out, x1, f2, sl, J, hM⟩ := reach20 f1.wf r1 L r2 (by omega) (m := d) (by omega)
 have lr := sl.len
 rw [List.length_map, J.len] at lr
 have hIpos : 0 < I.length := List.length_pos_iff.2 hne
 have hol := J.len
 obtain ⟨j0, ej0, hj0⟩ := hM.at_ (by omega) (by omega)
 have : j0 = 0 := by omega
 subst this
 obtain ⟨q0, a1, a2⟩ := sl.at f2.wf hj0
 replace a1 : bIdx 1 rv (.i 0) = some q0 := a1
 have z0 : ¬ ((I.length : Nat) : Int) = 0 := by omega
 have k12 : ∀ t, (K d).call 12 [] t = some (.bool true, t) := fun t => by
  obtain ⟨d', rfl⟩ : ∃ d', d = d' + 1 := ⟨d - 1, by omega⟩
  exact op12 d' t
 simp -implicitDefEqProofs (disch := first|go_size|fail) only [op6, go_sem, e1, x1, lr, ln, z0, a1, a2, eq_self, ne_eq, not_true]
 refine loop_at (Q := fun r => Ret (retR _ (seqR (blkR 0 r) _)) _) (fun q e t => ∃ i : Nat, q = I.length - i ∧ i ≤ I.length ∧ Fr t0 t [] ∧ g3 e = lv ∧ g4 e = mv ∧ g6 e = rv ∧ g7 e = .i (i : Nat)) ?_ (n := I.length) (by omega) ⟨0, by omega, by omega, Fr.refl f2.wf _, (by trivial), (by trivial), (by trivial), (by trivial)⟩
 clear a1 a2 x1 e1
 rintro q e t ⟨i, rfl, hi, ft, i3, i4, i6, i7⟩
 replace i3 : e.a0.a3 = _ := i3
 replace i4 : e.a0.a4 = _ := i4
 replace i6 : e.a0.a6 = _ := i6
 replace i7 : e.a0.a7 = _ := i7
 by_cases c : (i : Int) < ((I.length : Nat) : Int)
 rotate_left
 · simp -implicitDefEqProofs (disch := first|go_size|fail) only [go_sem, i3, i4, i6, i7, ln, c, k12]
   rfl
 obtain ⟨x, hx⟩ : ∃ x, I[i]? = some x := ⟨_, List.getElem?_eq_getElem (by omega)⟩
 obtain ⟨b, ho⟩ : ∃ b, out[i]? = some b := ⟨_, List.getElem?_eq_getElem (by omega)⟩
 obtain ⟨qq, a1, a2⟩ := (sl.fr f2.wf ft (by simp)).at ft.wf (j := i) (x := .bool b) (by rw [List.getElem?_map, ho]; rfl)
 cases b with
 | false =>
   simp -implicitDefEqProofs (disch := first|go_size|fail) only [go_sem, i3, i4, i6, i7, ln, c, a1, a2]
   exact ⟨I.length - (i + 1), by omega, i + 1, rfl, by omega, ft, (by trivial), (by trivial), (by trivial), (by trivial)⟩
 | true =>
 have hC : Cl I ys out i := by
  rcases J.cl i ho with h | h | h
  · simp at h
  · omega
  · exact h
 obtain ⟨t1, nv, y1, y2, y3⟩ := next10 ft.wf (r1.fr f1.wf (f2.trans ft) (by simp)) L (i : Nat) (m := d) (by omega)
 have nl := y2.len
 rw [List.length_map] at nl
 have hnl := nextL_len I (i : Nat)
 simp -implicitDefEqProofs (disch := first|go_size|fail) only [go_sem, i3, i4, i6, i7, ln, c, a1, a2, y1]
 refine loop_at (Q := fun r => rnd (seqR (blkR 1 (seqR (blkR 2 r) _)) _) _ _) (fun q e u => ∃ k : Nat, q = (nextL I (i : Nat)).length - k ∧ k ≤ (nextL I (i : Nat)).length ∧ Fr t1 u [] ∧ g3 e = lv ∧ g4 e = mv ∧ g6 e = rv ∧ g7 e = .i (i : Nat) ∧ g8 e = nv ∧ g9 e = .i (k : Nat)) ?_ (n := (nextL I (i : Nat)).length) (by omega) ⟨0, by omega, by omega, Fr.refl y3.wf _, (by trivial), (by trivial), (by trivial), (by trivial), (by trivial), (by trivial)⟩
 clear i3 i4 i6 i7 a1 a2 y1
 rintro q e u ⟨k, rfl, hk, fu, i3, i4, i6, i7, i8, i9⟩
 replace i3 : e.a0.a3 = _ := i3
 replace i4 : e.a0.a4 = _ := i4
 replace i6 : e.a0.a6 = _ := i6
 replace i7 : e.a0.a7 = _ := i7
 replace i8 : e.a0.a8 = _ := i8
 replace i9 : e.a0.a9 = _ := i9
 have F := (ft.trans y3).trans fu
 by_cases ck : (k : Int) < (((nextL I (i : Nat)).length : Nat) : Int)
 · obtain ⟨z, hz⟩ : ∃ z, (nextL I (i : Nat))[k]? = some z := ⟨_, List.getElem?_eq_getElem (by omega)⟩
   have hzm := List.mem_of_getElem? hz
   obtain ⟨z0, z1⟩ := nextL_lt hzm
   obtain ⟨j, rfl, hj⟩ := (hC.1 z hzm).at_ z0 (by omega)
   obtain ⟨q1, a1, a2⟩ := (y2.fr y3.wf fu (by simp)).at fu.wf (j := k) (x := .i (j : Nat)) (by rw [List.getElem?_map, hz]; rfl)
   obtain ⟨q2, a3, a4⟩ := (sl.fr f2.wf F (by simp)).at F.wf hj
   simp -implicitDefEqProofs (disch := first|go_size|fail) only [go_sem, i3, i4, i6, i7, i8, i9, nl, ck, a1, a2, a3, a4]
   exact ⟨(nextL I (i : Nat)).length - (k + 1), by omega, k + 1, rfl, by omega, fu, (by trivial), (by trivial), (by trivial), (by trivial), (by trivial), (by trivial)⟩
 simp -implicitDefEqProofs (disch := first|go_size|fail) only [go_sem, i3, i4, i6, i7, i8, i9, nl, ck]
 refine loop_at (Q := fun r => rnd (seqR (blkR 1 (blkR 4 r)) _) _ _) (fun q e u => ∃ k : Nat, q = ys.length - k ∧ k ≤ ys.length ∧ Fr t1 u [] ∧ g3 e = lv ∧ g4 e = mv ∧ g6 e = rv ∧ g7 e = .i (i : Nat) ∧ g10 e = .i (k : Nat)) ?_ (n := ys.length) (by omega) ⟨0, by omega, by omega, fu, (by trivial), (by trivial), (by trivial), (by trivial), (by trivial)⟩
 clear i3 i4 i6 i7 i8 i9 F fu ck
 rintro q e u ⟨k, rfl, hk, fu, i3, i4, i6, i7, i10⟩
 replace i3 : e.a0.a3 = _ := i3
 replace i4 : e.a0.a4 = _ := i4
 replace i6 : e.a0.a6 = _ := i6
 replace i7 : e.a0.a7 = _ := i7
 replace i10 : e.a0.a10 = _ := i10
 have F := (ft.trans y3).trans fu
 by_cases ck : (k : Int) < ((ys.length : Nat) : Int)
 rotate_left
 · simp -implicitDefEqProofs (disch := first|go_size|fail) only [go_sem, i3, i4, i6, i7, i10, lh, ck]
   exact ⟨I.length - (i + 1), by omega, i + 1, rfl, by omega, F, (by trivial), (by trivial), (by trivial), (by trivial)⟩
 obtain ⟨y, hy⟩ : ∃ y, ys[k]? = some y := ⟨_, List.getElem?_eq_getElem (by omega)⟩
 have hym := List.mem_of_getElem? hy
 obtain ⟨b, o, a1, _, a3, _⟩ := (r2.fr f1.wf (f2.trans F) (by simp)).at F.wf (i := k) (x := y.cells) (by rw [List.getElem?_map, hy]; rfl)
 have hR := r1.fr f1.wf (f2.trans F) (by simp)
 obtain ⟨b', o', a1', _, a3', _⟩ := hR.at F.wf (i := i) (x := x.cells) (by rw [List.getElem?_map, hx]; rfl)
 have w0 := a3 0 _ rfl
 have w1 := a3 1 _ rfl
 have w2 := a3 2 _ rfl
 have w3 := a3' 0 _ rfl
 rw [Nat.add_zero] at w0 w3
 by_cases c1 : x.at_ ≥ y.from_
 · by_cases c2 : x.at_ < y.to_
   · obtain ⟨u2, v1, fv⟩ := find11 F.wf hR L y.at_ (m := d) (by omega)
     have hfy := (hf y hym).2.1
     have hlt := findL_lt (l := I) y.at_
     have c3 : ¬ findL I y.at_ < 0 := by omega
     obtain ⟨j, ej, hj⟩ := (hC.2 x hx y hym c1 c2).at_ hfy (by omega)
     have F2 := F.trans fv
     obtain ⟨q2, a5, a6⟩ := (sl.fr f2.wf F2 (by simp)).at F2.wf hj
     rw [← ej] at a5
     simp -implicitDefEqProofs (disch := first|go_size|fail) only [go_sem, i3, i4, i6, i7, i10, lh, ck, a1, w0, w1, w2, a1', w3, c1, c2, v1, c3, a5, a6]
     exact ⟨ys.length - (k + 1), by omega, k + 1, rfl, by omega, fu.trans fv, (by trivial), (by trivial), (by trivial), (by trivial), (by trivial)⟩
   · simp -implicitDefEqProofs (disch := first|go_size|fail) only [go_sem, i3, i4, i6, i7, i10, lh, ck, a1, w0, w1, w2, a1', w3, c1, c2]
     exact ⟨ys.length - (k + 1), by omega, k + 1, rfl, by omega, fu, (by trivial), (by trivial), (by trivial), (by trivial), (by trivial)⟩
 · simp -implicitDefEqProofs (disch := first|go_size|fail) only [go_sem, i3, i4, i6, i7, i10, lh, ck, a1, w0, w1, w2, a1', w3, c1]
   exact ⟨ys.length - (k + 1), by omega, k + 1, rfl, by omega, fu, (by trivial), (by trivial), (by trivial), (by trivial), (by trivial)⟩
end
end Go.Proofs.YtcgdlgbomjnnnaaLab
namespace Go.Proofs.YtcgdlgbomjnnnaaLab
open Go Go.WideShapes Go.ChangeShapes
set_option linter.all false
set_option maxRecDepth 10000
noncomputable section
theorem len_of {G : Pl} {s : St} {x : V} {l : List V} {a : Option Addr} {len cap : Nat} (vr : VR G x (.slice a len cap)) (sl : SL s x l) : l.length = len := by
 rcases sl with ⟨rfl, rfl | ⟨b, o, c, rfl⟩⟩ | ⟨b, o, c, n, g, rfl, _⟩
 · cases vr; rfl
 · obtain ⟨_, a', c', hax, _⟩ := vr.slice_inv
   cases hax; rfl
 · obtain ⟨_, a', c', hax, _⟩ := vr.slice_inv
   cases hax; rfl
theorem weigh_ints {H : Type} {enc : TypeId × Value → H} {P : Program} {W : World} {base : Nat} {spare : Nat → Bool} {held : Bool} {t e : TypeId} {a : Option Addr} {len cap : Nat} {d : DataW H} {ps : List MemPlace} {ts : List TypeId} {ds : List (DataW H)} {j : Nat}
 (hw : (DataW.weightsEach P ts ds).all (· ≤ reachBytes) = true) (ht : ts[j]? = some t) (hd : ds[j]? = some d) (hu : P.underlying t = some (.slice e)) (he : P.underlying e = some (.int .i64)) (hc : P.cellsOf e = 1) (hB : P.bytesOf e = 8)
 (h : DataW.Trod enc P W base spare held t (.slice a len cap) d ps) : len * 8 ≤ 140737488351232 := by
 obtain ⟨fuel, hf⟩ := h
 rcases open_ints hu he hc hf with ⟨hcs, _⟩ | ⟨x, l, c, zs, hcs, _, hl, _, hz, hx, _, _⟩
 · simp [Value.cells] at hcs
   obtain ⟨rfl, rfl, rfl⟩ := hcs
   simp
 · simp [Value.cells] at hcs
   obtain ⟨rfl, rfl, rfl⟩ := hcs
   obtain ⟨hx, _⟩ := Prod.mk.inj hx
   subst hx
   have z := sized_slice hw ht hd hu
   rw [hB] at z
   have hn : len ≤ zs.length := by
    rw [hz]; split
    · exact hl
    · exact Nat.le_refl _
   have hs : (lits (H := H) .i64 (zs.take len)).length + (lits (H := H) .i64 (zs.drop len)).length = zs.length := by
    simp [lits]; omega
   rw [hs] at z
   exact Nat.le_trans (Nat.mul_le_mul_right _ hn) z
theorem RN.sl {s : St} {v : V} {l : List V} (h : RN 1 s v (l.map fun x => [x])) : SL s v l := by
 rcases h.2 with ⟨h0, h1⟩ | ⟨b, o, c, n, f, h1, h2, h3, h4⟩
 · exact .inl ⟨by simpa using h0, h1⟩
 · rw [List.length_map] at h1 h3
   refine .inr ⟨b, o, c, n, f, h1, h2, by omega, fun i hi => ?_⟩
   have := h4 i [l[i]] (by rw [List.getElem?_map, List.getElem?_eq_getElem hi]; rfl) 0 (by omega)
   rw [show o + i * 1 + 0 = o + i by omega] at this
   rw [this, List.getElem?_eq_getElem hi]; rfl
section
variable {H : Type} {enc : TypeId × Value → H} {W : World} {base b0 : Nat} {r : Go.Reach} {held : Bool}
end
theorem SL.one {s : St} {v : V} {l : List V} (h : SL s v l) : v.one = true := by rcases h with ⟨_, rfl | ⟨b, o, c, rfl⟩⟩ | ⟨b, o, c, n, f, rfl, _⟩ <;> rfl
end
end Go.Proofs.YtcgdlgbomjnnnaaLab
namespace Go.Proofs.YtcgdlgbomjnnnaaLab
open Go
set_option linter.all false
set_option maxRecDepth 10000
noncomputable section
theorem flowReached_walk {W : World} {v0 : Value} {x0 : V} {l0 : List Int} (vr0 : VR (impG W) x0 v0) (s0 : SL (impS W 1) x0 (l0.map V.i)) (k0 : ∀ b ∈ blkV x0, b < W.heap.size) (w0 : ∀ n ∈ l0, -9223372036854775808 ≤ n ∧ n < 9223372036854775808) (z0 : l0.length ≤ 17592186044416) :
 Calls Try.prog 6 #[v0] W (fun e w' => e = .returned (.bool true) ∧ RowKit.Below W.heap.size W w') := by
 have hn : (impS W 1).next = W.heap.size := rfl
 obtain ⟨t, e⟩ := run6_eq (impS_wf W 1) s0 s0.one (fun x hx => w0 x hx) z0 k0 (m := 40) (by omega)
 exact law_ro (fuel := 1152921504606846976) (n := 40) tblOk ⟨_, _, e, rfl⟩ (.cons _ _ _ _ vr0 .nil)
end
end Go.Proofs.YtcgdlgbomjnnnaaLab
