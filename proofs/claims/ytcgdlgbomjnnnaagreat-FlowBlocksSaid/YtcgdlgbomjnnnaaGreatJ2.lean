/- Parts of the proof: contracts of functions, joined. No condition on the program. -/
import Derived.Test.YtcgdlgbomjnnnaaGreatJ1
import Derived.SizedLaws
import Derived.ChangeSlices
namespace Go.Proofs.YtcgdlgbomjnnnaaGreatLab
open Go
set_option linter.all false
set_option maxRecDepth 10000
noncomputable section
theorem b3a (f n : Int) : cN [V.i 0, .i 0, .ay] [(0, 1, .i f), (1, 1, .i n)] = some [.i f, .i n, .ay] := (rfl)
theorem tI {r : aE} {B : E → St → aE} {N : E → St → Prop} {Q : aE → Prop} (h : og r (fun e s => og (B e s) N Q) (fun r => ∃ e t, r = .exit 4 e t ∧ Q (.exit 4 e t))) : og (di (cL 5 r) B) N Q := by
 cases r with
 | au e s => exact h
 | exit id e s =>
   obtain ⟨e', t', h1, h2⟩ := h;cases h1; exact h2
 | ret e s => obtain ⟨e', t', h1, h2⟩ := h; cases h1
 | bad => exact h
set_option maxHeartbeats 16000000 in
theorem IK {s : St} (hw : Wf s) {v : V} {l : List In} (h : RN 4 s v (l.map In.cells)) (L : Ll l) {raw : List Int} (hrl : raw.length ≤ 100000) {t : St} {e : E} {b bl : Nat} (d : Nat) (ft : Fr s t []) (hI : IP t b raw) (hbl : t.cl bl = some [v]) (hb : s.next ≤ b ∧ s.next ≤ bl ∧ bl ≠ b)
 (i2 : e.a0.a2 = .ptr bl 0) (i5 : e.a0.a5 = iv b raw.length) :
 dg (aV (aL [rT g4]) (Jn (K (d + 8)) e t)) fun bv t => Fr s t [] ∧ zN t bv l (cp (fA (kp l.length raw))) := by
 have ln := h.len;rw [List.length_map] at ln;have hl := L.len;obtain ⟨t1, p1, q1, f1⟩ := ab_ ft.wf hI hbl hb.2.2 ln hrl (d + 5);have hk1 : (kp l.length raw).length ≤ 100000 := by have := List.length_filter_le (rL l.length) raw; unfold kp; omega
 obtain ⟨t2, p2, q2, f2⟩ := Px f1.wf q1 po (m := d + 8) po;have hp := (ey (kp l.length raw)).length_eq;obtain ⟨t3, p3, q3, f3⟩ := vN f2.wf q2 po (d + 7);have hLl := Mf (fA (kp l.length raw));have hs := kW (iN (kp l.length raw));have hin : ∀ (k : Nat) f, (cp (fA (kp l.length raw)))[k]? = some f → 0 ≤ f ∧ f < (l.length : Nat) := fun k f hf => by
  have hm := List.mem_of_getElem? hf;unfold kp at hm;rw [qC, (ey _).mem_iff, List.mem_filter, kN] at hm;exact hm.2
 rw [← hp] at p2;rw [hp] at p2;generalize hLs : cp (fA (kp l.length raw)) = Ls at *;have hbl3 := f3.cl f2.wf (f2.cl f1.wf (f1.cl ft.wf hbl (by simpa using hb.2.2)) (by simpa using hb.2.2)) (by simpa using hb.2.2)
 have F3 : Fr s t3 [] := ((ft.trans' f1 (fun j hj => .inr (by simp at hj; omega))).trans' f2 (fun j hj => .inr (by simp at hj; omega))).trans' f3 (fun j hj => .inr (by simp at hj; omega))
 have hn : aM (iv b Ls.length) = some (.i (Ls.length : Nat)) := rfl;have p2' : (K (d + 8)).call 27 [iv b (kp l.length raw).length] t1 = some (.bH [], t2) := p2;have p3' : (K (d + 8)).call 28 [iv b (kp l.length raw).length] t2 = some (iv b Ls.length, t3) := by rw [← hp]; exact p3
 simp -implicitDefEqProofs (disch := first|go_size|fail) only [go_sem, Jn.eq_1, i2, i5, xN, uK, w9, p1, p2', p3', hn]
 refine bf (Q := fun r => dg (aV _ (di (cL 4 r) _)) _) (fun q e u => ∃ (k : Nat) (ov : V) (rows : List (List V)), q = Ls.length - k ∧ k ≤ Ls.length ∧ Fr t3 u [] ∧ GN 3 u ov rows ∧ rows.length = k ∧ (∀ b' ∈ aB ov, t3.next ≤ b') ∧ (∀ (j : Nat) f, j < k → Ls[j]? = some f → ∃ r, rows[j]? = some r ∧ Rw u l Ls r j f fun b' => b' < u.next ∧ b' ∉ aB ov) ∧ g2 e = .ptr bl 0 ∧ g5 e = iv b Ls.length ∧ g10 e = ov ∧ g82 e = iv b Ls.length ∧ g83 e = .i (Ls.length : Nat) ∧ g84 e = .i (k : Nat)) ?_ (n := Ls.length) po ⟨0, .ay, [], po, po, Fr.refl f3.wf _, ⟨pm, .inl ⟨rfl, .inl rfl⟩⟩, rfl, by simp [aB], by intro j f hj; omega, pt, pt, pt, pt, pt, pt⟩
 rintro q e u ⟨k, ov, rows, rfl, hk, fu, hG, hrk, hov, hR, j2, j5, j10, j82, j83, j84⟩;replace j2 : e.a0.a2 = _ := j2;replace j5 : e.a0.a5 = _ := j5;replace j10 : e.a0.a10 = _ := j10;replace j82 : e.a5.a2 = _ := j82;replace j83 : e.a5.a3 = _ := j83;replace j84 : e.a5.a4 = _ := j84;have done : ∀ (t' : St) (ov' : V) (rows' : List (List V)), Fr t3 t' [] → GN 3 t' ov' rows' → rows'.length = Ls.length → (∀ (j : Nat) f, j < Ls.length → Ls[j]? = some f → ∃ r, rows'[j]? = some r ∧ Rw t' l Ls r j f fun b' => b' < t'.next ∧ b' ∉ aB ov') → Fr s t' [] ∧ zN t' ov' l Ls := by
  intro t' ov' rows' k1 k2 k3 k4;refine ⟨F3.trans k1, rows', k2, k3, fun j f hj => ?_⟩
  obtain ⟨r, hr, nv, z1, z2, z3, z4⟩ := k4 j f (List.getElem?_eq_some_iff.1 hj).1 hj;exact ⟨r, hr, nv, z1, z2, z3, fun _ _ => trivial⟩
 by_cases c : (k : Int) < ((Ls.length : Nat) : Int)
 rotate_left
 · have hke : k = Ls.length := po;simp -implicitDefEqProofs (disch := first|go_size|fail) only [go_sem, j2, j5, j10, j82, j83, j84, c]
   exact done u ov rows fu hG po (by rw [← hke]; exact hR)
 obtain ⟨f, hf⟩ : ∃ f, Ls[k]? = some f := ⟨_, List.getElem?_eq_getElem po⟩;have hIu := q3.fr f3.wf fu pm;have hblu := fu.cl f3.wf hbl3 pm;have Fu := F3.trans fu;have hSL := hIu.sl fu.wf;obtain ⟨qq, a1, a2⟩ := hSL.at fu.wf (j := k) (x := .i f) (by rw [List.getElem?_map, hf]; rfl)
 have ld := cS (o := 0) fu.wf hblu pm;simp only [List.getElem?_cons_zero] at ld;obtain ⟨u1, k1, ck1, fk1, nk1⟩ := bu (s := u) (l := [V.i 0, .i 0, .ay]) (n := 3) fu.wf rfl;obtain ⟨u2, k2, ck2, fk2, nk2⟩ := cG (s := u1) (b := u.next) (o := 0) (vs := [V.i f, .i (l.length : Nat), .ay]) (m := 3) fk1.wf ck1 rfl pm (by intro x hx; simp at hx; rcases hx with rfl | rfl | rfl <;> rfl)
 replace ck2 : u2.cl u.next = some [V.i f, .i (l.length : Nat), .ay] := by rw [ck2]; simp [dA]
 have Fk : Fr u u2 [] := fk1.trans' fk2 (fun b hb => .inr (by simp at hb; omega))
 have hbn : b < u.next ∧ bl < u.next := ⟨hIu.lt fu.wf, bQ fu.wf hblu⟩;have hovn := hG.lt fu.wf;have hblov : bl ∉ aB ov := fun hh => by have := hov _ hh; have := bQ f3.wf hbl3; omega
 have go : ∀ (e' : E) (w : St), Fr u w [] → w.cl u.next = some [.i f, .i (ja l Ls k), .ay] → e'.a0.a2 = .ptr bl 0 → e'.a0.a5 = iv b Ls.length → e'.a0.a10 = ov → e'.a0.a13 = .ptr u.next 0 → e'.a5.a2 = iv b Ls.length → e'.a5.a3 = .i (Ls.length : Nat) → e'.a5.a4 = .i (k : Nat) →
  ∀ (N : E → St → Prop) (Q' : aE → Prop), (∀ (e'' : E) (t' : St) (ov' : V) (r : List V), ja l Ls k ≠ (l.length : Nat) → k + 1 < Ls.length → Fr t3 t' [] → GN 3 t' ov' (rows ++ [r]) → (∀ b' ∈ aB ov', t3.next ≤ b') → (∀ (j : Nat) f, j < k + 1 → Ls[j]? = some f → ∃ r', (rows ++ [r])[j]? = some r' ∧ Rw t' l Ls r' j f fun b' => b' < t'.next ∧ b' ∉ aB ov') → e''.a0.a2 = .ptr bl 0 → e''.a0.a5 = iv b Ls.length → e''.a0.a10 = ov' → e''.a5.a2 = iv b Ls.length → e''.a5.a3 = .i (Ls.length : Nat) → e''.a5.a4 = .i (k : Nat) → N e'' t') →
  (∀ (e'' : E) (t' : St) (ov' : V), Fr s t' [] ∧ zN t' ov' l Ls → e''.a0.a10 = ov' → Q' (.exit 4 e'' t')) → og (x_ (K (d + 8)) e' w) N Q' := by
  intro e' w fw hnb z2 z5 z10 z13 z82 z83 z84 N Q' hN hQ;have hGw := hG.fr fu.wf fw pm;refine Zi hw h L hs hin po N Q' d hf (Fu.trans fw) (hIu.fr fu.wf fw pm) (fw.cl fu.wf hblu pm) hnb hGw po z2 z5 z10 z13 ⟨po, po, fun hh => by have := hovn _ hh; omega, hblov⟩ ?_
  intro e'' t' ov' r g1' g2' g3' g4' y1 y2 y5 y10 y82 y83 y84;obtain ⟨m0, m1, m2⟩ := wE hw h L hs hin po (show k < Ls.length by omega)
  have hfw := fw.nx;have hfu := fu.nx;have G1 : Fr t3 t' [] := (fu.trans fw).trans' g1' (fun j hj => by
   simp only [List.mem_cons] at hj;rcases hj with rfl | hj
   · exact .inr hfu
   · exact .inr (hov _ hj))
  have hrows : ∀ (j : Nat) f, j < k + 1 → Ls[j]? = some f → ∃ r', (rows ++ [r])[j]? = some r' ∧ Rw t' l Ls r' j f fun b' => b' < t'.next ∧ b' ∉ aB ov' := by
   intro j f' hj hf';by_cases ej : j = k
   · subst ej;rw [hf] at hf'; cases hf';refine ⟨r, by rw [List.getElem?_append_right po, hrk, Nat.sub_self]; rfl, ?_⟩
     obtain ⟨nv, x1, x2, x3, x4⟩ := g4';exact ⟨nv, x1, x2, x3, fun b' hb' => ⟨(x4 b' hb').2.1, (x4 b' hb').2.2⟩⟩
   · obtain ⟨r', hr', hRw⟩ := hR j f' po hf';refine ⟨r', by rw [List.getElem?_append_left po]; exact hr', ?_⟩
     have hg1n := g1'.nx;exact (hRw.fr (Q := fun b' => b' < w.next ∧ b' ∉ aB ov ∧ b' < u.next) fu.wf fw pm (fun b' hb' => ⟨po, hb'.2, hb'.1⟩)).fr fw.wf g1' (fun b' hb' => by simp only [List.mem_cons, not_or]; exact ⟨po, hb'.2.1⟩) (fun b' hb' => ⟨po, fun hh => by have := g3' b' hh; omega⟩)
  have hovt : ∀ b' ∈ aB ov', t3.next ≤ b' := fun b' hb' => by have := g3' b' hb'; omega
  split
  · rename_i ce;have hke := m2.1 ce;refine hQ e'' t' ov' (done t' ov' (rows ++ [r]) G1 g2' (by rw [List.length_append, hrk]; exact hke) (by rw [← hke]; exact hrows)) y10
  · rename_i ce;exact hN e'' t' ov' r ce (by rcases Nat.lt_or_ge (k + 1) Ls.length with hh | hh; exact hh; exact absurd (m2.2 po) ce) G1 g2' hovt hrows (y2.trans z2) (y5.trans z5) y10 (y82.trans z82) (y83.trans z83) (y84.trans z84)
 by_cases c1 : (k : Int) + 1 < ((Ls.length : Nat) : Int)
 · obtain ⟨f2', hf2⟩ : ∃ f, Ls[k + 1]? = some f := ⟨_, List.getElem?_eq_getElem po⟩;have hto : ja l Ls k = f2' := by unfold ja; rw [hf2]
   obtain ⟨qq2, a3, a4⟩ := (hSL.fr fu.wf Fk pm).at Fk.wf (j := k + 1) (x := .i f2') (by rw [List.getElem?_map, hf2]; rfl)
   replace a3 : aP 1 (iv b Ls.length) (.i ((k : Int) + 1)) = some qq2 := a3;obtain ⟨u3, k3, ck3, fk3, nk3⟩ := cC (s := u2) (b := u.next) (o := 1) (v := .i f2') Fk.wf ck2 pm rfl;simp -implicitDefEqProofs (disch := first|go_size|fail) only [go_sem, j2, j5, j10, j82, j83, j84, hn, c, c1, a1, a2, ld, ln, b3a, a_, k1, k2, a3, a4, k3]
   refine tI (go _ u3 (Fk.trans' fk3 (fun b hb => .inr (by simp at hb; omega))) (by rw [ck3, hto]; rfl) pt pt pt pt pt pt pt _ _ ?_ ?_)
   · intro e'' t' ov' r hne2 hk1 G1 g2 g3 hrows y2 y5 y10 y82 y83 y84;simp -implicitDefEqProofs (disch := first|go_size|fail) only [go_sem, y2, y5, y10, y82, y83, y84]
     exact ⟨Ls.length - (k + 1), po, k + 1, ov', rows ++ [r], rfl, po, G1, g2, by rw [List.length_append, hrk]; rfl, g3, hrows, pt, pt, pt, pt, pt, pt⟩
   · intro e'' t' ov' hh y10;refine ⟨e'', t', rfl, ?_⟩;simp -implicitDefEqProofs (disch := first|go_size|fail) only [go_sem, y10]
     exact hh
 · have hto : ja l Ls k = (l.length : Nat) := by unfold ja; rw [List.getElem?_eq_none po]
   simp -implicitDefEqProofs (disch := first|go_size|fail) only [go_sem, j2, j5, j10, j82, j83, j84, hn, c, c1, a1, a2, ld, ln, b3a, a_, k1, k2]
   refine tI (go _ u2 Fk (by rw [ck2, hto]) pt pt pt pt pt pt pt _ _ ?_ ?_)
   · intro e'' t' ov' r hne2 hk1 G1 g2 g3 hrows y2 y5 y10 y82 y83 y84;simp -implicitDefEqProofs (disch := first|go_size|fail) only [go_sem, y2, y5, y10, y82, y83, y84]
     exact ⟨Ls.length - (k + 1), po, k + 1, ov', rows ++ [r], rfl, po, G1, g2, by rw [List.length_append, hrk]; rfl, g3, hrows, pt, pt, pt, pt, pt, pt⟩
   · intro e'' t' ov' hh y10;refine ⟨e'', t', rfl, ?_⟩;simp -implicitDefEqProofs (disch := first|go_size|fail) only [go_sem, y10]
     exact hh
theorem ago (x y z : Int) (id : Nat) : eS 3 1 [V.i 0, .i 0, .i 0] [(0, 1, .i x), (1, 1, .i y), (2, 1, .i z)] id = some (.slice id 0 3 (some 3) 1, .cells 3 (cK [.i x, .i y, .i z])) := (rfl)
theorem RN.same {es : Nat} {s : St} {v : V} {l : List (List V)} (h : RN es s v l) : dO 100 v v = true := by rcases h.2 with ⟨_, rfl | ⟨b, o, c, rfl⟩⟩ | ⟨b, o, c, n, f, rfl, _⟩; exact jl; exact ep _ _ _ _ _; exact ep _ _ _ _ _
theorem AP.ip {t : St} {v : V} {l : List Int} (h : AP t v l) (h2 : 2 ≤ l.length) : ∃ b, v = iv b l.length ∧ IP t b l := by
 rcases h with ⟨rfl, _⟩ | ⟨b, rfl, hc⟩
 · simp at h2
 · exact ⟨b, rfl, _, hc, pm, fun i x hx => by rw [List.getElem?_map, hx]; rfl⟩
set_option maxHeartbeats 16000000 in
theorem CQ {s : St} (hw : Wf s) {v hv : V} {l : List In} {hs : List Hd} (h : RN 4 s v (l.map In.cells)) (L : Ll l) (hh : RN 4 s hv (hs.map Hd.cells)) (hhl : hs.length ≤ 10000) {raw : List Int} (hrl : raw.length ≤ 10000) (hr2 : 2 ≤ raw.length) {t : St} {e : E} {bl : Nat} {rv : V} (d : Nat) (ft : Fr s t []) (hA : AP t rv raw) (hbl : t.cl bl = some [v]) (hb : s.next ≤ bl ∧ ∀ b ∈ aB rv, s.next ≤ b ∧ b ≠ bl)
 (i1 : e.a0.a1 = hv) (i2 : e.a0.a2 = .ptr bl 0) (i5 : e.a0.a5 = rv) :
 dg (aV (aL [rT g4]) (CP (K (d + 8)) e t)) fun bv t => Fr s t [] ∧ zN t bv l (cp (fA (kp l.length (raw ++ hs.flatMap (iO l))))) := by
 have lh := hh.len;rw [List.length_map] at lh;have hsame := h.same;simp -implicitDefEqProofs (disch := first|go_size|fail) only [go_sem, CP.eq_1, i1, i2, i5, lh]
 refine bf (Q := fun r => dg (aV _ (di (cL 2 r) _)) _) (fun q e u => ∃ (k : Nat) (ov : V), q = hs.length - k ∧ k ≤ hs.length ∧ Fr s u [] ∧ AP u ov (raw ++ (hs.take k).flatMap (iO l)) ∧ u.cl bl = some [v] ∧ (∀ b ∈ aB ov, s.next ≤ b ∧ b ≠ bl) ∧ g2 e = .ptr bl 0 ∧ g5 e = ov ∧ g53 e = hv ∧ g54 e = .i (hs.length : Nat) ∧ g55 e = .i (k : Nat)) ?_ (n := hs.length) po ⟨0, rv, po, po, ft, by simpa using hA, hbl, hb.2, pt, pt, pt, pt, pt⟩
 clear i1 i2 i5 hA hbl ft;rintro q e u ⟨k, ov, rfl, hk, fu, hA, hbl, hov, i2, i5, i53, i54, i55⟩;replace i2 : e.a0.a2 = _ := i2;replace i5 : e.a0.a5 = _ := i5;replace i53 : e.a3.a5 = _ := i53;replace i54 : e.a3.a6 = _ := i54;replace i55 : e.a3.a7 = _ := i55;have hfl : ∀ (ys : List Hd), (ys.flatMap (iO l)).length = 3 * ys.length := fun ys => by
  induction ys with
  | nil => rfl
  | cons y ys ih => rw [List.flatMap_cons, List.length_append, ih]; simp [iO]; omega
 by_cases c : (k : Int) < ((hs.length : Nat) : Int)
 rotate_left
 · have hke : k = hs.length := po;subst hke;rw [List.take_length] at hA;obtain ⟨b, rfl, hI⟩ := hA.ip (by simp; omega)
   simp -implicitDefEqProofs (disch := first|go_size|fail) only [go_sem, i2, i5, i53, i54, i55, c]
   have hb1 := hov b (by simp [iv, aB])
   exact IK hw h L (by rw [List.length_append, hfl]; omega) d fu hI hbl ⟨hb1.1, hb.1, fun e => hb1.2 e.symm⟩ pt pt
 obtain ⟨y, hy⟩ : ∃ y, hs[k]? = some y := ⟨_, List.getElem?_eq_getElem po⟩;obtain ⟨b, o, a1, _, a3, a4⟩ := (hh.fr hw fu pm).at fu.wf (i := k) (x := y.cells) (by rw [List.getElem?_map, hy]; rfl)
 obtain ⟨u1, k1, ck1, fk1, nk1⟩ := bu (s := u) (l := [V.i 0, .i 0, .i 0, .str []]) (n := 4) fu.wf rfl;obtain ⟨u2, k2, ck2, fk2, nk2⟩ := cG (s := u1) (b := u.next) (o := 0) (vs := y.cells) (m := 4) fk1.wf ck1 y.row.1 pm y.row.2;replace ck2 : u2.cl u.next = some y.cells := by rw [ck2]; simp [dA, Hd.cells]
 have Fk : Fr u u2 [] := fk1.trans' fk2 (fun b hb => .inr (by simp at hb; omega))
 have hbl2 := Fk.cl fu.wf hbl pm;obtain ⟨w1, e1, f1⟩ := nu Fk.wf (h.fr hw (fu.trans Fk) pm) L y.at_ (m := d + 8) po;obtain ⟨w2, e2, f2⟩ := nu f1.wf (h.fr hw ((fu.trans Fk).trans f1) pm) L y.from_ (m := d + 8) po;obtain ⟨w3, e3, f3⟩ := nu f2.wf (h.fr hw (((fu.trans Fk).trans f1).trans f2) pm) L y.mw (m := d + 8) po;have ld : ∀ {x : St}, x.cl bl = some [v] → Wf x → cP (.ptr bl 0) x = some v := fun hx hwx => by
  have := cS (o := 0) hwx hx pm
  simpa using this
 have b1 := f1.cl Fk.wf hbl2 pm;have b2 := f2.cl f1.wf b1 pm;have l0 := ld hbl2 Fk.wf;have l1 := ld b1 f1.wf;have l2 := ld b2 f2.wf;have c1 := f1.cl Fk.wf ck2 pm;have c2 := f2.cl f1.wf c1 pm;have r00 : cP (.ptr u.next 0) u2 = some (.i y.from_) := aK Fk.wf ck2 rfl;have r02 : cP (.ptr u.next 2) u2 = some (.i y.at_) := aK Fk.wf ck2 rfl;have r10 : cP (.ptr u.next 0) w1 = some (.i y.from_) := aK f1.wf c1 rfl;have r01 : cP (.ptr u.next 1) u2 = some (.i y.mw) := aK Fk.wf ck2 rfl;have r11 : cP (.ptr u.next 1) w1 = some (.i y.mw) := aK f1.wf c1 rfl;have r21 : cP (.ptr u.next 1) w2 = some (.i y.mw) := aK f2.wf c2 rfl;have F3 := ((Fk.trans f1).trans f2).trans f3;have hov2 := hA.lt fu.wf;obtain ⟨y1, y2, z1, z2, z3, z4, z5⟩ := (hA.fr fu.wf F3 pm).push (n := 3) (xs := iO l y) F3.wf rfl po po (by rw [List.length_append, hfl, List.length_take]; omega)
 replace z1 : w3.new (.cells 3 (cK [V.i (bh l y.at_), .i (bh l y.from_), .i (bh l y.mw)])) = y1 := z1;have htk : raw ++ (hs.take (k + 1)).flatMap (iO l) = raw ++ (hs.take k).flatMap (iO l) ++ iO l y := by rw [List.take_succ, hy, List.flatMap_append]; simp
 have vC := z4.cl F3.wf (f3.cl f2.wf b2 pm) (fun hm => (hov _ hm).2 rfl)
 have hn3 := F3.nx;have hn0 := fu.nx;have hblt := bQ fu.wf hbl;simp -implicitDefEqProofs (disch := first|go_size|fail) only [go_sem, i2, i5, i53, i54, i55, c, a1, a4, a_, k1, k2, l0, l1, l2, r00, r01, r02, r10, r11, r21, e1, e2, e3, eB, hsame, wP, ago, z1, z2]
 refine ⟨hs.length - (k + 1), po, k + 1, _, rfl, po, (fu.trans F3).trans' z4 (fun b hb => .inr (hov b hb).1), by rw [htk]; exact z3, vC, fun b hb => ?_, pt, pt, pt, pt, pt⟩
 simp [iv, aB] at hb; omega
set_option maxHeartbeats 16000000 in
theorem Gr {s : St} (hw : Wf s) {v hv : V} {l : List In} {hs : List Hd} (h : RN 4 s v (l.map In.cells)) (L : Ll l) (hh : RN 4 s hv (hs.map Hd.cells)) (hhl : hs.length ≤ 1000) (hne : l ≠ []) (hlast : ∃ x, l[l.length - 1]? = some x ∧ eN x.op = true) {m : Nat} (hm : 9 ≤ m) :
 ∃ t bv, (K m).call 8 [v, hv] s = some (bv, t) ∧ Fr s t [] ∧ zN t bv l (LL l hs) := by
 obtain ⟨d, rfl⟩ : ∃ d, m = d + 9 := ⟨m - 9, po⟩;have hl := L.len;have hpos : 0 < l.length := List.length_pos_iff.2 hne;have ln := h.len;rw [List.length_map] at ln;have hv1 := h.aee;have z0 : ¬ ((l.length : Nat) : Int) = 0 := po;let Q : V → St → Prop := fun bv t => Fr s t [] ∧ zN t bv l (LL l hs)
 suffices key : dg ((K (d + 9)).call 8 [v, hv] s) Q by
  obtain ⟨x, t, e, h1⟩ := key;exact ⟨t, x, e, h1⟩
 obtain ⟨s1, k1, c1, f1, n1⟩ := bu (s := s) (l := [v]) (n := 1) hw rfl;obtain ⟨s2, k2, c2, f2, n2⟩ := bu (s := s1) (l := [V.i 0]) (n := 1) f1.wf rfl;have l1 := cS (o := 0) f1.wf c1 pm;have c12 := f2.cl f1.wf c1 pm;have l2 := cS (o := 0) f2.wf c12 pm;simp only [List.getElem?_cons_zero] at l1 l2;simp -implicitDefEqProofs (disch := first|go_size|fail) only [op8, go_sem, k1, l1, l2, ln, z0, k2]
 refine bf (Q := fun r => dg (aV _ (di (cL 0 r) _)) _) (fun q e u => ∃ (k : Nat) (ov : V), q = l.length - k ∧ k ≤ l.length ∧ Fr s u [] ∧ AP u ov (0 :: gK l (l.take k) 0) ∧ u.cl s.next = some [v] ∧ (∀ b ∈ aB ov, s.next ≤ b ∧ b ≠ s.next) ∧ g1 e = hv ∧ g2 e = .ptr s.next 0 ∧ g5 e = ov ∧ g22 e = v ∧ g23 e = .i (l.length : Nat) ∧ g24 e = .i (k : Nat)) ?_ (n := l.length) po ⟨0, .slice s1.next 0 1 (some 1) 1, po, po, f1.trans f2, .inl ⟨by simp [gK], s1.next, rfl, c2⟩, c12, by intro b hb; simp [aB] at hb; omega, pt, pt, pt, pt, pt, pt⟩
 clear l1 l2 c12 c1 c2 k1 k2;rintro q e u ⟨k, ov, rfl, hk, fu, hA, hbl, hov, i1, i2, i5, i22, i23, i24⟩;replace i1 : e.a0.a1 = _ := i1;replace i2 : e.a0.a2 = _ := i2;replace i5 : e.a0.a5 = _ := i5;replace i22 : e.a1.a6 = _ := i22;replace i23 : e.a1.a7 = _ := i23;replace i24 : e.a1.a8 = _ := i24;by_cases c : (k : Int) < ((l.length : Nat) : Int)
 rotate_left
 · have hke : k = l.length := po;subst hke;rw [List.take_length] at hA;have hr2 : 2 ≤ (0 :: gK l l 0).length := by
    obtain ⟨x, hx, he⟩ := hlast;have hm : ((l.length - 1 + 1 : Nat) : Int) ∈ gK l l 0 := vi.2 ⟨l.length - 1, x, hx, by unfold eU; rw [he]; simp⟩
    have := List.length_pos_of_mem hm;simp; omega
   have hrl : (0 :: gK l l 0).length ≤ 10000 := by have := qj l l 0; simp; omega
   simp -implicitDefEqProofs (disch := first|go_size|fail) only [go_sem, i1, i2, i5, i22, i23, i24, c]
   exact CQ hw h L hh po hrl hr2 d fu hA hbl ⟨Nat.le_refl _, hov⟩ pt pt pt
 obtain ⟨x, hx⟩ : ∃ x, l[k]? = some x := ⟨_, List.getElem?_eq_getElem po⟩;obtain ⟨q1, q2, q3, q4⟩ := L.op _ x hx;obtain ⟨b, o, a1, _, a3, a4⟩ := (h.fr hw fu pm).at fu.wf (i := k) (x := x.cells) (by rw [List.getElem?_map, hx]; rfl)
 have hrow : Row 4 x.cells := h.1 _ (List.mem_map_of_mem (List.mem_of_getElem? hx));obtain ⟨u1, k1, ck1, fk1, nk1⟩ := bu (s := u) (l := [V.i 0, .i 0, .i 0, .i 0]) (n := 4) fu.wf rfl;obtain ⟨u2, k2, ck2, fk2, nk2⟩ := cG (s := u1) (b := u.next) (o := 0) (vs := x.cells) (m := 4) fk1.wf ck1 hrow.1 pm hrow.2;replace ck2 : u2.cl u.next = some x.cells := by rw [ck2]; simp [dA, In.cells]
 have Fk : Fr u u2 [] := fk1.trans' fk2 (fun b hb => .inr (by simp at hb; omega))
 have hbl2 := Fk.cl fu.wf hbl pm;have l0 := cS (o := 0) Fk.wf hbl2 pm;simp only [List.getElem?_cons_zero] at l0;have r1 : cP (.ptr u.next 1) u2 = some (.i x.op) := aK Fk.wf ck2 rfl;have r2 : cP (.ptr u.next 2) u2 = some (.i x.a) := aK Fk.wf ck2 rfl;have hovl := hA.lt fu.wf;have hsn : s.next ≤ u.next := fu.nx;have hbll := bQ fu.wf hbl;have hAk := hA.fr fu.wf Fk pm;have htk : 0 :: gK l (l.take (k + 1)) 0 = (0 :: gK l (l.take k) 0) ++ eU l k x := by
  have : l.take (k + 1) = l.take k ++ [x] := by rw [List.take_succ, hx]; rfl
  rw [this, nA, List.length_take, show 0 + min k l.length = k by omega]; rfl
 have hlen : (0 :: gK l (l.take k) 0).length ≤ 10000 := by have := qj l (l.take k) 0; rw [List.length_take] at this; simp; omega
 have e1 := Zt (n := x.op) q1 q2 u2 (m := d + 8) po;have e22 := aeq (n := x.op) q1 q2 u2 (m := d + 8) po;cases hbr : gU x.op with
 | false =>
   rw [hbr] at e1;cases hen : eN x.op with
   | false =>
     rw [hen] at e22;have hst : eU l k x = [] := by unfold eU; rw [hbr, hen]; rfl
     simp -implicitDefEqProofs (disch := first|go_size|fail) only [go_sem, i1, i2, i5, i22, i23, i24, c, a1, a4, a_, k1, k2, r1, e1, e22]
     exact ⟨l.length - (k + 1), po, k + 1, ov, rfl, po, fu.trans Fk, by rw [htk, hst, List.append_nil]; exact hAk, hbl2, hov, pt, pt, pt, pt, pt, pt⟩
   | true =>
     rw [hen] at e22;have hst : eU l k x = [((k + 1 : Nat) : Int)] := by unfold eU; rw [hbr, hen]; rfl
     obtain ⟨y1, y2, z1, z2, z3, z4, z5⟩ := hAk.push (n := 1) (xs := [((k + 1 : Nat) : Int)]) Fk.wf rfl po po po;replace z1 : u2.new (.cells 1 (cK [V.i ((k : Int) + 1)])) = y1 := z1;have vC := z4.cl Fk.wf hbl2 (fun hm => (hov _ hm).2 rfl)
     simp -implicitDefEqProofs (disch := first|go_size|fail) only [go_sem, i1, i2, i5, i22, i23, i24, c, a1, a4, a_, k1, k2, r1, e1, e22, z1, z2]
     refine ⟨l.length - (k + 1), po, k + 1, _, rfl, po, (fu.trans Fk).trans' z4 (fun b hb => .inr (hov b hb).1), by rw [htk, hst]; exact z3, vC, fun b hb => ?_, pt, pt, pt, pt, pt, pt⟩
     simp [iv, aB] at hb; have := Fk.nx; omega
 | true =>
   rw [hbr] at e1;have hst : eU l k x = [bh l x.a] ++ [((k + 1 : Nat) : Int)] := by unfold eU; rw [hbr]; rfl
   obtain ⟨w1, g1_, ff⟩ := nu Fk.wf (h.fr hw (fu.trans Fk) pm) L x.a (m := d + 8) po;have F2 := Fk.trans ff;obtain ⟨y1, y2, z1, z2, z3, z4, z5⟩ := (hA.fr fu.wf F2 pm).push (n := 1) (xs := [bh l x.a]) F2.wf rfl po po po;replace z1 : w1.new (.cells 1 (cK [V.i (bh l x.a)])) = y1 := z1;have ck3 := z4.cl F2.wf (ff.cl Fk.wf ck2 pm) (fun hm => by have := hovl _ hm; omega)
   have r3 : cP (.ptr u.next 1) y2 = some (.i x.op) := aK z4.wf ck3 rfl;have e3 := Zt (n := x.op) q1 q2 y2 (m := d + 8) po;rw [hbr] at e3;obtain ⟨y3, y4, x1, x2, x3, x4, x5⟩ := z3.push (n := 1) (xs := [((k + 1 : Nat) : Int)]) z4.wf rfl po po (by rw [List.length_append]; simp; simp at hlen; omega)
   replace x1 : y2.new (.cells 1 (cK [V.i ((k : Int) + 1)])) = y3 := x1;rw [List.length_append, List.length_singleton] at x2 x3;simp only [List.length_cons] at x2;have hw1 := F2.nx;have hbl3 := z4.cl F2.wf (F2.cl fu.wf hbl pm) (fun hm => (hov _ hm).2 rfl)
   have hbl4 := x4.cl z4.wf hbl3 (fun hm => by simp [iv, aB] at hm; omega)
   simp -implicitDefEqProofs (disch := first|go_size|fail) only [go_sem, i1, i2, i5, i22, i23, i24, c, a1, a4, a_, k1, k2, r1, r2, l0, e1, g1_, z1, z2, r3, e3, x1, x2]
   refine ⟨l.length - (k + 1), po, k + 1, _, rfl, po, ((fu.trans F2).trans' z4 (fun b hb => .inr (hov b hb).1)).trans' x4 (fun b hb => .inr (by simp [iv, aB] at hb; omega)), by rw [htk, hst, ← List.append_assoc]; exact x3, hbl4, fun b hb => ?_, pt, pt, pt, pt, pt, pt⟩
   simp [iv, aB] at hb; omega
theorem wQ {n : Int} (h0 : 0 ≤ n) (h1 : n < 256) : ((eD n : Nat) : Int) = n := by unfold eD; omega
theorem Iq {n : Int} (h0 : -128 ≤ n) (h1 : n ≤ 127) : s8 (eD n) = n := by unfold s8 eD; split <;> omega
theorem Q2 {n : Int} (h0 : 0 ≤ n) (h1 : n ≤ 65535) : ((eD (n / 256) * 256 + eD n : Nat) : Int) = n := by unfold eD; omega
theorem OM {n : Int} (h0 : -32768 ≤ n) (h1 : n ≤ 32767) : vD (eD (n / 256) * 256 + eD n) = n := by unfold vD eD; split <;> omega
theorem O9 {bs : List Nat} {p : Nat} {x : In} (ok : XY x) (hat : x.at_ = (p : Int)) (hb : ∀ j n, (encI x)[j]? = some n → de bs (p + j) = n) : eF bs p = x ∧ mz bs p = (encI x).length := by
 obtain ⟨⟨o0, o1, o2, a0', a1', b0', b1'⟩, h132, hn⟩ := ok;have hop : de bs p = eD x.op := by
  have := hb 0 (eD x.op) (by unfold encI; (repeat' split) <;> rfl)
  simpa using this
 have hopI : ((de bs p : Nat) : Int) = x.op := by rw [hop, wQ o0 o1]
 obtain ⟨at_, op, a, b⟩ := x;simp only at hat hopI o0 o1 o2 h132 hn;subst hat;by_cases c : op = 132
 · subst c;have he : encI ⟨p, 132, a, b⟩ = [eD 132, eD a, eD b] := if_pos rfl;rw [he] at hb;have h1 := hb 1 _ rfl;have h2 := hb 2 _ rfl;obtain ⟨q0, q1, q2, q3⟩ := h132 rfl;constructor
   · unfold eF nh;rw [hopI, h1, h2, if_pos rfl, if_pos rfl, Iq q2 q3, wQ q0 po]
     rfl
   · unfold mz; rw [hopI, he]; rfl
 · obtain ⟨hb0, n1, n2, n3⟩ := hn c;subst hb0;rcases fB op with hs | hs | hs | hs
   · exact absurd hs o2
   · have he : encI ⟨p, op, a, 0⟩ = [eD op] := by unfold encI; rw [if_neg c, if_pos hs]
     have hbr : gU op = false := by cases hq : gU op with | false => rfl | true => have := jb hq; omega
     constructor
     · unfold eF nh;rw [hopI, if_neg c, if_neg c, hbr, hs, n1 hs]
       rfl
     · unfold mz; rw [hopI, he, hs]; rfl
   · have he : encI ⟨p, op, a, 0⟩ = [eD op, eD (In.arg ⟨p, op, a, 0⟩)] := by unfold encI; rw [if_neg c, if_neg (by rw [hs]; decide), if_pos hs]
     have hbr : gU op = false := by cases hq : gU op with | false => rfl | true => have := jb hq; omega
     have harg : In.arg ⟨p, op, a, 0⟩ = a := by unfold In.arg; rw [hbr]; rfl
     rw [he, harg] at hb;have h1 := hb 1 _ rfl;obtain ⟨z1, z2⟩ := n2 hs;constructor
     · unfold eF nh;rw [hopI, if_neg c, if_neg c, hbr, hs, if_pos rfl, h1];cases hg : gL op with
       | true => obtain ⟨y0, y1⟩ := z1 hg; simp [Iq y0 y1]
       | false => obtain ⟨y0, y1⟩ := z2 hg; simp [wQ y0 po]
     · unfold mz; rw [hopI, he, hs]; rfl
   · have he : encI ⟨p, op, a, 0⟩ = [eD op, eD (In.arg ⟨p, op, a, 0⟩ / 256), eD (In.arg ⟨p, op, a, 0⟩)] := by unfold encI; rw [if_neg c, if_neg (by rw [hs]; decide), if_neg (by rw [hs]; decide)]
     rw [he] at hb;have h1 := hb 1 _ rfl;have h2 := hb 2 _ rfl;obtain ⟨z1, z2⟩ := n3 hs;constructor
     · unfold eF nh;rw [hopI, if_neg c, if_neg c, hs, if_neg (show ¬ (3 : Int) = 2 by decide), if_pos rfl, h1, h2]
       cases hg : gL op with
       | true =>
         obtain ⟨y0, y1⟩ := z1 hg;rw [if_pos rfl, OM y0 y1];cases hbr : gU op with
         | true =>
           have harg : In.arg ⟨p, op, a, 0⟩ = a - p := by unfold In.arg; rw [hbr]; rfl
           rw [harg, if_pos rfl, show a - (p : Int) + p = a by omega]
         | false =>
           have harg : In.arg ⟨p, op, a, 0⟩ = a := by unfold In.arg; rw [hbr]; rfl
           rw [harg]; rfl
       | false =>
         obtain ⟨y0, y1⟩ := z2 hg;have hbr : gU op = false := by cases hq : gU op with | false => rfl | true => have := wA hq; rw [hg] at this; cases this
         have harg : In.arg ⟨p, op, a, 0⟩ = a := by unfold In.arg; rw [hbr]; rfl
         rw [Q2 y0 y1, hbr, harg]; simp
     · unfold mz; rw [hopI, he, hs]; rfl
theorem ym {I : List In} (ok : ∀ x ∈ I, XY x) (hat : ∀ i x, I[i]? = some x → x.at_ = (((cR (I.take i)).length : Nat) : Int)) : ∀ i, i ≤ I.length → oI (cR I) (I.take i) (cR (I.take i)).length
 | 0, _ => by simp [cR]; exact .nil
 | i + 1, hi => by
   have ih := ym ok hat i po;obtain ⟨x, hx⟩ : ∃ x, I[i]? = some x := ⟨_, List.getElem?_eq_getElem po⟩;have hts : I.take (i + 1) = I.take i ++ [x] := by rw [List.take_succ, hx]; rfl
   have hall : cR I = cR (I.take i) ++ (encI x ++ cR (I.drop (i + 1))) := by
    have : I = I.take i ++ ([x] ++ I.drop (i + 1)) := by
     rw [← List.append_assoc, ← hts, List.take_append_drop]
    conv => lhs; rw [this]
    simp [cR]
   have hok := ok x (List.mem_of_getElem? hx);have hb : ∀ j n, (encI x)[j]? = some n → de (cR I) ((cR (I.take i)).length + j) = n := fun j n hj => by
    have hjl := (List.getElem?_eq_some_iff.1 hj).1;unfold de;rw [List.getD_eq_getElem?_getD, hall, List.getElem?_append_right po, Nat.add_sub_cancel_left, List.getElem?_append_left hjl, hj]; rfl
   obtain ⟨d1, d2⟩ := O9 hok (hat i x hx) hb;have hlen : 0 < (encI x).length := by
    unfold encI; (repeat' split) <;> simp
   have hle : (cR I).length = (cR (I.take i)).length + ((encI x).length + (cR (I.drop (i + 1))).length) := by rw [hall]; simp
   have := oI.snoc (bs := cR I) (I.take i) (cR (I.take i)).length ih po po po;rw [d1, d2] at this;rw [hts, m8, List.length_append];exact this
theorem oI.same {bs : List Nat} {I : List In} {q : Nat} (h : oI bs I q) : ∀ {l : List In} {p : Nat}, oI bs l p → p ≤ q → (p = q ∧ l = I) ∨ (p < q ∧ mz bs p ≠ 0 ∧ p + mz bs p ≤ q) := by
 induction h with
 | nil =>
   intro l p hl hp;have := hl.le;have h0 : l = [] := List.eq_nil_of_length_eq_zero po;exact .inl ⟨po, h0⟩
 | snoc I' q' hI h1 h2 h3 ih =>
   have gap : ∀ {l : List In} {p : Nat}, oI bs l p → ¬ (q' < p ∧ p < q' + mz bs q') := by
    intro l p hl;induction hl with
    | nil => omega
    | snoc l0 p0 hl0 g1 g2 g3 ih0 =>
      intro hb;by_cases c : p0 ≤ q'
      · rcases ih hl0 c with ⟨e, _⟩ | ⟨_, _, e⟩
        · subst e; omega
        · omega
      · exact ih0 ⟨po, po⟩
   intro l p hl hp;by_cases c : p ≤ q'
   · rcases ih hl c with ⟨e, e2⟩ | ⟨e1, e2, e3⟩
     · subst e; exact .inr ⟨po, h2, po⟩
     · exact .inr ⟨po, e2, po⟩
   · have hq : p = q' + mz bs q' := by
      have := gap hl; omega
     refine .inl ⟨hq, ?_⟩;cases hl with
     | nil => omega
     | snoc l0 p0 hl0 g1 g2 g3 =>
       by_cases c0 : p0 ≤ q'
       · rcases ih hl0 c0 with ⟨e, e2⟩ | ⟨_, _, e⟩
         · subst e; rw [e2]
         · omega
       · exact absurd ⟨po, po⟩ (gap hl0)
theorem oI.Iu {bs : List Nat} {I : List In} (h : oI bs I bs.length) (hl : bs.length ≤ 1024) : ¬ Jg bs := by
 rintro (h1 | ⟨l, p, h1, h2, h3⟩)
 · omega
 · rcases h.same h1 po with ⟨e, _⟩ | ⟨_, e1, e2⟩
   · omega
   · omega
theorem kr.made {l : List In} {hr : List (List V)} (h : kr [] l hr) : ∃ ls n hs, Made ls n hs ∧ hr = hs.map (kZ (cD n ls).1) ∧ l = jP n ls := by
 rcases h.ex with ⟨_, h1, h2, _⟩ | ⟨ls, n, hs, M, h1, h2⟩
 · have := h2.le; exact absurd (List.eq_nil_of_length_eq_zero (Nat.le_zero.1 this.2)) h1
 · obtain ⟨J, hlen⟩ := M.ins;have hd : oI (cR (jP n ls)) (jP n ls) (cR (jP n ls)).length := by
    have := ym (I := jP n ls) J.ok J.at_ (jP n ls).length (Nat.le_refl _)
    rwa [List.take_length] at this
   refine ⟨ls, n, hs, M, h1, ?_⟩;rcases h2 with h2 | ⟨_, h2⟩
   · rcases hd.same h2 (Nat.le_refl _) with ⟨_, e⟩ | ⟨e, _⟩
     · exact e
     · omega
   · exact absurd h2 (hd.Iu hlen)
theorem kT {k : Nat} : ∀ (B : List L) (st : List Int × Int), k ∉ cX B → (B.foldl nP st).1[k]? = st.1[k]?
 | [], st, _ => rfl
 | .here l :: B, st, h => by
   simp only [cX, List.mem_cons, not_or] at h;rw [List.foldl_cons, kT B _ h.2];show (st.1.set l st.2)[k]? = _;rw [List.getElem?_set_ne (Ne.symm h.1)]
 | .op o a b :: B, st, h => by rw [List.foldl_cons, kT B _ (by simpa [cX] using h)]; rfl
 | .jmp o l :: B, st, h => by rw [List.foldl_cons, kT B _ (by simpa [cX] using h)]; rfl
theorem jg (P : List Int) : ∀ (B : List L) (st : List In × Int), ∃ r, (B.foldl (fS P) st).1 = st.1 ++ r
 | [], st => ⟨[], pm⟩
 | .here l :: B, st => jg P B st
 | .op o a b :: B, st => by
   obtain ⟨r, h⟩ := jg P B (fS P st (.op o a b));exact ⟨[⟨st.2, o, a, b⟩] ++ r, by rw [List.foldl_cons, h]; simp [fS]⟩
 | .jmp o l :: B, st => by
   obtain ⟨r, h⟩ := jg P B (fS P st (.jmp o l));exact ⟨[⟨st.2, o, P.getD l 0, 0⟩] ++ r, by rw [List.foldl_cons, h]; simp [fS]⟩
theorem nT (P : List Int) : ∀ (B : List L) (st : List In × Int), (∃ x ∈ B, x.ins = true) → ∃ x, (B.foldl (fS P) st).1[st.1.length]? = some x ∧ x.at_ = st.2
 | [], st, h => by simp at h
 | .here l :: B, st, h => nT P B st (by
   obtain ⟨x, hx, hi⟩ := h;rcases List.mem_cons.1 hx with rfl | hx
   · cases hi
   · exact ⟨x, hx, hi⟩)
 | .op o a b :: B, st, h => by
   obtain ⟨r, hr⟩ := jg P B (fS P st (.op o a b));refine ⟨⟨st.2, o, a, b⟩, ?_, rfl⟩;rw [List.foldl_cons, hr]; simp [fS]
 | .jmp o l :: B, st, h => by
   obtain ⟨r, hr⟩ := jg P B (fS P st (.jmp o l));refine ⟨⟨st.2, o, P.getD l 0, 0⟩, ?_, rfl⟩;rw [List.foldl_cons, hr]; simp [fS]
theorem mM (P : List Int) : ∀ (B : List L) (a : List Int × Int) (b : List In × Int), a.2 = b.2 → (B.foldl nP a).2 = (B.foldl (fS P) b).2
 | [], a, b, h => h
 | .here l :: B, a, b, h => mM P B _ _ h
 | .op o x y :: B, a, b, h => mM P B _ _ (by show a.2 + _ = b.2 + _; rw [h])
 | .jmp o l :: B, a, b, h => mM P B _ _ (by show a.2 + _ = b.2 + _; rw [h])
theorem OL (n : Nat) (P : List Int) (B : List L) : (cD n B).2 = (bY P B).2 := mM P B _ _ rfl
section
variable {ls : List L} {n : Nat} {hs : List (Nat × Nat × Nat)} (M : Made ls n hs)
include M
theorem Made.split {k : Nat} {A B : List L} (e : ls = A ++ .here k :: B) : (cD n ls).1.getD k 0 = (cD n A).2 := by
 have hnd : (cX ls).Nodup := M.here.nodup_iff.2 List.nodup_range';have hk : k < n := M.lt (by rw [e]; simp)
 have hkB : k ∉ cX B := by
  rw [e, fH] at hnd;have := (List.nodup_append.1 hnd).2.1;simp only [cX] at this;exact (List.nodup_cons.1 this).1
 rw [List.getD_eq_getElem?_getD];have h1 : (cD n ls).1[k]? = ((cD n A).1.set k (cD n A).2)[k]? := by
  unfold cD;rw [e, List.foldl_append, List.foldl_cons, kT B _ hkB]; rfl
 rw [h1, List.getElem?_set, if_pos rfl, if_pos (by rw [(jz n A).1]; exact hk)]; rfl
theorem Made.Y_ {k : Nat} {A B : List L} (e : ls = A ++ .here k :: B) : ∃ (i : Nat) (x : In), (jP n ls)[i]? = some x ∧ x.at_ = (cD n ls).1.getD k 0 := by
 obtain ⟨l, o, hl, _⟩ := M.last;have hB : ∃ x ∈ B, x.ins = true := by
  rcases List.eq_nil_or_concat B with rfl | ⟨B', x, rfl⟩
  · rw [hl] at e;have := congrArg List.getLast? e;simp at this
  · refine ⟨x, pm, ?_⟩;rw [hl] at e;have := congrArg List.getLast? e;simp [List.getLast?_append, List.getLast?_cons] at this;rw [← this]; rfl
 obtain ⟨x, h1, h2⟩ := nT (cD n ls).1 B (bY (cD n ls).1 A) hB;refine ⟨(bY (cD n ls).1 A).1.length, x, ?_, by rw [h2, M.split e, OL n (cD n ls).1 A]⟩
 have h3 : jP n ls = (B.foldl (fS (cD n ls).1) (bY (cD n ls).1 A)).1 := by
  unfold jP
  conv => lhs; unfold bY; arg 1; arg 3; rw [e]
  rw [List.foldl_append, List.foldl_cons]; rfl
 rw [h3]; exact h1
theorem jM {k : Nat} : ∀ {ls : List L}, k ∈ cX ls → ∃ A B, ls = A ++ .here k :: B
 | .here l :: r, h => by
   simp only [cX, List.mem_cons] at h;rcases h with rfl | h
   · exact ⟨[], r, rfl⟩
   · obtain ⟨A, B, e⟩ := jM h; exact ⟨.here l :: A, B, by rw [e]; rfl⟩
 | .op o a b :: r, h => by obtain ⟨A, B, e⟩ := jM (ls := r) h; exact ⟨.op o a b :: A, B, by rw [e]; rfl⟩
 | .jmp o l :: r, h => by obtain ⟨A, B, e⟩ := jM (ls := r) h; exact ⟨.jmp o l :: A, B, by rw [e]; rfl⟩
theorem Made.found {k : Nat} (hk : k < n) : 0 ≤ bh (jP n ls) ((cD n ls).1.getD k 0) := by
 have hm : k ∈ cX ls := M.here.mem_iff.2 (by simp; exact hk)
 obtain ⟨A, B, e⟩ := jM M hm;obtain ⟨i, x, h1, h2⟩ := M.Y_ e;rcases nZ (jP n ls) ((cD n ls).1.getD k 0) with ⟨_, h⟩ | ⟨j, y, h, _⟩
 · exact absurd h2 (h i x h1)
 · omega
end
section
variable {ls : List L} {n : Nat} {hs : List (Nat × Nat × Nat)} (M : Made ls n hs)
include M
theorem Made.ado : ∃ x, (jP n ls)[(jP n ls).length - 1]? = some x ∧ eN x.op = true := by
 obtain ⟨l, o, hl, ho⟩ := M.last;have e : ∃ J a, jP n ls = J ++ [⟨a, o, 0, 0⟩] := by
  refine ⟨(bY (cD n ls).1 l).1, (bY (cD n ls).1 l).2, ?_⟩;unfold jP;generalize (cD n ls).1 = P;rw [hl, jm]; rfl
 obtain ⟨J, a, e⟩ := e;exact ⟨⟨a, o, 0, 0⟩, by rw [e]; simp, ho⟩
theorem Made.ne : jP n ls ≠ [] := by
 obtain ⟨x, h, _⟩ := M.ado;intro e; rw [e] at h; simp at h
end
section
variable {l : List In} {Ls : List Int} (hs : Ls.Pairwise (· < ·)) (hin : ∀ (k : Nat) f, Ls[k]? = some f → 0 ≤ f ∧ f < (l.length : Nat))
include hs hin
end
section
variable {l : List In} {hs : List Hd}
end
theorem aeV {s : St} (hw : Wf s) {va vb : V} {la lb : List Int} (ha : SL s va (la.map .i)) (hb : SL s vb (lb.map .i)) (hl : la.length ≤ 900000) (d : Nat) : (K (d + 1)).call 21 [va, vb] s = some (.bool (decide (la = lb)), s) := by
 have h1 := ha.len;have h2 := hb.len;rw [List.length_map] at h1 h2;have key : dg ((K (d + 1)).call 21 [va, vb] s) fun x s' => x = .bool (decide (la = lb)) ∧ s' = s := by
  by_cases c : ((la.length : Nat) : Int) = ((lb.length : Nat) : Int)
  · have c' : la.length = lb.length := po;simp -implicitDefEqProofs (disch := first|go_size|fail) only [ab9, go_sem, h1, h2, c]
    refine bf (Q := fun r => dg (aV _ (di (cL 0 r) _)) _) (fun m e t => ∃ j : Nat, m = la.length - j ∧ j ≤ la.length ∧ la.take j = lb.take j ∧ t = s ∧ g0 e = va ∧ g1 e = vb ∧ g5 e = .i j) ?_ (n := la.length) po ⟨0, po, po, pm, rfl, pt, pt, pt⟩
    rintro m e t ⟨j, rfl, hj, ht, rfl, i0, i1, i5⟩;replace i0 : e.a0.a0 = _ := i0;replace i1 : e.a0.a1 = _ := i1;replace i5 : e.a0.a5 = _ := i5;by_cases cj : (j : Int) < ((la.length : Nat) : Int)
    · obtain ⟨x, hx⟩ : ∃ x, la[j]? = some x := ⟨_, List.getElem?_eq_getElem po⟩;obtain ⟨y, hy⟩ : ∃ y, lb[j]? = some y := ⟨_, List.getElem?_eq_getElem po⟩;obtain ⟨q, a1, a2⟩ := ha.at hw (j := j) (x := .i x) (by rw [List.getElem?_map, hx]; rfl)
      obtain ⟨q', b1, b2⟩ := hb.at hw (j := j) (x := .i y) (by rw [List.getElem?_map, hy]; rfl)
      by_cases cx : x = y
      · subst cx;have cj' := cj;rw [c] at cj';simp -implicitDefEqProofs (disch := first|go_size|fail) only [go_sem, i0, i1, i5, h1, h2, cj, cj', a1, a2, b1, b2, eq_self]
        refine ⟨la.length - (j + 1), po, j + 1, rfl, po, ?_, pt, pt, pt, pt⟩;rw [List.take_succ, List.take_succ, ht, hx, hy]
      · have hne : ¬ la = lb := fun e => by rw [e, hy] at hx; cases hx; exact cx rfl
        have cj' := cj;rw [c] at cj';simp -implicitDefEqProofs (disch := first|go_size|fail) only [go_sem, i0, i1, i5, h1, h2, cj, cj', a1, a2, b1, b2, cx]
        exact ⟨by rw [decide_eq_false hne], pt⟩
    · have : j = la.length := po;subst this;have he : la = lb := by rw [List.take_length, c', List.take_length] at ht; exact ht
      simp -implicitDefEqProofs (disch := first|go_size|fail) only [go_sem, i0, i1, i5, h1, h2, cj]
      exact ⟨by rw [decide_eq_true he], pt⟩
  · have hne : ¬ la = lb := fun e => c (by rw [e])
    simp -implicitDefEqProofs (disch := first|go_size|fail) only [ab9, go_sem, h1, h2, c]
    exact ⟨by rw [decide_eq_false hne], pt⟩
 obtain ⟨x, s', e1, rfl, rfl⟩ := key;exact e1
def gQ (n : Int) (st : List Int × Bool) (x : Int) : List Int × Bool :=
 let st' := if n ≤ x ∧ st.2 = false then (st.1 ++ [n], true) else st
 if x ≠ n then (st'.1 ++ [x], st'.2) else st'
def kA (n : Int) (l : List Int) : List Int × Bool := l.foldl (gQ n) ([], false)
def ou (l : List Int) (n : Int) : List Int := if (kA n l).2 = true then (kA n l).1 else (kA n l).1 ++ [n]
theorem nI (n : Int) (l : List Int) (x : Int) : kA n (l ++ [x]) = gQ n (kA n l) x := by unfold kA; rw [List.foldl_append]; rfl
theorem ZN {n x : Int} {st : List Int × Bool} (hd : st.2 = false) (h2 : x = n) : gQ n st x = (st.1 ++ [n], true) := by subst h2; unfold gQ; simp [hd]
theorem aaL {n x : Int} {st : List Int × Bool} (h1 : n ≤ x) (hd : st.2 = false) (h2 : ¬ x = n) : gQ n st x = (st.1 ++ [n] ++ [x], true) := by unfold gQ; simp [hd, h1, h2]
theorem aaJ {n x : Int} {st : List Int × Bool} (hd : st.2 = true) (h2 : x = n) : gQ n st x = st := by subst h2; unfold gQ; simp [hd]
theorem ZH {n x : Int} {st : List Int × Bool} (hd : st.2 = true) (h2 : ¬ x = n) : gQ n st x = (st.1 ++ [x], true) := by unfold gQ; simp [hd, h2]
theorem Zn {n x : Int} {st : List Int × Bool} (h1 : ¬ n ≤ x) (h2 : ¬ x = n) : gQ n st x = (st.1 ++ [x], st.2) := by unfold gQ; simp [h1, h2]
theorem Mq (n : Int) (st : List Int × Bool) (x : Int) : (gQ n st x).1.length ≤ st.1.length + 2 := by
 unfold gQ; simp only; split <;> split <;> simp
theorem uV (n : Int) : ∀ (l : List Int), (kA n l).1.length ≤ 2 * l.length := fun l => by
 rcases List.eq_nil_or_concat l with rfl | ⟨l, x, rfl⟩
 · simp [kA]
 · rw [List.concat_eq_append, nI];have h1 := Mq n (kA n l) x;have h2 := uV n l;simp; omega
termination_by l => l.length
decreasing_by simp_all
theorem GJ (m k : Int) : ou [m] k = pR [m] k := by
 have e : kA k [m] = gQ k ([], false) m := rfl;have p : pR [m] k = if m < k then [m, k] else if k < m then [k, m] else [m] := rfl
 unfold ou;rw [e, p];unfold gQ;by_cases c : k ≤ m
 · by_cases c2 : m = k
   · subst c2; simp
   · have : k < m := po;have h2 : ¬ m < k := po;simp [c, c2, this, h2]
 · have : m < k := po;have h2 : m ≠ k := po;simp [c, this, h2]
theorem psh {s t : St} {ov : V} {o : List Int} (ft : Fr s t []) (hg : GL t ov (o.map V.i)) (hb : ∀ b ∈ aB ov, s.next ≤ b) (ho : o.length ≤ 17596481011712) (x : Int) : ∃ y1 y2 ov', t.new (.cells 1 (cK [V.i x])) = y1 ∧ xM 1 ov (.slice t.next 0 1 (some 1) 1) y1 = some (ov', y2) ∧ GL y2 ov' ((o ++ [x]).map V.i) ∧ Fr s y2 [] ∧ ∀ b ∈ aB ov', s.next ≤ b := by
 obtain ⟨y1, y2, z1, z2, z3, z4, z5⟩ := hg.push ft.wf (x := .i x) rfl (by intro y hy; obtain ⟨w, _, rfl⟩ := List.mem_map.1 hy; rfl) (by rw [List.length_map]; exact ho)
 have := ft.nx;exact ⟨y1, y2, _, z1, z2, by rw [List.map_append]; exact z3, ft.trans' z4 (fun b hb' => .inr (hb b hb')), fun b hb' => by simp [aB] at hb'; omega⟩
set_option maxHeartbeats 4000000 in
theorem Cv {s : St} (hw : Wf s) {v : V} {l : List Int} (h : SL s v (l.map V.i)) (hl : l.length ≤ 100000) (n : Int) {m : Nat} (hm : 1 ≤ m) : ∃ t ov, (K m).call 50 [v, .i n] s = some (ov, t) ∧ GL t ov ((ou l n).map V.i) ∧ Fr s t [] ∧ ∀ b ∈ aB ov, s.next ≤ b := by
 obtain ⟨d, rfl⟩ : ∃ d, m = d + 1 := ⟨m - 1, po⟩;have ln := h.len;rw [List.length_map] at ln;let Q : V → St → Prop := fun ov t => GL t ov ((ou l n).map V.i) ∧ Fr s t [] ∧ ∀ b ∈ aB ov, s.next ≤ b
 suffices key : dg ((K (d + 1)).call 50 [v, .i n] s) Q by
  obtain ⟨x, t, e, h1⟩ := key;exact ⟨t, x, e, h1⟩
 simp -implicitDefEqProofs (disch := first|go_size|fail) only [afL, go_sem, ln]
 refine bf (Q := fun r => dg (aV _ (di (cL 0 r) _)) _) (fun q e t => ∃ (i : Nat) (ov : V), q = l.length - i ∧ i ≤ l.length ∧ Fr s t [] ∧ GL t ov ((kA n (l.take i)).1.map V.i) ∧ (∀ b ∈ aB ov, s.next ≤ b) ∧ g0 e = v ∧ g1 e = .i n ∧ g5 e = ov ∧ g6 e = .bool (kA n (l.take i)).2 ∧ g7 e = .i (i : Nat)) ?_ (n := l.length) po ⟨0, .ay, po, po, Fr.refl hw _, .inl ⟨rfl, rfl⟩, by simp [aB], pt, pt, pt, pt, pt⟩
 rintro q e t ⟨i, ov, rfl, hi, ft, hg, hb, i0, i1, i5, i6, i7⟩;replace i0 : e.a0.a0 = _ := i0;replace i1 : e.a0.a1 = _ := i1;replace i5 : e.a0.a5 = _ := i5;replace i6 : e.a0.a6 = _ := i6;replace i7 : e.a0.a7 = _ := i7;have hpl := uV n (l.take i);rw [List.length_take] at hpl;by_cases c : (i : Int) < ((l.length : Nat) : Int)
 · obtain ⟨x, hx⟩ : ∃ x, l[i]? = some x := ⟨_, List.getElem?_eq_getElem po⟩;have hts : l.take (i + 1) = l.take i ++ [x] := by rw [List.take_succ, hx]; rfl
   obtain ⟨st, hst⟩ : ∃ st, kA n (l.take i) = st := ⟨_, rfl⟩;rw [hst] at hg i6 hpl;obtain ⟨q, a1, a2⟩ := h.fr hw ft pm |>.at ft.wf (j := i) (x := .i x) (by rw [List.getElem?_map, hx]; rfl)
   have fin : ∀ (u : St) (ov' : V) (dn : Bool), Fr s u [] → GL u ov' ((gQ n st x).1.map V.i) → (∀ b ∈ aB ov', s.next ≤ b) → dn = (gQ n st x).2 → ∃ m, m < l.length - i ∧ ∃ (i_1 : Nat) (ov : V), m = l.length - i_1 ∧ i_1 ≤ l.length ∧ Fr s u [] ∧ GL u ov ((kA n (l.take i_1)).1.map V.i) ∧ (∀ b ∈ aB ov, s.next ≤ b) ∧ True ∧ True ∧ ov' = ov ∧ V.bool dn = V.bool (kA n (l.take i_1)).2 ∧ V.i ((i : Int) + 1) = V.i ((i_1 : Nat) : Int) := fun u ov' dn fu gu hb' hd' =>
    ⟨l.length - (i + 1), po, i + 1, ov', rfl, po, fu, by rw [hts, nI, hst]; exact gu, hb', trivial, trivial, rfl, by rw [hts, nI, hst, hd'], rfl⟩
   by_cases c1 : x ≥ n
   · cases hd : st.2 with
     | false =>
       rw [hd] at i6;obtain ⟨y1, y2, ov1, z1, z2, z3, z4, z5⟩ := psh ft hg hb po n;obtain ⟨q', a1', a2'⟩ := h.fr hw z4 pm |>.at z4.wf (j := i) (x := .i x) (by rw [List.getElem?_map, hx]; rfl)
       have : q' = q := by rw [a1] at a1'; exact (Option.some.inj a1').symm
       subst this;by_cases c2 : x = n
       · have hp : gQ n st x = (st.1 ++ [n], true) := ZN hd c2;subst c2;simp -implicitDefEqProofs (disch := first|go_size|fail) only [go_sem, i0, i1, i5, i6, i7, ln, c, a1, a2, a2', c1, z1, z2, eq_self]
         exact fin y2 ov1 true z4 (by rw [hp]; exact z3) z5 (by rw [hp])
       · have hp : gQ n st x = (st.1 ++ [n] ++ [x], true) := aaL c1 hd c2;obtain ⟨w1, w2, ov2, u1, u2, u3, u4, u5⟩ := psh z4 z3 z5 (by simp; omega) x
         simp -implicitDefEqProofs (disch := first|go_size|fail) only [go_sem, i0, i1, i5, i6, i7, ln, c, a1, a2, a2', c1, z1, z2, c2, u1, u2]
         exact fin w2 ov2 true u4 (by rw [hp]; exact u3) u5 (by rw [hp])
     | true =>
       rw [hd] at i6;by_cases c2 : x = n
       · have hp : gQ n st x = st := aaJ hd c2;subst c2;simp -implicitDefEqProofs (disch := first|go_size|fail) only [go_sem, i0, i1, i5, i6, i7, ln, c, a1, a2, c1, eq_self]
         exact fin t ov true ft (by rw [hp]; exact hg) hb (by rw [hp, hd])
       · have hp : gQ n st x = (st.1 ++ [x], true) := ZH hd c2;obtain ⟨w1, w2, ov2, u1, u2, u3, u4, u5⟩ := psh ft hg hb po x;simp -implicitDefEqProofs (disch := first|go_size|fail) only [go_sem, i0, i1, i5, i6, i7, ln, c, a1, a2, c1, c2, u1, u2]
         exact fin w2 ov2 true u4 (by rw [hp]; exact u3) u5 (by rw [hp])
   · have c2 : ¬ x = n := po;have hp : gQ n st x = (st.1 ++ [x], st.2) := Zn c1 c2;obtain ⟨w1, w2, ov2, u1, u2, u3, u4, u5⟩ := psh ft hg hb po x;simp -implicitDefEqProofs (disch := first|go_size|fail) only [go_sem, i0, i1, i5, i6, i7, ln, c, a1, a2, c1, c2, u1, u2]
     exact fin w2 ov2 st.2 u4 (by rw [hp]; exact u3) u5 (by rw [hp])
 · have : i = l.length := po;subst this;rw [List.take_length] at hg i6 hpl;cases hd : (kA n l).2 with
   | true =>
     rw [hd] at i6;simp -implicitDefEqProofs (disch := first|go_size|fail) only [go_sem, i0, i1, i5, i6, i7, ln, c]
     exact ⟨by unfold ou; rw [if_pos hd]; exact hg, ft, hb⟩
   | false =>
     rw [hd] at i6;obtain ⟨w1, w2, ov2, u1, u2, u3, u4, u5⟩ := psh ft hg hb po n;simp -implicitDefEqProofs (disch := first|go_size|fail) only [go_sem, i0, i1, i5, i6, i7, ln, c, u1, u2]
     exact ⟨by unfold ou; rw [if_neg (by rw [hd]; simp)]; exact u3, u4, u5⟩
set_option maxHeartbeats 4000000 in
theorem xJ {s : St} (hw : Wf s) {v : V} {l : List In} (h : RN 4 s v (l.map In.cells)) (L : Ll l) (n : Int) {m : Nat} (hm : 2 ≤ m) : ∃ t ov, (K m).call 32 [v, .i n] s = some (ov, t) ∧ GL t ov ((c_ l n).map V.i) ∧ Fr s t [] ∧ ∀ b ∈ aB ov, s.next ≤ b ∧ b < t.next := by
 obtain ⟨d, rfl⟩ : ∃ d, m = d + 1 := ⟨m - 1, po⟩;have hl := L.len;have ln := h.len;rw [List.length_map] at ln;let Q : V → St → Prop := fun ov t => GL t ov ((c_ l n).map V.i) ∧ Fr s t [] ∧ ∀ b ∈ aB ov, s.next ≤ b ∧ b < t.next
 suffices key : dg ((K (d + 1)).call 32 [v, .i n] s) Q by
  obtain ⟨x, t, e, h1⟩ := key;exact ⟨t, x, e, h1⟩
 by_cases c0 : n < 0
 · simp -implicitDefEqProofs (disch := first|go_size|fail) only [JO, go_sem, ln, c0]
   exact ⟨by rw [kV (.inl c0)]; exact .inl ⟨rfl, rfl⟩, Fr.refl hw _, by simp [aB]⟩
 by_cases c1 : n ≥ ((l.length : Nat) : Int)
 · simp -implicitDefEqProofs (disch := first|go_size|fail) only [JO, go_sem, ln, c0, c1]
   exact ⟨by rw [kV (.inr c1)]; exact .inl ⟨rfl, rfl⟩, Fr.refl hw _, by simp [aB]⟩
 obtain ⟨i, rfl⟩ : ∃ i : Nat, n = i := ⟨n.toNat, po⟩;obtain ⟨x, hx⟩ : ∃ x, l[i]? = some x := ⟨_, List.getElem?_eq_getElem po⟩;obtain ⟨q1, q2, q3, q4⟩ := L.op _ x hx;have hN := vo hx;have rest15 : ∀ (e : E) (t : St) (ov : V), Fr s t [] → GL t ov ((nO l (i : Nat) x).map V.i) → (∀ b ∈ aB ov, s.next ≤ b ∧ b < t.next) → e.a0.a0 = v → e.a0.a1 = .i (i : Nat) → e.a0.a5 = ov → dg (aV (aL [rT g4]) (pJ (K d) e t)) Q := by
  intro e t ov ft hg hbb i0 i1 i5;have hA := sC l (i : Nat) x;obtain ⟨b, o, a1, _, a3, _⟩ := (h.fr hw ft pm).at ft.wf (i := i) (x := x.cells) (by rw [List.getElem?_map, hx]; rfl)
  have r1 := a3 1 _ rfl;have r2 := a3 2 _ rfl;have e1 := oo (n := x.op) q1 q2 t (m := d) po;have e2 := iu ft.wf (h.fr hw ft pm) x.a (m := d) po hl;cases hbr : gU x.op with
  | false =>
    rw [hbr] at e1;simp -implicitDefEqProofs (disch := first|go_size|fail) only [go_sem, pJ.eq_1, sQ.eq_1, i0, i1, i5, a1, r1, r2, e1]
    exact ⟨by rw [hN]; unfold OJ; rw [hbr]; simp; exact hg, ft, hbb⟩
  | true =>
    rw [hbr] at e1;by_cases ck : bh l x.a ≥ 0
    · obtain ⟨t1, ov1, e3, g3, f3, vC⟩ := Cv ft.wf (hg.sl ft.wf) (by rcases hA with h | h <;> rw [h] <;> simp) (bh l x.a) (m := d) po
      simp -implicitDefEqProofs (disch := first|go_size|fail) only [go_sem, pJ.eq_1, sQ.eq_1, i0, i1, i5, a1, r1, r2, e1, e2, ck, e3]
      refine ⟨?_, ft.trans f3, fun b hb => ⟨Nat.le_trans ft.nx (vC b hb), g3.lt f3.wf b hb⟩⟩
      have hp : ou (nO l (i : Nat) x) (bh l x.a) = pR (nO l (i : Nat) x) (bh l x.a) := by
       rcases hA with h | h <;> rw [h]
       · rfl
       · exact GJ _ _
      rw [hN]; unfold OJ; rw [if_pos ⟨hbr, ck⟩, ← hp]; exact g3
    · simp -implicitDefEqProofs (disch := first|go_size|fail) only [go_sem, pJ.eq_1, sQ.eq_1, i0, i1, i5, a1, r1, r2, e1, e2, ck]
      exact ⟨by rw [hN]; unfold OJ; rw [if_neg (fun hh => ck hh.2)]; exact hg, ft, hbb⟩
 obtain ⟨b, o, a1, _, a3, _⟩ := h.at hw (i := i) (x := x.cells) (by rw [List.getElem?_map, hx]; rfl)
 have r1 := a3 1 _ rfl;have e1 := aap (n := x.op) q1 q2 s (m := d) po;cases he : eN x.op with
 | true =>
   rw [he] at e1;simp -implicitDefEqProofs (disch := first|go_size|fail) only [JO, go_sem, ln, c0, c1, a1, r1, e1]
   exact rest15 _ s .ay (Fr.refl hw _) (by unfold nO; rw [he]; simp; exact .inl ⟨rfl, rfl⟩) (by simp [aB]) pt pt pt
 | false =>
   rw [he] at e1;by_cases c2 : (i : Int) + 1 < ((l.length : Nat) : Int)
   · obtain ⟨t1, ov1, e3, g3, f3, vC⟩ := Cv (v := .ay) (l := []) hw (.inl ⟨rfl, .inl rfl⟩) pm ((i : Int) + 1) (m := d) po;simp -implicitDefEqProofs (disch := first|go_size|fail) only [JO, go_sem, ln, c0, c1, a1, r1, e1, c2, e3]
     exact rest15 _ t1 ov1 f3 (by unfold nO; rw [if_pos ⟨he, c2⟩]; exact g3) (fun b hb => ⟨vC b hb, g3.lt f3.wf b hb⟩) pt pt pt
   · simp -implicitDefEqProofs (disch := first|go_size|fail) only [JO, go_sem, ln, c0, c1, a1, r1, e1, c2]
     exact rest15 _ s .ay (Fr.refl hw _) (by unfold nO; rw [if_neg (fun hh => c2 hh.2)]; exact .inl ⟨rfl, rfl⟩) (by simp [aB]) pt pt pt
theorem Qd {s : St} (hw : Wf s) {v : V} {l : List In} (h : RN 4 s v (l.map In.cells)) (L : Ll l) (n : Int) {m : Nat} (hm : 2 ≤ m) : ∃ t ov, (K m).call 32 [v, .i n] s = some (ov, t) ∧ SL t ov ((c_ l n).map V.i) ∧ Fr s t [] ∧ ∀ b ∈ aB ov, s.next ≤ b ∧ b < t.next := by
 obtain ⟨t, ov, a, b, c, d⟩ := xJ hw h L n hm;exact ⟨t, ov, a, b.sl c.wf, c, d⟩
def qK (n : Int) (o : List Int × Bool) (x : Int) : List Int × Bool := (o.1 ++ (if n ≤ x ∧ o.2 = false then [n] else []) ++ (if x = n then [] else [x]), o.2 || decide (n ≤ x))
def gZ (l : List Int) (n : Int) : List Int × Bool := l.foldl (qK n) ([], false)
def CW (l : List Int) (n : Int) : List Int := if (gZ l n).2 = true then (gZ l n).1 else (gZ l n).1 ++ [n]
theorem zE (l : List Int) (n x : Int) : gZ (l ++ [x]) n = qK n (gZ l n) x := by unfold gZ; rw [List.foldl_append]; rfl
theorem xo (n : Int) : ∀ (l : List Int), l.Pairwise (· < ·) → ((gZ l n).2 = true ↔ ∃ x ∈ l, n ≤ x) ∧ (∀ z, z ∈ (gZ l n).1 ↔ (z ∈ l ∧ z ≠ n) ∨ (z = n ∧ (gZ l n).2 = true)) ∧ (gZ l n).1.Pairwise (· < ·) := fun l h => by
 rcases List.eq_nil_or_concat l with rfl | ⟨l, x, rfl⟩
 · simp [gZ]
 · rw [List.concat_eq_append] at *;obtain ⟨h1, _, h3⟩ := List.pairwise_append.1 h;obtain ⟨i1, i2, i3⟩ := xo n l h1;have hx : ∀ z ∈ l, z < x := fun z hz => h3 z hz x pm
   rw [zE];have e2 : (qK n (gZ l n) x).2 = ((gZ l n).2 || decide (n ≤ x)) := rfl
   have e1 : (qK n (gZ l n) x).1 = (gZ l n).1 ++ (if n ≤ x ∧ (gZ l n).2 = false then [n] else []) ++ (if x = n then [] else [x]) := rfl
   have a2 : (qK n (gZ l n) x).2 = true ↔ ∃ y ∈ l ++ [x], n ≤ y := by
    rw [e2, Bool.or_eq_true, i1, decide_eq_true_eq];constructor
    · rintro (⟨y, hy, h⟩ | h)
      · exact ⟨y, by simp [hy], h⟩
      · exact ⟨x, pm, h⟩
    · rintro ⟨y, hy, hny⟩;rcases List.mem_append.1 hy with hy | hy
      · exact .inl ⟨y, hy, hny⟩
      · simp at hy; rw [hy] at hny; exact .inr hny
   refine ⟨a2, fun z => ?_, ?_⟩
   · rw [e1, List.mem_append, List.mem_append, i2, e2, Bool.or_eq_true, decide_eq_true_eq, List.mem_append, List.mem_singleton];cases hd : (gZ l n).2 with
     | true =>
       rw [if_neg pm];by_cases hxn : x = n
       · subst hxn; rw [if_pos rfl]; simp; constructor
         · rintro (h | h); exact .inl ⟨.inl h.1, h.2⟩; exact .inr h
         · rintro (⟨h1 | h1, h2⟩ | h); exact .inl ⟨h1, h2⟩; exact absurd h1 h2; exact .inr h
       · rw [if_neg hxn]; simp; constructor
         · rintro ((h | h) | h); exact .inl ⟨.inl h.1, h.2⟩; exact .inr h; exact .inl ⟨.inr h, by rw [h]; exact hxn⟩
         · rintro (⟨h1 | h1, h2⟩ | h); exact .inl (.inl ⟨h1, h2⟩); exact .inr h1; exact .inl (.inr h)
     | false =>
       by_cases hnx : n ≤ x
       · rw [if_pos ⟨hnx, rfl⟩];by_cases hxn : x = n
         · subst hxn; rw [if_pos rfl]; simp; constructor
           · rintro (h | h); exact .inl ⟨.inl h.1, h.2⟩; exact .inr h
           · rintro (⟨h1 | h1, h2⟩ | h); exact .inl ⟨h1, h2⟩; exact absurd h1 h2; exact .inr h
         · rw [if_neg hxn]; simp [hnx]; constructor
           · rintro ((h | h) | h); exact .inl ⟨.inl h.1, h.2⟩; exact .inr h; exact .inl ⟨.inr h, by rw [h]; exact hxn⟩
           · rintro (⟨h1 | h1, h2⟩ | h); exact .inl (.inl ⟨h1, h2⟩); exact .inr h1; exact .inl (.inr h)
       · rw [if_neg (by simp [hnx]), if_neg po]; simp [hnx]; constructor
         · rintro (h | h); exact ⟨.inl h.1, h.2⟩; exact ⟨.inr h, po⟩
         · rintro ⟨h1 | h1, h2⟩; exact .inl ⟨h1, h2⟩; exact .inr h1
   · rw [e1];have hlt : ∀ z ∈ (gZ l n).1, (z ∈ l ∧ z ≠ n) ∨ (z = n ∧ (gZ l n).2 = true) := fun z hz => (i2 z).1 hz
     have hdn : (gZ l n).2 = true → n < x := fun hd => by
      obtain ⟨y, hy, h⟩ := i1.1 hd;have := hx y hy; omega
     have hnd : (gZ l n).2 = false → ∀ z ∈ l, z < n := fun hd z hz => by
      rcases (show z < n ∨ n ≤ z by omega) with h | h
      · exact h
      · have := i1.2 ⟨z, hz, h⟩; rw [hd] at this; cases this
     refine List.pairwise_append.2 ⟨List.pairwise_append.2 ⟨i3, by split <;> simp, fun a ha b hb => ?_⟩, by split <;> simp, fun a ha b hb => ?_⟩
     · split at hb
       · rename_i hc;simp at hb; subst hb;rcases hlt a ha with h | h
         · exact hnd hc.2 a h.1
         · rw [hc.2] at h; cases h.2
       · simp at hb
     · split at hb
       · simp at hb
       · rename_i hxn;simp at hb; subst hb;rcases List.mem_append.1 ha with ha | ha
         · rcases hlt a ha with h | h
           · exact hx a h.1
           · rw [h.1]; exact hdn h.2
         · split at ha
           · rename_i hc;simp at ha; subst ha; omega
           · simp at ha
termination_by l => l.length
decreasing_by simp_wf; simp_all
theorem Pa {l : List Int} (h : l.Pairwise (· < ·)) (n : Int) : (CW l n).Pairwise (· < ·) ∧ ∀ z, z ∈ CW l n ↔ z ∈ l ∨ z = n := by
 obtain ⟨h1, h2, h3⟩ := xo n l h;unfold CW;cases hd : (gZ l n).2 with
 | true =>
   rw [if_pos rfl];refine ⟨h3, fun z => ?_⟩
   rw [h2, hd];by_cases hz : z = n
   · simp [hz]
   · simp [hz]
 | false =>
   rw [if_neg pm];have hnd : ∀ z ∈ l, z < n := fun z hz => by
    rcases (show z < n ∨ n ≤ z by omega) with h | h
    · exact h
    · have := h1.2 ⟨z, hz, h⟩; rw [hd] at this; cases this
   refine ⟨List.pairwise_append.2 ⟨h3, pm, fun a ha b hb => ?_⟩, fun z => ?_⟩
   · simp at hb; subst hb;rcases (h2 a).1 ha with h | h
     · exact hnd a h.1
     · rw [hd] at h; cases h.2
   · rw [List.mem_append, h2, hd, List.mem_singleton];by_cases hz : z = n
     · simp [hz]
     · simp [hz]
theorem aaq {a b : List Int} (ha : a.Pairwise (· < ·)) (hb : b.Pairwise (· < ·)) (h : ∀ z, z ∈ a ↔ z ∈ b) : a = b := by
 refine List.Perm.eq_of_pairwise (le := fun x y => x < y) (fun x y _ _ h1 h2 => by omega) ha hb ?_
 refine (List.perm_ext_iff_of_nodup ?_ ?_).2 h
 · exact ha.imp fun h => po
 · exact hb.imp fun h => po
theorem O4 {l : List Int} (h : l.Pairwise (· < ·)) (n : Int) : (ou l n).Pairwise (· < ·) ∧ ∀ z, z ∈ ou l n ↔ z ∈ l ∨ z = n := by
 have e0 : gQ n = qK n := by
  funext o x
  obtain ⟨o, d⟩ := o;unfold gQ qK;by_cases c1 : n ≤ x <;> by_cases c2 : x = n <;> cases d <;> simp [c1, c2]
 have e : ou l n = CW l n := by unfold ou CW gZ kA; rw [e0]
 rw [e]; exact Pa h n
theorem qt {s : St} (hw : Wf s) {v lv : V} {l : List Int} {N : Nat} (h : SL s v (l.map V.i)) (hlv : aM lv = some (.i (N : Nat))) (hs : l.Pairwise (· < ·)) (hl : l.length ≤ 100000) (hb : ∀ b ∈ aB v, b < s.next) (n : Int) (d : Nat) : ∃ (t : St) (ov : V) (l2 : List Int), (K (d + 2)).call 31 [v, lv, .i n] s = some (ov, t) ∧ SL t ov (l2.map V.i) ∧ Fr s t [] ∧ (∀ b ∈ aB ov, b < t.next) ∧ l2.Pairwise (· < ·) ∧ ∀ z, z ∈ l2 ↔ z ∈ l ∨ (z = n ∧ rL N n = true) := by
 by_cases c0 : n < 0
 · have : rL N n = false := by unfold rL; simp; omega
   refine ⟨s, v, l, ?_, h, Fr.refl hw _, hb, hs, by rw [this]; simp⟩
   simp -implicitDefEqProofs (disch := first|go_size|fail) only [aaw, go_sem, c0]
 by_cases c1 : n ≥ ((N : Nat) : Int)
 · have : rL N n = false := by unfold rL; simp; omega
   refine ⟨s, v, l, ?_, h, Fr.refl hw _, hb, hs, by rw [this]; simp⟩
   simp -implicitDefEqProofs (disch := first|go_size|fail) only [aaw, go_sem, hlv, c0, c1]
 have : rL N n = true := by rw [kN]; omega
 obtain ⟨t, ov, e, h1, h2, _⟩ := Cv hw h hl n (m := d + 1) po;obtain ⟨p1, p2⟩ := O4 hs n;refine ⟨t, ov, ou l n, ?_, h1.sl h2.wf, h2, h1.lt h2.wf, p1, fun z => by rw [p2, this]; simp⟩
 simp -implicitDefEqProofs (disch := first|go_size|fail) only [aaw, go_sem, hlv, c0, c1, e]
theorem Ak {N : Nat} {Ls : List Int} (hs : Ls.Pairwise (· < ·)) (hin : ∀ (k : Nat) f, Ls[k]? = some f → 0 ≤ f ∧ f < (N : Nat)) : Ls.length ≤ N := by
 rcases Nat.lt_or_ge N Ls.length with hh | hh
 · exfalso;have key : ∀ (k : Nat) f, Ls[k]? = some f → (k : Int) ≤ f := fun k => by
    induction k with
    | zero => intro f hf; exact (hin 0 f hf).1
    | succ k ih =>
      intro f hf;obtain ⟨g, hg⟩ : ∃ g, Ls[k]? = some g := ⟨_, List.getElem?_eq_getElem (by have := (List.getElem?_eq_some_iff.1 hf).1; omega)⟩
      have := ih g hg;have := w_ hs (show k < k + 1 by omega) hg hf
      omega
   obtain ⟨f, hf⟩ : ∃ f, Ls[N]? = some f := ⟨_, List.getElem?_eq_getElem hh⟩;have := key N f hf;have := (hin N f hf).2;omega
 · exact hh
def fj (Ls : List Int) (n : Int) (j : Nat) : List Int := match fi Ls n with | some i => if i < j then [(i : Int)] else [] | none => []
theorem Ph (Ls : List Int) (n : Int) : fj Ls n 0 = [] := by unfold fj; cases fi Ls n <;> simp
theorem YM {Ls : List Int} (hs : Ls.Pairwise (· < ·)) {n : Int} {j : Nat} (h : Ls[j]? = some n) : fj Ls n j = [] ∧ fj Ls n (j + 1) = [(j : Int)] := by unfold fj; rw [xq hs h]; simp
theorem XE {Ls : List Int} {n : Int} {i : Nat} (h : fi Ls n = some i) : Ls[i]? = some n := by
 unfold fi at h; rw [List.findIdx?_eq_some_iff_getElem] at h;obtain ⟨h1, h2, _⟩ := h;rw [List.getElem?_eq_getElem h1]; simpa using h2
theorem Qr {Ls : List Int} {n y : Int} {j : Nat} (h : Ls[j]? = some y) (hy : y ≠ n) : fj Ls n (j + 1) = fj Ls n j := by
 unfold fj;cases hf : fi Ls n with
 | none => rfl
 | some i =>
   have h1 := XE hf;have : i ≠ j := fun e => by subst e; rw [h] at h1; cases h1; exact hy rfl
   simp only;by_cases c : i < j
   · rw [if_pos c, if_pos po]
   · rw [if_neg c, if_neg po]
theorem Y3 (Ls : List Int) (n : Int) : fj Ls n Ls.length = (match fi Ls n with | some i => [(i : Int)] | none => []) := by
 unfold fj;cases hf : fi Ls n with
 | none => rfl
 | some i =>
   have := (List.getElem?_eq_some_iff.1 (XE hf)).1;simp only; rw [if_pos this]
section
variable {s : St} (hw : Wf s) {v : V} {l : List In} (h : RN 4 s v (l.map In.cells)) (L : Ll l) {Ls : List Int} (hs : Ls.Pairwise (· < ·)) (hin : ∀ (k : Nat) f, Ls[k]? = some f → 0 ≤ f ∧ f < (l.length : Nat)) (hLl : Ls.length ≤ 100000)
include hw h L hs hin hLl
set_option maxHeartbeats 8000000 in
theorem aaa {u : St} {e : E} {nb k : Nat} {f : Int} {ov lv : V} {rows : List (List V)} (N : E → St → Prop) (Q : aE → Prop) (d : Nat) (hk : Ls[k]? = some f) (fu : Fr s u []) (hI : SL u lv (Ls.map V.i)) (hlb : ∀ b ∈ aB lv, b ≠ nb) (hnb : u.cl nb = some [.i f, .i (ja l Ls k), .ay])
 (hG : GN 3 u ov rows) (hrl : rows.length ≤ 100000) (i0 : e.a0.a0 = v) (i5 : e.a0.a5 = lv) (i8 : e.a0.a8 = ov) (i10 : e.a0.a10 = .ptr nb 0)
 (hne : nb ∉ aB ov)
 (key : ∀ (e' : E) (t : St) (ov' : V) (r : List V), Fr u t (nb :: aB ov) → GN 3 t ov' (rows ++ [r]) → (∀ b ∈ aB ov', u.next ≤ b) → (Rw t l Ls r k f fun b => u.next ≤ b ∧ b < t.next ∧ b ∉ aB ov') → e'.a0.a0 = v → e'.a0.a5 = lv → e'.a0.a8 = ov' → e'.a0.a9 = e.a0.a9 → N e' t) :
 og (xD (K (d + 8)) e u) N Q := by
 have hkl := (List.getElem?_eq_some_iff.1 hk).1;obtain ⟨t0, t1_, t2_⟩ := wE hw h L hs hin hLl hkl;have hl := L.len;have r1 : cP (.ptr nb 1) u = some (.i (ja l Ls k)) := aK fu.wf hnb rfl;obtain ⟨w, nv, x1, x2, x3, x4⟩ := Qd fu.wf (h.fr hw fu pm) L (ja l Ls k - 1) (m := d + 8) po;have nl := x2.len;rw [List.length_map] at nl;have hnl := jr l (ja l Ls k - 1);have hnvb : ∀ b ∈ aB nv, b ≠ nb := fun b hb => by have := (x4 b hb).1; have := bQ fu.wf hnb; omega
 have lLs := hI.len;rw [List.length_map] at lLs;simp -implicitDefEqProofs (disch := first|go_size|fail) only [go_sem, xD.eq_1, i0, i5, i8, i10, r1, x1]
 generalize hNs : c_ l (ja l Ls k - 1) = Ns at *;refine bf (Q := fun r => og (di (cL 6 r) _) _ _) (fun q e2 y => ∃ (j : Nat) (cv : V), q = Ns.length - j ∧ j ≤ Ns.length ∧ Fr w y [nb] ∧ y.cl nb = some [.i f, .i (ja l Ls k), cv] ∧ GL y cv ((ixs Ls (Ns.take j)).map V.i) ∧ (∀ b ∈ aB cv, w.next ≤ b) ∧ e2.a0.a0 = v ∧ e2.a0.a5 = lv ∧ e2.a0.a8 = ov ∧ e2.a0.a9 = e.a0.a9 ∧ e2.a0.a10 = .ptr nb 0 ∧ e2.a0.a11 = nv ∧ e2.a0.a12 = .i (j : Nat)) ?_ (n := Ns.length) po ⟨0, .ay, po, po, Fr.refl x3.wf _, x3.cl fu.wf hnb pm, .inl ⟨rfl, rfl⟩, by simp [aB], pt, pt, pt, pt, pt, pt, pt⟩
 rintro q e2 y ⟨j, cv, rfl, hj, fy, hny, hg, hcb, j0, j5, j8, j9, j10, j11, j12⟩;have hnl2 : nb < w.next := Nat.lt_of_lt_of_le (bQ fu.wf hnb) x3.nx;by_cases c : (j : Int) < ((Ns.length : Nat) : Int)
 · obtain ⟨n, hn⟩ : ∃ n, Ns[j]? = some n := ⟨_, List.getElem?_eq_getElem po⟩;have htk : Ns.take (j + 1) = Ns.take j ++ [n] := by rw [List.take_succ, hn]; rfl
   simp -implicitDefEqProofs (disch := first|go_size|fail) only [go_sem, j0, j5, j8, j9, j10, j11, j12, nl, c]
   refine bf (Q := fun r => og (di (cL 7 (cL 8 r)) _) _ _) (fun q e3 z => ∃ (i : Nat) (cv : V), q = Ls.length - i ∧ i ≤ Ls.length ∧ Fr w z [nb] ∧ z.cl nb = some [.i f, .i (ja l Ls k), cv] ∧ GL z cv ((ixs Ls (Ns.take j) ++ fj Ls n i).map V.i) ∧ (∀ b ∈ aB cv, w.next ≤ b) ∧ e3.a0.a0 = v ∧ e3.a0.a5 = lv ∧ e3.a0.a8 = ov ∧ e3.a0.a9 = e.a0.a9 ∧ e3.a0.a10 = .ptr nb 0 ∧ e3.a0.a11 = nv ∧ e3.a0.a12 = .i (j : Nat) ∧ e3.a0.a13 = .i (i : Nat)) ?_ (n := Ls.length) po ⟨0, cv, po, po, fy, hny, by rw [Ph, List.append_nil]; exact hg, hcb, pt, pt, pt, pt, pt, pt, pt, pt⟩
   clear fy hny hg hcb j0 j5 j8 j9 j10 j11 j12 cv;rintro q e3 z ⟨i, cv, rfl, hi, fz, hnz, hg, hcb, j0, j5, j8, j9, j10, j11, j12, j13⟩;by_cases ci : (i : Int) < ((Ls.length : Nat) : Int)
   · obtain ⟨m, hm⟩ : ∃ m, Ls[i]? = some m := ⟨_, List.getElem?_eq_getElem po⟩;obtain ⟨qa, a1, a2⟩ := ((hI.fr fu.wf x3 pm).fr x3.wf fz (fun b hb => by simpa using hlb b hb)).at fz.wf (j := i) (x := .i m) (by rw [List.getElem?_map, hm]; rfl)
     obtain ⟨qb, a3, a4⟩ := (x2.fr x3.wf fz (fun b hb => by simpa using hnvb b hb)).at fz.wf (j := j) (x := .i n) (by rw [List.getElem?_map, hn]; rfl)
     by_cases e1 : m = n
     · subst e1;obtain ⟨g1, g2⟩ := YM hs hm;rw [g1, List.append_nil] at hg;have r2 : cP (.ptr nb 2) z = some cv := aK fz.wf hnz rfl;have hil := tU Ls (Ns.take j);rw [List.length_take] at hil;obtain ⟨y1, y2, z1, z2, z3, z4, z5⟩ := hg.push fz.wf (x := .i (i : Nat)) rfl (by intro y hy; obtain ⟨w, _, rfl⟩ := List.mem_map.1 hy; rfl) (by rw [List.length_map]; omega)
       have hny2 := z4.cl fz.wf hnz (fun hb => by have := hcb _ hb; omega)
       obtain ⟨y3, p1, c3, f3, n3⟩ := cC (s := y2) (b := nb) (o := 2) (v := .slice (z.next + 1) 0 (((ixs Ls (Ns.take j)).map V.i).length + 1) none 1) z4.wf hny2 pm rfl;simp -implicitDefEqProofs (disch := first|go_size|fail) only [go_sem, j0, j5, j8, j9, j10, j11, j12, j13, lLs, ci, a1, a2, a3, a4, eq_self, r2, z1, z2, p1]
       have hyn := fz.nx;refine ⟨Ls.length - (i + 1), po, i + 1, _, rfl, po, (fz.trans' z4 (fun b hb => .inr (hcb b hb))).trans f3, c3, ?_, fun b hb => by simp [aB] at hb; omega, pt, pt, pt, pt, pt, pt, pt, pt⟩
       rw [g2, List.map_append];exact z3.fr z4.wf f3 (fun b hb => by simp [aB] at hb; subst hb; simp; omega)
     · have g1 := Qr hm e1;simp -implicitDefEqProofs (disch := first|go_size|fail) only [go_sem, j0, j5, j8, j9, j10, j11, j12, j13, lLs, ci, a1, a2, a3, a4, e1]
       exact ⟨Ls.length - (i + 1), po, i + 1, cv, rfl, po, fz, hnz, by rw [g1]; exact hg, hcb, pt, pt, pt, pt, pt, pt, pt, pt⟩
   · have hie : i = Ls.length := po;subst hie;simp -implicitDefEqProofs (disch := first|go_size|fail) only [go_sem, j0, j5, j8, j9, j10, j11, j12, j13, lLs, ci]
     exact ⟨Ns.length - (j + 1), po, j + 1, cv, rfl, po, fz, hnz, by rw [Y3] at hg; rw [htk, qJ]; exact hg, hcb, pt, pt, pt, pt, pt, pt, pt⟩
 · have hje : j = Ns.length := po;subst hje;rw [List.take_length] at hg;have hcv1 : cv.one = true := by rcases hg with ⟨_, rfl⟩ | ⟨b, rfl, _⟩ <;> rfl
   have hrow : Row 3 [.i f, .i (ja l Ls k), cv] := ⟨rfl, by intro x hx; simp at hx; rcases hx with rfl | rfl | rfl <;> first | rfl | assumption⟩
   have ha1 : bn [.i f, .i (ja l Ls k), cv] = true := bN hrow.2;have ldn := dB (o := 0) (m := 3) fy.wf hny pm;replace ldn : gH 3 (.ptr nb 0) y = some (.agg [.i f, .i (ja l Ls k), cv]) := by rw [ldn]; rfl
   have F1 : Fr u y [nb] := (x3.mono pm).trans fy;have hG1 := hG.fr fu.wf F1 (fun b hb hb' => by simp at hb'; subst hb'; exact hne hb)
   obtain ⟨y1, ov', y2, z1, z2, z3, z4, z5⟩ := hG1.push fy.wf hrow po;have hovw : ∀ b ∈ aB ov, b < u.next := hG.lt fu.wf;have hyn := fy.nx;have hwn := x3.nx;have F2 : Fr u y2 (nb :: aB ov) := (F1.mono pm).trans (z4.mono (fun j hj => .inl (by simp [hj])))
   have hcl : ∀ b ∈ aB cv, b < y.next := fun b hb => by
    rcases hg with ⟨_, rfl⟩ | ⟨b', rfl, hc⟩
    · simp [aB] at hb
    · simp [aB] at hb; subst hb; exact bQ fy.wf hc
   have hovu : ∀ b ∈ aB cv, b ∉ aB ov := fun b hb hb' => by have := hcb b hb; have := hovw b hb'; omega
   have hRw : Rw y2 l Ls [.i f, .i (ja l Ls k), cv] k f fun b => u.next ≤ b ∧ b < y2.next ∧ b ∉ aB ov' := by
    refine ⟨cv, rfl, hcv1, ?_, fun b hb => ⟨by have := hcb b hb; omega, Nat.lt_of_lt_of_le (hcl b hb) z4.nx, fun hb' => by have := z5 b hb'; have := hcl b hb; omega⟩⟩
    rw [hNs];exact (hg.sl fy.wf).fr fy.wf z4 hovu
   have hov' : ∀ b ∈ aB ov', u.next ≤ b := fun b hb => by have := z5 b hb; omega
   simp -implicitDefEqProofs (disch := first|go_size|fail) only [go_sem, j0, j5, j8, j9, j10, j11, j12, nl, c, ldn, z1, z2]
   refine key _ y2 ov' _ F2 z3 hov' hRw ?_ ?_ ?_ ?_
   all_goals first | rfl | assumption
end
set_option maxHeartbeats 16000000 in
theorem G_ {s : St} (hw : Wf s) {v : V} {l : List In} (h : RN 4 s v (l.map In.cells)) (L : Ll l) {Ls : List Int} (hs : Ls.Pairwise (· < ·)) (hin : ∀ (k : Nat) f, Ls[k]? = some f → 0 ≤ f ∧ f < (l.length : Nat)) {t : St} {e : E} {lv : V} (d : Nat) (ft : Fr s t []) (hI : SL t lv (Ls.map V.i)) (hlb : ∀ b ∈ aB lv, b < t.next)
 (i0 : e.a0.a0 = v) (i5 : e.a0.a5 = lv) :
 dg (aV (aL [rT g4]) (Mu (K (d + 8)) e t)) fun bv t => Fr s t [] ∧ zN t bv l Ls := by
 have ln := h.len;rw [List.length_map] at ln;have hl := L.len;have hLl := Ak hs hin;have lLs := hI.len;rw [List.length_map] at lLs;simp -implicitDefEqProofs (disch := first|go_size|fail) only [go_sem, Mu.eq_1, i0, i5]
 refine bf (Q := fun r => dg (aV _ (di (cL 4 r) _)) _) (fun q e u => ∃ (k : Nat) (ov : V) (rows : List (List V)), q = Ls.length - k ∧ k ≤ Ls.length ∧ Fr t u [] ∧ GN 3 u ov rows ∧ rows.length = k ∧ (∀ b' ∈ aB ov, t.next ≤ b') ∧ (∀ (j : Nat) f, j < k → Ls[j]? = some f → ∃ r, rows[j]? = some r ∧ Rw u l Ls r j f fun b' => b' < u.next ∧ b' ∉ aB ov) ∧ g0 e = v ∧ g5 e = lv ∧ g8 e = ov ∧ g9 e = .i (k : Nat)) ?_ (n := Ls.length) po ⟨0, .ay, [], po, po, Fr.refl ft.wf _, ⟨pm, .inl ⟨rfl, .inl rfl⟩⟩, rfl, by simp [aB], by intro j f hj; omega, pt, pt, pt, pt⟩
 rintro q e u ⟨k, ov, rows, rfl, hk, fu, hG, hrk, hov, hR, j0, j5, j8, j9⟩;replace j0 : e.a0.a0 = _ := j0;replace j5 : e.a0.a5 = _ := j5;replace j8 : e.a0.a8 = _ := j8;replace j9 : e.a0.a9 = _ := j9;by_cases c : (k : Int) < ((Ls.length : Nat) : Int)
 rotate_left
 · have hke : k = Ls.length := po;simp -implicitDefEqProofs (disch := first|go_size|fail) only [go_sem, j0, j5, j8, j9, lLs, c]
   refine ⟨ft.trans fu, rows, hG, po, fun j f hj => ?_⟩
   obtain ⟨r, hr, nv, z1, z2, z3, z4⟩ := hR j f (by have := (List.getElem?_eq_some_iff.1 hj).1; omega) hj
   exact ⟨r, hr, nv, z1, z2, z3, fun _ _ => trivial⟩
 obtain ⟨f, hf⟩ : ∃ f, Ls[k]? = some f := ⟨_, List.getElem?_eq_getElem po⟩;have Fu := ft.trans fu;have hSL := hI.fr ft.wf fu pm;obtain ⟨qq, a1, a2⟩ := hSL.at fu.wf (j := k) (x := .i f) (by rw [List.getElem?_map, hf]; rfl)
 obtain ⟨u1, k1, ck1, fk1, nk1⟩ := bu (s := u) (l := [V.i 0, .i 0, .ay]) (n := 3) fu.wf rfl;obtain ⟨u2, k2, ck2, fk2, nk2⟩ := cG (s := u1) (b := u.next) (o := 0) (vs := [V.i f, .i (l.length : Nat), .ay]) (m := 3) fk1.wf ck1 rfl pm (by intro x hx; simp at hx; rcases hx with rfl | rfl | rfl <;> rfl)
 replace ck2 : u2.cl u.next = some [V.i f, .i (l.length : Nat), .ay] := by rw [ck2]; simp [dA]
 have Fk : Fr u u2 [] := fk1.trans' fk2 (fun b hb => .inr (by simp at hb; omega))
 have hovn := hG.lt fu.wf;have hfu := fu.nx;have go : ∀ (e' : E) (w : St), Fr u w [] → w.cl u.next = some [.i f, .i (ja l Ls k), .ay] → e'.a0.a0 = v → e'.a0.a5 = lv → e'.a0.a8 = ov → e'.a0.a9 = .i (k : Nat) → e'.a0.a10 = .ptr u.next 0 →
  ∀ (N : E → St → Prop) (Q' : aE → Prop), (∀ (e'' : E) (t' : St) (ov' : V) (r : List V), Fr t t' [] → GN 3 t' ov' (rows ++ [r]) → (∀ b' ∈ aB ov', t.next ≤ b') → (∀ (j : Nat) f, j < k + 1 → Ls[j]? = some f → ∃ r', (rows ++ [r])[j]? = some r' ∧ Rw t' l Ls r' j f fun b' => b' < t'.next ∧ b' ∉ aB ov') → e''.a0.a0 = v → e''.a0.a5 = lv → e''.a0.a8 = ov' → e''.a0.a9 = .i (k : Nat) → N e'' t') → og (xD (K (d + 8)) e' w) N Q' := by
  intro e' w fw hnb z0 z5 z8 z9 z10 N Q' hN;have hGw := hG.fr fu.wf fw pm;refine aaa hw h L hs hin po N Q' d hf (Fu.trans fw) (hSL.fr fu.wf fw pm) (fun b hb => by have := hlb b hb; omega) hnb hGw po z0 z5 z8 z10 (fun hh => by have := hovn _ hh; omega) ?_
  intro e'' t' ov' r g1' g2' g3' g4' y0 y5 y8 y9;have hfw := fw.nx;have G1 : Fr t t' [] := (fu.trans fw).trans' g1' (fun j hj => by
   simp only [List.mem_cons] at hj;rcases hj with rfl | hj
   · exact .inr hfu
   · exact .inr (hov _ hj))
  have hrows : ∀ (j : Nat) f, j < k + 1 → Ls[j]? = some f → ∃ r', (rows ++ [r])[j]? = some r' ∧ Rw t' l Ls r' j f fun b' => b' < t'.next ∧ b' ∉ aB ov' := by
   intro j f' hj hf';by_cases ej : j = k
   · subst ej;rw [hf] at hf'; cases hf';refine ⟨r, by rw [List.getElem?_append_right po, hrk, Nat.sub_self]; rfl, ?_⟩
     obtain ⟨nv, x1, x2, x3, x4⟩ := g4';exact ⟨nv, x1, x2, x3, fun b' hb' => ⟨(x4 b' hb').2.1, (x4 b' hb').2.2⟩⟩
   · obtain ⟨r', hr', hRw⟩ := hR j f' po hf';refine ⟨r', by rw [List.getElem?_append_left po]; exact hr', ?_⟩
     have hg1n := g1'.nx;exact (hRw.fr (Q := fun b' => b' < w.next ∧ b' ∉ aB ov ∧ b' < u.next) fu.wf fw pm (fun b' hb' => ⟨po, hb'.2, hb'.1⟩)).fr fw.wf g1' (fun b' hb' => by simp only [List.mem_cons, not_or]; exact ⟨po, hb'.2.1⟩) (fun b' hb' => ⟨po, fun hh => by have := g3' b' hh; omega⟩)
  exact hN e'' t' ov' r G1 g2' (fun b' hb' => by have := g3' b' hb'; omega) hrows y0 y5 y8 (y9.trans z9)
 by_cases c1 : (k : Int) + 1 < ((Ls.length : Nat) : Int)
 · obtain ⟨f2', hf2⟩ : ∃ f, Ls[k + 1]? = some f := ⟨_, List.getElem?_eq_getElem po⟩;have hto : ja l Ls k = f2' := by unfold ja; rw [hf2]
   obtain ⟨qq2, a3, a4⟩ := (hSL.fr fu.wf Fk pm).at Fk.wf (j := k + 1) (x := .i f2') (by rw [List.getElem?_map, hf2]; rfl)
   replace a3 : aP 1 lv (.i ((k : Int) + 1)) = some qq2 := a3;obtain ⟨u3, k3, ck3, fk3, nk3⟩ := cC (s := u2) (b := u.next) (o := 1) (v := .i f2') Fk.wf ck2 pm rfl;simp -implicitDefEqProofs (disch := first|go_size|fail) only [go_sem, j0, j5, j8, j9, lLs, c, c1, a1, a2, ln, b3a, a_, k1, k2, a3, a4, k3]
   refine tI (go _ u3 (Fk.trans' fk3 (fun b hb => .inr (by simp at hb; omega))) (by rw [ck3, hto]; rfl) pt pt pt pt pt _ _ ?_)
   intro e'' t' ov' r G1 g2 g3 hrows y0 y5 y8 y9;simp -implicitDefEqProofs (disch := first|go_size|fail) only [go_sem, y0, y5, y8, y9]
   exact ⟨Ls.length - (k + 1), po, k + 1, ov', rows ++ [r], rfl, po, G1, g2, by rw [List.length_append, hrk]; rfl, g3, hrows, pt, pt, pt, pt⟩
 · have hto : ja l Ls k = (l.length : Nat) := by unfold ja; rw [List.getElem?_eq_none po]
   simp -implicitDefEqProofs (disch := first|go_size|fail) only [go_sem, j0, j5, j8, j9, lLs, c, c1, a1, a2, ln, b3a, a_, k1, k2]
   refine tI (go _ u2 Fk (by rw [ck2, hto]) pt pt pt pt pt _ _ ?_)
   intro e'' t' ov' r G1 g2 g3 hrows y0 y5 y8 y9;simp -implicitDefEqProofs (disch := first|go_size|fail) only [go_sem, y0, y5, y8, y9]
   exact ⟨Ls.length - (k + 1), po, k + 1, ov', rows ++ [r], rfl, po, G1, g2, by rw [List.length_append, hrk]; rfl, g3, hrows, pt, pt, pt, pt⟩
def Ld (l : List In) (R : Int → Prop) (lead : List Int) : Prop := lead.Pairwise (· < ·) ∧ ∀ z, z ∈ lead ↔ R z ∧ rL l.length z = true
theorem Ld.in_ {l : List In} {R : Int → Prop} {lead : List Int} (h : Ld l R lead) : ∀ (k : Nat) f, lead[k]? = some f → 0 ≤ f ∧ f < (l.length : Nat) := fun k f hf => by
 have := ((h.2 f).1 (List.mem_of_getElem? hf)).2
 rwa [kN] at this
theorem Ld.len {l : List In} {R : Int → Prop} {lead : List Int} (h : Ld l R lead) : lead.length ≤ l.length := Ak h.1 h.in_
theorem Ld.lay {l : List In} {R : Int → Prop} {lead l2 : List Int} {n : Int} (h : Ld l R lead) (h1 : l2.Pairwise (· < ·)) (h2 : ∀ z, z ∈ l2 ↔ z ∈ lead ∨ (z = n ∧ rL l.length n = true)) : Ld l (fun z => R z ∨ z = n) l2 := ⟨h1, fun z => by
 rw [h2, h.2];constructor
 · rintro (h | ⟨rfl, h⟩)
   · exact ⟨.inl h.1, h.2⟩
   · exact ⟨.inr rfl, h⟩
 · rintro ⟨h | rfl, h3⟩
   · exact .inl ⟨h, h3⟩
   · exact .inr ⟨rfl, h3⟩⟩
theorem Ld.iff {l : List In} {R R' : Int → Prop} {lead : List Int} (h : Ld l R lead) (hR : ∀ z, R z ↔ R' z) : Ld l R' lead := ⟨h.1, fun z => by rw [h.2, hR]⟩
theorem abp (l : List In) (hs : List Hd) : Ld l (fun z => z ∈ FU l hs) (LL l hs) := ⟨Br l hs, fun z => by rw [BU, kN]⟩
theorem Ld.eq {l : List In} {R : Int → Prop} {a b : List Int} (ha : Ld l R a) (hb : Ld l R b) : a = b := aaq ha.1 hb.1 fun z => by rw [ha.2, hb.2]
set_option maxHeartbeats 16000000 in
theorem Cx {s : St} (hw : Wf s) {v hv : V} {l : List In} {hs : List Hd} (h : RN 4 s v (l.map In.cells)) (L : Ll l) (hh : RN 4 s hv (hs.map Hd.cells)) (hhl : hs.length ≤ 10000) {t : St} {e : E} {lv : V} {lead : List Int} (d : Nat) (ft : Fr s t []) (hI : SL t lv (lead.map V.i)) (hlb : ∀ b ∈ aB lv, b < t.next) (hL : Ld l (fun z => z ∈ 0 :: gK l l 0) lead)
 (i0 : e.a0.a0 = v) (i1 : e.a0.a1 = hv) (i5 : e.a0.a5 = lv) :
 dg (aV (aL [rT g4]) (ER (K (d + 8)) e t)) fun bv t => Fr s t [] ∧ zN t bv l (LL l hs) := by
 have lh := hh.len;rw [List.length_map] at lh;have ln := h.len;rw [List.length_map] at ln;have hl := L.len;simp -implicitDefEqProofs (disch := first|go_size|fail) only [go_sem, ER.eq_1, i0, i1, i5]
 refine bf (Q := fun r => dg (aV _ (di (cL 2 r) _)) _) (fun q e u => ∃ (k : Nat) (ov : V) (lead : List Int), q = hs.length - k ∧ k ≤ hs.length ∧ Fr s u [] ∧ SL u ov (lead.map V.i) ∧ (∀ b ∈ aB ov, b < u.next) ∧ Ld l (fun z => z ∈ 0 :: gK l l 0 ∨ z ∈ (hs.take k).flatMap (iO l)) lead ∧ g0 e = v ∧ g1 e = hv ∧ g5 e = ov ∧ g7 e = .i (k : Nat)) ?_ (n := hs.length) po ⟨0, lv, lead, po, po, ft, hI, hlb, hL.iff pm, pt, pt, pt, pt⟩
 clear i0 i1 i5 hI hlb hL ft lead;rintro q e u ⟨k, ov, lead, rfl, hk, fu, hI, hlb, hL, i0, i1, i5, i7⟩;replace i0 : e.a0.a0 = _ := i0;replace i1 : e.a0.a1 = _ := i1;replace i5 : e.a0.a5 = _ := i5;replace i7 : e.a0.a7 = _ := i7;by_cases c : (k : Int) < ((hs.length : Nat) : Int)
 rotate_left
 · have hke : k = hs.length := po;subst hke;rw [List.take_length] at hL;have : lead = LL l hs := Ld.eq (hL.iff (R' := fun z => z ∈ FU l hs) fun z => by unfold FU; rw [List.mem_append]) (abp l hs)
   subst this;simp -implicitDefEqProofs (disch := first|go_size|fail) only [go_sem, i0, i1, i5, i7, lh, c]
   exact G_ hw h L (Br l hs) (fun _ _ => NC) d fu hI hlb pt pt
 obtain ⟨y, hy⟩ : ∃ y, hs[k]? = some y := ⟨_, List.getElem?_eq_getElem po⟩;have at_ : ∀ (x : St), Fr s x [] → ∃ b o, aP 4 hv (.i (k : Nat)) = some (.ptr b o) ∧ cP (.ptr b o) x = some (.i y.from_) ∧ cP (.ptr b (o + 1)) x = some (.i y.mw) ∧ cP (.ptr b (o + 2)) x = some (.i y.at_) := fun x fx => by
  obtain ⟨b, o, a1, _, a3, _⟩ := (hh.fr hw fx pm).at fx.wf (i := k) (x := y.cells) (by rw [List.getElem?_map, hy]; rfl)
  exact ⟨b, o, a1, a3 0 _ rfl, a3 1 _ rfl, a3 2 _ rfl⟩
 have lle := hL.len;have e1 := iu fu.wf (h.fr hw fu pm) y.from_ (m := d + 8) po hl;obtain ⟨w1, o1, l1, g1_, s1_, f1, b1, p1, m1⟩ := qt fu.wf hI ln hL.1 po hlb (bh l y.from_) (d + 6);have L1 := hL.lay p1 m1;have F1 := fu.trans f1;have e2 := iu F1.wf (h.fr hw F1 pm) y.mw (m := d + 8) po hl;obtain ⟨w2, o2, l2, g2_, s2_, f2, b2, p2, m2⟩ := qt F1.wf s1_ ln L1.1 (by have := L1.len; omega) b1 (bh l y.mw) (d + 6)
 have L2 := L1.lay p2 m2;have F2 := F1.trans f2;have e3 := iu F2.wf (h.fr hw F2 pm) y.at_ (m := d + 8) po hl;obtain ⟨w3, o3, l3, g3_, s3_, f3, b3, p3, m3⟩ := qt F2.wf s2_ ln L2.1 (by have := L2.len; omega) b2 (bh l y.at_) (d + 6)
 have L3 := L2.lay p3 m3;obtain ⟨b, o, a1, r00, r01, r02⟩ := at_ u fu;obtain ⟨b', o', a1', _, r11, r12⟩ := at_ w1 F1;rw [a1] at a1'; cases a1';obtain ⟨b', o', a1', _, r21, r22⟩ := at_ w2 F2;rw [a1] at a1'; cases a1';have htk : (hs.take (k + 1)).flatMap (iO l) = (hs.take k).flatMap (iO l) ++ iO l y := by rw [List.take_succ, hy, List.flatMap_append]; simp
 simp -implicitDefEqProofs (disch := first|go_size|fail) only [go_sem, i0, i1, i5, i7, lh, c, a1, r00, r01, r02, r11, r12, r21, r22, e1, e2, e3, g1_, g2_, g3_, eB, wP]
 refine ⟨hs.length - (k + 1), po, k + 1, o3, l3, rfl, po, F2.trans f3, s3_, b3, L3.iff (fun z => ?_), pt, pt, pt, pt⟩
 rw [htk, List.mem_append];simp only [iO, List.mem_cons, List.not_mem_nil, or_false];constructor
 · rintro (((h | h) | h) | h)
   · rcases h with h | h
     · exact .inl h
     · exact .inr (.inl h)
   · exact .inr (.inr (.inr (.inl h)))
   · exact .inr (.inr (.inr (.inr h)))
   · exact .inr (.inr (.inl h))
 · rintro (h | h | h | h | h)
   · exact .inl (.inl (.inl (.inl h)))
   · exact .inl (.inl (.inl (.inr h)))
   · exact .inr h
   · exact .inl (.inl (.inr h))
   · exact .inl (.inr h)
set_option maxHeartbeats 16000000 in
theorem OT {s : St} (hw : Wf s) {v hv : V} {l : List In} {hs : List Hd} (h : RN 4 s v (l.map In.cells)) (L : Ll l) (hh : RN 4 s hv (hs.map Hd.cells)) (hhl : hs.length ≤ 1000) {m : Nat} (hm : 9 ≤ m) :
 ∃ t bv, (K m).call 9 [v, hv] s = some (bv, t) ∧ Fr s t [] ∧ zN t bv l (LL l hs) := by
 obtain ⟨d, rfl⟩ : ∃ d, m = d + 9 := ⟨m - 9, po⟩;have hl := L.len;have ln := h.len;rw [List.length_map] at ln;let Q : V → St → Prop := fun bv t => Fr s t [] ∧ zN t bv l (LL l hs)
 suffices key : dg ((K (d + 9)).call 9 [v, hv] s) Q by
  obtain ⟨x, t, e, h1⟩ := key;exact ⟨t, x, e, h1⟩
 obtain ⟨w0, o0, l0, g0_, s0_, f0, b0, p0, m0⟩ := qt (v := .ay) (l := []) hw (.inl ⟨rfl, .inl rfl⟩) ln .nil pm (by simp [aB]) 0 (d + 6)
 have L0 : Ld l (fun z => z = 0) l0 := ⟨p0, fun z => by rw [m0]; constructor <;> · intro hz; simp at hz; obtain ⟨rfl, hz⟩ := hz; simp [hz]⟩
 simp -implicitDefEqProofs (disch := first|go_size|fail) only [op9, go_sem, g0_]
 refine bf (Q := fun r => dg (aV _ (di (cL 0 r) _)) _) (fun q e u => ∃ (k : Nat) (ov : V) (lead : List Int), q = l.length - k ∧ k ≤ l.length ∧ Fr s u [] ∧ SL u ov (lead.map V.i) ∧ (∀ b ∈ aB ov, b < u.next) ∧ Ld l (fun z => z ∈ 0 :: gK l (l.take k) 0) lead ∧ g0 e = v ∧ g1 e = hv ∧ g5 e = ov ∧ g6 e = .i (k : Nat)) ?_ (n := l.length) po ⟨0, o0, l0, po, po, f0, s0_, b0, L0.iff (by simp [gK]), pt, pt, pt, pt⟩
 clear L0 f0 s0_ b0 p0 m0 g0_ l0;rintro q e u ⟨k, ov, lead, rfl, hk, fu, hI, hlb, hL, i0, i1, i5, i6⟩;replace i0 : e.a0.a0 = _ := i0;replace i1 : e.a0.a1 = _ := i1;replace i5 : e.a0.a5 = _ := i5;replace i6 : e.a0.a6 = _ := i6;by_cases c : (k : Int) < ((l.length : Nat) : Int)
 rotate_left
 · have hke : k = l.length := po;subst hke;rw [List.take_length] at hL;simp -implicitDefEqProofs (disch := first|go_size|fail) only [go_sem, i0, i1, i5, i6, ln, c]
   exact Cx hw h L hh po d fu hI hlb hL pt pt pt
 obtain ⟨x, hx⟩ : ∃ x, l[k]? = some x := ⟨_, List.getElem?_eq_getElem po⟩;obtain ⟨q1, q2, q3, q4⟩ := L.op _ x hx;have at_ : ∀ (y : St), Fr s y [] → ∃ b o, aP 4 v (.i (k : Nat)) = some (.ptr b o) ∧ cP (.ptr b (o + 1)) y = some (.i x.op) ∧ cP (.ptr b (o + 2)) y = some (.i x.a) := fun y fy => by
  obtain ⟨b, o, a1, _, a3, _⟩ := (h.fr hw fy pm).at fy.wf (i := k) (x := x.cells) (by rw [List.getElem?_map, hx]; rfl)
  exact ⟨b, o, a1, a3 1 _ rfl, a3 2 _ rfl⟩
 obtain ⟨b, o, a1, r1, r2⟩ := at_ u fu;have lle := hL.len;have e1 := oo (n := x.op) q1 q2 u (m := d + 8) po;have e19 := aap (n := x.op) q1 q2 u (m := d + 8) po;have htk : gK l (l.take (k + 1)) 0 = gK l (l.take k) 0 ++ eU l k x := by
  have : l.take (k + 1) = l.take k ++ [x] := by rw [List.take_succ, hx]; rfl
  rw [this, nA, List.length_take, show 0 + min k l.length = k by omega]
 cases hbr : gU x.op with
 | false =>
   rw [hbr] at e1;cases hen : eN x.op with
   | false =>
     rw [hen] at e19;have hst : eU l k x = [] := by unfold eU; rw [hbr, hen]; rfl
     simp -implicitDefEqProofs (disch := first|go_size|fail) only [go_sem, i0, i1, i5, i6, ln, c, a1, r1, e1, e19]
     exact ⟨l.length - (k + 1), po, k + 1, ov, lead, rfl, po, fu, hI, hlb, by rw [htk, hst, List.append_nil]; exact hL, pt, pt, pt, pt⟩
   | true =>
     rw [hen] at e19;have hst : eU l k x = [((k + 1 : Nat) : Int)] := by unfold eU; rw [hbr, hen]; rfl
     obtain ⟨w1, o1, l1, g1_, s1_, f1, b1, p1, m1⟩ := qt fu.wf hI ln hL.1 po hlb ((k : Int) + 1) (d + 6);simp -implicitDefEqProofs (disch := first|go_size|fail) only [go_sem, i0, i1, i5, i6, ln, c, a1, r1, e1, e19, g1_]
     exact ⟨l.length - (k + 1), po, k + 1, o1, l1, rfl, po, fu.trans f1, s1_, b1, (hL.lay p1 m1).iff (fun z => by rw [htk, hst, ← List.cons_append, List.mem_append, List.mem_singleton]; rfl), pt, pt, pt, pt⟩
 | true =>
   rw [hbr] at e1;have hst : eU l k x = [bh l x.a, ((k + 1 : Nat) : Int)] := by unfold eU; rw [hbr]; rfl
   have ef := iu fu.wf (h.fr hw fu pm) x.a (m := d + 8) po hl;obtain ⟨w1, o1, l1, g1_, s1_, f1, b1, p1, m1⟩ := qt fu.wf hI ln hL.1 po hlb (bh l x.a) (d + 6);have L1 := hL.lay p1 m1;have F1 := fu.trans f1;obtain ⟨b', o', a1', r1', _⟩ := at_ w1 F1;rw [a1] at a1'; cases a1';have e1' := oo (n := x.op) q1 q2 w1 (m := d + 8) po;rw [hbr] at e1';obtain ⟨w2, o2, l2, g2_, s2_, f2, b2, p2, m2⟩ := qt F1.wf s1_ ln L1.1 (by have := L1.len; omega) b1 ((k : Int) + 1) (d + 6)
   simp -implicitDefEqProofs (disch := first|go_size|fail) only [go_sem, i0, i1, i5, i6, ln, c, a1, r1, r2, e1, ef, g1_, r1', e1', g2_]
   refine ⟨l.length - (k + 1), po, k + 1, o2, l2, rfl, po, F1.trans f2, s2_, b2, (L1.lay p2 m2).iff (fun z => ?_), pt, pt, pt, pt⟩
   rw [htk, hst, ← List.cons_append];simp only [List.mem_append, List.mem_cons, List.not_mem_nil, or_false];constructor
   · rintro ((h | h) | h)
     · exact .inl h
     · exact .inr (.inl h)
     · exact .inr (.inr h)
   · rintro (h | h | h)
     · exact .inl (.inl h)
     · exact .inl (.inr h)
     · exact .inr h
def Xu (hs : List Hd) (x : In) (i : Nat) : Bool := match hs[i]? with | some y => decide (y.from_ ≤ x.at_) && decide (x.at_ < y.mw) | none => false
def nc (hs : List Hd) (x : In) (k : Nat) : List Int := ((List.range k).filter (Xu hs x)).map fun (i : Nat) => (i : Int)
theorem Kn (hs : List Hd) (x : In) (k : Nat) : nc hs x (k + 1) = nc hs x k ++ (if Xu hs x k = true then [(k : Int)] else []) := by
 unfold nc; rw [List.range_succ, List.filter_append, List.map_append]
 congr 1
 cases h : Xu hs x k <;> simp [h]
theorem xj (hs : List Hd) (x : In) (k : Nat) : (nc hs x k).length ≤ k := by
 unfold nc; rw [List.length_map];have := List.length_filter_le (Xu hs x) (List.range k)
 simpa using this
theorem tM {hs : List Hd} {x : In} {k : Nat} {z : Int} : z ∈ nc hs x k ↔ ∃ i : Nat, z = i ∧ i < k ∧ ∃ y, hs[i]? = some y ∧ y.from_ ≤ x.at_ ∧ x.at_ < y.mw := by
 unfold nc;rw [List.mem_map];constructor
 · rintro ⟨i, hi, rfl⟩;obtain ⟨h1, h2⟩ := List.mem_filter.1 hi;refine ⟨i, rfl, by simpa using h1, ?_⟩
   unfold Xu at h2;cases hy : hs[i]? with
   | none => rw [hy] at h2; cases h2
   | some y => rw [hy] at h2; simp at h2; exact ⟨y, rfl, h2.1, h2.2⟩
 · rintro ⟨i, rfl, hi, y, hy, h1, h2⟩;exact ⟨i, List.mem_filter.2 ⟨by simpa using hi, by unfold Xu; rw [hy]; simp [h1, h2]⟩, rfl⟩
def af (l : List In) (hs : List Hd) (j : Int) : List Int := match hs[j.toNat]? with | some y => if 0 ≤ bh l y.at_ then [bh l y.at_] else [] | none => []
def OF (l : List In) (hs : List Hd) (x : In) (i : Nat) : List Int := c_ l (i : Nat) ++ (nc hs x hs.length).flatMap (af l hs)
theorem Pm {l : List In} {hs : List Hd} {x : In} {i : Nat} (hx : l[i]? = some x) {z : Int} (hz : z ∈ OF l hs x i) : 0 ≤ z ∧ z < (l.length : Nat) ∧ (qX l hs i → ∀ k : Nat, z = k → qX l hs k) := by
 unfold OF at hz;rcases List.mem_append.1 hz with h | h
 · obtain ⟨h0, h1⟩ := Od h;exact ⟨h0, h1, fun hr k e => by subst e; exact .nx hr h po⟩
 · obtain ⟨j, hj, hz⟩ := List.mem_flatMap.1 h;obtain ⟨i', rfl, _, y, hy, c1, c2⟩ := tM.1 hj;unfold af at hz;rw [show ((i' : Nat) : Int).toNat = i' by omega, hy] at hz
   simp only at hz;split at hz
   · rename_i hf;simp at hz; subst hz;exact ⟨hf, (qM y.at_).2, fun hr k e => .hd hr hx (List.mem_of_getElem? hy) c1 c2 e⟩
   · simp at hz
theorem Za {l : List In} {hs : List Hd} {x : In} {i : Nat} {out : List Bool} (hx : l[i]? = some x) (h : ∀ z ∈ OF l hs x i, out[z.toNat]? = some true) : Cl l hs out i := by
 refine ⟨fun k hk _ _ => h k (by unfold OF; exact List.mem_append_left _ hk), fun x' hx' y hy c1 c2 h0 h1 => ?_⟩
 rw [hx] at hx'; cases hx';obtain ⟨j, hj⟩ := List.getElem?_of_mem hy;refine h _ ?_;unfold OF;refine List.mem_append_right _ (List.mem_flatMap.2 ⟨(j : Int), tM.2 ⟨j, rfl, (List.getElem?_eq_some_iff.1 hj).1, y, hj, c1, c2⟩, ?_⟩);unfold af;rw [show ((j : Nat) : Int).toNat = j by omega, hj]
 simp only; rw [if_pos h0]; simp
theorem xw {l : List In} {hs : List Hd} {out : List Bool} (hl : out.length = l.length) (h0 : Mk out 0) (hc : ∀ k : Nat, out[k]? = some true → Cl l hs out k) : ∀ k, qX l hs k → out[k]? = some true := fun k hk => by
 induction hk with
 | zero h => exact h0 po po
 | nx hi hm hk ih =>
   rename_i i k;have := (hc i ih).1 _ hm po po
   simpa using this
 | hd hi hx hy c1 c2 hf ih =>
   rename_i i k x y;have h2 := qM (l := l) y.at_;have := (hc i ih).2 x hx y hy c1 c2;rw [hf] at this h2;have := this po po
   simpa using this
theorem Jc {l : List In} {hs : List Hd} {a b : List Bool} (ha : a.length = l.length) (hb : b.length = l.length) (sa : ∀ k : Nat, a[k]? = some true → qX l hs k) (sb : ∀ k : Nat, b[k]? = some true → qX l hs k) (ca : ∀ k, qX l hs k → a[k]? = some true) (cb : ∀ k, qX l hs k → b[k]? = some true) : a = b := by
 refine List.ext_getElem? fun k => ?_
 by_cases c : k < l.length
 · obtain ⟨x, hx⟩ : ∃ x, a[k]? = some x := ⟨_, List.getElem?_eq_getElem po⟩;obtain ⟨y, hy⟩ : ∃ y, b[k]? = some y := ⟨_, List.getElem?_eq_getElem po⟩;rw [hx, hy];cases x with
   | true => have := cb k (sa k hx); rw [hy] at this; rw [this]
   | false =>
     cases y with
     | false => rfl
     | true => have := ca k (sb k hy); rw [hx] at this; cases this
 · rw [List.getElem?_eq_none po, List.getElem?_eq_none po]
set_option maxHeartbeats 4000000 in
theorem Z_ {s : St} (hw : Wf s) {v hv : V} {l : List In} {hs : List Hd} (h : RN 4 s v (l.map In.cells)) (hh : RN 4 s hv (hs.map Hd.cells)) (hhl : hs.length ≤ 100000) {i : Nat} {x : In} (hx : l[i]? = some x) (d : Nat) : ∃ t ov, (K (d + 1)).call 34 [v, hv, .i (i : Nat)] s = some (ov, t) ∧ SL t ov ((nc hs x hs.length).map V.i) ∧ Fr s t [] ∧ ∀ b ∈ aB ov, s.next ≤ b ∧ b < t.next := by
 have lh := hh.len;rw [List.length_map] at lh;let Q : V → St → Prop := fun ov t => SL t ov ((nc hs x hs.length).map V.i) ∧ Fr s t [] ∧ ∀ b ∈ aB ov, s.next ≤ b ∧ b < t.next
 suffices key : dg ((K (d + 1)).call 34 [v, hv, .i (i : Nat)] s) Q by
  obtain ⟨x, t, e, h1⟩ := key;exact ⟨t, x, e, h1⟩
 simp -implicitDefEqProofs (disch := first|go_size|fail) only [afY, go_sem]
 refine bf (Q := fun r => dg (aV _ (di (cL 0 r) _)) _) (fun q e t => ∃ (k : Nat) (ov : V), q = hs.length - k ∧ k ≤ hs.length ∧ Fr s t [] ∧ GL t ov ((nc hs x k).map V.i) ∧ (∀ b ∈ aB ov, s.next ≤ b) ∧ g0 e = v ∧ g1 e = hv ∧ g2 e = .i (i : Nat) ∧ g7 e = ov ∧ g8 e = .i (k : Nat)) ?_ (n := hs.length) po ⟨0, .ay, po, po, Fr.refl hw _, .inl ⟨by simp [nc], rfl⟩, by simp [aB], pt, pt, pt, pt, pt⟩
 rintro q e t ⟨k, ov, rfl, hk, ft, hg, hov, i0, i1, i2, i7, i8⟩;replace i0 : e.a0.a0 = _ := i0;replace i1 : e.a0.a1 = _ := i1;replace i2 : e.a0.a2 = _ := i2;replace i7 : e.a0.a7 = _ := i7;replace i8 : e.a0.a8 = _ := i8;by_cases c : (k : Int) < ((hs.length : Nat) : Int)
 rotate_left
 · have hke : k = hs.length := po;subst hke;simp -implicitDefEqProofs (disch := first|go_size|fail) only [go_sem, i0, i1, i2, i7, i8, lh, c]
   exact ⟨hg.sl ft.wf, ft, fun b hb => ⟨hov b hb, hg.lt ft.wf b hb⟩⟩
 obtain ⟨y, hy⟩ : ∃ y, hs[k]? = some y := ⟨_, List.getElem?_eq_getElem po⟩;obtain ⟨b, o, a1, _, a3, _⟩ := (hh.fr hw ft pm).at ft.wf (i := k) (x := y.cells) (by rw [List.getElem?_map, hy]; rfl)
 obtain ⟨b', o', a1', _, a3', _⟩ := (h.fr hw ft pm).at ft.wf (i := i) (x := x.cells) (by rw [List.getElem?_map, hx]; rfl)
 have w0 := a3 0 _ rfl;have w1 := a3 1 _ rfl;have w3 := a3' 0 _ rfl;rw [Nat.add_zero] at w0 w3;have hov0 : Xu hs x k = (decide (y.from_ ≤ x.at_) && decide (x.at_ < y.mw)) := by unfold Xu; rw [hy]
 have hsu := Kn hs x k;by_cases c1 : x.at_ ≥ y.from_
 · by_cases c2 : x.at_ < y.mw
   · rw [if_pos (by rw [hov0]; simp; exact ⟨c1, c2⟩)] at hsu
     have hol := xj hs x k;obtain ⟨y1, y2, z1, z2, z3, z4, z5⟩ := hg.push ft.wf (x := .i (k : Nat)) rfl (by intro y hy; obtain ⟨w, _, rfl⟩ := List.mem_map.1 hy; rfl) (by rw [List.length_map]; omega)
     simp -implicitDefEqProofs (disch := first|go_size|fail) only [go_sem, i0, i1, i2, i7, i8, lh, c, a1, w0, w1, a1', w3, c1, c2, z1, z2]
     have hfn := ft.nx;exact ⟨hs.length - (k + 1), po, k + 1, _, rfl, po, ft.trans' z4 (fun b hb => .inr (hov b hb)), by rw [hsu, List.map_append]; exact z3, fun b hb => by simp [aB] at hb; omega, pt, pt, pt, pt, pt⟩
   · rw [if_neg (by rw [hov0]; simp; omega), List.append_nil] at hsu
     simp -implicitDefEqProofs (disch := first|go_size|fail) only [go_sem, i0, i1, i2, i7, i8, lh, c, a1, w0, w1, a1', w3, c1, c2]
     exact ⟨hs.length - (k + 1), po, k + 1, ov, rfl, po, ft, by rw [hsu]; exact hg, hov, pt, pt, pt, pt, pt⟩
 · rw [if_neg (by rw [hov0]; simp; omega), List.append_nil] at hsu
   simp -implicitDefEqProofs (disch := first|go_size|fail) only [go_sem, i0, i1, i2, i7, i8, lh, c, a1, w0, w1, a1', w3, c1]
   exact ⟨hs.length - (k + 1), po, k + 1, ov, rfl, po, ft, by rw [hsu]; exact hg, hov, pt, pt, pt, pt, pt⟩
structure RB (s u : St) (l : List In) (hs : List Hd) (ob : Nat) (out : List Bool) : Prop where
 f : Fr s u []
 c : u.cl ob = some (out.map V.bool)
 n : out.length = l.length
 so : ∀ k : Nat, out[k]? = some true → qX l hs k
 z : Mk out 0
theorem RB.fr {s u w : St} {l : List In} {hs : List Hd} {ob : Nat} {out : List Bool} {F : List Nat} (h : RB s u l hs ob out) (f : Fr u w F) (hF : ∀ b ∈ F, s.next ≤ b) (ho : ob ∉ F) : RB s w l hs ob out := ⟨h.f.trans' f (fun b hb => .inr (hF b hb)), f.cl h.f.wf h.c ho, h.n, h.so, h.z⟩
def MC (out0 out : List Bool) (more : Bool) : Prop := (more = false → out = out0) ∧ (more = true → out.count false < out0.count false)
theorem BJ {l : List Bool} {i : Nat} (h : l[i]? = some true) : l.set i true = l := by
 obtain ⟨h1, h2⟩ := List.getElem?_eq_some_iff.1 h;refine List.ext_getElem? fun j => ?_
 rw [List.getElem?_set];by_cases c : i = j
 · subst c; rw [if_pos rfl, if_pos h1, h]
 · rw [if_neg c]
theorem MC.mark {out0 out : List Bool} {more : Bool} (h : MC out0 out more) {i : Nat} {b : Bool} (hb : out[i]? = some b) : MC out0 (out.set i true) (more || !b) := by
 cases b with
 | true => rw [BJ hb]; simpa using h
 | false =>
   have hc := tA out i hb;cases more with
   | false => have := h.1 rfl; subst this; exact ⟨fun h => by simp at h, fun _ => by omega⟩
   | true => have := h.2 rfl; exact ⟨fun h => by simp at h, fun _ => by omega⟩
theorem vl {out : List Bool} {i k : Nat} (h : (out.set i true)[k]? = some true) : out[k]? = some true ∨ k = i := by
 rw [List.getElem?_set] at h;split at h
 · rename_i e; exact .inr e.symm
 · exact .inl h
theorem set_mk {out : List Bool} {i : Nat} {z : Int} (h : Mk out z) : Mk (out.set i true) z := fun h0 h1 => by
 rw [List.length_set] at h1;have := h h0 h1;rw [List.getElem?_set];split
 · rename_i e; rw [if_pos (by have := (List.getElem?_eq_some_iff.1 this).1; omega)]
 · exact this
set_option maxHeartbeats 32000000 in
theorem Pw {s : St} (hw : Wf s) {v hv : V} {l : List In} {hs : List Hd} (h : RN 4 s v (l.map In.cells)) (L : Ll l) (hh : RN 4 s hv (hs.map Hd.cells)) (hhl : hs.length ≤ 1000) (hne : l ≠ []) {m : Nat} (hm : 9 ≤ m) :
 ∃ (t : St) (rv : V) (out : List Bool), (K m).call 12 [v, hv] s = some (rv, t) ∧ Fr s t [] ∧ SL t rv (out.map V.bool) ∧ out.length = l.length ∧ (∀ k : Nat, out[k]? = some true → qX l hs k) ∧ ∀ k, qX l hs k → out[k]? = some true := by
 obtain ⟨d, rfl⟩ : ∃ d, m = d + 9 := ⟨m - 9, po⟩;have hl := L.len;have hpos : 0 < l.length := List.length_pos_iff.2 hne;have ln := h.len;rw [List.length_map] at ln;have lh := hh.len;rw [List.length_map] at lh;let Q : V → St → Prop := fun rv t => ∃ out : List Bool, Fr s t [] ∧ SL t rv (out.map V.bool) ∧ out.length = l.length ∧ (∀ k : Nat, out[k]? = some true → qX l hs k) ∧ ∀ k, qX l hs k → out[k]? = some true
 suffices key : dg ((K (d + 9)).call 12 [v, hv] s) Q by
  obtain ⟨x, t, e, out, h1⟩ := key;exact ⟨t, x, out, e, h1⟩
 obtain ⟨s1, k1, c1, f1, n1⟩ := bu (s := s) (l := List.replicate l.length (V.bool false)) (n := l.length) hw pm;obtain ⟨s2, p2, c2, f2, n2⟩ := cC (s := s1) (b := s.next) (o := 0) (v := .bool true) f1.wf c1 (by simpa using hpos) rfl
 have z0 : ¬ ((l.length : Nat) : Int) = 0 := po;have bi : aP 1 (.slice s.next 0 l.length (some l.length) 1) (.i 0) = some (.ptr s.next 0) := by rw [dL po po]; rfl
 have R0 : RB s s2 l hs s.next ((List.replicate l.length false).set 0 true) := by
  refine ⟨f1.trans' f2 (fun b hb => .inr (by simp at hb; omega)), by rw [c2, List.map_set, List.map_replicate], pm, fun k hk => ?_, fun h0 h1 => ?_⟩
  · rcases vl hk with hk | rfl
    · rw [List.getElem?_replicate] at hk; split at hk <;> simp at hk
    · exact .zero hpos
  · rw [List.getElem?_set]; simp; exact hne
 simp -implicitDefEqProofs (disch := first|go_size|fail) only [agn, go_sem, ln, Int.toNat_natCast, k1, z0, bi, p2]
 refine bf (Q := fun r => dg (aV _ (di (cL 0 r) _)) _) (fun q e u => ∃ (out : List Bool) (more : Bool), q = out.count false + (if more = true then 1 else 0) ∧ RB s u l hs s.next out ∧ (more = false → ∀ k : Nat, out[k]? = some true → Cl l hs out k) ∧ g0 e = v ∧ g1 e = hv ∧ g5 e = .slice s.next 0 l.length (some l.length) 1 ∧ g6 e = .bool more) ?_ (n := ((List.replicate l.length false).set 0 true).count false + 1) (by have := List.count_le_length (a := false) (l := (List.replicate l.length false).set 0 true); rw [R0.n] at this; omega) ⟨_, true, rfl, R0, pm, pt, pt, pt, pt⟩
 clear R0 k1 c1 f1 p2 c2 f2 n1 n2;rintro q e u ⟨out0, more0, rfl, R, hcl, i0, i1, i5, i6⟩;replace i0 : e.a0.a0 = _ := i0;replace i1 : e.a0.a1 = _ := i1;replace i5 : e.a0.a5 = _ := i5;replace i6 : e.a0.a6 = _ := i6;cases more0 with
 | false =>
   simp -implicitDefEqProofs (disch := first|go_size|fail) only [go_sem, i0, i1, i5, i6]
   have hn : (out0.map V.bool).length = l.length := by rw [List.length_map]; exact R.n
   have hsl := SL.of (l := out0.map V.bool) (c := some l.length) (o := 0) R.f.wf R.c po (fun i hi => by rw [Nat.zero_add])
   rw [hn] at hsl;exact ⟨out0, R.f, hsl, R.n, R.so, xw R.n R.z (hcl rfl)⟩
 | true =>
 clear hcl;simp -implicitDefEqProofs (disch := first|go_size|fail) only [go_sem, i0, i1, i5, i6]
 refine bf (Q := fun r => og (cL 1 (cL 2 r)) _ _) (fun q e u => ∃ (i : Nat) (out : List Bool) (more : Bool), q = l.length - i ∧ i ≤ l.length ∧ RB s u l hs s.next out ∧ MC out0 out more ∧ (more = false → ∀ j : Nat, j < i → out0[j]? = some true → Cl l hs out0 j) ∧ g0 e = v ∧ g1 e = hv ∧ g5 e = .slice s.next 0 l.length (some l.length) 1 ∧ g6 e = .bool more ∧ g7 e = .i (i : Nat)) ?_ (n := l.length) po ⟨0, out0, false, po, po, R, ⟨fun _ => rfl, pm⟩, by intro _ j hj; omega, pt, pt, pt, pt, pt⟩
 clear R i0 i1 i5 i6;rintro q e u ⟨i, out, more, rfl, hi, R, hMC, hdone, i0, i1, i5, i6, i7⟩;replace i0 : e.a0.a0 = _ := i0;replace i1 : e.a0.a1 = _ := i1;replace i5 : e.a0.a5 = _ := i5;replace i6 : e.a0.a6 = _ := i6;replace i7 : e.a0.a7 = _ := i7;by_cases c : (i : Int) < ((l.length : Nat) : Int)
 rotate_left
 · have hie : i = l.length := po;subst hie;simp -implicitDefEqProofs (disch := first|go_size|fail) only [go_sem, i0, i1, i5, i6, i7, ln, c]
   refine ⟨out.count false + (if more = true then 1 else 0), ?_, out, more, rfl, R, fun hm k hk => ?_, pt, pt, pt, pt⟩
   · cases more with
     | false => have := hMC.1 rfl; subst this; simp
     | true => have := hMC.2 rfl; simp; omega
   · have e1 := hMC.1 hm; subst e1;exact hdone hm k (by have := (List.getElem?_eq_some_iff.1 hk).1; have := R.n; omega) hk
 obtain ⟨x, hx⟩ : ∃ x, l[i]? = some x := ⟨_, List.getElem?_eq_getElem po⟩;have hRn := R.n;obtain ⟨b, ho⟩ : ∃ b, out[i]? = some b := ⟨_, List.getElem?_eq_getElem po⟩;have bi : aP 1 (.slice s.next 0 l.length (some l.length) 1) (.i (i : Nat)) = some (.ptr s.next i) := by rw [dL po po, Nat.zero_add, Int.toNat_natCast]
 have r1 : cP (.ptr s.next i) u = some (.bool b) := aK R.f.wf R.c (by rw [List.getElem?_map, ho]; rfl)
 cases b with
 | false =>
   simp -implicitDefEqProofs (disch := first|go_size|fail) only [go_sem, i0, i1, i5, i6, i7, ln, c, bi, r1]
   refine ⟨l.length - (i + 1), po, i + 1, out, more, rfl, po, R, hMC, fun hm j hj ht => ?_, pt, pt, pt, pt, pt⟩
   by_cases ej : j = i
   · subst ej; have e1 := hMC.1 hm; subst e1; rw [ho] at ht; cases ht
   · exact hdone hm j po ht
 | true =>
 have hRi := R.so i ho;obtain ⟨u1, tv, e1, g1', f1, b1⟩ := xJ R.f.wf (h.fr hw R.f pm) L (i : Nat) (m := d + 8) po;have R1 := R.fr f1 pm pm;obtain ⟨u2, ov, e2, s2', f2, b2⟩ := Z_ R1.f.wf (h.fr hw R1.f pm) (hh.fr hw R1.f pm) po hx (d + 7);have R2 := R1.fr f2 pm pm;have lo := s2'.len;rw [List.length_map] at lo;have hol := xj hs x hs.length;have hnl := jr l (i : Nat);have hobl := bQ R.f.wf R.c;simp -implicitDefEqProofs (disch := first|go_size|fail) only [go_sem, i0, i1, i5, i6, i7, ln, c, bi, r1, e1, e2]
 have hfl : ∀ (js : List Int), (js.flatMap (af l hs)).length ≤ js.length := fun js => by
  induction js with
  | nil => simp
  | cons j js ih =>
    have : (af l hs j).length ≤ 1 := by unfold af; split <;> (try split) <;> simp
    rw [List.flatMap_cons, List.length_append, List.length_cons]; omega
 have hu1 := f1.nx;have hu2 := f2.nx;have hsu := R.f.nx;refine bf (Q := fun r => og (di (cL 3 (di (cL 4 r) _)) _) _ _) (fun q e w => ∃ (k : Nat) (tv : V), q = (nc hs x hs.length).length - k ∧ k ≤ (nc hs x hs.length).length ∧ Fr u w [] ∧ u2.next ≤ w.next ∧ RB s w l hs s.next out ∧ SL w ov ((nc hs x hs.length).map V.i) ∧ GL w tv ((c_ l (i : Nat) ++ ((nc hs x hs.length).take k).flatMap (af l hs)).map V.i) ∧ (∀ b ∈ aB tv, u.next ≤ b ∧ (b < u1.next ∨ u2.next ≤ b)) ∧ g0 e = v ∧ g1 e = hv ∧ g5 e = .slice s.next 0 l.length (some l.length) 1 ∧ g6 e = .bool more ∧ g7 e = .i (i : Nat) ∧ g8 e = tv ∧ g9 e = ov ∧ g10 e = .i (k : Nat)) ?_ (n := (nc hs x hs.length).length) po ⟨0, tv, po, po, f1.trans f2, Nat.le_refl _, R2, s2', by simpa using g1'.fr f1.wf f2 pm, fun b hb => ⟨(b1 b hb).1, .inl (b1 b hb).2⟩, pt, pt, pt, pt, pt, pt, pt, pt⟩
 clear R1 R2 s2' g1' e1 e2 i0 i1 i5 i6 i7 b1 tv;rintro q e w ⟨k, tv, rfl, hk, fw, hwn, R3, s3, g3', b3, i0, i1, i5, i6, i7, i8, i9, i10⟩;replace i0 : e.a0.a0 = _ := i0;replace i1 : e.a0.a1 = _ := i1;replace i5 : e.a0.a5 = _ := i5;replace i6 : e.a0.a6 = _ := i6;replace i7 : e.a0.a7 = _ := i7;replace i8 : e.a0.a8 = _ := i8;replace i9 : e.a0.a9 = _ := i9;replace i10 : e.a0.a10 = _ := i10;by_cases ck : (k : Int) < (((nc hs x hs.length).length : Nat) : Int)
 · obtain ⟨j, hj⟩ : ∃ j, (nc hs x hs.length)[k]? = some j := ⟨_, List.getElem?_eq_getElem po⟩;obtain ⟨j', rfl, _, y, hy, _, _⟩ := tM.1 (List.mem_of_getElem? hj);obtain ⟨qa, a1, a2⟩ := s3.at fw.wf (j := k) (x := .i (j' : Nat)) (by rw [List.getElem?_map, hj]; rfl)
   obtain ⟨b, o, a3, _, a4, _⟩ := (hh.fr hw R3.f pm).at fw.wf (i := j') (x := y.cells) (by rw [List.getElem?_map, hy]; rfl)
   have w2 := a4 2 _ rfl;have ef := iu fw.wf (h.fr hw R3.f pm) y.at_ (m := d + 8) po hl;have htk : ((nc hs x hs.length).take (k + 1)).flatMap (af l hs) = ((nc hs x hs.length).take k).flatMap (af l hs) ++ af l hs (j' : Nat) := by rw [List.take_succ, hj, List.flatMap_append]; simp
   have haf : af l hs (j' : Nat) = if 0 ≤ bh l y.at_ then [bh l y.at_] else [] := by unfold af; rw [show ((j' : Nat) : Int).toNat = j' by omega, hy]
   by_cases ca : bh l y.at_ ≥ 0
   · rw [if_pos ca] at haf;have hfl' := hfl ((nc hs x hs.length).take k);rw [List.length_take] at hfl';obtain ⟨y1, y2, z1, z2, z3, z4, z5⟩ := g3'.push fw.wf (x := .i (bh l y.at_)) rfl (by intro y hy; obtain ⟨w, _, rfl⟩ := List.mem_map.1 hy; rfl) (by rw [List.length_map, List.length_append]; omega)
     have hfn := fw.nx;simp -implicitDefEqProofs (disch := first|go_size|fail) only [go_sem, i0, i1, i5, i6, i7, i8, i9, i10, lo, ck, a1, a2, a3, w2, ef, ca, z1, z2]
     refine ⟨(nc hs x hs.length).length - (k + 1), po, k + 1, _, rfl, po, fw.trans' z4 (fun b hb => .inr (b3 b hb).1), po, R3.fr z4 (fun b hb => by have := (b3 b hb).1; omega) (fun hb => by have := (b3 _ hb).1; omega), s3.fr fw.wf z4 (fun b hb hb' => ?_), ?_, fun b hb => ?_, pt, pt, pt, pt, pt, pt, pt, pt⟩
     · have := b2 b hb; have := b3 b hb'; omega
     · rw [htk, haf, ← List.append_assoc, List.map_append (l₂ := [bh l y.at_])]; exact z3
     · simp [aB] at hb; omega
   · rw [if_neg ca] at haf;simp -implicitDefEqProofs (disch := first|go_size|fail) only [go_sem, i0, i1, i5, i6, i7, i8, i9, i10, lo, ck, a1, a2, a3, w2, ef, ca]
     exact ⟨(nc hs x hs.length).length - (k + 1), po, k + 1, tv, rfl, po, fw, hwn, R3, s3, by rw [htk, haf, List.append_nil]; exact g3', b3, pt, pt, pt, pt, pt, pt, pt, pt⟩
 have hke : k = (nc hs x hs.length).length := po;subst hke;rw [List.take_length] at g3';have hT : c_ l (i : Nat) ++ (nc hs x hs.length).flatMap (af l hs) = OF l hs x i := rfl;rw [hT] at g3';have hTl : (OF l hs x i).length ≤ 2000 := by have := hfl (nc hs x hs.length); unfold OF; rw [List.length_append]; omega
 have hTm : ∀ z ∈ OF l hs x i, 0 ≤ z ∧ z < (l.length : Nat) ∧ ∀ k : Nat, z = k → qX l hs k := fun z hz => by
  obtain ⟨q1, q2, q3⟩ := Pm hx hz;exact ⟨q1, q2, q3 hRi⟩
 generalize hTs : OF l hs x i = T at *;have sT := g3'.sl fw.wf;have lT := sT.len;rw [List.length_map] at lT;simp -implicitDefEqProofs (disch := first|go_size|fail) only [go_sem, FJ.eq_1, i0, i1, i5, i6, i7, i8, i9, i10, lo, ck]
 refine bf (Q := fun r => og (di (cL 3 (cL 6 r)) _) _ _) (fun q e y => ∃ (k2 : Nat) (out' : List Bool) (more' : Bool), q = T.length - k2 ∧ k2 ≤ T.length ∧ Fr w y [s.next] ∧ RB s y l hs s.next out' ∧ MC out0 out' more' ∧ (more' = false → more = false) ∧ (more' = false → ∀ z ∈ T.take k2, out0[z.toNat]? = some true) ∧ g0 e = v ∧ g1 e = hv ∧ g5 e = .slice s.next 0 l.length (some l.length) 1 ∧ g6 e = .bool more' ∧ g7 e = .i (i : Nat) ∧ g8 e = tv ∧ g12 e = .i (k2 : Nat)) ?_ (n := T.length) po ⟨0, out, more, po, po, Fr.refl fw.wf _, R3, hMC, id, pm, pt, pt, pt, pt, pt, pt, pt⟩
 clear i0 i1 i5 i6 i7 i8 i9 i10;rintro q e y ⟨k2, out', more', rfl, hk2, fy, R4, hMC4, hmm, hTd, i0, i1, i5, i6, i7, i8, i12⟩;replace i0 : e.a0.a0 = _ := i0;replace i1 : e.a0.a1 = _ := i1;replace i5 : e.a0.a5 = _ := i5;replace i6 : e.a0.a6 = _ := i6;replace i7 : e.a0.a7 = _ := i7;replace i8 : e.a0.a8 = _ := i8;replace i12 : e.a0.a12 = _ := i12;by_cases c2 : (k2 : Int) < ((T.length : Nat) : Int)
 rotate_left
 · have hke : k2 = T.length := po;subst hke;rw [List.take_length] at hTd;simp -implicitDefEqProofs (disch := first|go_size|fail) only [go_sem, i0, i1, i5, i6, i7, i8, i12, lT, c2]
   refine ⟨l.length - (i + 1), po, i + 1, out', more', rfl, po, R4, hMC4, fun hm j hj ht => ?_, pt, pt, pt, pt, pt⟩
   by_cases ej : j = i
   · subst ej; exact Za hx (by rw [hTs]; exact hTd hm)
   · exact hdone (hmm hm) j po ht
 obtain ⟨z, hz⟩ : ∃ z, T[k2]? = some z := ⟨_, List.getElem?_eq_getElem po⟩;obtain ⟨z0', z1', zr⟩ := hTm z (List.mem_of_getElem? hz);obtain ⟨zn, rfl⟩ : ∃ zn : Nat, z = zn := ⟨z.toNat, po⟩;have hzt : ((zn : Nat) : Int).toNat = zn := po;have hR4n := R4.n;obtain ⟨b, hb⟩ : ∃ b, out'[zn]? = some b := ⟨_, List.getElem?_eq_getElem po⟩;have bi2 : aP 1 (.slice s.next 0 l.length (some l.length) 1) (.i (zn : Nat)) = some (.ptr s.next zn) := by rw [dL po po, Nat.zero_add, Int.toNat_natCast]
 have r2 : cP (.ptr s.next zn) y = some (.bool b) := aK R4.f.wf R4.c (by rw [List.getElem?_map, hb]; rfl)
 obtain ⟨qa, a1, a2⟩ := (sT.fr fw.wf fy (fun b hb => by have := (b3 b hb).1; simp; omega)).at fy.wf (j := k2) (x := .i (zn : Nat)) (by rw [List.getElem?_map, hz]; rfl)
 obtain ⟨y2, p1, cy, fy2, _⟩ := cC (s := y) (b := s.next) (o := zn) (v := .bool true) R4.f.wf R4.c (by rw [List.length_map]; omega) rfl
 have R5 : RB s y2 l hs s.next (out'.set zn true) := by
  refine ⟨R4.f.trans' fy2 (fun b hb => .inr (by simp at hb; omega)), by rw [cy, List.map_set], by rw [List.length_set]; exact hR4n, fun k hk => ?_, set_mk R4.z⟩
  rcases vl hk with hk | rfl
  · exact R4.so k hk
  · exact zr _ rfl
 have hM5 := hMC4.mark hb;have hT5 : (more' || !b) = false → ∀ z ∈ T.take (k2 + 1), out0[z.toNat]? = some true := fun hm z' hz' => by
  cases more' with
  | true => simp at hm
  | false =>
    cases b with
    | false => simp at hm
    | true =>
      rw [List.take_succ, hz] at hz';rcases List.mem_append.1 hz' with hz' | hz'
      · exact hTd rfl z' hz'
      · simp at hz'; subst hz'; rw [hzt, ← hMC4.1 rfl]; exact hb
 have fin : ∀ (m2 : Bool), m2 = (more' || !b) → RB s y2 l hs s.next (out'.set zn true) ∧ MC out0 (out'.set zn true) m2 ∧ (m2 = false → more = false) ∧ (m2 = false → ∀ z ∈ T.take (k2 + 1), out0[z.toNat]? = some true) := fun m2 e => by
  subst e;exact ⟨R5, hM5, fun hm => hmm (by cases more' with | false => rfl | true => simp at hm), hT5⟩
 cases more' with
 | true =>
   obtain ⟨j1, j2, j3, j4⟩ := fin true rfl;simp -implicitDefEqProofs (disch := first|go_size|fail) only [go_sem, i0, i1, i5, i6, i7, i8, i12, lT, c2, a1, a2, bi2, p1]
   exact ⟨T.length - (k2 + 1), po, k2 + 1, _, true, rfl, po, fy.trans fy2, j1, j2, j3, j4, pt, pt, pt, pt, pt, pt, pt⟩
 | false =>
   obtain ⟨j1, j2, j3, j4⟩ := fin (!b) rfl;simp -implicitDefEqProofs (disch := first|go_size|fail) only [go_sem, i0, i1, i5, i6, i7, i8, i12, lT, c2, a1, a2, bi2, r2, p1]
   exact ⟨T.length - (k2 + 1), po, k2 + 1, _, !b, rfl, po, fy.trans fy2, j1, j2, j3, j4, pt, pt, pt, pt, pt, pt, pt⟩
theorem Q4 {s : St} (hw : Wf s) {va vb : V} {l : List Bool} (ha : SL s va (l.map .bool)) (hb : SL s vb (l.map .bool)) (hl : l.length ≤ 900000) (d : Nat) : (K (d + 1)).call 10 [va, vb] s = some (.bool true, s) := by
 have h1 := ha.len;have h2 := hb.len;rw [List.length_map] at h1 h2;have key : dg ((K (d + 1)).call 10 [va, vb] s) fun x s' => x = .bool true ∧ s' = s := by
  simp -implicitDefEqProofs (disch := first|go_size|fail) only [agQ, go_sem, h1, h2, eq_self, ne_eq, not_true]
  refine bf (Q := fun r => dg (aV _ (di (cL 0 r) _)) _) (fun m e t => ∃ j : Nat, m = l.length - j ∧ j ≤ l.length ∧ t = s ∧ g0 e = va ∧ g1 e = vb ∧ g5 e = .i j) ?_ (n := l.length) po ⟨0, po, po, rfl, pt, pt, pt⟩
  rintro m e t ⟨j, rfl, hj, rfl, i0, i1, i5⟩;replace i0 : e.a0.a0 = _ := i0;replace i1 : e.a0.a1 = _ := i1;replace i5 : e.a0.a5 = _ := i5;by_cases cj : (j : Int) < ((l.length : Nat) : Int)
  · obtain ⟨x, hx⟩ : ∃ x, l[j]? = some x := ⟨_, List.getElem?_eq_getElem po⟩;obtain ⟨q, a1, a2⟩ := ha.at hw (j := j) (x := .bool x) (by rw [List.getElem?_map, hx]; rfl)
    obtain ⟨q', b1, b2⟩ := hb.at hw (j := j) (x := .bool x) (by rw [List.getElem?_map, hx]; rfl)
    have b3 : qD true (.bool x) (.bool x) = some (.bool false) := by cases x <;> rfl
    simp -implicitDefEqProofs (disch := first|go_size|fail) only [go_sem, i0, i1, i5, h1, h2, cj, a1, a2, b1, b2, b3, eq_self]
    exact ⟨l.length - (j + 1), po, j + 1, rfl, po, pt, pt, pt, pt⟩
  · simp -implicitDefEqProofs (disch := first|go_size|fail) only [go_sem, i0, i1, i5, h1, h2, cj]
    exact ⟨pt, pt⟩
 obtain ⟨x, s', e1, rfl, rfl⟩ := key;exact e1
theorem aeA {s : St} (hw : Wf s) {va vb : V} {l : List In} {Ls : List Int} (ha : zN s va l Ls) (hb : zN s vb l Ls) (hl : Ls.length ≤ 100000) (d : Nat) : (K (d + 2)).call 7 [va, vb] s = some (.bool true, s) := by
 obtain ⟨ra, gA, la, hA⟩ := ha;obtain ⟨rb, gB, lb, hB⟩ := hb;have RA := gA.rn hw;have RB := gB.rn hw;have h1 := RA.len;have h2 := RB.len;rw [la] at h1;rw [lb] at h2;have key : dg ((K (d + 2)).call 7 [va, vb] s) fun x s' => x = .bool true ∧ s' = s := by
  simp -implicitDefEqProofs (disch := first|go_size|fail) only [op7, go_sem, h1, h2, eq_self, ne_eq, not_true]
  refine bf (Q := fun r => dg (aV _ (di (cL 0 r) _)) _) (fun m e t => ∃ j : Nat, m = Ls.length - j ∧ j ≤ Ls.length ∧ t = s ∧ g0 e = va ∧ g1 e = vb ∧ g5 e = .i j) ?_ (n := Ls.length) po ⟨0, po, po, rfl, pt, pt, pt⟩
  rintro m e t ⟨j, rfl, hj, rfl, i0, i1, i5⟩;replace i0 : e.a0.a0 = _ := i0;replace i1 : e.a0.a1 = _ := i1;replace i5 : e.a0.a5 = _ := i5;by_cases cj : (j : Int) < ((Ls.length : Nat) : Int)
  · obtain ⟨f, hf⟩ : ∃ f, Ls[j]? = some f := ⟨_, List.getElem?_eq_getElem po⟩;obtain ⟨r, hr, nv, rfl, n1, n2, _⟩ := hA j f hf;obtain ⟨r', hr', nv', rfl, n1', n2', _⟩ := hB j f hf;obtain ⟨b, o, a1, _, a3, _⟩ := RA.at hw (i := j) hr;obtain ⟨b', o', b1, _, b3, _⟩ := RB.at hw (i := j) hr';have w0 := a3 0 _ rfl;have w1 := a3 1 _ rfl;have w2 := a3 2 _ rfl;have z0 := b3 0 _ rfl;have z1 := b3 1 _ rfl;have z2 := b3 2 _ rfl;rw [Nat.add_zero] at w0 z0;have hx := tU Ls (c_ l (ja l Ls j - 1));have hn := jr l (ja l Ls j - 1);have e3 := aeV hw n2 n2' po d;rw [decide_eq_true rfl] at e3;simp -implicitDefEqProofs (disch := first|go_size|fail) only [go_sem, i0, i1, i5, h1, h2, cj, a1, b1, w0, w1, w2, z0, z1, z2, e3, eq_self, ne_eq, not_true]
    exact ⟨Ls.length - (j + 1), po, j + 1, rfl, po, pt, pt, pt, pt⟩
  · simp -implicitDefEqProofs (disch := first|go_size|fail) only [go_sem, i0, i1, i5, h1, h2, cj]
    exact ⟨pt, pt⟩
 obtain ⟨x, s', e1, rfl, rfl⟩ := key;exact e1
theorem af4 {l : List In} {hs : List Hd} {fs : List Fm} {r : OE} (h : cH l.length (ve l) = some r) : dK l hs fs = r := by unfold dK; rw [h]
theorem acY {l : List In} {hs : List Hd} {fs : List Fm} {r : OE} (h : cH l.length (ve l) = none) (h2 : vB l = some r) : dK l hs fs = r := by unfold dK; rw [h, h2]
theorem afA {l : List In} {hs : List Hd} {fs : List Fm} {r : OE} (h : cH l.length (ve l) = none) (h2 : vB l = none) (h3 : cH hs.length (Bf l hs) = some r) : dK l hs fs = r := by unfold dK; rw [h, h2, h3]
theorem abw {l : List In} {hs : List Hd} {fs : List Fm} {r : OE} (h : cH l.length (ve l) = none) (h2 : vB l = none) (h3 : cH hs.length (Bf l hs) = none) (h4 : cH fs.length (Oz l fs) = some r) : dK l hs fs = r := by unfold dK; rw [h, h2, h3, h4]; rfl
theorem agz {l : List In} {hs : List Hd} {fs : List Fm} (h : cH l.length (ve l) = none) (h2 : vB l = none) (h3 : cH hs.length (Bf l hs) = none) (h4 : cH fs.length (Oz l fs) = none) : dK l hs fs = (0, 0) := by unfold dK; rw [h, h2, h3, h4]; rfl
theorem acE {l : List In} {i : Nat} {x : In} (h : l[i]? = some x) (h1 : gU x.op = true) (h2 : bh l x.a < 0) : ve l i = some (16, x.at_) := by unfold ve; rw [h]; exact if_pos ⟨h1, h2⟩
theorem TF {l : List In} {i : Nat} {x : In} (h : l[i]? = some x) (h1 : ¬ (gU x.op = true ∧ bh l x.a < 0)) : ve l i = none := by unfold ve; rw [h]; exact if_neg h1
theorem abo {l : List In} {x : In} (h : l[l.length - 1]? = some x) (h1 : eN x.op = true) : vB l = none := by unfold vB; rw [h]; exact if_pos h1
theorem acI {l : List In} {x : In} (h : l[l.length - 1]? = some x) (h1 : eN x.op = false) : vB l = some (17, x.at_) := by unfold vB; rw [h]; simp [h1]
theorem ael {l : List In} {hs : List Hd} {i : Nat} {x : Hd} (h : hs[i]? = some x) (h1 : sZ l x) : Bf l hs i = some (16, x.from_) := by unfold Bf; rw [h]; exact if_pos h1
theorem aeC {l : List In} {hs : List Hd} {i : Nat} {x : Hd} (h : hs[i]? = some x) (h1 : ¬ sZ l x) : Bf l hs i = none := by unfold Bf; rw [h]; exact if_neg h1
theorem adA {l : List In} {fs : List Fm} {i : Nat} {x : Fm} (h : fs[i]? = some x) (h1 : bh l x.at_ < 0) : Oz l fs i = some (16, x.at_) := by unfold Oz; rw [h]; exact if_pos h1
theorem adG {l : List In} {fs : List Fm} {i : Nat} {x : Fm} (h : fs[i]? = some x) (h1 : ¬ bh l x.at_ < 0) (h2 : 0 < i ∧ (fs.map Fm.at_).getD (i - 1) 0 ≥ x.at_) : Oz l fs i = some (21, x.at_) := by unfold Oz; rw [h]; simp only [if_neg h1, if_pos h2]
theorem Yl {l : List In} {fs : List Fm} {i : Nat} {x : Fm} (h : fs[i]? = some x) (h1 : ¬ bh l x.at_ < 0) (h2 : ¬ (0 < i ∧ (fs.map Fm.at_).getD (i - 1) 0 ≥ x.at_)) : Oz l fs i = none := by unfold Oz; rw [h]; simp only [if_neg h1, if_neg h2]
set_option maxHeartbeats 8000000 in
set_option maxHeartbeats 8000000 in
theorem xA {s : St} (hw : Wf s) {v hv fv : V} {l : List In} {hs : List Hd} {fs : List Fm} (h : RN 4 s v (l.map In.cells)) (L : Ll l) (hh : RN 4 s hv (hs.map Hd.cells)) (hhl : hs.length ≤ 100000) (hf : GN 3 s fv (fs.map Fm.cells)) (hfl : fs.length ≤ 100000) {m : Nat} (hm : 8 ≤ m) :
 ∃ t, (K m).call 5 [v, hv, fv] s = some (.bH [.i (dK l hs fs).1, .i (dK l hs fs).2], t) ∧ Fr s t [] := by
 obtain ⟨d, rfl⟩ : ∃ d, m = d + 1 := ⟨m - 1, po⟩;have hl := L.len;have ln := h.len;rw [List.length_map] at ln;have lh := hh.len;rw [List.length_map] at lh;have lf := hf.len;rw [List.length_map] at lf;let Q : V → St → Prop := fun x t => x = .bH [.i (dK l hs fs).1, .i (dK l hs fs).2] ∧ Fr s t []
 have done : ∀ (t : St) (r : OE), Fr s t [] → dK l hs fs = r → Q (.bH [.i r.1, .i r.2]) t := fun t r ft hr => ⟨by rw [hr], ft⟩
 suffices key : dg ((K (d + 1)).call 5 [v, hv, fv] s) Q by
  obtain ⟨x, t, e, rfl, h1⟩ := key;exact ⟨t, e, h1⟩
 have rest3 : ∀ (e : E) (t : St), Fr s t [] → cH l.length (ve l) = none → vB l = none → cH hs.length (Bf l hs) = none → e.a0.a0 = v → e.a0.a2 = fv → dg (aV (aL [rT g6, rT g7]) (Cw (K d) e t)) Q := by
  intro e t ft hI hL hH i0 i2;simp -implicitDefEqProofs (disch := first|go_size|fail) only [go_sem, Cw.eq_1, i0, i2, lf]
  refine bf (Q := fun r => dg (aV _ (di (cL 4 r) _)) _) (fun q e t => ∃ i : Nat, q = fs.length - i ∧ i ≤ fs.length ∧ Fr s t [] ∧ (∀ j, j < i → Oz l fs j = none) ∧ g0 e = v ∧ g2 e = fv ∧ g12 e = .i (i : Nat)) ?_ (n := fs.length) po ⟨0, po, po, ft, fun j hj => absurd hj (Nat.not_lt_zero j), pt, pt, pt⟩
  clear ft i0 i2;rintro q e t ⟨i, rfl, hi, ft, hn, i0, i2, i12⟩;replace i0 : e.a0.a0 = _ := i0;replace i2 : e.a0.a2 = _ := i2;replace i12 : e.a0.a12 = _ := i12;by_cases c : (i : Int) < ((fs.length : Nat) : Int)
  · obtain ⟨f, hx⟩ : ∃ f, fs[i]? = some f := ⟨_, List.getElem?_eq_getElem po⟩;have hg := hf.fr hw ft pm;have hrow : Row 3 f.cells := hf.1 _ (List.mem_map_of_mem (List.mem_of_getElem? hx));obtain ⟨b, o, a1, _, a3, a4⟩ := (hg.rn ft.wf).at ft.wf (i := i) (x := f.cells) (by rw [List.getElem?_map, hx]; rfl)
    have r0 := a3 0 _ rfl;rw [Nat.add_zero] at r0;have e1 := iu ft.wf (h.fr hw ft pm) f.at_ (m := d) po hl;by_cases c1 : bh l f.at_ < 0
    · simp -implicitDefEqProofs (disch := first|go_size|fail) only [go_sem, i0, i2, i12, c, ln, lf, a1, r0, e1, c1]
      exact done t (16, f.at_) ft (abw hI hL hH (hU po (adA hx c1) hn))
    · by_cases c0 : (0 : Int) < (i : Int)
      · obtain ⟨z, hz⟩ : ∃ z, fs[i - 1]? = some z := ⟨_, List.getElem?_eq_getElem po⟩;have hgd : (fs.map Fm.at_).getD (i - 1) 0 = z.at_ := by rw [List.getD_eq_getElem?_getD, List.getElem?_map, hz]; rfl
        obtain ⟨b', o', y1, _, y3, _⟩ := (hg.rn ft.wf).at ft.wf (i := i - 1) (x := z.cells) (by rw [List.getElem?_map, hz]; rfl)
        rw [show ((i - 1 : Nat) : Int) = (i : Int) - 1 by omega] at y1
        have y4 := y3 0 _ rfl;rw [Nat.add_zero] at y4;by_cases c2 : z.at_ ≥ f.at_
        · simp -implicitDefEqProofs (disch := first|go_size|fail) only [go_sem, i0, i2, i12, c, ln, lf, a1, r0, e1, c1, c0, y1, y4, c2]
          exact done t (21, f.at_) ft (abw hI hL hH (hU po (adG hx c1 ⟨po, by rw [hgd]; exact c2⟩) hn))
        · simp -implicitDefEqProofs (disch := first|go_size|fail) only [go_sem, i0, i2, i12, c, ln, lf, a1, r0, e1, c1, c0, y1, y4, c2]
          exact ⟨fs.length - (i + 1), po, i + 1, rfl, po, ft, fun j hj => by
           by_cases ej : j = i
           · subst ej; exact Yl hx c1 (by rw [hgd]; exact fun hh => c2 hh.2)
           · exact hn j po, pt, pt, pt⟩
      · simp -implicitDefEqProofs (disch := first|go_size|fail) only [go_sem, i0, i2, i12, c, ln, lf, a1, r0, e1, c1, c0]
        exact ⟨fs.length - (i + 1), po, i + 1, rfl, po, ft, fun j hj => by
         by_cases ej : j = i
         · subst ej; exact Yl hx c1 (fun hh => c0 po)
         · exact hn j po, pt, pt, pt⟩
  · simp -implicitDefEqProofs (disch := first|go_size|fail) only [go_sem, i0, i2, i12, c, lf]
    exact done t (0, 0) ft (agz hI hL hH (ic fun j hj => hn j po))
 have rest2 : ∀ (e : E) (t : St), Fr s t [] → cH l.length (ve l) = none → vB l = none → e.a0.a0 = v → e.a0.a1 = hv → e.a0.a2 = fv → dg (aV (aL [rT g6, rT g7]) (KR (K d) e t)) Q := by
  intro e t ft hI hL i0 i1 i2;have hne : l ≠ [] := by rintro rfl; simp [vB] at hL
  simp -implicitDefEqProofs (disch := first|go_size|fail) only [go_sem, KR.eq_1, i0, i1, i2, lh]
  refine bf (Q := fun r => dg (aV _ (di (cL 2 r) _)) _) (fun q e t => ∃ i : Nat, q = hs.length - i ∧ i ≤ hs.length ∧ Fr s t [] ∧ (∀ j, j < i → Bf l hs j = none) ∧ g0 e = v ∧ g1 e = hv ∧ g2 e = fv ∧ g10 e = .i (i : Nat)) ?_ (n := hs.length) po ⟨0, po, po, ft, fun j hj => absurd hj (Nat.not_lt_zero j), pt, pt, pt, pt⟩
  clear ft i0 i1 i2;rintro q e t ⟨i, rfl, hi, ft, hn, i0, i1, i2, i10⟩;replace i0 : e.a0.a0 = _ := i0;replace i1 : e.a0.a1 = _ := i1;replace i2 : e.a0.a2 = _ := i2;replace i10 : e.a0.a10 = _ := i10;by_cases c : (i : Int) < ((hs.length : Nat) : Int)
  · obtain ⟨x, hx⟩ : ∃ x, hs[i]? = some x := ⟨_, List.getElem?_eq_getElem po⟩;obtain ⟨b, o, a1, _, _, a4⟩ := (hh.fr hw ft pm).at ft.wf (i := i) (x := x.cells) (by rw [List.getElem?_map, hx]; rfl)
    obtain ⟨u1, k1, ck1, fk1, nk1⟩ := bu (s := t) (l := [V.i 0, .i 0, .i 0, .str []]) (n := 4) ft.wf rfl;obtain ⟨u2, k2, ck2, fk2, nk2⟩ := cG (s := u1) (b := t.next) (o := 0) (vs := x.cells) (m := 4) fk1.wf ck1 x.row.1 pm x.row.2;replace ck2 : u2.cl t.next = some x.cells := by rw [ck2]; simp [dA, Hd.cells]
    have Fk : Fr t u2 [] := fk1.trans' fk2 (fun b hb => .inr (by simp at hb; omega))
    have rd : ∀ u, Fr u2 u [] → cP (.ptr t.next 0) u = some (.i x.from_) ∧ cP (.ptr t.next 1) u = some (.i x.mw) ∧ cP (.ptr t.next 2) u = some (.i x.at_) := fun u fu => by
     have cu := fu.cl Fk.wf ck2 pm;exact ⟨aK fu.wf cu rfl, aK fu.wf cu rfl, aK fu.wf cu rfl⟩
    obtain ⟨ra0, ra1, ra2⟩ := rd u2 (Fr.refl Fk.wf _);have F0 : Fr s u2 [] := ft.trans Fk;have e1 := iu Fk.wf (h.fr hw F0 pm) x.from_ (m := d) po hl;have e2 := iu Fk.wf (h.fr hw F0 pm) x.at_ (m := d) po hl;have e3 := iu Fk.wf (h.fr hw F0 pm) x.mw (m := d) po hl;obtain ⟨t4, e4, f4⟩ := acd Fk.wf (h.fr hw F0 pm) L (m := d) po;have f13 := Fr.refl Fk.wf [];have f14 := f13.trans f4;obtain ⟨re0, re1, re2⟩ := rd t4 f14;have bad : ∀ u, Fr s u [] → sZ l x → Q (.bH [.i 16, .i x.from_]) u := fun u fu hb => done u (16, x.from_) fu (afA hI hL (hU po (ael hx hb) hn))
    have good : ¬ sZ l x → ∀ j, j < i + 1 → Bf l hs j = none := fun hb j hj => by
     by_cases ej : j = i
     · subst ej; exact aeC hx hb
     · exact hn j po
    by_cases c1 : bh l x.from_ < 0
    · skip
      simp -implicitDefEqProofs (disch := first|go_size|fail) only [go_sem, i0, i1, i2, i10, c, a_, a1, a4, k1, k2, ra0, ra1, ra2, e1, e2, e3, e4, re0, re1, re2, lh, c1, eq_self]
      exact bad u2 (F0) (.inl c1)
    by_cases c2 : bh l x.at_ < 0
    · skip
      simp -implicitDefEqProofs (disch := first|go_size|fail) only [go_sem, i0, i1, i2, i10, c, a_, a1, a4, k1, k2, ra0, ra1, ra2, e1, e2, e3, e4, re0, re1, re2, lh, c1, c2, eq_self]
      exact bad u2 (F0) (.inr (.inl c2))
    by_cases c3 : bh l x.mw < 0
    · by_cases c4 : x.mw = Dn l
      · by_cases c5 : x.from_ ≥ x.mw
        · rw [← c4] at e4;simp -implicitDefEqProofs (disch := first|go_size|fail) only [go_sem, i0, i1, i2, i10, c, a_, a1, a4, k1, k2, ra0, ra1, ra2, e1, e2, e3, e4, re0, re1, re2, lh, c1, c2, c3, c5, eq_self]
          exact bad t4 (F0.trans f14) (.inr (.inr (.inr c5)))
        · rw [← c4] at e4;simp -implicitDefEqProofs (disch := first|go_size|fail) only [go_sem, i0, i1, i2, i10, c, a_, a1, a4, k1, k2, ra0, ra1, ra2, e1, e2, e3, e4, re0, re1, re2, lh, c1, c2, c3, c5, eq_self]
          exact ⟨hs.length - (i + 1), po, i + 1, rfl, po, F0.trans f14, good (by unfold sZ; omega), pt, pt, pt, pt⟩
      · skip
        simp -implicitDefEqProofs (disch := first|go_size|fail) only [go_sem, i0, i1, i2, i10, c, a_, a1, a4, k1, k2, ra0, ra1, ra2, e1, e2, e3, e4, re0, re1, re2, lh, c1, c2, c3, c4, eq_self]
        exact bad t4 (F0.trans f14) (.inr (.inr (.inl ⟨c3, c4⟩)))
    · by_cases c5 : x.from_ ≥ x.mw
      · skip
        simp -implicitDefEqProofs (disch := first|go_size|fail) only [go_sem, i0, i1, i2, i10, c, a_, a1, a4, k1, k2, ra0, ra1, ra2, e1, e2, e3, e4, re0, re1, re2, lh, c1, c2, c3, c5, eq_self]
        exact bad u2 (F0) (.inr (.inr (.inr c5)))
      · skip
        simp -implicitDefEqProofs (disch := first|go_size|fail) only [go_sem, i0, i1, i2, i10, c, a_, a1, a4, k1, k2, ra0, ra1, ra2, e1, e2, e3, e4, re0, re1, re2, lh, c1, c2, c3, c5, eq_self]
        exact ⟨hs.length - (i + 1), po, i + 1, rfl, po, F0, good (by unfold sZ; omega), pt, pt, pt, pt⟩
  · simp -implicitDefEqProofs (disch := first|go_size|fail) only [go_sem, i0, i1, i2, i10, c, lh]
    exact rest3 _ t ft hI hL (ic fun j hj => hn j po) pt pt
 have rest1 : ∀ (e : E) (t : St), Fr s t [] → l ≠ [] → cH l.length (ve l) = none → e.a0.a0 = v → e.a0.a1 = hv → e.a0.a2 = fv → dg (aV (aL [rT g6, rT g7]) (xC (K d) e t)) Q := by
  intro e t ft hne hI i0 i1 i2;have hp := List.length_pos_iff.2 hne;obtain ⟨x, hx⟩ : ∃ x, l[l.length - 1]? = some x := ⟨_, List.getElem?_eq_getElem po⟩;obtain ⟨b, o, a1, _, _, a4⟩ := (h.fr hw ft pm).at ft.wf (i := l.length - 1) (x := x.cells) (by rw [List.getElem?_map, hx]; rfl)
  rw [show ((l.length - 1 : Nat) : Int) = ((l.length : Nat) : Int) - 1 by omega] at a1
  obtain ⟨u1, k1, ck1, fk1, nk1⟩ := bu (s := t) (l := [V.i 0, .i 0, .i 0, .i 0]) (n := 4) ft.wf rfl;obtain ⟨u2, k2, ck2, fk2, nk2⟩ := cG (s := u1) (b := t.next) (o := 0) (vs := x.cells) (m := 4) fk1.wf ck1 x.row.1 pm x.row.2;replace ck2 : u2.cl t.next = some x.cells := by rw [ck2]; simp [dA, In.cells]
  have Fk : Fr t u2 [] := fk1.trans' fk2 (fun b hb => .inr (by simp at hb; omega))
  have r0 : cP (.ptr t.next 0) u2 = some (.i x.at_) := aK fk2.wf ck2 rfl;have r1 : cP (.ptr t.next 1) u2 = some (.i x.op) := aK fk2.wf ck2 rfl;obtain ⟨q1, q2, q3, q4⟩ := L.op _ x hx;have e1 := aap (n := x.op) q1 q2 u2 (m := d) po;cases he : eN x.op with
  | false =>
    rw [he] at e1;simp -implicitDefEqProofs (disch := first|go_size|fail) only [go_sem, xC.eq_1, i0, i1, i2, ln, a1, a4, a_, k1, k2, r0, r1, e1]
    exact done u2 (17, x.at_) (ft.trans Fk) (acY hI (acI hx he))
  | true =>
    rw [he] at e1;simp -implicitDefEqProofs (disch := first|go_size|fail) only [go_sem, xC.eq_1, i0, i1, i2, ln, a1, a4, a_, k1, k2, r0, r1, e1]
    exact rest2 _ u2 (ft.trans Fk) hI (abo hx he) pt pt pt
 by_cases hne : l = []
 · subst hne;replace ln : aM v = some (.i 0) := ln;simp -implicitDefEqProofs (disch := first|go_size|fail) only [op5, go_sem, ln, eq_self]
   exact done s (17, 0) (Fr.refl hw _) (acY (ic fun j hj => absurd hj (Nat.not_lt_zero j)) rfl)
 have hp := List.length_pos_iff.2 hne;have c0 : ¬ ((l.length : Nat) : Int) = 0 := po;simp -implicitDefEqProofs (disch := first|go_size|fail) only [op5, go_sem, ln, c0]
 refine bf (Q := fun r => dg (aV _ (di (cL 0 r) _)) _) (fun q e t => ∃ i : Nat, q = l.length - i ∧ i ≤ l.length ∧ Fr s t [] ∧ (∀ j, j < i → ve l j = none) ∧ g0 e = v ∧ g1 e = hv ∧ g2 e = fv ∧ g8 e = .i (i : Nat)) ?_ (n := l.length) po ⟨0, po, po, Fr.refl hw _, fun j hj => absurd hj (Nat.not_lt_zero j), pt, pt, pt, pt⟩
 rintro q e t ⟨i, rfl, hi, ft, hn, i0, i1, i2, i8⟩;replace i0 : e.a0.a0 = _ := i0;replace i1 : e.a0.a1 = _ := i1;replace i2 : e.a0.a2 = _ := i2;replace i8 : e.a0.a8 = _ := i8;by_cases c : (i : Int) < ((l.length : Nat) : Int)
 · obtain ⟨x, hx⟩ : ∃ x, l[i]? = some x := ⟨_, List.getElem?_eq_getElem po⟩;obtain ⟨b, o, a1, _, a3, a4⟩ := (h.fr hw ft pm).at ft.wf (i := i) (x := x.cells) (by rw [List.getElem?_map, hx]; rfl)
   obtain ⟨q1, q2, q3, q4⟩ := L.op _ x hx;have r0 := a3 0 _ rfl;rw [Nat.add_zero] at r0;have r1 := a3 1 _ rfl;have r2 := a3 2 _ rfl;have e1 := oo (n := x.op) q1 q2 t (m := d) po;have e2 := iu ft.wf (h.fr hw ft pm) x.a (m := d) po hl;cases hb : gU x.op with
   | false =>
     rw [hb] at e1;simp -implicitDefEqProofs (disch := first|go_size|fail) only [go_sem, i0, i1, i2, i8, c, ln, a1, r0, r1, r2, e1, e2]
     exact ⟨l.length - (i + 1), po, i + 1, rfl, po, ft, fun j hj => by
      by_cases ej : j = i
      · subst ej; exact TF hx (by rw [hb]; simp)
      · exact hn j po, pt, pt, pt, pt⟩
   | true =>
     rw [hb] at e1;by_cases c1 : bh l x.a < 0
     · simp -implicitDefEqProofs (disch := first|go_size|fail) only [go_sem, i0, i1, i2, i8, c, ln, a1, r0, r1, r2, e1, e2, c1]
       exact done t (16, x.at_) ft (af4 (hU po (acE hx hb c1) hn))
     · simp -implicitDefEqProofs (disch := first|go_size|fail) only [go_sem, i0, i1, i2, i8, c, ln, a1, r0, r1, r2, e1, e2, c1]
       exact ⟨l.length - (i + 1), po, i + 1, rfl, po, ft, fun j hj => by
        by_cases ej : j = i
        · subst ej; exact TF hx (fun hh => c1 hh.2)
        · exact hn j po, pt, pt, pt, pt⟩
 · simp -implicitDefEqProofs (disch := first|go_size|fail) only [go_sem, i0, i1, i2, i8, c, ln]
   exact rest1 _ t ft hne (ic fun j hj => hn j po) pt pt pt
theorem RN.cut {es : Nat} {s : St} {v : V} {l : List (List V)} {i : Nat} (h : RN es s v l) (hv : v = .ay ∨ ∃ b o, v = .slice b o l.length none es) (hi : i ≤ l.length) (h0 : 0 < i) : ∃ v', oe es v none (some (.i (i : Nat))) none = some v' ∧ RN es s v' (l.take i) ∧ aB v' = aB v := by
 rcases h.2 with ⟨rfl, _⟩ | ⟨b, o, c, n, f, rfl, h2, h3, h4⟩
 · simp at hi; omega
 · rcases hv with hv | ⟨b', o', hv⟩
   · cases hv
   · cases hv
     have hl : (l.take i).length = i := by rw [List.length_take]; omega
     have hm : i * es ≤ l.length * es := Nat.mul_le_mul_right _ hi;refine ⟨_, lV (hi := ((i : Nat) : Int)) po po, ⟨fun x hx => h.1 x (List.mem_of_mem_take hx), .inr ⟨b, o, none, n, f, by rw [hl]; rfl, h2, by rw [hl]; omega, fun k x hk j hj => ?_⟩⟩, rfl⟩
     rw [List.getElem?_take] at hk;split at hk
     · exact h4 k x hk j hj
     · cases hk
theorem kr.hd {bs : List Nat} {l : List In} {hr : List (List V)} (h : kr bs l hr) : ∃ hs : List Hd, hr = hs.map Hd.cells ∧ hs.length ≤ 54 := by
 obtain ⟨h, _⟩ | ⟨ls, n, hs, M, h, _⟩ := h.ex
 · exact ⟨[], h, pm⟩
 · refine ⟨hs.map fun x => ⟨(cD n ls).1.getD x.1 0, (cD n ls).1.getD x.2.1 0, (cD n ls).1.getD x.2.2 0, thr⟩, ?_, by rw [List.length_map]; exact M.hl⟩
   rw [h, List.map_map]; rfl
theorem b04 (id : Nat) : eS 0 4 [] [] id = some (.slice id 0 0 (some 0) 4, .cells 0 (cK [])) := (rfl)
theorem Qj {es : Nat} {s t : St} {va vb : V} {la lb : List (List V)} (ft : Fr s t []) (ha : RN es t va la) (hb : RN es t vb lb) (l1 : la.length ≤ 100000) (l2 : lb.length ≤ 100000) :
 ∃ y0 v1 y1 v2 y2, t.new (.cells 0 (cK [])) = y0 ∧ vF es (.slice t.next 0 0 (some 0) es) va y0 = some (v1, y1) ∧ vF es v1 vb y1 = some (v2, y2) ∧ GN es y2 v2 (la ++ lb) ∧ Fr t y2 [] ∧ Fr t y0 [] ∧ Fr t y1 [] := by
 obtain ⟨y0, k0, c0, f0, n0⟩ := bu (s := t) (l := []) (n := 0) ft.wf rfl;have g0' : GN es y0 (.slice t.next 0 0 (some 0) es) [] := ⟨pm, .inl ⟨rfl, .inr ⟨_, rfl, c0⟩⟩⟩;obtain ⟨v1, y1, k1, g1', f1, b1⟩ := g0'.app f0.wf ((ha.fr ft.wf f0 pm).src po) ha.1 pm;have F1 : Fr t y1 [] := f0.trans' f1 (fun b hb => .inr (by simp [aB] at hb; omega))
 rw [List.nil_append] at g1';obtain ⟨v2, y2, k2, g2', f2, b2⟩ := g1'.app f1.wf ((hb.fr ft.wf F1 pm).src po) hb.1 po;have hf0 := f0.nx;have hb1 : ∀ b ∈ aB v1, t.next ≤ b := by
  intro b hb;rcases b1 b hb with h | h
  · simp [aB] at h; omega
  · omega
 exact ⟨y0, v1, y1, v2, y2, k0, k1, k2, g2', F1.trans' f2 (fun b hb => .inr (hb1 b hb)), f0, F1⟩
theorem vM {l : List In} {hs : List Hd} {fs : List Fm} (h : (dK l hs fs).1 = 0) : l ≠ [] ∧ ∃ x, l[l.length - 1]? = some x ∧ eN x.op = true := by
 have h1 : cH l.length (ve l) = none := by
  cases c : cH l.length (ve l) with
  | none => rfl
  | some r =>
    exfalso;unfold dK at h;rw [c] at h;unfold cH at c;obtain ⟨i, _, hi⟩ := List.exists_of_findSome?_eq_some c;unfold ve at hi;split at hi
    · split at hi
      · simp at hi; subst hi; simp at h
      · cases hi
    · cases hi
 have h2 : vB l = none := by
  cases c : vB l with
  | none => rfl
  | some r =>
    exfalso;unfold dK at h;rw [h1, c] at h;unfold vB at c;split at c
    · split at c
      · cases c
      · simp at c; subst c; simp at h
    · simp at c; subst c; simp at h
 unfold vB at h2;split at h2
 · rename_i x hx;split at h2
   · rename_i hx2;exact ⟨fun e => by rw [e] at hx; simp at hx, x, hx, hx2⟩
   · cases h2
 · cases h2
theorem Au (l : List In) (hs : List Hd) (hl : l.length ≤ 1024) : (LL l hs).length ≤ 1024 := by
 have hs_ := Br l hs;rcases Nat.lt_or_ge 1024 (LL l hs).length with hh | hh
 · exfalso;have key : ∀ (k : Nat) f, (LL l hs)[k]? = some f → (k : Int) ≤ f := fun k => by
    induction k with
    | zero => intro f hf; exact (NC hf).1
    | succ k ih =>
      intro f hf;obtain ⟨g, hg⟩ : ∃ g, (LL l hs)[k]? = some g := ⟨_, List.getElem?_eq_getElem (by have := (List.getElem?_eq_some_iff.1 hf).1; omega)⟩
      have := ih g hg;have := w_ hs_ (show k < k + 1 by omega) hg hf
      omega
   obtain ⟨f, hf⟩ : ∃ f, (LL l hs)[1024]? = some f := ⟨_, List.getElem?_eq_getElem hh⟩;have := key 1024 f hf;have := (NC hf).2;omega
 · exact hh
set_option maxHeartbeats 8000000 in
theorem QE {s : St} (hw : Wf s) {v w hv : V} {bs : List Nat} {l : List Int} {hs : List Hd} (h : SL s v (bs.map bJ)) (h256 : ∀ n ∈ bs, n < 256) (hlen : bs.length ≤ 9223372036854775807) (hvb : ∀ b ∈ aB v, b < s.next)
 (hv0 : SL s w (l.map V.i)) (hv1 : w.one = true) (hI : ∀ x ∈ l, XQ x) (hl : l.length ≤ 17592186044416) (hwb : ∀ b ∈ aB w, b < s.next)
 (hh : RN 4 s hv (hs.map Hd.cells)) (hhv : hv = .ay ∨ ∃ b o, hv = .slice b o (hs.map Hd.cells).length none 4) (hhl : hs.length ≤ 9223372036854775807) {m : Nat} (hm : 33 ≤ m) :
 ∃ t, (K m).call 3 [v, w, hv] s = some (.bool true, t) := by
 obtain ⟨d, rfl⟩ : ∃ d, m = d + 1 := ⟨m - 1, po⟩;let Q : V → St → Prop := fun x t => x = .bool true
 suffices key : dg ((K (d + 1)).call 3 [v, w, hv] s) Q by
  obtain ⟨x, t, e, rfl⟩ := key;exact ⟨t, e⟩
 obtain ⟨s1, lv, mv, gv, I, hr, fr, e1, r1, r2, r3, r4, r5, ok, f1, b1⟩ := PJ hw h h256 hlen hvb hv0 hv1 hI hl hwb (m := d) po;obtain ⟨hs1, rfl, hs54⟩ := ok.hd;have L := ok.ll h256;have hl1 := L.len;have hLs := fun hs3 => Au I hs3 po
 have k6 : ∀ t, (K d).call 6 [] t = some (.bool true, t) := fun t => by
  obtain ⟨d', rfl⟩ : ∃ d', d = d' + 1 := ⟨d - 1, po⟩;exact op6 d' t
 clear h h256 hlen hvb hv0 hv1 hI hl hwb r3 r4 r5 ok b1;have rest18 : ∀ (e : E) (t : St) (hv3 : V) (hs3 : List Hd), Fr s1 t [] → RN 4 t hv3 (hs3.map Hd.cells) → hs3.length ≤ 100 → e.a0.a7 = lv → e.a0.a10 = hv3 → dg (aV (aL [rT g6]) (wX (K d) e t)) Q := by
  intro e t hv3 hs3 ft hH hH8 i7 i10;have hR := r1.fr f1.wf ft pm;obtain ⟨t1, x1, p1⟩ := xA ft.wf hR L hH po (fv := .ay) (fs := []) ⟨pm, .inl ⟨rfl, .inl rfl⟩⟩ pm (m := d) po;have kk1 := k6 t1;by_cases c : (dK I hs3 []).1 = 0
  · obtain ⟨hne, hlast⟩ := vM c;rw [c] at x1;have F1 := ft.trans p1;obtain ⟨t2, bv, x2, p2, B2⟩ := Gr F1.wf (r1.fr f1.wf F1 pm) L (hH.fr ft.wf p1 pm) po hne hlast (m := d) po;have F2 := p1.trans p2;have G2 := ft.trans F2;obtain ⟨t3, cv, x3, p3, B3⟩ := OT G2.wf (r1.fr f1.wf G2 pm) L (hH.fr ft.wf F2 pm) po (m := d) po;obtain ⟨rows, q1, q2, q3⟩ := B2;have B2' : zN t3 bv I (LL I hs3) := ⟨rows, q1.fr p2.wf p3 pm, q2, fun k f hf => by obtain ⟨r, hr, hw⟩ := q3 k f hf; exact ⟨r, hr, hw.fr p2.wf p3 pm fun _ h => h⟩⟩
    have x4 := aeA p3.wf B2' B3 (by have := hLs hs3; omega) (d - 2)
    rw [show d - 2 + 2 = d by omega] at x4
    have F3 := F2.trans p3;have G3 := ft.trans F3;obtain ⟨t4, rv, out, x5, p4, S4, J4, M4⟩ := OR G3.wf (r1.fr f1.wf G3 pm) L (hH.fr ft.wf F3 pm) po (m := d) po;have F4 := F3.trans p4;have G4 := ft.trans F4;obtain ⟨t5, rv2, out2, x6, p5, S5, n5, so5, al5⟩ := Pw G4.wf (r1.fr f1.wf G4 pm) L (hH.fr ft.wf F4 pm) po hne (m := d) po;have hcl : ∀ k : Nat, out[k]? = some true → Cl I hs3 out k := fun k hk => by
     rcases J4.cl k hk with h | h | h
     · simp at h
     · omega
     · exact h
    have ho := Jc J4.len n5 J4.so so5 (xw J4.len M4 hcl) al5;subst ho;have x7 := Q4 p5.wf (S4.fr p4.wf p5 pm) S5 po (d - 1);rw [show d - 1 + 1 = d by omega] at x7
    have kk5 := k6 t5;simp -implicitDefEqProofs (disch := first|go_size|fail) only [go_sem, wX.eq_1, i7, i10, x1, x2, x3, x4, x5, x6, x7, kk5, eq_self, ne_eq, not_true]
    first | done | rfl
  · simp -implicitDefEqProofs (disch := first|go_size|fail) only [go_sem, wX.eq_1, i7, i10, x1, kk1, c, ne_eq, not_false_eq_true]
    first | done | rfl
 have rest9 : ∀ (e : E) (hv2 : V) (hs2 : List Hd), RN 4 s1 hv2 (hs2.map Hd.cells) → hs2.length ≤ 6 → e.a0.a2 = hv2 → e.a0.a7 = lv → e.a0.a8 = mv → dg (aV (aL [rT g6]) (O8 (K d) e s1)) Q := by
  intro e hv2 hs2 hH hH8 i2 i7 i8;obtain ⟨y0, v1, y1, v2, y2, k0, k1, k2, gg, F2, _, _⟩ := Qj (Fr.refl f1.wf []) r2 hH (by rw [List.length_map]; omega) (by rw [List.length_map]; omega)
  rw [← List.map_append] at gg;have hR := r1.fr f1.wf F2 pm;have gr := gg.rn F2.wf;have hlen2 : (hs1 ++ hs2).length ≤ 60 := by rw [List.length_append]; omega
  obtain ⟨t1, x1, p1⟩ := xA F2.wf hR L gr po (fv := .ay) (fs := []) ⟨pm, .inl ⟨rfl, .inl rfl⟩⟩ pm (m := d) po;have F3 := F2.trans p1;by_cases c : (dK I (hs1 ++ hs2) []).1 = 0
  · rw [c] at x1;simp -implicitDefEqProofs (disch := first|go_size|fail) only [go_sem, O8.eq_1, i2, i7, i8, b04, k0, k1, k2, x1, eq_self, ne_eq, not_true]
    exact rest18 _ t1 v2 (hs1 ++ hs2) F3 (gr.fr F2.wf p1 pm) po pt pt
  · simp -implicitDefEqProofs (disch := first|go_size|fail) only [go_sem, O8.eq_1, i2, i7, i8, b04, k0, k1, k2, x1, c, ne_eq, not_false_eq_true]
    exact rest18 _ t1 mv hs1 F3 (r2.fr f1.wf F3 pm) po pt pt
 have hH := hh.fr hw f1 pm;have lh := hH.len;rw [List.length_map] at lh;by_cases c : ((hs.length : Nat) : Int) > 6
 · obtain ⟨v', c1, c2, _⟩ := hH.cut hhv (i := 6) (by rw [List.length_map]; omega) po
   rw [← List.map_take] at c2;replace c1 : oe 4 hv none (some (.i 6)) none = some v' := c1;simp -implicitDefEqProofs (disch := first|go_size|fail) only [op3, go_sem, e1, lh, c, c1]
   exact rest9 _ v' (hs.take 6) c2 (by rw [List.length_take]; omega) pt pt pt
 · simp -implicitDefEqProofs (disch := first|go_size|fail) only [op3, go_sem, e1, lh, c]
   exact rest9 _ hv hs hH po pt pt pt
end
end Go.Proofs.YtcgdlgbomjnnnaaGreatLab
namespace Go.Proofs.YtcgdlgbomjnnnaaGreatLab
open Go Go.WideShapes Go.ChangeShapes
set_option linter.all false
set_option maxRecDepth 10000
noncomputable section
theorem aa3 {G : Pl} {s : St} {x : V} {l : List V} {a : Option Addr} {len cap : Nat} (vr : VR G x (.slice a len cap)) (sl : SL s x l) : l.length = len := by
 rcases sl with ⟨rfl, rfl | ⟨b, o, c, rfl⟩⟩ | ⟨b, o, c, n, g, rfl, _⟩
 · cases vr; rfl
 · obtain ⟨_, a', c', hax, _⟩ := vr.fG;cases hax; rfl
 · obtain ⟨_, a', c', hax, _⟩ := vr.fG;cases hax; rfl
theorem v_ {H : Type} {enc : TypeId × Value → H} {P : Program} {W : World} {base : Nat} {spare : Nat → Bool} {held : Bool} {t e : TypeId} {a : Option Addr} {len cap : Nat} {d : DataW H} {ps : List MemPlace} {ts : List TypeId} {ds : List (DataW H)} {j : Nat}
 (hw : (DataW.weightsEach P ts ds).all (· ≤ reachBytes) = true) (ht : ts[j]? = some t) (hd : ds[j]? = some d) (hu : P.underlying t = some (.slice e)) (he : P.underlying e = some (.int .i64)) (hc : P.cellsOf e = 1) (hB : P.bytesOf e = 8)
 (h : DataW.Trod enc P W base spare held t (.slice a len cap) d ps) : len * 8 ≤ 140737488351232 := by
 obtain ⟨fuel, hf⟩ := h;rcases open_ints hu he hc hf with ⟨hcs, _⟩ | ⟨x, l, c, zs, hcs, _, hl, _, hz, hx, _, _⟩
 · simp [Value.cells] at hcs;obtain ⟨rfl, rfl, rfl⟩ := hcs;simp
 · simp [Value.cells] at hcs;obtain ⟨rfl, rfl, rfl⟩ := hcs;obtain ⟨hx, _⟩ := Prod.mk.inj hx;subst hx;have z := sized_slice hw ht hd hu;rw [hB] at z;have hn : len ≤ zs.length := by
    rw [hz]; split
    · exact hl
    · exact Nat.le_refl _
   have hs : (lits (H := H) .i64 (zs.take len)).length + (lits (H := H) .i64 (zs.drop len)).length = zs.length := by
    simp [lits]; omega
   rw [hs] at z;exact Nat.le_trans (Nat.mul_le_mul_right _ hn) z
theorem RN.sl {s : St} {v : V} {l : List V} (h : RN 1 s v (l.map fun x => [x])) : SL s v l := by
 rcases h.2 with ⟨h0, h1⟩ | ⟨b, o, c, n, f, h1, h2, h3, h4⟩
 · exact .inl ⟨by simpa using h0, h1⟩
 · rw [List.length_map] at h1 h3;refine .inr ⟨b, o, c, n, f, h1, h2, po, fun i hi => ?_⟩
   have := h4 i [l[i]] (by rw [List.getElem?_map, List.getElem?_eq_getElem hi]; rfl) 0 po
   rw [show o + i * 1 + 0 = o + i by omega] at this
   rw [this, List.getElem?_eq_getElem hi]; rfl
section
variable {H : Type} {enc : TypeId × Value → H} {W : World} {base b0 : Nat} {r : Go.Reach} {held : Bool}
theorem uG {t e : TypeId} {es : Nat} (h0 : 0 < es) (ht : Tryz.prog.underlying t = some (.slice e)) (hc : Tryz.prog.cellsOf e = es) (P : List V → Prop) (hP : ∀ x, P x → Row es x)
 (one : ∀ (n k : Nat) (cs : List Value) (y : DataW H × List MemPlace), cs.length = es → DataW.trod enc Tryz.prog W base (fun _ => true) held n e cs = some y → (∃ l, h_ W k = some l) → ∃ x : List V, P x ∧ ∀ (j : Nat) (u : Value), cs[j]? = some u → ∃ z, imp W 1 k u = some z ∧ x[j]? = some z)
 {v : Value} {d : DataW H} {ps : List MemPlace} (hval : Value.okWide Tryz.prog W r b0 t v) (h : DataW.Trod enc Tryz.prog W base (fun _ => true) held t v d ps) :
 ∃ (x : V) (l : List (List V)), VR (h_ W) x v ∧ RN es (nH W 1) x l ∧ (x = .ay ∨ ∃ b o, x = .slice b o l.length none es) ∧ (∀ b ∈ aB x, b < W.heap.size) ∧ (∀ x ∈ l, P x) ∧ l.length ≤ maxLen := by
 obtain ⟨fuel, hf⟩ := h;obtain ⟨a, len, cap, rfl⟩ := okWide_slice ht hval;have hf : DataW.trod enc Tryz.prog W base (fun _ => true) held fuel t [.slice a len cap] = some (d, ps) := hf
 rcases vf ht hc hf with h0' | ⟨a', len', cap', h1, hl, hm, hcell⟩
 · cases h0'
   exact ⟨.ay, [], .ay, ⟨pm, .inl ⟨rfl, .inl rfl⟩⟩, .inl rfl, by simp [aB], pm, pm⟩
 · cases h1
   obtain ⟨hsp, _, c, el, fz, hblk⟩ := mW ht hval;have hg : h_ W a'.block = some ⟨a'.block, 0, c.size⟩ := by unfold h_; rw [hblk]
   have hlt : a'.block < W.heap.size := (Array.getElem?_eq_some_iff.1 hblk).1;obtain ⟨ab, ao, asp⟩ := a';simp only at hsp hblk hg hlt;subst hsp;have each : ∀ i, i < cap → ∃ x : List V, P x ∧ ∀ j, j < es → ∃ u z, c[ao + i * es + j]? = some u ∧ imp W 1 ab u = some z ∧ x[j]? = some z := fun i hi => by
    obtain ⟨cs, y, n', q1, q2, q3⟩ := hcell i hi;obtain ⟨a, ha, hj⟩ := one n' ab cs y q1 q3 ⟨_, hg⟩;refine ⟨a, ha, fun j hj7 => ?_⟩
    have hc := q2 j hj7;have hu : cs[j]? = some cs[j] := List.getElem?_eq_getElem po;rw [hu] at hc;obtain ⟨z, z1, z2⟩ := hj j _ hu;rw [dM] at hc;unfold World.cell? at hc;simp only [hblk] at hc;exact ⟨cs[j], z, by rw [Nat.add_assoc]; simpa using hc, z1, z2⟩
   have htot : cap = 0 ∨ ao + cap * es ≤ c.size := by
    by_cases h0' : cap = 0
    · exact .inl h0'
    · obtain ⟨a, _, hj⟩ := each (cap - 1) po;obtain ⟨u, z, hu, _⟩ := hj (es - 1) po;have := (Array.getElem?_eq_some_iff.1 hu).1;have hmul : cap * es = (cap - 1) * es + es := by rw [← Nat.succ_mul]; congr 1; omega
      exact .inr po
   have hch : ∃ g : Nat → List V, ∀ i, i < cap → P (g i) ∧ ∀ j, j < es → ∃ u z, c[ao + i * es + j]? = some u ∧ imp W 1 ab u = some z ∧ (g i)[j]? = some z := by
    refine ⟨fun i => if h : i < cap then (each i h).choose else [], fun i hi => ?_⟩
    simp only [dif_pos hi];exact (each i hi).choose_spec
   obtain ⟨g, hgs⟩ := hch;have hrow : ∀ x ∈ (List.range len).map g, P x := fun x hx => by
    obtain ⟨i, hi, rfl⟩ := List.mem_map.1 hx;simp at hi;exact (hgs i po).1
   refine ⟨.slice ab ao len none es, (List.range len).map g, .slice _ _ _ _ _ _ ⟨ab, 0, c.size⟩ _ hg hl (fun k h => by cases h) (.inr pm) (by simpa using htot), ⟨fun x hx => hP x (hrow x hx), ?_⟩, .inr ⟨ab, ao, pm⟩, fun b hb => by simp [aB] at hb; subst hb; exact hlt, hrow, by simp; omega⟩
   by_cases h0' : len = 0
   · subst h0'; exact .inl ⟨pm, .inr ⟨_, _, _, rfl⟩⟩
   · have hmul : len * es ≤ cap * es := Nat.mul_le_mul_right _ hl;refine .inr ⟨ab, ao, none, _, _, pm, xu hblk, by simp; omega, fun i a hi j hj => ?_⟩
     have hil := (List.getElem?_eq_some_iff.1 hi).1;simp at hil;simp [hil] at hi;subst hi;obtain ⟨_, h2⟩ := hgs i po;obtain ⟨u, z, u1, u2, u3⟩ := h2 j hj;simp only [u1, u2, u3]
theorem wo : Tryz.prog.cellsOf 3 = 1 := by kernel_rfl
theorem YB : Tryz.prog.cellsOf 5 = 1 := by kernel_rfl
theorem ZK : Tryz.prog.cellsOf 9 = 1 := by kernel_rfl
theorem OY : Tryz.prog.cellsOf 57 = 4 := by kernel_rfl
theorem pe {n : Nat} {u : Value} {y : DataW H × List MemPlace} (h : DataW.trod enc Tryz.prog W base (fun _ => true) held n 3 [u] = some y) : ∃ z : Int, u = .int .i64 z ∧ -9223372036854775808 ≤ z ∧ z < 9223372036854775808 := by
 obtain ⟨z, h1, _, h3⟩ := DataW.trod_int Tryz.underlying3 h;cases h1
 exact ⟨z, rfl, aaC h3⟩
theorem Ci {n : Nat} {u : Value} {y : DataW H × List MemPlace} (h : DataW.trod enc Tryz.prog W base (fun _ => true) held n 9 [u] = some y) : ∃ z : ByteArray, u = .string z := by
 obtain ⟨z, h1, _⟩ := DataW.trod_string Tryz.underlying9 h;cases h1
 exact ⟨z, rfl⟩
theorem CU {n k : Nat} {cs : List Value} {y : DataW H × List MemPlace} (hl : cs.length = 1) (h : DataW.trod enc Tryz.prog W base (fun _ => true) held n 5 cs = some y) (hk : ∃ l, h_ W k = some l) :
 ∃ x : List V, (∃ m, m < 256 ∧ x = [bJ m]) ∧ ∀ (j : Nat) (u : Value), cs[j]? = some u → ∃ z, imp W 1 k u = some z ∧ x[j]? = some z := by
 obtain ⟨z, rfl, _, h3⟩ := DataW.trod_int Tryz.underlying5 h;simp [Lit.wf, IntKind.min, IntKind.max, IntKind.bits, IntKind.signed] at h3;refine ⟨[bJ z.toNat], ⟨z.toNat, po, rfl⟩, fun j u hj => ?_⟩
 match j with
 | 0 =>
   simp at hj; subst hj;refine ⟨_, rfl, ?_⟩;show some (V.int .u8 ((z.toNat : Nat) : Int)) = _;rw [show ((z.toNat : Nat) : Int) = z by omega]
 | j + 1 => simp at hj
theorem aaQ {n k : Nat} {cs : List Value} {y : DataW H × List MemPlace} (hl : cs.length = 4) (h : DataW.trod enc Tryz.prog W base (fun _ => true) held n 57 cs = some y) (hk : ∃ l, h_ W k = some l) :
 ∃ x : List V, (∃ a : Hd, x = a.cells) ∧ ∀ (j : Nat) (u : Value), cs[j]? = some u → ∃ z, imp W 1 k u = some z ∧ x[j]? = some z := by
 obtain ⟨xs, m, _, _, _, hxl, hf⟩ := DataW.trod_struct Tryz.underlying57 h
 match cs, hl with
 | [c0, c1, c2, c3], _ =>
   have f0 : DataW.trod enc Tryz.prog W base (fun _ => true) held m 3 (([c0, c1, c2, c3].drop 0).take (Tryz.prog.cellsOf 3)) = xs[0]? := hf 0 _ rfl
   rw [wo] at f0;replace f0 : DataW.trod enc Tryz.prog W base (fun _ => true) held m 3 [c0] = xs[0]? := f0
   have f1 : DataW.trod enc Tryz.prog W base (fun _ => true) held m 3 (([c0, c1, c2, c3].drop 1).take (Tryz.prog.cellsOf 3)) = xs[1]? := hf 1 _ rfl
   rw [wo] at f1;replace f1 : DataW.trod enc Tryz.prog W base (fun _ => true) held m 3 [c1] = xs[1]? := f1
   have f2 : DataW.trod enc Tryz.prog W base (fun _ => true) held m 3 (([c0, c1, c2, c3].drop 2).take (Tryz.prog.cellsOf 3)) = xs[2]? := hf 2 _ rfl
   rw [wo] at f2;replace f2 : DataW.trod enc Tryz.prog W base (fun _ => true) held m 3 [c2] = xs[2]? := f2
   have f3 : DataW.trod enc Tryz.prog W base (fun _ => true) held m 9 (([c0, c1, c2, c3].drop 3).take (Tryz.prog.cellsOf 9)) = xs[3]? := hf 3 _ rfl
   rw [ZK] at f3;replace f3 : DataW.trod enc Tryz.prog W base (fun _ => true) held m 9 [c3] = xs[3]? := f3
   have hxl : xs.length = 4 := hxl;rw [List.getElem?_eq_getElem po] at f0 f1 f2 f3;obtain ⟨z0, rfl, _⟩ := pe f0;obtain ⟨z1, rfl, _⟩ := pe f1;obtain ⟨z2, rfl, _⟩ := pe f2;obtain ⟨z3, rfl⟩ := Ci f3;refine ⟨_, ⟨⟨z0, z1, z2, aaf z3⟩, rfl⟩, fun j u hj => ?_⟩
   match j with
   | 0 => simp at hj; subst hj; exact ⟨_, rfl, rfl⟩
   | 1 => simp at hj; subst hj; exact ⟨_, rfl, rfl⟩
   | 2 => simp at hj; subst hj; exact ⟨_, rfl, rfl⟩
   | 3 => simp at hj; subst hj; exact ⟨_, rfl, rfl⟩
   | j + 4 => simp at hj
theorem oT {α : Type} {f : α → List V} : ∀ {l : List (List V)}, (∀ x ∈ l, ∃ a, x = f a) → ∃ l' : List α, l = l'.map f
 | [], _ => ⟨[], rfl⟩
 | x :: l, h => by
   obtain ⟨a, rfl⟩ := h x pm;obtain ⟨l', rfl⟩ := oT (l := l) fun y hy => h y (by simp [hy])
   exact ⟨a :: l', rfl⟩
theorem oX : ∀ {l : List (List V)}, (∀ x ∈ l, ∃ m, m < 256 ∧ x = [bJ m]) → ∃ l' : List Nat, l = (l'.map bJ).map (fun x => [x]) ∧ ∀ n ∈ l', n < 256
 | [], _ => ⟨[], rfl, pm⟩
 | x :: l, h => by
   obtain ⟨a, ha, rfl⟩ := h x pm;obtain ⟨l', rfl, h2⟩ := oX (l := l) fun y hy => h y (by simp [hy])
   exact ⟨a :: l', rfl, fun n hn => by
    rcases List.mem_cons.1 hn with rfl | hn
    · exact ha
    · exact h2 n hn⟩
theorem zh {v : Value} {d : DataW H} {ps : List MemPlace} (hval : Value.okWide Tryz.prog W r b0 22 v) (h : DataW.Trod enc Tryz.prog W base (fun _ => true) held 22 v d ps) :
 ∃ (x : V) (l : List Nat), VR (h_ W) x v ∧ SL (nH W 1) x (l.map bJ) ∧ (∀ n ∈ l, n < 256) ∧ (∀ b ∈ aB x, b < W.heap.size) ∧ l.length ≤ maxLen := by
 obtain ⟨x, l, h1, h2, h3, h4, h5, h6⟩ := uG po Tryz.underlying22 YB (fun x => ∃ m, m < 256 ∧ x = [bJ m]) (fun x hx => by obtain ⟨m, _, rfl⟩ := hx; exact ⟨rfl, by intro v hv; simp at hv; subst hv; rfl⟩) (fun n k cs y => CU) hval h
 obtain ⟨l', rfl, hl⟩ := oX h5;exact ⟨x, l', h1, RN.sl h2, hl, h4, by simpa using h6⟩
theorem PE {v : Value} {d : DataW H} {ps : List MemPlace} (hval : Value.okWide Tryz.prog W r b0 24 v) (h : DataW.Trod enc Tryz.prog W base (fun _ => true) held 24 v d ps) :
 ∃ (x : V) (l : List Hd), VR (h_ W) x v ∧ RN 4 (nH W 1) x (l.map Hd.cells) ∧ (x = .ay ∨ ∃ b o, x = .slice b o (l.map Hd.cells).length none 4) ∧ (∀ b ∈ aB x, b < W.heap.size) ∧ l.length ≤ maxLen := by
 obtain ⟨x, l, h1, h2, h3, h4, h5, h6⟩ := uG po Tryz.underlying24 OY (fun x => ∃ a : Hd, x = a.cells) (fun x hx => by obtain ⟨a, rfl⟩ := hx; exact a.row) (fun n k cs y => aaQ) hval h
 obtain ⟨l', rfl⟩ := oT h5;exact ⟨x, l', h1, h2, h3, h4, by simpa using h6⟩
end
theorem SL.one {s : St} {v : V} {l : List V} (h : SL s v l) : v.one = true := by rcases h with ⟨_, rfl | ⟨b, o, c, rfl⟩⟩ | ⟨b, o, c, n, f, rfl, _⟩ <;> rfl
theorem ow {W : World} {v0 v1 v2 : Value} {x0 x1 x2 : V} {l0 : List Nat} {l1 : List Int} {l2 : List Hd} (vr0 : VR (h_ W) x0 v0) (s0 : SL (nH W 1) x0 (l0.map bJ)) (b0 : ∀ n ∈ l0, n < 256) (k0 : ∀ b ∈ aB x0, b < W.heap.size) (z0 : l0.length ≤ maxLen)
 (vr1 : VR (h_ W) x1 v1) (s1 : SL (nH W 1) x1 (l1.map V.i)) (k1 : ∀ b ∈ aB x1, b < W.heap.size) (w1 : ∀ n ∈ l1, -9223372036854775808 ≤ n ∧ n < 9223372036854775808) (z1 : l1.length ≤ 17592186044416)
 (vr2 : VR (h_ W) x2 v2) (s2 : RN 4 (nH W 1) x2 (l2.map Hd.cells)) (f2 : x2 = .ay ∨ ∃ b o, x2 = .slice b o (l2.map Hd.cells).length none 4) (z2 : l2.length ≤ maxLen) :
 Calls Tryz.prog 3 #[v0, v1, v2] W (fun e w' => e = .returned (.bool true) ∧ RowKit.Below W.heap.size W w') := by
 have hm : maxLen ≤ 9223372036854775807 := by decide
 have hn : (nH W 1).next = W.heap.size := rfl;obtain ⟨t, e⟩ := QE (Qp W 1) s0 b0 po k0 s1 s1.one (fun x hx => w1 x hx) z1 k1 s2 f2 po (m := 40) po
 exact ZF (fuel := 1152921504606846976) (n := 40) lD ⟨_, _, e, rfl⟩ (.cons _ _ _ _ vr0 (.cons _ _ _ _ vr1 (.cons _ _ _ _ vr2 .nil)))
end
end Go.Proofs.YtcgdlgbomjnnnaaGreatLab
