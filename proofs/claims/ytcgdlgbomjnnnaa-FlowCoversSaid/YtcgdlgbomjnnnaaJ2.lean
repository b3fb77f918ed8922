/- Parts of the proof: contracts of functions, joined. No condition on the program. -/
import Derived.Test.YtcgdlgbomjnnnaaJ1
import Derived.SizedLaws
import Derived.ChangeSlices
namespace Go.Proofs.YtcgdlgbomjnnnaaLab
open Go
set_option linter.all false
set_option maxRecDepth 10000
noncomputable section
theorem ac5 (x y z : Int) (id : Nat) : eS 3 1 [V.i 0, .i 0, .i 0] [(0, 1, .i x), (1, 1, .i y), (2, 1, .i z)] id = some (.slice id 0 3 (some 3) 1, .cells 3 (cL [.i x, .i y, .i z])) := (rfl)
theorem RN.same {es : Nat} {s : St} {v : V} {l : List (List V)} (h : RN es s v l) : dI 100 v v = true := by rcases h.2 with ⟨_, rfl | ⟨b, o, c, rfl⟩⟩ | ⟨b, o, c, n, f, rfl, _⟩; exact jo; exact dP _ _ _ _ _; exact dP _ _ _ _ _
theorem AP.ip {t : St} {v : V} {l : List Int} (h : AP t v l) (h2 : 2 ≤ l.length) : ∃ b, v = iv b l.length ∧ IP t b l := by
 rcases h with ⟨rfl, _⟩ | ⟨b, rfl, hc⟩
 · simp at h2
 · exact ⟨b, rfl, _, hc, by simp, fun i x hx => by rw [List.getElem?_map, hx]; rfl⟩
set_option maxHeartbeats 16000000 in
theorem LY {s : St} (hw : Wf s) {v hv : V} {l : List In} {hs : List Hd} (h : RN 4 s v (l.map In.cells)) (L : Ll l) (hh : RN 4 s hv (hs.map Hd.cells)) (hhl : hs.length ≤ 10000) {raw : List Int} (hrl : raw.length ≤ 10000) (hr2 : 2 ≤ raw.length) {t : St} {e : E} {bl : Nat} {rv : V} (d : Nat) (ft : Fr s t []) (hA : AP t rv raw) (hbl : t.cl bl = some [v]) (hb : s.next ≤ bl ∧ ∀ b ∈ aE rv, s.next ≤ b ∧ b ≠ bl)
 (i1 : e.a0.a1 = hv) (i2 : e.a0.a2 = .ptr bl 0) (i5 : e.a0.a5 = rv) :
 eA (bn (aM [rT g4]) (vW (K (d + 8)) e t)) fun bv t => Fr s t [] ∧ XJ t bv l (cp (fq (kp l.length (raw ++ hs.flatMap (lW l))))) := by
 have lh := hh.len
 rw [List.length_map] at lh
 have hsame := h.same
 simp -implicitDefEqProofs (disch := first|go_size|fail) only [go_sem, vW.eq_1, i1, i2, i5, lh]
 refine bT (Q := fun r => eA (bn _ (ei (dH 2 r) _)) _) (fun q e u => ∃ (k : Nat) (ov : V), q = hs.length - k ∧ k ≤ hs.length ∧ Fr s u [] ∧ AP u ov (raw ++ (hs.take k).flatMap (lW l)) ∧ u.cl bl = some [v] ∧ (∀ b ∈ aE ov, s.next ≤ b ∧ b ≠ bl) ∧ g2 e = .ptr bl 0 ∧ g5 e = ov ∧ g53 e = hv ∧ g54 e = .i (hs.length : Nat) ∧ g55 e = .i (k : Nat)) ?_ (n := hs.length) (by omega) ⟨0, rv, by omega, by omega, ft, by simpa using hA, hbl, hb.2, (by trivial), (by trivial), (by trivial), (by trivial), (by trivial)⟩
 clear i1 i2 i5 hA hbl ft
 rintro q e u ⟨k, ov, rfl, hk, fu, hA, hbl, hov, i2, i5, i53, i54, i55⟩
 replace i2 : e.a0.a2 = _ := i2
 replace i5 : e.a0.a5 = _ := i5
 replace i53 : e.a3.a5 = _ := i53
 replace i54 : e.a3.a6 = _ := i54
 replace i55 : e.a3.a7 = _ := i55
 have hfl : ∀ (ys : List Hd), (ys.flatMap (lW l)).length = 3 * ys.length := fun ys => by
  induction ys with
  | nil => rfl
  | cons y ys ih => rw [List.flatMap_cons, List.length_append, ih]; simp [lW]; omega
 by_cases c : (k : Int) < ((hs.length : Nat) : Int)
 rotate_left
 · have hke : k = hs.length := by omega
   subst hke
   rw [List.take_length] at hA
   obtain ⟨b, rfl, hI⟩ := hA.ip (by simp; omega)
   simp -implicitDefEqProofs (disch := first|go_size|fail) only [go_sem, i2, i5, i53, i54, i55, c]
   have hb1 := hov b (by simp [iv, aE])
   exact Cx hw h L (by rw [List.length_append, hfl]; omega) d fu hI hbl ⟨hb1.1, hb.1, fun e => hb1.2 e.symm⟩ (by trivial) (by trivial)
 obtain ⟨y, hy⟩ : ∃ y, hs[k]? = some y := ⟨_, List.getElem?_eq_getElem (by omega)⟩
 obtain ⟨b, o, a1, _, a3, a4⟩ := (hh.fr hw fu (by simp)).at fu.wf (i := k) (x := y.cells) (by rw [List.getElem?_map, hy]; rfl)
 obtain ⟨u1, k1, ck1, fk1, nk1⟩ := bB (s := u) (l := [V.i 0, .i 0, .i 0, .str []]) (n := 4) fu.wf rfl
 obtain ⟨u2, k2, ck2, fk2, nk2⟩ := cD (s := u1) (b := u.next) (o := 0) (vs := y.cells) (m := 4) fk1.wf ck1 y.row.1 (by simp) y.row.2
 replace ck2 : u2.cl u.next = some y.cells := by rw [ck2]; simp [dg, Hd.cells]
 have Fk : Fr u u2 [] := fk1.trans' fk2 (fun b hb => .inr (by simp at hb; omega))
 have hbl2 := Fk.cl fu.wf hbl (by simp)
 obtain ⟨w1, e1, f1⟩ := iU Fk.wf (h.fr hw (fu.trans Fk) (by simp)) L y.at_ (m := d + 8) (by omega)
 obtain ⟨w2, e2, f2⟩ := iU f1.wf (h.fr hw ((fu.trans Fk).trans f1) (by simp)) L y.from_ (m := d + 8) (by omega)
 obtain ⟨w3, e3, f3⟩ := iU f2.wf (h.fr hw (((fu.trans Fk).trans f1).trans f2) (by simp)) L y.rj (m := d + 8) (by omega)
 have ld : ∀ {x : St}, x.cl bl = some [v] → Wf x → cO (.ptr bl 0) x = some v := fun hx hwx => by
  have := dw (o := 0) hwx hx (by simp)
  simpa using this
 have b1 := f1.cl Fk.wf hbl2 (by simp)
 have b2 := f2.cl f1.wf b1 (by simp)
 have l0 := ld hbl2 Fk.wf
 have l1 := ld b1 f1.wf
 have l2 := ld b2 f2.wf
 have c1 := f1.cl Fk.wf ck2 (by simp)
 have c2 := f2.cl f1.wf c1 (by simp)
 have r00 : cO (.ptr u.next 0) u2 = some (.i y.from_) := aH Fk.wf ck2 rfl
 have r02 : cO (.ptr u.next 2) u2 = some (.i y.at_) := aH Fk.wf ck2 rfl
 have r10 : cO (.ptr u.next 0) w1 = some (.i y.from_) := aH f1.wf c1 rfl
 have r01 : cO (.ptr u.next 1) u2 = some (.i y.rj) := aH Fk.wf ck2 rfl
 have r11 : cO (.ptr u.next 1) w1 = some (.i y.rj) := aH f1.wf c1 rfl
 have r21 : cO (.ptr u.next 1) w2 = some (.i y.rj) := aH f2.wf c2 rfl
 have F3 := ((Fk.trans f1).trans f2).trans f3
 have hov2 := hA.lt fu.wf
 obtain ⟨y1, y2, z1, z2, z3, z4, z5⟩ := (hA.fr fu.wf F3 (by simp)).push (n := 3) (xs := lW l y) F3.wf rfl (by omega) (by omega) (by rw [List.length_append, hfl, List.length_take]; omega)
 replace z1 : w3.new (.cells 3 (cL [V.i (bC l y.at_), .i (bC l y.from_), .i (bC l y.rj)])) = y1 := z1
 have htk : raw ++ (hs.take (k + 1)).flatMap (lW l) = raw ++ (hs.take k).flatMap (lW l) ++ lW l y := by rw [List.take_succ, hy, List.flatMap_append]; simp
 have yS := z4.cl F3.wf (f3.cl f2.wf b2 (by simp)) (fun hm => (hov _ hm).2 rfl)
 have hn3 := F3.nx
 have hn0 := fu.nx
 have hblt := bU fu.wf hbl
 simp -implicitDefEqProofs (disch := first|go_size|fail) only [go_sem, i2, i5, i53, i54, i55, c, a1, a4, aZ, k1, k2, l0, l1, l2, r00, r01, r02, r10, r11, r21, e1, e2, e3, eN, hsame, Db, ac5, z1, z2]
 refine ⟨hs.length - (k + 1), by omega, k + 1, _, rfl, by omega, (fu.trans F3).trans' z4 (fun b hb => .inr (hov b hb).1), by rw [htk]; exact z3, yS, fun b hb => ?_, (by trivial), (by trivial), (by trivial), (by trivial), (by trivial)⟩
 simp [iv, aE] at hb; omega
set_option maxHeartbeats 16000000 in
theorem BD {s : St} (hw : Wf s) {v hv : V} {l : List In} {hs : List Hd} (h : RN 4 s v (l.map In.cells)) (L : Ll l) (hh : RN 4 s hv (hs.map Hd.cells)) (hhl : hs.length ≤ 1000) (hne : l ≠ []) (hlast : ∃ x, l[l.length - 1]? = some x ∧ ey x.op = true) {m : Nat} (hm : 9 ≤ m) :
 ∃ t bv, (K m).call 17 [v, hv] s = some (bv, t) ∧ Fr s t [] ∧ XJ t bv l (LL l hs) := by
 obtain ⟨d, rfl⟩ : ∃ d, m = d + 9 := ⟨m - 9, by omega⟩
 have hl := L.len
 have hpos : 0 < l.length := List.length_pos_iff.2 hne
 have ln := h.len
 rw [List.length_map] at ln
 have hv1 := h.abA
 have z0 : ¬ ((l.length : Nat) : Int) = 0 := by omega
 let Q : V → St → Prop := fun bv t => Fr s t [] ∧ XJ t bv l (LL l hs)
 suffices key : eA ((K (d + 9)).call 17 [v, hv] s) Q by
  obtain ⟨x, t, e, h1⟩ := key
  exact ⟨t, x, e, h1⟩
 obtain ⟨s1, k1, c1, f1, n1⟩ := bB (s := s) (l := [v]) (n := 1) hw rfl
 obtain ⟨s2, k2, c2, f2, n2⟩ := bB (s := s1) (l := [V.i 0]) (n := 1) f1.wf rfl
 have l1 := dw (o := 0) f1.wf c1 (by simp)
 have c12 := f2.cl f1.wf c1 (by simp)
 have l2 := dw (o := 0) f2.wf c12 (by simp)
 simp only [List.getElem?_cons_zero] at l1 l2
 simp -implicitDefEqProofs (disch := first|go_size|fail) only [acP, go_sem, k1, l1, l2, ln, z0, k2]
 refine bT (Q := fun r => eA (bn _ (ei (dH 0 r) _)) _) (fun q e u => ∃ (k : Nat) (ov : V), q = l.length - k ∧ k ≤ l.length ∧ Fr s u [] ∧ AP u ov (0 :: iY l (l.take k) 0) ∧ u.cl s.next = some [v] ∧ (∀ b ∈ aE ov, s.next ≤ b ∧ b ≠ s.next) ∧ g1 e = hv ∧ g2 e = .ptr s.next 0 ∧ g5 e = ov ∧ g22 e = v ∧ g23 e = .i (l.length : Nat) ∧ g24 e = .i (k : Nat)) ?_ (n := l.length) (by omega) ⟨0, .slice s1.next 0 1 (some 1) 1, by omega, by omega, f1.trans f2, .inl ⟨by simp [iY], s1.next, rfl, c2⟩, c12, by intro b hb; simp [aE] at hb; omega, (by trivial), (by trivial), (by trivial), (by trivial), (by trivial), (by trivial)⟩
 clear l1 l2 c12 c1 c2 k1 k2
 rintro q e u ⟨k, ov, rfl, hk, fu, hA, hbl, hov, i1, i2, i5, i22, i23, i24⟩
 replace i1 : e.a0.a1 = _ := i1
 replace i2 : e.a0.a2 = _ := i2
 replace i5 : e.a0.a5 = _ := i5
 replace i22 : e.a1.a6 = _ := i22
 replace i23 : e.a1.a7 = _ := i23
 replace i24 : e.a1.a8 = _ := i24
 by_cases c : (k : Int) < ((l.length : Nat) : Int)
 rotate_left
 · have hke : k = l.length := by omega
   subst hke
   rw [List.take_length] at hA
   have hr2 : 2 ≤ (0 :: iY l l 0).length := by
    obtain ⟨x, hx, he⟩ := hlast
    have hm : ((l.length - 1 + 1 : Nat) : Int) ∈ iY l l 0 := lZ.2 ⟨l.length - 1, x, hx, by unfold gF; rw [he]; simp⟩
    have := List.length_pos_of_mem hm
    simp; omega
   have hrl : (0 :: iY l l 0).length ≤ 10000 := by have := oW l l 0; simp; omega
   simp -implicitDefEqProofs (disch := first|go_size|fail) only [go_sem, i1, i2, i5, i22, i23, i24, c]
   exact LY hw h L hh (by omega) hrl hr2 d fu hA hbl ⟨Nat.le_refl _, hov⟩ (by trivial) (by trivial) (by trivial)
 obtain ⟨x, hx⟩ : ∃ x, l[k]? = some x := ⟨_, List.getElem?_eq_getElem (by omega)⟩
 obtain ⟨q1, q2, q3, q4⟩ := L.op _ x hx
 obtain ⟨b, o, a1, _, a3, a4⟩ := (h.fr hw fu (by simp)).at fu.wf (i := k) (x := x.cells) (by rw [List.getElem?_map, hx]; rfl)
 have hrow : Row 4 x.cells := h.1 _ (List.mem_map_of_mem (List.mem_of_getElem? hx))
 obtain ⟨u1, k1, ck1, fk1, nk1⟩ := bB (s := u) (l := [V.i 0, .i 0, .i 0, .i 0]) (n := 4) fu.wf rfl
 obtain ⟨u2, k2, ck2, fk2, nk2⟩ := cD (s := u1) (b := u.next) (o := 0) (vs := x.cells) (m := 4) fk1.wf ck1 hrow.1 (by simp) hrow.2
 replace ck2 : u2.cl u.next = some x.cells := by rw [ck2]; simp [dg, In.cells]
 have Fk : Fr u u2 [] := fk1.trans' fk2 (fun b hb => .inr (by simp at hb; omega))
 have hbl2 := Fk.cl fu.wf hbl (by simp)
 have l0 := dw (o := 0) Fk.wf hbl2 (by simp)
 simp only [List.getElem?_cons_zero] at l0
 have r1 : cO (.ptr u.next 1) u2 = some (.i x.op) := aH Fk.wf ck2 rfl
 have r2 : cO (.ptr u.next 2) u2 = some (.i x.a) := aH Fk.wf ck2 rfl
 have hovl := hA.lt fu.wf
 have hsn : s.next ≤ u.next := fu.nx
 have hbll := bU fu.wf hbl
 have hAk := hA.fr fu.wf Fk (by simp)
 have htk : 0 :: iY l (l.take (k + 1)) 0 = (0 :: iY l (l.take k) 0) ++ gF l k x := by
  have : l.take (k + 1) = l.take k ++ [x] := by rw [List.take_succ, hx]; rfl
  rw [this, qZ, List.length_take, show 0 + min k l.length = k by omega]; rfl
 have hlen : (0 :: iY l (l.take k) 0).length ≤ 10000 := by have := oW l (l.take k) 0; rw [List.length_take] at this; simp; omega
 have e1 := MS (n := x.op) q1 q2 u2 (m := d + 8) (by omega)
 have e22 := Vo (n := x.op) q1 q2 u2 (m := d + 8) (by omega)
 cases hbr : fU x.op with
 | false =>
   rw [hbr] at e1
   cases hen : ey x.op with
   | false =>
     rw [hen] at e22
     have hst : gF l k x = [] := by unfold gF; rw [hbr, hen]; rfl
     simp -implicitDefEqProofs (disch := first|go_size|fail) only [go_sem, i1, i2, i5, i22, i23, i24, c, a1, a4, aZ, k1, k2, r1, e1, e22]
     exact ⟨l.length - (k + 1), by omega, k + 1, ov, rfl, by omega, fu.trans Fk, by rw [htk, hst, List.append_nil]; exact hAk, hbl2, hov, (by trivial), (by trivial), (by trivial), (by trivial), (by trivial), (by trivial)⟩
   | true =>
     rw [hen] at e22
     have hst : gF l k x = [((k + 1 : Nat) : Int)] := by unfold gF; rw [hbr, hen]; rfl
     obtain ⟨y1, y2, z1, z2, z3, z4, z5⟩ := hAk.push (n := 1) (xs := [((k + 1 : Nat) : Int)]) Fk.wf rfl (by omega) (by omega) (by omega)
     replace z1 : u2.new (.cells 1 (cL [V.i ((k : Int) + 1)])) = y1 := z1
     have yS := z4.cl Fk.wf hbl2 (fun hm => (hov _ hm).2 rfl)
     simp -implicitDefEqProofs (disch := first|go_size|fail) only [go_sem, i1, i2, i5, i22, i23, i24, c, a1, a4, aZ, k1, k2, r1, e1, e22, z1, z2]
     refine ⟨l.length - (k + 1), by omega, k + 1, _, rfl, by omega, (fu.trans Fk).trans' z4 (fun b hb => .inr (hov b hb).1), by rw [htk, hst]; exact z3, yS, fun b hb => ?_, (by trivial), (by trivial), (by trivial), (by trivial), (by trivial), (by trivial)⟩
     simp [iv, aE] at hb; have := Fk.nx; omega
 | true =>
   rw [hbr] at e1
   have hst : gF l k x = [bC l x.a] ++ [((k + 1 : Nat) : Int)] := by unfold gF; rw [hbr]; rfl
   obtain ⟨w1, g1_, ff⟩ := iU Fk.wf (h.fr hw (fu.trans Fk) (by simp)) L x.a (m := d + 8) (by omega)
   have F2 := Fk.trans ff
   obtain ⟨y1, y2, z1, z2, z3, z4, z5⟩ := (hA.fr fu.wf F2 (by simp)).push (n := 1) (xs := [bC l x.a]) F2.wf rfl (by omega) (by omega) (by omega)
   replace z1 : w1.new (.cells 1 (cL [V.i (bC l x.a)])) = y1 := z1
   have ck3 := z4.cl F2.wf (ff.cl Fk.wf ck2 (by simp)) (fun hm => by have := hovl _ hm; omega)
   have r3 : cO (.ptr u.next 1) y2 = some (.i x.op) := aH z4.wf ck3 rfl
   have e3 := MS (n := x.op) q1 q2 y2 (m := d + 8) (by omega)
   rw [hbr] at e3
   obtain ⟨y3, y4, x1, x2, x3, x4, x5⟩ := z3.push (n := 1) (xs := [((k + 1 : Nat) : Int)]) z4.wf rfl (by omega) (by omega) (by rw [List.length_append]; simp; simp at hlen; omega)
   replace x1 : y2.new (.cells 1 (cL [V.i ((k : Int) + 1)])) = y3 := x1
   rw [List.length_append, List.length_singleton] at x2 x3
   simp only [List.length_cons] at x2
   have hw1 := F2.nx
   have hbl3 := z4.cl F2.wf (F2.cl fu.wf hbl (by simp)) (fun hm => (hov _ hm).2 rfl)
   have hbl4 := x4.cl z4.wf hbl3 (fun hm => by simp [iv, aE] at hm; omega)
   simp -implicitDefEqProofs (disch := first|go_size|fail) only [go_sem, i1, i2, i5, i22, i23, i24, c, a1, a4, aZ, k1, k2, r1, r2, l0, e1, g1_, z1, z2, r3, e3, x1, x2]
   refine ⟨l.length - (k + 1), by omega, k + 1, _, rfl, by omega, ((fu.trans F2).trans' z4 (fun b hb => .inr (hov b hb).1)).trans' x4 (fun b hb => .inr (by simp [iv, aE] at hb; omega)), by rw [htk, hst, ← List.append_assoc]; exact x3, hbl4, fun b hb => ?_, (by trivial), (by trivial), (by trivial), (by trivial), (by trivial), (by trivial)⟩
   simp [iv, aE] at hb; omega
theorem vP {n : Int} (h0 : 0 ≤ n) (h1 : n < 256) : ((eB n : Nat) : Int) = n := by unfold eB; omega
theorem FN {n : Int} (h0 : -128 ≤ n) (h1 : n ≤ 127) : s8 (eB n) = n := by unfold s8 eB; split <;> omega
theorem NG {n : Int} (h0 : 0 ≤ n) (h1 : n ≤ 65535) : ((eB (n / 256) * 256 + eB n : Nat) : Int) = n := by unfold eB; omega
theorem OH {n : Int} (h0 : -32768 ≤ n) (h1 : n ≤ 32767) : uY (eB (n / 256) * 256 + eB n) = n := by unfold uY eB; split <;> omega
theorem Nx {bs : List Nat} {p : Nat} {x : In} (ok : UK x) (hat : x.at_ = (p : Int)) (hb : ∀ j n, (encI x)[j]? = some n → cW bs (p + j) = n) : eC bs p = x ∧ lS bs p = (encI x).length := by
 obtain ⟨⟨o0, o1, o2, a0', a1', b0', b1'⟩, h132, hn⟩ := ok
 have hop : cW bs p = eB x.op := by
  have := hb 0 (eB x.op) (by unfold encI; (repeat' split) <;> rfl)
  simpa using this
 have hopI : ((cW bs p : Nat) : Int) = x.op := by rw [hop, vP o0 o1]
 obtain ⟨at_, op, a, b⟩ := x
 simp only at hat hopI o0 o1 o2 h132 hn
 subst hat
 by_cases c : op = 132
 · subst c
   have he : encI ⟨p, 132, a, b⟩ = [eB 132, eB a, eB b] := if_pos rfl
   rw [he] at hb
   have h1 := hb 1 _ rfl
   have h2 := hb 2 _ rfl
   obtain ⟨q0, q1, q2, q3⟩ := h132 rfl
   constructor
   · unfold eC mZ
     rw [hopI, h1, h2, if_pos rfl, if_pos rfl, FN q2 q3, vP q0 (by omega)]
     rfl
   · unfold lS; rw [hopI, he]; rfl
 · obtain ⟨hb0, n1, n2, n3⟩ := hn c
   subst hb0
   rcases fI op with hs | hs | hs | hs
   · exact absurd hs o2
   · have he : encI ⟨p, op, a, 0⟩ = [eB op] := by unfold encI; rw [if_neg c, if_pos hs]
     have hbr : fU op = false := by cases hq : fU op with | false => rfl | true => have := iA hq; omega
     constructor
     · unfold eC mZ
       rw [hopI, if_neg c, if_neg c, hbr, hs, n1 hs]
       rfl
     · unfold lS; rw [hopI, he, hs]; rfl
   · have he : encI ⟨p, op, a, 0⟩ = [eB op, eB (In.arg ⟨p, op, a, 0⟩)] := by unfold encI; rw [if_neg c, if_neg (by rw [hs]; decide), if_pos hs]
     have hbr : fU op = false := by cases hq : fU op with | false => rfl | true => have := iA hq; omega
     have harg : In.arg ⟨p, op, a, 0⟩ = a := by unfold In.arg; rw [hbr]; rfl
     rw [he, harg] at hb
     have h1 := hb 1 _ rfl
     obtain ⟨z1, z2⟩ := n2 hs
     constructor
     · unfold eC mZ
       rw [hopI, if_neg c, if_neg c, hbr, hs, if_pos rfl, h1]
       cases hg : gJ op with
       | true => obtain ⟨y0, y1⟩ := z1 hg; simp [FN y0 y1]
       | false => obtain ⟨y0, y1⟩ := z2 hg; simp [vP y0 (by omega)]
     · unfold lS; rw [hopI, he, hs]; rfl
   · have he : encI ⟨p, op, a, 0⟩ = [eB op, eB (In.arg ⟨p, op, a, 0⟩ / 256), eB (In.arg ⟨p, op, a, 0⟩)] := by unfold encI; rw [if_neg c, if_neg (by rw [hs]; decide), if_neg (by rw [hs]; decide)]
     rw [he] at hb
     have h1 := hb 1 _ rfl
     have h2 := hb 2 _ rfl
     obtain ⟨z1, z2⟩ := n3 hs
     constructor
     · unfold eC mZ
       rw [hopI, if_neg c, if_neg c, hs, if_neg (show ¬ (3 : Int) = 2 by decide), if_pos rfl, h1, h2]
       cases hg : gJ op with
       | true =>
         obtain ⟨y0, y1⟩ := z1 hg
         rw [if_pos rfl, OH y0 y1]
         cases hbr : fU op with
         | true =>
           have harg : In.arg ⟨p, op, a, 0⟩ = a - p := by unfold In.arg; rw [hbr]; rfl
           rw [harg, if_pos rfl, show a - (p : Int) + p = a by omega]
         | false =>
           have harg : In.arg ⟨p, op, a, 0⟩ = a := by unfold In.arg; rw [hbr]; rfl
           rw [harg]; rfl
       | false =>
         obtain ⟨y0, y1⟩ := z2 hg
         have hbr : fU op = false := by cases hq : fU op with | false => rfl | true => have := vO hq; rw [hg] at this; cases this
         have harg : In.arg ⟨p, op, a, 0⟩ = a := by unfold In.arg; rw [hbr]; rfl
         rw [NG y0 y1, hbr, harg]; simp
     · unfold lS; rw [hopI, he, hs]; rfl
theorem wq {I : List In} (ok : ∀ x ∈ I, UK x) (hat : ∀ i x, I[i]? = some x → x.at_ = (((cP (I.take i)).length : Nat) : Int)) : ∀ i, i ≤ I.length → nW (cP I) (I.take i) (cP (I.take i)).length
 | 0, _ => by simp [cP]; exact .nil
 | i + 1, hi => by
   have ih := wq ok hat i (by omega)
   obtain ⟨x, hx⟩ : ∃ x, I[i]? = some x := ⟨_, List.getElem?_eq_getElem (by omega)⟩
   have hts : I.take (i + 1) = I.take i ++ [x] := by rw [List.take_succ, hx]; rfl
   have hall : cP I = cP (I.take i) ++ (encI x ++ cP (I.drop (i + 1))) := by
    have : I = I.take i ++ ([x] ++ I.drop (i + 1)) := by
     rw [← List.append_assoc, ← hts, List.take_append_drop]
    conv => lhs; rw [this]
    simp [cP]
   have hok := ok x (List.mem_of_getElem? hx)
   have hb : ∀ j n, (encI x)[j]? = some n → cW (cP I) ((cP (I.take i)).length + j) = n := fun j n hj => by
    have hjl := (List.getElem?_eq_some_iff.1 hj).1
    unfold cW
    rw [List.getD_eq_getElem?_getD, hall, List.getElem?_append_right (by omega), Nat.add_sub_cancel_left, List.getElem?_append_left hjl, hj]; rfl
   obtain ⟨d1, d2⟩ := Nx hok (hat i x hx) hb
   have hlen : 0 < (encI x).length := by
    unfold encI; (repeat' split) <;> simp
   have hle : (cP I).length = (cP (I.take i)).length + ((encI x).length + (cP (I.drop (i + 1))).length) := by rw [hall]; simp
   have := nW.snoc (bs := cP I) (I.take i) (cP (I.take i)).length ih (by omega) (by omega) (by omega)
   rw [d1, d2] at this
   rw [hts, mU, List.length_append]
   exact this
theorem nW.same {bs : List Nat} {I : List In} {q : Nat} (h : nW bs I q) : ∀ {l : List In} {p : Nat}, nW bs l p → p ≤ q → (p = q ∧ l = I) ∨ (p < q ∧ lS bs p ≠ 0 ∧ p + lS bs p ≤ q) := by
 induction h with
 | nil =>
   intro l p hl hp
   have := hl.le
   have h0 : l = [] := List.eq_nil_of_length_eq_zero (by omega)
   exact .inl ⟨by omega, h0⟩
 | snoc I' q' hI h1 h2 h3 ih =>
   have gap : ∀ {l : List In} {p : Nat}, nW bs l p → ¬ (q' < p ∧ p < q' + lS bs q') := by
    intro l p hl
    induction hl with
    | nil => omega
    | snoc l0 p0 hl0 g1 g2 g3 ih0 =>
      intro hb
      by_cases c : p0 ≤ q'
      · rcases ih hl0 c with ⟨e, _⟩ | ⟨_, _, e⟩
        · subst e; omega
        · omega
      · exact ih0 ⟨by omega, by omega⟩
   intro l p hl hp
   by_cases c : p ≤ q'
   · rcases ih hl c with ⟨e, e2⟩ | ⟨e1, e2, e3⟩
     · subst e; exact .inr ⟨by omega, h2, by omega⟩
     · exact .inr ⟨by omega, e2, by omega⟩
   · have hq : p = q' + lS bs q' := by
      have := gap hl; omega
     refine .inl ⟨hq, ?_⟩
     cases hl with
     | nil => omega
     | snoc l0 p0 hl0 g1 g2 g3 =>
       by_cases c0 : p0 ≤ q'
       · rcases ih hl0 c0 with ⟨e, e2⟩ | ⟨_, _, e⟩
         · subst e; rw [e2]
         · omega
       · exact absurd ⟨by omega, by omega⟩ (gap hl0)
theorem nW.FC {bs : List Nat} {I : List In} (h : nW bs I bs.length) (hl : bs.length ≤ 1024) : ¬ Ax bs := by
 rintro (h1 | ⟨l, p, h1, h2, h3⟩)
 · omega
 · rcases h.same h1 (by omega) with ⟨e, _⟩ | ⟨_, e1, e2⟩
   · omega
   · omega
theorem m_.made {l : List In} {hr : List (List V)} (h : m_ [] l hr) : ∃ ls n hs, Made ls n hs ∧ hr = hs.map (kM (bR n ls).1) ∧ l = fl n ls := by
 rcases h.ex with ⟨_, h1, h2, _⟩ | ⟨ls, n, hs, M, h1, h2⟩
 · have := h2.le; exact absurd (List.eq_nil_of_length_eq_zero (Nat.le_zero.1 this.2)) h1
 · obtain ⟨J, hlen⟩ := M.ins
   have hd : nW (cP (fl n ls)) (fl n ls) (cP (fl n ls)).length := by
    have := wq (I := fl n ls) J.ok J.at_ (fl n ls).length (Nat.le_refl _)
    rwa [List.take_length] at this
   refine ⟨ls, n, hs, M, h1, ?_⟩
   rcases h2 with h2 | ⟨_, h2⟩
   · rcases hd.same h2 (Nat.le_refl _) with ⟨_, e⟩ | ⟨e, _⟩
     · exact e
     · omega
   · exact absurd h2 (hd.FC hlen)
def vt (P : List Int) (x : Nat × Nat × Nat) : Hd := ⟨P.getD x.1 0, P.getD x.2.1 0, P.getD x.2.2 0, thr⟩
theorem kF {k : Nat} : ∀ (B : List L) (st : List Int × Int), k ∉ cT B → (B.foldl eX st).1[k]? = st.1[k]?
 | [], st, _ => rfl
 | .here l :: B, st, h => by
   simp only [cT, List.mem_cons, not_or] at h
   rw [List.foldl_cons, kF B _ h.2]
   show (st.1.set l st.2)[k]? = _
   rw [List.getElem?_set_ne (Ne.symm h.1)]
 | .op o a b :: B, st, h => by rw [List.foldl_cons, kF B _ (by simpa [cT] using h)]; rfl
 | .jmp o l :: B, st, h => by rw [List.foldl_cons, kF B _ (by simpa [cT] using h)]; rfl
theorem ja (P : List Int) : ∀ (B : List L) (st : List In × Int), ∃ r, (B.foldl (eE P) st).1 = st.1 ++ r
 | [], st => ⟨[], by simp⟩
 | .here l :: B, st => ja P B st
 | .op o a b :: B, st => by
   obtain ⟨r, h⟩ := ja P B (eE P st (.op o a b))
   exact ⟨[⟨st.2, o, a, b⟩] ++ r, by rw [List.foldl_cons, h]; simp [eE]⟩
 | .jmp o l :: B, st => by
   obtain ⟨r, h⟩ := ja P B (eE P st (.jmp o l))
   exact ⟨[⟨st.2, o, P.getD l 0, 0⟩] ++ r, by rw [List.foldl_cons, h]; simp [eE]⟩
theorem nJ (P : List Int) : ∀ (B : List L) (st : List In × Int), (∃ x ∈ B, x.ins = true) → ∃ x, (B.foldl (eE P) st).1[st.1.length]? = some x ∧ x.at_ = st.2
 | [], st, h => by simp at h
 | .here l :: B, st, h => nJ P B st (by
   obtain ⟨x, hx, hi⟩ := h
   rcases List.mem_cons.1 hx with rfl | hx
   · cases hi
   · exact ⟨x, hx, hi⟩)
 | .op o a b :: B, st, h => by
   obtain ⟨r, hr⟩ := ja P B (eE P st (.op o a b))
   refine ⟨⟨st.2, o, a, b⟩, ?_, rfl⟩
   rw [List.foldl_cons, hr]; simp [eE]
 | .jmp o l :: B, st, h => by
   obtain ⟨r, hr⟩ := ja P B (eE P st (.jmp o l))
   refine ⟨⟨st.2, o, P.getD l 0, 0⟩, ?_, rfl⟩
   rw [List.foldl_cons, hr]; simp [eE]
theorem mA (P : List Int) : ∀ (B : List L) (a : List Int × Int) (b : List In × Int), a.2 = b.2 → (B.foldl eX a).2 = (B.foldl (eE P) b).2
 | [], a, b, h => h
 | .here l :: B, a, b, h => mA P B _ _ h
 | .op o x y :: B, a, b, h => mA P B _ _ (by show a.2 + _ = b.2 + _; rw [h])
 | .jmp o l :: B, a, b, h => mA P B _ _ (by show a.2 + _ = b.2 + _; rw [h])
theorem N5 (n : Nat) (P : List Int) (B : List L) : (bR n B).2 = (bZ P B).2 := mA P B _ _ rfl
theorem ic : ∀ (B : List L) (st : List Int × Int), st.2 ≤ (B.foldl eX st).2
 | [], st => Int.le_refl _
 | .here l :: B, st => ic B (eX st (.here l))
 | .op o x y :: B, st => by
   have := ic B (eX st (.op o x y))
   have h : (eX st (.op o x y)).2 = st.2 + a_ o := rfl
   have := dG o
   rw [List.foldl_cons]; omega
 | .jmp o l :: B, st => by
   have := ic B (eX st (.jmp o l))
   have h : (eX st (.jmp o l)).2 = st.2 + a_ o := rfl
   have := dG o
   rw [List.foldl_cons]; omega
theorem nE : ∀ (B : List L) (st : List Int × Int), (∀ x ∈ B, XI x) → (∃ x ∈ B, x.ins = true) → st.2 < (B.foldl eX st).2
 | [], st, _, h => by simp at h
 | .here l :: B, st, ok, h => nE B (eX st (.here l)) (fun x hx => ok x (by simp [hx])) (by
   obtain ⟨x, hx, hi⟩ := h
   rcases List.mem_cons.1 hx with rfl | hx
   · cases hi
   · exact ⟨x, hx, hi⟩)
 | .op o x y :: B, st, ok, h => by
   have := ic B (eX st (.op o x y))
   have h : (eX st (.op o x y)).2 = st.2 + a_ o := rfl
   have h1 : a_ o ≠ 0 := by
    rcases ok (.op o x y) (by simp) with h | ⟨rfl, _⟩
    · exact h.1.2.2.2
    · decide
   have := dG o
   rw [List.foldl_cons]; omega
 | .jmp o l :: B, st, ok, h => by
   have := ic B (eX st (.jmp o l))
   have h : (eX st (.jmp o l)).2 = st.2 + a_ o := rfl
   have h1 := iA (ok (.jmp o l) (by simp)).2.2
   rw [List.foldl_cons]; omega
section
variable {ls : List L} {n : Nat} {hs : List (Nat × Nat × Nat)} (M : Made ls n hs)
include M
theorem Made.split {k : Nat} {A B : List L} (e : ls = A ++ .here k :: B) : (bR n ls).1.getD k 0 = (bR n A).2 := by
 have hnd : (cT ls).Nodup := M.here.nodup_iff.2 List.nodup_range'
 have hk : k < n := M.lt (by rw [e]; simp)
 have hkB : k ∉ cT B := by
  rw [e, fF] at hnd
  have := (List.nodup_append.1 hnd).2.1
  simp only [cT] at this
  exact (List.nodup_cons.1 this).1
 rw [List.getD_eq_getElem?_getD]
 have h1 : (bR n ls).1[k]? = ((bR n A).1.set k (bR n A).2)[k]? := by
  unfold bR
  rw [e, List.foldl_append, List.foldl_cons, kF B _ hkB]; rfl
 rw [h1, List.getElem?_set, if_pos rfl, if_pos (by rw [(jk n A).1]; exact hk)]; rfl
theorem Made.WZ {k : Nat} {A B : List L} (e : ls = A ++ .here k :: B) : ∃ (i : Nat) (x : In), (fl n ls)[i]? = some x ∧ x.at_ = (bR n ls).1.getD k 0 := by
 obtain ⟨l, o, hl, _⟩ := M.last
 have hB : ∃ x ∈ B, x.ins = true := by
  rcases List.eq_nil_or_concat B with rfl | ⟨B', x, rfl⟩
  · rw [hl] at e
    have := congrArg List.getLast? e
    simp at this
  · refine ⟨x, by simp, ?_⟩
    rw [hl] at e
    have := congrArg List.getLast? e
    simp [List.getLast?_append, List.getLast?_cons] at this
    rw [← this]; rfl
 obtain ⟨x, h1, h2⟩ := nJ (bR n ls).1 B (bZ (bR n ls).1 A) hB
 refine ⟨(bZ (bR n ls).1 A).1.length, x, ?_, by rw [h2, M.split e, N5 n (bR n ls).1 A]⟩
 have h3 : fl n ls = (B.foldl (eE (bR n ls).1) (bZ (bR n ls).1 A)).1 := by
  unfold fl
  conv => lhs; unfold bZ; arg 1; arg 3; rw [e]
  rw [List.foldl_append, List.foldl_cons]; rfl
 rw [h3]; exact h1
theorem jF {k : Nat} : ∀ {ls : List L}, k ∈ cT ls → ∃ A B, ls = A ++ .here k :: B
 | .here l :: r, h => by
   simp only [cT, List.mem_cons] at h
   rcases h with rfl | h
   · exact ⟨[], r, rfl⟩
   · obtain ⟨A, B, e⟩ := jF h; exact ⟨.here l :: A, B, by rw [e]; rfl⟩
 | .op o a b :: r, h => by obtain ⟨A, B, e⟩ := jF (ls := r) h; exact ⟨.op o a b :: A, B, by rw [e]; rfl⟩
 | .jmp o l :: r, h => by obtain ⟨A, B, e⟩ := jF (ls := r) h; exact ⟨.jmp o l :: A, B, by rw [e]; rfl⟩
theorem Made.found {k : Nat} (hk : k < n) : 0 ≤ bC (fl n ls) ((bR n ls).1.getD k 0) := by
 have hm : k ∈ cT ls := M.here.mem_iff.2 (by simp; exact hk)
 obtain ⟨A, B, e⟩ := jF M hm
 obtain ⟨i, x, h1, h2⟩ := M.WZ e
 rcases nK (fl n ls) ((bR n ls).1.getD k 0) with ⟨_, h⟩ | ⟨j, y, h, _⟩
 · exact absurd h2 (h i x h1)
 · omega
end
theorem mj {n : Nat} (P : List Int) : ∀ (B : List L) (st : List In × Int), (∀ x ∈ B, XI x) → (∀ t ∈ targets B, t < n) → (∀ x ∈ st.1, fU x.op = true → ∃ k, k < n ∧ x.a = P.getD k 0) → ∀ x ∈ (B.foldl (eE P) st).1, fU x.op = true → ∃ k, k < n ∧ x.a = P.getD k 0
 | [], st, _, _, h => h
 | .here l :: B, st, ok, ht, h => mj P B st (fun x hx => ok x (by simp [hx])) ht h
 | .op o a b :: B, st, ok, ht, h => by
   refine mj P B (eE P st (.op o a b)) (fun x hx => ok x (by simp [hx])) ht fun x hx hb => ?_
   simp only [eE, List.mem_append, List.mem_singleton] at hx
   rcases hx with hx | rfl
   · exact h x hx hb
   · rcases ok (.op o a b) (by simp) with h | ⟨rfl, _⟩
     · have := h.1.2.2.1; simp only at hb; rw [this] at hb; cases hb
     · cases hb
 | .jmp o l :: B, st, ok, ht, h => by
   refine mj P B (eE P st (.jmp o l)) (fun x hx => ok x (by simp [hx])) (fun t h' => ht t (by simp [targets, h'])) fun x hx hb => ?_
   simp only [eE, List.mem_append, List.mem_singleton] at hx
   rcases hx with hx | rfl
   · exact h x hx hb
   · exact ⟨l, ht l (by simp [targets]), rfl⟩
section
variable {ls : List L} {n : Nat} {hs : List (Nat × Nat × Nat)} (M : Made ls n hs)
include M
theorem Made.br : ∀ x ∈ fl n ls, fU x.op = true → 0 ≤ bC (fl n ls) x.a := fun x hx hb => by
 obtain ⟨k, hk, e⟩ := mj (n := n) (bR n ls).1 ls ([], 0) M.ok M.tgt (by simp) x hx hb
 rw [e]; exact M.found hk
theorem Made.hfound : ∀ y ∈ hs.map (vt (bR n ls).1), 0 ≤ bC (fl n ls) y.from_ ∧ 0 ≤ bC (fl n ls) y.at_ ∧ 0 ≤ bC (fl n ls) y.rj ∧ y.from_ < y.rj := fun y hy => by
 obtain ⟨h, hh, rfl⟩ := List.mem_map.1 hy
 obtain ⟨h1, h2, h3⟩ := M.hh h hh
 refine ⟨M.found h1, M.found h3, M.found h2, ?_⟩
 obtain ⟨⟨A, B, C, e, hB⟩, _⟩ := M.hok h hh
 show (bR n ls).1.getD h.1 0 < (bR n ls).1.getD h.2.1 0
 rw [M.split (k := h.2.1) e, M.split (k := h.1) (A := A) (B := B ++ .here h.2.1 :: C) (by rw [e]; simp)]
 have := nE B (bR n (A ++ [.here h.1])) (fun x hx => M.ok x (by rw [e]; simp [hx])) hB
 have h4 : bR n (A ++ .here h.1 :: B) = B.foldl eX (bR n (A ++ [.here h.1])) := by
  unfold bR; rw [← List.foldl_append]; simp
 rw [h4]
 have h5 : (bR n (A ++ [.here h.1])).2 = (bR n A).2 := by rw [kC]; rfl
 omega
theorem Made.HF : ∃ x, (fl n ls)[(fl n ls).length - 1]? = some x ∧ ey x.op = true := by
 obtain ⟨l, o, hl, ho⟩ := M.last
 have e : ∃ J a, fl n ls = J ++ [⟨a, o, 0, 0⟩] := by
  refine ⟨(bZ (bR n ls).1 l).1, (bZ (bR n ls).1 l).2, ?_⟩
  unfold fl
  generalize (bR n ls).1 = P
  rw [hl, ji]; rfl
 obtain ⟨J, a, e⟩ := e
 exact ⟨⟨a, o, 0, 0⟩, by rw [e]; simp, ho⟩
theorem Made.ne : fl n ls ≠ [] := by
 obtain ⟨x, h, _⟩ := M.HF
 intro e; rw [e] at h; simp at h
theorem Made.check : eF (fl n ls) (hs.map (vt (bR n ls).1)) [] = (0, 0) := by
 have h1 : cJ (fl n ls).length (uX (fl n ls)) = none := eR fun j hj => by
  obtain ⟨x, hx⟩ : ∃ x, (fl n ls)[j]? = some x := ⟨_, List.getElem?_eq_getElem hj⟩
  unfold uX; rw [hx]
  simp only
  rw [if_neg]
  rintro ⟨hb, hf⟩
  have := M.br x (List.mem_of_getElem? hx) hb
  omega
 have h2 : xC (fl n ls) = none := by
  obtain ⟨x, hx, he⟩ := M.HF
  unfold xC; rw [hx]; simp only; rw [if_pos he]
 have h3 : cJ (hs.map (vt (bR n ls).1)).length (xV (fl n ls) (hs.map (vt (bR n ls).1))) = none := eR fun j hj => by
  obtain ⟨y, hy⟩ : ∃ y, (hs.map (vt (bR n ls).1))[j]? = some y := ⟨_, List.getElem?_eq_getElem hj⟩
  unfold xV; rw [hy]
  simp only
  obtain ⟨a, b, c, d⟩ := M.hfound y (List.mem_of_getElem? hy)
  rw [if_neg]
  unfold qF; omega
 unfold eF
 rw [h1, h2, h3]; rfl
end
def SW (l : List In) (Ls : List Int) (k : Nat) : Int := match Ls[k]? with | some x => x | none => (l.length : Nat)
theorem J3 (l : List In) (Ls : List Int) (k : Nat) : jD l Ls k = SW l Ls (k + 1) := rfl
section
variable {l : List In} {Ls : List Int} (hs : Ls.Pairwise (· < ·)) (hin : ∀ (k : Nat) f, Ls[k]? = some f → 0 ≤ f ∧ f < (l.length : Nat))
include hs hin
theorem sv {k : Nat} {f : Int} (hf : Ls[k]? = some f) : f < jD l Ls k ∧ jD l Ls k ≤ (l.length : Nat) ∧ ∀ z ∈ Ls, f < z → jD l Ls k ≤ z := by
 unfold jD
 cases hc : Ls[k + 1]? with
 | none =>
   refine ⟨(hin k f hf).2, Int.le_refl _, fun z hz h => ?_⟩
   obtain ⟨j, hj⟩ := List.getElem?_of_mem hz
   have h1 := List.getElem?_eq_none_iff.1 hc
   have h2 := (List.getElem?_eq_some_iff.1 hj).1
   rcases Nat.lt_trichotomy j k with h3 | h3 | h3
   · have := nu hs h3 hj hf; omega
   · subst h3; rw [hf] at hj; cases hj; omega
   · omega
 | some x =>
   refine ⟨nu hs (by omega) hf hc, by have := (hin _ x hc).2; simp only; omega, fun z hz h => ?_⟩
   obtain ⟨j, hj⟩ := List.getElem?_of_mem hz
   simp only
   rcases Nat.lt_trichotomy j (k + 1) with h3 | h3 | h3
   · rcases Nat.lt_or_ge j k with h4 | h4
     · have := nu hs h4 hj hf; omega
     · have : j = k := by omega
       subst this; rw [hf] at hj; cases hj; omega
   · subst h3; rw [hc] at hj; cases hj; omega
   · have := nu hs h3 hc hj; omega
theorem Ol {ns : List Int} (h : ∀ n ∈ ns, n ∈ Ls) : (ixs Ls ns).length = ns.length ∧ ∀ (q : Nat) n, ns[q]? = some n → ∃ j : Nat, (ixs Ls ns)[q]? = some (j : Int) ∧ Ls[j]? = some n := by
 induction ns with
 | nil => exact ⟨rfl, by simp⟩
 | cons a ns ih =>
   obtain ⟨i1, i2⟩ := ih fun n hn => h n (by simp [hn])
   obtain ⟨j, hj⟩ := List.getElem?_of_mem (h a (by simp))
   have e : ixs Ls (a :: ns) = (j : Int) :: ixs Ls ns := by unfold ixs; rw [List.filterMap_cons, xm hs hj]; rfl
   rw [e]
   refine ⟨by simp [i1], fun q n hq => ?_⟩
   cases q with
   | zero => simp at hq; subst hq; exact ⟨j, rfl, hj⟩
   | succ q => exact i2 q n (by simpa using hq)
end
section
variable {l : List In} {hs : List Hd}
theorem AV (h : 0 < l.length) : (LL l hs)[0]? = some 0 := by
 obtain ⟨j, hj⟩ := List.getElem?_of_mem (MG (hs := hs) h)
 cases j with
 | zero => exact hj
 | succ j =>
   obtain ⟨f, hf⟩ : ∃ f, (LL l hs)[0]? = some f := ⟨_, List.getElem?_eq_getElem (by have := (List.getElem?_eq_some_iff.1 hj).1; omega)⟩
   have h1 := nu (wH l hs) (show 0 < j + 1 by omega) hf hj
   have h2 := (tY hf).1
   omega
theorem Ce {k i : Nat} {f : Int} {x : In} (hf : (LL l hs)[k]? = some f) (hx : l[i]? = some x) (h0 : f ≤ (i : Int)) (h1 : (i : Int) < jD l (LL l hs) k - 1) : fU x.op = false ∧ ey x.op = false := by
 obtain ⟨g1, g2, g3⟩ := sv (wH l hs) (fun _ _ => tY) hf
 have hno : (fU x.op || ey x.op) ≠ true := fun hb => by
  have := g3 _ (Nh (hs := hs) hx hb (by omega)) (by omega)
  omega
 rw [ne_eq, Bool.or_eq_true, not_or] at hno
 exact ⟨by simpa using hno.1, by simpa using hno.2⟩
theorem yI {k : Nat} {f : Int} (hf : (LL l hs)[k]? = some f) : ∀ n ∈ eV l (jD l (LL l hs) k - 1), n ∈ LL l hs := fun n hn => by
 obtain ⟨g1, g2, g3⟩ := sv (wH l hs) (fun _ _ => tY) hf
 have hf0 := (tY hf).1
 obtain ⟨i, hi⟩ : ∃ i : Nat, jD l (LL l hs) k - 1 = i := ⟨(jD l (LL l hs) k - 1).toNat, by omega⟩
 rw [hi] at hn
 obtain ⟨x, hx⟩ : ∃ x, l[i]? = some x := ⟨_, List.getElem?_eq_getElem (by omega)⟩
 rw [tP hx] at hn
 have hA : ∀ z ∈ qW l (i : Nat) x, z ∈ LL l hs := fun z hz => by
  unfold qW at hz; split at hz
  · rename_i hc
    simp at hz
    have hto : jD l (LL l hs) k = z := by omega
    unfold jD at hto
    cases hc2 : (LL l hs)[k + 1]? with
    | none =>
      rw [hc2] at hto
      simp only at hto
      omega
    | some y => rw [hc2] at hto; simp only at hto; subst hto; exact List.mem_of_getElem? hc2
  · simp at hz
 unfold Xc at hn; split at hn
 · rename_i hc
   have hP : ∀ z ∈ uc (qW l (i : Nat) x) (bC l x.a), z ∈ qW l (i : Nat) x ∨ z = bC l x.a := fun z hz => by
    rcases wj l (i : Nat) x with e | e <;> rw [e] at hz ⊢
    · simp [uc] at hz; exact .inr hz
    · unfold uc at hz; simp only at hz
      split at hz
      · simp at hz; simp; exact hz
      · split at hz
        · simp at hz; simp; omega
        · simp at hz; simp; exact .inl hz
   rcases hP n hn with hn | rfl
   · exact hA n hn
   · exact ZO hx hc.1 hc.2
 · exact hA n hn
end
theorem ac9 {l : List In} {hs : List Hd} {fs : List Fm} {r : Mu} (h : cJ l.length (uX l) = some r) : eF l hs fs = r := by unfold eF; rw [h]
theorem YL {l : List In} {hs : List Hd} {fs : List Fm} {r : Mu} (h : cJ l.length (uX l) = none) (h2 : xC l = some r) : eF l hs fs = r := by unfold eF; rw [h, h2]
theorem acD {l : List In} {hs : List Hd} {fs : List Fm} {r : Mu} (h : cJ l.length (uX l) = none) (h2 : xC l = none) (h3 : cJ hs.length (xV l hs) = some r) : eF l hs fs = r := by unfold eF; rw [h, h2, h3]
theorem YV {l : List In} {hs : List Hd} {fs : List Fm} {r : Mu} (h : cJ l.length (uX l) = none) (h2 : xC l = none) (h3 : cJ hs.length (xV l hs) = none) (h4 : cJ fs.length (yD l fs) = some r) : eF l hs fs = r := by unfold eF; rw [h, h2, h3, h4]; rfl
theorem abV {l : List In} {hs : List Hd} {fs : List Fm} (h : cJ l.length (uX l) = none) (h2 : xC l = none) (h3 : cJ hs.length (xV l hs) = none) (h4 : cJ fs.length (yD l fs) = none) : eF l hs fs = (0, 0) := by unfold eF; rw [h, h2, h3, h4]; rfl
theorem Zt {l : List In} {i : Nat} {x : In} (h : l[i]? = some x) (h1 : fU x.op = true) (h2 : bC l x.a < 0) : uX l i = some (16, x.at_) := by unfold uX; rw [h]; exact if_pos ⟨h1, h2⟩
theorem PU {l : List In} {i : Nat} {x : In} (h : l[i]? = some x) (h1 : ¬ (fU x.op = true ∧ bC l x.a < 0)) : uX l i = none := by unfold uX; rw [h]; exact if_neg h1
theorem ZL {l : List In} {x : In} (h : l[l.length - 1]? = some x) (h1 : ey x.op = true) : xC l = none := by unfold xC; rw [h]; exact if_pos h1
theorem Zf {l : List In} {x : In} (h : l[l.length - 1]? = some x) (h1 : ey x.op = false) : xC l = some (17, x.at_) := by unfold xC; rw [h]; simp [h1]
theorem aaz {l : List In} {hs : List Hd} {i : Nat} {x : Hd} (h : hs[i]? = some x) (h1 : qF l x) : xV l hs i = some (16, x.from_) := by unfold xV; rw [h]; exact if_pos h1
theorem aaN {l : List In} {hs : List Hd} {i : Nat} {x : Hd} (h : hs[i]? = some x) (h1 : ¬ qF l x) : xV l hs i = none := by unfold xV; rw [h]; exact if_neg h1
theorem YN {l : List In} {fs : List Fm} {i : Nat} {x : Fm} (h : fs[i]? = some x) (h1 : bC l x.at_ < 0) : yD l fs i = some (16, x.at_) := by unfold yD; rw [h]; exact if_pos h1
theorem XV {l : List In} {fs : List Fm} {i : Nat} {x : Fm} (h : fs[i]? = some x) (h1 : ¬ bC l x.at_ < 0) (h2 : 0 < i ∧ (fs.map Fm.at_).getD (i - 1) 0 ≥ x.at_) : yD l fs i = some (21, x.at_) := by unfold yD; rw [h]; simp only [if_neg h1, if_pos h2]
theorem YS {l : List In} {fs : List Fm} {i : Nat} {x : Fm} (h : fs[i]? = some x) (h1 : ¬ bC l x.at_ < 0) (h2 : ¬ (0 < i ∧ (fs.map Fm.at_).getD (i - 1) 0 ≥ x.at_)) : yD l fs i = none := by unfold yD; rw [h]; simp only [if_neg h1, if_neg h2]
theorem Nr {l : List In} {fs : List Fm} {i : Nat} {f : Fm} (h : ∀ j, j < i → yD l fs j = none) (hf : fs[i]? = some f) : ((fs.take i).any fun x => decide (x.at_ ≥ f.at_)) = decide (0 < i ∧ (fs.map Fm.at_).getD (i - 1) 0 ≥ f.at_) := by
 have hi := (List.getElem?_eq_some_iff.1 hf).1
 rw [Bool.eq_iff_iff, List.any_eq_true, decide_eq_true_eq]
 constructor
 · rintro ⟨x, hx, hge⟩
   replace hge := of_decide_eq_true hge
   obtain ⟨j, hj⟩ := List.getElem?_of_mem hx
   rw [List.getElem?_take] at hj
   split at hj
   · rename_i hji
     obtain ⟨z, hz⟩ : ∃ z, fs[i - 1]? = some z := ⟨_, List.getElem?_eq_getElem (by omega)⟩
     have hg : (fs.map Fm.at_).getD (i - 1) 0 = z.at_ := by rw [List.getD_eq_getElem?_getD, List.getElem?_map, hz]; rfl
     refine ⟨by omega, ?_⟩
     rw [hg]
     by_cases e : j = i - 1
     · subst e; rw [hz] at hj; cases hj; exact hge
     · have := Iy h (by omega) j (i - 1) x z (by omega) (by omega) hj hz; omega
   · cases hj
 · rintro ⟨h0, hge⟩
   obtain ⟨z, hz⟩ : ∃ z, fs[i - 1]? = some z := ⟨_, List.getElem?_eq_getElem (by omega)⟩
   have hg : (fs.map Fm.at_).getD (i - 1) 0 = z.at_ := by rw [List.getD_eq_getElem?_getD, List.getElem?_map, hz]; rfl
   rw [hg] at hge
   refine ⟨z, List.mem_of_getElem? (i := i - 1) (by rw [List.getElem?_take, if_pos (by omega)]; exact hz), decide_eq_true hge⟩
set_option maxHeartbeats 8000000 in
theorem Vg {s : St} (hw : Wf s) {v hv fv : V} {l : List In} {hs : List Hd} {fs : List Fm} (h : RN 4 s v (l.map In.cells)) (L : Ll l) (hh : RN 4 s hv (hs.map Hd.cells)) (hhl : hs.length ≤ 100000) (hf : GN 3 s fv (fs.map Fm.cells)) (hfl : fs.length ≤ 100000) {m : Nat} (hm : 8 ≤ m) :
 ∃ t, (K m).call 8 [v, hv, fv] s = some (.bz [.i (eF l hs fs).1, .i (eF l hs fs).2], t) ∧ Fr s t [] := by
 obtain ⟨d, rfl⟩ : ∃ d, m = d + 1 := ⟨m - 1, by omega⟩
 have hl := L.len
 have ln := h.len
 rw [List.length_map] at ln
 have lh := hh.len
 rw [List.length_map] at lh
 have lf := hf.len
 rw [List.length_map] at lf
 let Q : V → St → Prop := fun x t => x = .bz [.i (eF l hs fs).1, .i (eF l hs fs).2] ∧ Fr s t []
 have done : ∀ (t : St) (r : Mu), Fr s t [] → eF l hs fs = r → Q (.bz [.i r.1, .i r.2]) t := fun t r ft hr => ⟨by rw [hr], ft⟩
 suffices key : eA ((K (d + 1)).call 8 [v, hv, fv] s) Q by
  obtain ⟨x, t, e, rfl, h1⟩ := key
  exact ⟨t, e, h1⟩
 have rest3 : ∀ (e : E) (t : St), Fr s t [] → cJ l.length (uX l) = none → xC l = none → cJ hs.length (xV l hs) = none → e.a0.a0 = v → e.a0.a2 = fv → eA (bn (aM [rT g6, rT g7]) (LN (K d) e t)) Q := by
  intro e t ft hI hL hH i0 i2
  simp -implicitDefEqProofs (disch := first|go_size|fail) only [go_sem, LN.eq_1, i0, i2, lf]
  refine bT (Q := fun r => eA (bn _ (ei (dH 4 r) _)) _) (fun q e t => ∃ i : Nat, q = fs.length - i ∧ i ≤ fs.length ∧ Fr s t [] ∧ (∀ j, j < i → yD l fs j = none) ∧ g0 e = v ∧ g2 e = fv ∧ g91 e = fv ∧ g92 e = .i (fs.length : Nat) ∧ g93 e = .i (i : Nat)) ?_ (n := fs.length) (by omega) ⟨0, by omega, by omega, ft, fun j hj => absurd hj (Nat.not_lt_zero j), (by trivial), (by trivial), (by trivial), (by trivial), (by trivial)⟩
  clear ft i0 i2
  rintro q e t ⟨i, rfl, hi, ft, hn, i0, i2, i91, i92, i93⟩
  replace i0 : e.a0.a0 = _ := i0
  replace i2 : e.a0.a2 = _ := i2
  replace i91 : e.a5.a11 = _ := i91
  replace i92 : e.a5.a12 = _ := i92
  replace i93 : e.a5.a13 = _ := i93
  by_cases c : (i : Int) < ((fs.length : Nat) : Int)
  · obtain ⟨f, hx⟩ : ∃ f, fs[i]? = some f := ⟨_, List.getElem?_eq_getElem (by omega)⟩
    have hg := hf.fr hw ft (by simp)
    have hrow : Row 3 f.cells := hf.1 _ (List.mem_map_of_mem (List.mem_of_getElem? hx))
    obtain ⟨b, o, a1, _, a3, a4⟩ := (hg.rn ft.wf).at ft.wf (i := i) (x := f.cells) (by rw [List.getElem?_map, hx]; rfl)
    obtain ⟨u1, k1, ck1, fk1, nk1⟩ := bB (s := t) (l := [V.i 0, .ax, .ax]) (n := 3) ft.wf rfl
    obtain ⟨u2, k2, ck2, fk2, nk2⟩ := cD (s := u1) (b := t.next) (o := 0) (vs := f.cells) (m := 3) fk1.wf ck1 hrow.1 (by simp) hrow.2
    replace ck2 : u2.cl t.next = some f.cells := by rw [ck2]; simp [dg, Fm.cells]
    have Fk : Fr t u2 [] := fk1.trans' fk2 (fun b hb => .inr (by simp at hb; omega))
    have r0 : cO (.ptr t.next 0) u2 = some (.i f.at_) := aH Fk.wf ck2 rfl
    obtain ⟨t1, e1, f1⟩ := iU Fk.wf (h.fr hw (ft.trans Fk) (by simp)) L f.at_ (m := d) (by omega)
    have ck3 := f1.cl Fk.wf ck2 (by simp)
    have r1 : cO (.ptr t.next 0) t1 = some (.i f.at_) := aH f1.wf ck3 rfl
    have F1 : Fr s t1 [] := (ft.trans Fk).trans f1
    by_cases c1 : bC l f.at_ < 0
    · simp -implicitDefEqProofs (disch := first|go_size|fail) only [go_sem, i0, i2, i91, i92, i93, c, aZ, a1, a4, k1, k2, r0, e1, r1, c1]
      exact done t1 (16, f.at_) F1 (YV hI hL hH (gU (by omega) (YN hx c1) hn))
    · obtain ⟨w', z1, z2, z3⟩ := (hf.fr hw F1 (by simp)).pre F1.wf (i := i) (by rw [List.length_map]; omega)
      rw [← List.map_take] at z2
      obtain ⟨t2, e2, f2⟩ := Ye F1.wf z2 (by rw [List.length_take]; omega) ck3 (m := d) (by omega)
      rw [Nr hn hx] at e2
      have r2 : cO (.ptr t.next 0) t2 = some (.i f.at_) := aH f2.wf (f2.cl F1.wf ck3 (by simp)) rfl
      by_cases c2 : 0 < i ∧ (fs.map Fm.at_).getD (i - 1) 0 ≥ f.at_
      · rw [decide_eq_true c2] at e2
        simp -implicitDefEqProofs (disch := first|go_size|fail) only [go_sem, i0, i2, i91, i92, i93, c, aZ, a1, a4, k1, k2, r0, e1, r1, c1, nV, lV, nR, z1, e2, r2]
        exact done t2 (21, f.at_) (F1.trans f2) (YV hI hL hH (gU (by omega) (XV hx c1 c2) hn))
      · rw [decide_eq_false c2] at e2
        simp -implicitDefEqProofs (disch := first|go_size|fail) only [go_sem, i0, i2, i91, i92, i93, c, aZ, a1, a4, k1, k2, r0, e1, r1, c1, nV, lV, nR, z1, e2]
        exact ⟨fs.length - (i + 1), by omega, i + 1, rfl, by omega, F1.trans f2, fun j hj => by
         by_cases ej : j = i
         · subst ej; exact YS hx c1 c2
         · exact hn j (by omega), (by trivial), (by trivial), (by trivial), (by trivial), (by trivial)⟩
  · simp -implicitDefEqProofs (disch := first|go_size|fail) only [go_sem, i0, i2, i91, i92, i93, c, lf]
    exact done t (0, 0) ft (abV hI hL hH (eR fun j hj => hn j (by omega)))
 have rest2 : ∀ (e : E) (t : St), Fr s t [] → cJ l.length (uX l) = none → xC l = none → e.a0.a0 = v → e.a0.a1 = hv → e.a0.a2 = fv → eA (bn (aM [rT g6, rT g7]) (Cz (K d) e t)) Q := by
  intro e t ft hI hL i0 i1 i2
  have hne : l ≠ [] := by rintro rfl; simp [xC] at hL
  simp -implicitDefEqProofs (disch := first|go_size|fail) only [go_sem, Cz.eq_1, i0, i1, i2, lh]
  refine bT (Q := fun r => eA (bn _ (ei (dH 2 r) _)) _) (fun q e t => ∃ i : Nat, q = hs.length - i ∧ i ≤ hs.length ∧ Fr s t [] ∧ (∀ j, j < i → xV l hs j = none) ∧ g0 e = v ∧ g1 e = hv ∧ g2 e = fv ∧ g49 e = hv ∧ g50 e = .i (hs.length : Nat) ∧ g51 e = .i (i : Nat)) ?_ (n := hs.length) (by omega) ⟨0, by omega, by omega, ft, fun j hj => absurd hj (Nat.not_lt_zero j), (by trivial), (by trivial), (by trivial), (by trivial), (by trivial), (by trivial)⟩
  clear ft i0 i1 i2
  rintro q e t ⟨i, rfl, hi, ft, hn, i0, i1, i2, i49, i50, i51⟩
  replace i0 : e.a0.a0 = _ := i0
  replace i1 : e.a0.a1 = _ := i1
  replace i2 : e.a0.a2 = _ := i2
  replace i49 : e.a3.a1 = _ := i49
  replace i50 : e.a3.a2 = _ := i50
  replace i51 : e.a3.a3 = _ := i51
  by_cases c : (i : Int) < ((hs.length : Nat) : Int)
  · obtain ⟨x, hx⟩ : ∃ x, hs[i]? = some x := ⟨_, List.getElem?_eq_getElem (by omega)⟩
    obtain ⟨b, o, a1, _, _, a4⟩ := (hh.fr hw ft (by simp)).at ft.wf (i := i) (x := x.cells) (by rw [List.getElem?_map, hx]; rfl)
    obtain ⟨u1, k1, ck1, fk1, nk1⟩ := bB (s := t) (l := [V.i 0, .i 0, .i 0, .str []]) (n := 4) ft.wf rfl
    obtain ⟨u2, k2, ck2, fk2, nk2⟩ := cD (s := u1) (b := t.next) (o := 0) (vs := x.cells) (m := 4) fk1.wf ck1 x.row.1 (by simp) x.row.2
    replace ck2 : u2.cl t.next = some x.cells := by rw [ck2]; simp [dg, Hd.cells]
    have Fk : Fr t u2 [] := fk1.trans' fk2 (fun b hb => .inr (by simp at hb; omega))
    have rd : ∀ u, Fr u2 u [] → cO (.ptr t.next 0) u = some (.i x.from_) ∧ cO (.ptr t.next 1) u = some (.i x.rj) ∧ cO (.ptr t.next 2) u = some (.i x.at_) := fun u fu => by
     have cu := fu.cl Fk.wf ck2 (by simp)
     exact ⟨aH fu.wf cu rfl, aH fu.wf cu rfl, aH fu.wf cu rfl⟩
    obtain ⟨ra0, ra1, ra2⟩ := rd u2 (Fr.refl Fk.wf _)
    have F0 : Fr s u2 [] := ft.trans Fk
    obtain ⟨t1, e1, f1⟩ := iU Fk.wf (h.fr hw F0 (by simp)) L x.from_ (m := d) (by omega)
    obtain ⟨rb0, rb1, rb2⟩ := rd t1 f1
    obtain ⟨t2, e2, f2⟩ := iU f1.wf (h.fr hw (F0.trans f1) (by simp)) L x.at_ (m := d) (by omega)
    have f12 := f1.trans f2
    obtain ⟨rc0, rc1, rc2⟩ := rd t2 f12
    obtain ⟨t3, e3, f3⟩ := iU f2.wf (h.fr hw (F0.trans f12) (by simp)) L x.rj (m := d) (by omega)
    have f13 := f12.trans f3
    obtain ⟨rd0, rd1, rd2⟩ := rd t3 f13
    obtain ⟨t4, e4, f4⟩ := aaL f3.wf (h.fr hw (F0.trans f13) (by simp)) L hne (m := d) (by omega)
    have f14 := f13.trans f4
    obtain ⟨re0, re1, re2⟩ := rd t4 f14
    have bad : ∀ u, Fr s u [] → qF l x → Q (.bz [.i 16, .i x.from_]) u := fun u fu hb => done u (16, x.from_) fu (acD hI hL (gU (by omega) (aaz hx hb) hn))
    have good : ¬ qF l x → ∀ j, j < i + 1 → xV l hs j = none := fun hb j hj => by
     by_cases ej : j = i
     · subst ej; exact aaN hx hb
     · exact hn j (by omega)
    by_cases c1 : bC l x.from_ < 0
    · skip
      simp -implicitDefEqProofs (disch := first|go_size|fail) only [go_sem, i0, i1, i2, i49, i50, i51, c, aZ, a1, a4, k1, k2, ra0, ra1, ra2, e1, e2, e3, e4, re0, re1, re2, rb0, rb1, rb2, rc0, rc1, rc2, rd0, rd1, rd2, c1, eq_self]
      exact bad t1 (F0.trans f1) (.inl c1)
    by_cases c2 : bC l x.at_ < 0
    · skip
      simp -implicitDefEqProofs (disch := first|go_size|fail) only [go_sem, i0, i1, i2, i49, i50, i51, c, aZ, a1, a4, k1, k2, ra0, ra1, ra2, e1, e2, e3, e4, re0, re1, re2, rb0, rb1, rb2, rc0, rc1, rc2, rd0, rd1, rd2, c1, c2, eq_self]
      exact bad t2 (F0.trans f12) (.inr (.inl c2))
    by_cases c3 : bC l x.rj < 0
    · by_cases c4 : x.rj = Lh l
      · by_cases c5 : x.from_ ≥ x.rj
        · rw [← c4] at e4
          simp -implicitDefEqProofs (disch := first|go_size|fail) only [go_sem, i0, i1, i2, i49, i50, i51, c, aZ, a1, a4, k1, k2, ra0, ra1, ra2, e1, e2, e3, e4, re0, re1, re2, rb0, rb1, rb2, rc0, rc1, rc2, rd0, rd1, rd2, c1, c2, c3, c5, eq_self]
          exact bad t4 (F0.trans f14) (.inr (.inr (.inr c5)))
        · rw [← c4] at e4
          simp -implicitDefEqProofs (disch := first|go_size|fail) only [go_sem, i0, i1, i2, i49, i50, i51, c, aZ, a1, a4, k1, k2, ra0, ra1, ra2, e1, e2, e3, e4, re0, re1, re2, rb0, rb1, rb2, rc0, rc1, rc2, rd0, rd1, rd2, c1, c2, c3, c5, eq_self]
          exact ⟨hs.length - (i + 1), by omega, i + 1, rfl, by omega, F0.trans f14, good (by unfold qF; omega), (by trivial), (by trivial), (by trivial), (by trivial), (by trivial), (by trivial)⟩
      · skip
        simp -implicitDefEqProofs (disch := first|go_size|fail) only [go_sem, i0, i1, i2, i49, i50, i51, c, aZ, a1, a4, k1, k2, ra0, ra1, ra2, e1, e2, e3, e4, re0, re1, re2, rb0, rb1, rb2, rc0, rc1, rc2, rd0, rd1, rd2, c1, c2, c3, c4, eq_self]
        exact bad t4 (F0.trans f14) (.inr (.inr (.inl ⟨c3, c4⟩)))
    · by_cases c5 : x.from_ ≥ x.rj
      · skip
        simp -implicitDefEqProofs (disch := first|go_size|fail) only [go_sem, i0, i1, i2, i49, i50, i51, c, aZ, a1, a4, k1, k2, ra0, ra1, ra2, e1, e2, e3, e4, re0, re1, re2, rb0, rb1, rb2, rc0, rc1, rc2, rd0, rd1, rd2, c1, c2, c3, c5, eq_self]
        exact bad t3 (F0.trans f13) (.inr (.inr (.inr c5)))
      · skip
        simp -implicitDefEqProofs (disch := first|go_size|fail) only [go_sem, i0, i1, i2, i49, i50, i51, c, aZ, a1, a4, k1, k2, ra0, ra1, ra2, e1, e2, e3, e4, re0, re1, re2, rb0, rb1, rb2, rc0, rc1, rc2, rd0, rd1, rd2, c1, c2, c3, c5, eq_self]
        exact ⟨hs.length - (i + 1), by omega, i + 1, rfl, by omega, F0.trans f13, good (by unfold qF; omega), (by trivial), (by trivial), (by trivial), (by trivial), (by trivial), (by trivial)⟩
  · simp -implicitDefEqProofs (disch := first|go_size|fail) only [go_sem, i0, i1, i2, i49, i50, i51, c, lh]
    exact rest3 _ t ft hI hL (eR fun j hj => hn j (by omega)) (by trivial) (by trivial)
 have rest1 : ∀ (e : E) (t : St), Fr s t [] → l ≠ [] → cJ l.length (uX l) = none → e.a0.a0 = v → e.a0.a1 = hv → e.a0.a2 = fv → eA (bn (aM [rT g6, rT g7]) (xx (K d) e t)) Q := by
  intro e t ft hne hI i0 i1 i2
  have hp := List.length_pos_iff.2 hne
  obtain ⟨x, hx⟩ : ∃ x, l[l.length - 1]? = some x := ⟨_, List.getElem?_eq_getElem (by omega)⟩
  obtain ⟨b, o, a1, _, _, a4⟩ := (h.fr hw ft (by simp)).at ft.wf (i := l.length - 1) (x := x.cells) (by rw [List.getElem?_map, hx]; rfl)
  rw [show ((l.length - 1 : Nat) : Int) = ((l.length : Nat) : Int) - 1 by omega] at a1
  obtain ⟨u1, k1, ck1, fk1, nk1⟩ := bB (s := t) (l := [V.i 0, .i 0, .i 0, .i 0]) (n := 4) ft.wf rfl
  obtain ⟨u2, k2, ck2, fk2, nk2⟩ := cD (s := u1) (b := t.next) (o := 0) (vs := x.cells) (m := 4) fk1.wf ck1 x.row.1 (by simp) x.row.2
  replace ck2 : u2.cl t.next = some x.cells := by rw [ck2]; simp [dg, In.cells]
  have Fk : Fr t u2 [] := fk1.trans' fk2 (fun b hb => .inr (by simp at hb; omega))
  have r0 : cO (.ptr t.next 0) u2 = some (.i x.at_) := aH fk2.wf ck2 rfl
  have r1 : cO (.ptr t.next 1) u2 = some (.i x.op) := aH fk2.wf ck2 rfl
  obtain ⟨q1, q2, q3, q4⟩ := L.op _ x hx
  have e1 := Vo (n := x.op) q1 q2 u2 (m := d) (by omega)
  cases he : ey x.op with
  | false =>
    rw [he] at e1
    simp -implicitDefEqProofs (disch := first|go_size|fail) only [go_sem, xx.eq_1, i0, i1, i2, ln, a1, a4, aZ, k1, k2, r0, r1, e1]
    exact done u2 (17, x.at_) (ft.trans Fk) (YL hI (Zf hx he))
  | true =>
    rw [he] at e1
    simp -implicitDefEqProofs (disch := first|go_size|fail) only [go_sem, xx.eq_1, i0, i1, i2, ln, a1, a4, aZ, k1, k2, r0, r1, e1]
    exact rest2 _ u2 (ft.trans Fk) hI (ZL hx he) (by trivial) (by trivial) (by trivial)
 by_cases hne : l = []
 · subst hne
   replace ln : aP v = some (.i 0) := ln
   simp -implicitDefEqProofs (disch := first|go_size|fail) only [op8, go_sem, ln, eq_self]
   exact done s (17, 0) (Fr.refl hw _) (YL (eR fun j hj => absurd hj (Nat.not_lt_zero j)) rfl)
 have hp := List.length_pos_iff.2 hne
 have c0 : ¬ ((l.length : Nat) : Int) = 0 := by omega
 simp -implicitDefEqProofs (disch := first|go_size|fail) only [op8, go_sem, ln, c0]
 refine bT (Q := fun r => eA (bn _ (ei (dH 0 r) _)) _) (fun q e t => ∃ i : Nat, q = l.length - i ∧ i ≤ l.length ∧ Fr s t [] ∧ (∀ j, j < i → uX l j = none) ∧ g0 e = v ∧ g1 e = hv ∧ g2 e = fv ∧ g18 e = v ∧ g19 e = .i (l.length : Nat) ∧ g20 e = .i (i : Nat)) ?_ (n := l.length) (by omega) ⟨0, by omega, by omega, Fr.refl hw _, fun j hj => absurd hj (Nat.not_lt_zero j), (by trivial), (by trivial), (by trivial), (by trivial), (by trivial), (by trivial)⟩
 rintro q e t ⟨i, rfl, hi, ft, hn, i0, i1, i2, i18, i19, i20⟩
 replace i0 : e.a0.a0 = _ := i0
 replace i1 : e.a0.a1 = _ := i1
 replace i2 : e.a0.a2 = _ := i2
 replace i18 : e.a1.a2 = _ := i18
 replace i19 : e.a1.a3 = _ := i19
 replace i20 : e.a1.a4 = _ := i20
 by_cases c : (i : Int) < ((l.length : Nat) : Int)
 · obtain ⟨x, hx⟩ : ∃ x, l[i]? = some x := ⟨_, List.getElem?_eq_getElem (by omega)⟩
   obtain ⟨b, o, a1, _, a3, a4⟩ := (h.fr hw ft (by simp)).at ft.wf (i := i) (x := x.cells) (by rw [List.getElem?_map, hx]; rfl)
   obtain ⟨q1, q2, q3, q4⟩ := L.op _ x hx
   obtain ⟨u1, k1, ck1, fk1, nk1⟩ := bB (s := t) (l := [V.i 0, .i 0, .i 0, .i 0]) (n := 4) ft.wf rfl
   obtain ⟨u2, k2, ck2, fk2, nk2⟩ := cD (s := u1) (b := t.next) (o := 0) (vs := x.cells) (m := 4) fk1.wf ck1 x.row.1 (by simp) x.row.2
   replace ck2 : u2.cl t.next = some x.cells := by rw [ck2]; simp [dg, In.cells]
   have Fk : Fr t u2 [] := fk1.trans' fk2 (fun b hb => .inr (by simp at hb; omega))
   have F0 : Fr s u2 [] := ft.trans Fk
   have r1 : cO (.ptr t.next 1) u2 = some (.i x.op) := aH fk2.wf ck2 rfl
   have r2 : cO (.ptr t.next 2) u2 = some (.i x.a) := aH fk2.wf ck2 rfl
   have e1 := MS (n := x.op) q1 q2 u2 (m := d) (by omega)
   obtain ⟨t1, e2, f1⟩ := iU Fk.wf (h.fr hw F0 (by simp)) L x.a (m := d) (by omega)
   have r0 : cO (.ptr t.next 0) t1 = some (.i x.at_) := aH f1.wf (f1.cl Fk.wf ck2 (by simp)) rfl
   cases hb : fU x.op with
   | false =>
     rw [hb] at e1
     simp -implicitDefEqProofs (disch := first|go_size|fail) only [go_sem, i0, i1, i2, i18, i19, i20, c, a1, a4, aZ, k1, k2, r0, r1, r2, e1, e2]
     exact ⟨l.length - (i + 1), by omega, i + 1, rfl, by omega, F0, fun j hj => by
      by_cases ej : j = i
      · subst ej; exact PU hx (by rw [hb]; simp)
      · exact hn j (by omega), (by trivial), (by trivial), (by trivial), (by trivial), (by trivial), (by trivial)⟩
   | true =>
     rw [hb] at e1
     by_cases c1 : bC l x.a < 0
     · simp -implicitDefEqProofs (disch := first|go_size|fail) only [go_sem, i0, i1, i2, i18, i19, i20, c, a1, a4, aZ, k1, k2, r0, r1, r2, e1, e2, c1]
       exact done t1 (16, x.at_) (F0.trans f1) (ac9 (gU (by omega) (Zt hx hb c1) hn))
     · simp -implicitDefEqProofs (disch := first|go_size|fail) only [go_sem, i0, i1, i2, i18, i19, i20, c, a1, a4, aZ, k1, k2, r0, r1, r2, e1, e2, c1]
       exact ⟨l.length - (i + 1), by omega, i + 1, rfl, by omega, F0.trans f1, fun j hj => by
        by_cases ej : j = i
        · subst ej; exact PU hx (fun hh => c1 hh.2)
        · exact hn j (by omega), (by trivial), (by trivial), (by trivial), (by trivial), (by trivial), (by trivial)⟩
 · simp -implicitDefEqProofs (disch := first|go_size|fail) only [go_sem, i0, i1, i2, i18, i19, i20, c, ln]
   exact rest1 _ t ft hne (eR fun j hj => hn j (by omega)) (by trivial) (by trivial) (by trivial)
set_option maxHeartbeats 32000000 in
theorem Oi {s : St} (hw : Wf s) {w : V} {l : List Int} (hv0 : SL s w (l.map V.i)) (hv1 : w.one = true) (hI : ∀ x ∈ l, PY x) (hl : l.length ≤ 17592186044416) (hwb : ∀ b ∈ aE w, b < s.next) {m : Nat} (hm : 33 ≤ m) :
 ∃ t, (K m).call 5 [w] s = some (.bool true, t) := by
 obtain ⟨d, rfl⟩ : ∃ d, m = d + 1 := ⟨m - 1, by omega⟩
 let Q : V → St → Prop := fun x t => x = .bool true
 suffices key : eA ((K (d + 1)).call 5 [w] s) Q by
  obtain ⟨x, t, e, rfl⟩ := key
  exact ⟨t, e⟩
 obtain ⟨s1, lv, mv, gv, I, hr, fr, e1, r1, r2, r3, r4, r5, ok, f1, b1⟩ := Og (bs := []) hw (v := .ax) (.inl ⟨rfl, .inl rfl⟩) (by simp) (by simp) (by simp [aE]) hv0 hv1 hI hl hwb (m := d) (by omega)
 have L := ok.ll (by simp)
 obtain ⟨ls, n, hs, M, rfl, rfl⟩ := ok.made
 have hne := M.ne
 have hla := M.HF
 have hck := M.check
 have hhl := M.hl
 replace r2 : RN 4 s1 mv ((hs.map (vt (bR n ls).1)).map Hd.cells) := by rw [List.map_map]; exact r2
 generalize hys : hs.map (vt (bR n ls).1) = ys at *
 have hyl : ys.length ≤ 54 := by rw [← hys, List.length_map]; exact hhl
 clear hys ok M hhl hv0 hv1 hI hl hwb b1 r3 r4 r5
 generalize fl n ls = I at *
 have ln := r1.len
 rw [List.length_map] at ln
 have hl1 := L.len
 have hIpos : 0 < I.length := List.length_pos_iff.2 hne
 obtain ⟨t8, x8, f8⟩ := Vg f1.wf r1 L r2 (by omega) (fv := .ax) (fs := []) ⟨by simp, .inl ⟨rfl, .inl rfl⟩⟩ (by simp) (m := d) (by omega)
 rw [hck] at x8
 simp only at x8
 obtain ⟨t0, bv, x1, f2, rows, hG, hrl, hR⟩ := BD f8.wf (r1.fr f1.wf f8 (by simp)) L (r2.fr f1.wf f8 (by simp)) (by omega) hne hla (m := d) (by omega)
 have hin : ∀ (k : Nat) f, (LL I ys)[k]? = some f → 0 ≤ f ∧ f < (I.length : Nat) := fun k f hf => tY hf
 have hs_ := wH I ys
 have hall : ∀ (k : Nat) f, (LL I ys)[k]? = some f → ∀ n ∈ eV I (jD I (LL I ys) k - 1), n ∈ LL I ys := fun k f hf => yI hf
 have hinn : ∀ (k i : Nat) (f : Int) (x : In), (LL I ys)[k]? = some f → I[i]? = some x → f ≤ (i : Int) → (i : Int) < jD I (LL I ys) k - 1 → fU x.op = false ∧ ey x.op = false := fun k i f x a b c e => Ce a b c e
 have h00 := AV (hs := ys) hIpos
 generalize LL I ys = Ls at *
 have hRN := hG.rn f2.wf
 have lr := hRN.len
 rw [hrl] at lr
 have uV : ∀ t, (K d).call 12 [] t = some (.bool true, t) := fun t => by
  obtain ⟨d', rfl⟩ : ∃ d', d = d' + 1 := ⟨d - 1, by omega⟩
  exact ac4 d' t
 have hat0 : SW I Ls 0 = 0 := by unfold SW; rw [h00]
 have hLl : Ls.length ≤ 100000 := by
  rcases Nat.lt_or_ge 1024 Ls.length with hh | hh
  · exfalso
    have key : ∀ (k : Nat) f, Ls[k]? = some f → (k : Int) ≤ f := fun k => by
     induction k with
     | zero => intro f hf; exact (hin 0 f hf).1
     | succ k ih =>
       intro f hf
       obtain ⟨g, hg⟩ : ∃ g, Ls[k]? = some g := ⟨_, List.getElem?_eq_getElem (by have := (List.getElem?_eq_some_iff.1 hf).1; omega)⟩
       have := ih g hg
       have := nu hs_ (show k < k + 1 by omega) hg hf
       omega
    obtain ⟨f, hf⟩ : ∃ f, Ls[1024]? = some f := ⟨_, List.getElem?_eq_getElem hh⟩
    have := key 1024 f hf
    have := (hin 1024 f hf).2
    omega
  · omega
 simp -implicitDefEqProofs (disch := first|go_size|fail) only [op5, go_sem, e1, x8, x1, ne_eq, not_true]
 refine bT (Q := fun r => eA (bn _ (ei (dH 0 r) _)) _) (fun q e t => ∃ k : Nat, q = Ls.length - k ∧ k ≤ Ls.length ∧ Fr t0 t [] ∧ g3 e = lv ∧ g8 e = bv ∧ g9 e = .i (SW I Ls k) ∧ g10 e = .i (k : Nat)) ?_ (n := Ls.length) (by omega) ⟨0, by omega, by omega, Fr.refl f2.wf _, (by trivial), (by trivial), by first | (rw [hat0]; done) | (rw [hat0]; trivial), (by trivial)⟩
 clear e1 x8 x1
 rintro q e t ⟨k, rfl, hk, ft, i3, i8, i9, i10⟩
 replace i3 : e.a0.a3 = _ := i3
 replace i8 : e.a0.a8 = _ := i8
 replace i9 : e.a0.a9 = _ := i9
 replace i10 : e.a0.a10 = _ := i10
 by_cases c : (k : Int) < ((Ls.length : Nat) : Int)
 rotate_left
 · have hke : SW I Ls k = (I.length : Nat) := by unfold SW; rw [List.getElem?_eq_none (by omega)]
   rw [hke] at i9
   simp -implicitDefEqProofs (disch := first|go_size|fail) only [go_sem, i3, i8, i9, i10, lr, ln, c, uV, eq_self]
   rfl
 obtain ⟨f, hf⟩ : ∃ f, Ls[k]? = some f := ⟨_, List.getElem?_eq_getElem (by omega)⟩
 have hatk : SW I Ls k = f := by unfold SW; rw [hf]
 rw [hatk] at i9
 obtain ⟨g1_, g2_, g3_⟩ := sv hs_ hin hf
 obtain ⟨hf0, hf1⟩ := hin k f hf
 obtain ⟨r, hr, nv, rfl, nv1, nvs, _⟩ := hR k f hf
 have hNa := hall k f hf
 have hIn := hinn k
 generalize hto : jD I Ls k = to at *
 obtain ⟨b, o, a1, _, a3, _⟩ := (hRN.fr f2.wf ft (by simp)).at ft.wf (i := k) (x := [.i f, .i to, nv]) hr
 have w0 := a3 0 _ rfl
 have w1 := a3 1 _ rfl
 rw [Nat.add_zero] at w0
 have c1 : ¬ (to ≤ f) := by omega
 have c2 : ¬ (to > ((I.length : Nat) : Int)) := by omega
 simp -implicitDefEqProofs (disch := first|go_size|fail) only [go_sem, Qr.eq_1, i3, i8, i9, i10, lr, ln, c, a1, w0, w1, c1, c2, eq_self, ne_eq, not_true]
 obtain ⟨fn, hfn⟩ : ∃ fn : Nat, f = fn := ⟨f.toNat, by omega⟩
 refine bT (Q := fun r => tA (ei (dH 1 (ei (dH 2 r) _)) _) _ _) (fun q e2 u => ∃ j : Nat, q = to.toNat - j ∧ f ≤ (j : Int) ∧ (j : Int) < to ∧ Fr t0 u [] ∧ e2.a0.a3 = lv ∧ e2.a0.a8 = bv ∧ e2.a0.a10 = .i (k : Nat) ∧ e2.a0.a11 = .i (j : Nat)) ?_ (n := to.toNat - fn) (by omega) ⟨fn, by omega, by omega, by omega, ft, (by trivial), (by trivial), (by trivial), by first | (rw [hfn]; done) | (rw [hfn]; trivial)⟩
 clear i3 i8 i9 i10 a1 a3 w0 w1
 rintro q e2 u ⟨j, rfl, hj0, hj1, fu, i3, i8, i10, i11⟩
 obtain ⟨b, o, a1, _, a3, _⟩ := (hRN.fr f2.wf fu (by simp)).at fu.wf (i := k) (x := [.i f, .i to, nv]) hr
 have w0 := a3 0 _ rfl
 have w1 := a3 1 _ rfl
 have w2 := a3 2 _ rfl
 rw [Nat.add_zero] at w0
 have hRu := (r1.fr f1.wf (f8.trans (f2.trans fu)) (by simp))
 by_cases cj : (j : Int) < to - 1
 · obtain ⟨x, hx⟩ : ∃ x, I[j]? = some x := ⟨_, List.getElem?_eq_getElem (by omega)⟩
   obtain ⟨q1, q2, q3, q4⟩ := L.op _ x hx
   obtain ⟨hb, he⟩ := hIn j f x hf hx hj0 (by omega)
   obtain ⟨b', o', a1', _, a3', _⟩ := hRu.at fu.wf (i := j) (x := x.cells) (by rw [List.getElem?_map, hx]; rfl)
   have w3 := a3' 1 _ rfl
   have e18 := sO (n := x.op) q1 q2 u (m := d) (by omega)
   have e19 := adi (n := x.op) q1 q2 u (m := d) (by omega)
   rw [hb] at e18
   rw [he] at e19
   simp -implicitDefEqProofs (disch := first|go_size|fail) only [go_sem, i3, i8, i10, i11, cj, a1, w1, a1', w3, e18, e19]
   exact ⟨to.toNat - (j + 1), by omega, j + 1, rfl, by omega, by omega, fu, (by trivial), (by trivial), (by trivial), (by trivial)⟩
 obtain ⟨t1, nv2, y1, y2, y3⟩ := Wl fu.wf hRu L (to - 1) (m := d) (by omega)
 have nl := y2.len
 rw [List.length_map] at nl
 obtain ⟨hxl, hxa⟩ := Ol hs_ hin hNa
 have nvl := nvs.len
 rw [List.length_map, hxl] at nvl
 have hnl := qV I (to - 1)
 have F1 := fu.trans y3
 obtain ⟨b', o', a1', _, a3', _⟩ := (hRN.fr f2.wf F1 (by simp)).at F1.wf (i := k) (x := [.i f, .i to, nv]) hr
 rw [a1] at a1'
 cases a1'
 have w2' := a3' 2 _ rfl
 simp -implicitDefEqProofs (disch := first|go_size|fail) only [go_sem, Sb.eq_1, i3, i8, i10, i11, cj, a1, w1, y1, nl, w2', nvl, eq_self, ne_eq, not_true]
 refine bT (Q := fun r => tA (ei (dH 1 (ei (dH 4 r) _)) _) _ _) (fun q e3 u => ∃ j : Nat, q = (eV I (to - 1)).length - j ∧ j ≤ (eV I (to - 1)).length ∧ Fr t1 u [] ∧ e3.a0.a3 = lv ∧ e3.a0.a8 = bv ∧ e3.a0.a10 = .i (k : Nat) ∧ e3.a0.a12 = nv2 ∧ e3.a0.a13 = .i (j : Nat)) ?_ (n := (eV I (to - 1)).length) (by omega) ⟨0, by omega, by omega, Fr.refl y3.wf _, (by trivial), (by trivial), (by trivial), (by trivial), (by trivial)⟩
 clear i3 i8 i10 i11 a1 a3 w0 w1 w2 a3' w2' y1
 rintro q e3 u3 ⟨j3, rfl, hj3, fu3, i3, i8, i10, i12, i13⟩
 have F3 := F1.trans fu3
 obtain ⟨b, o, a1, _, a3, _⟩ := (hRN.fr f2.wf F3 (by simp)).at F3.wf (i := k) (x := [.i f, .i to, nv]) hr
 have w1 := a3 1 _ rfl
 have w2 := a3 2 _ rfl
 by_cases c3 : (j3 : Int) < (((eV I (to - 1)).length : Nat) : Int)
 · obtain ⟨z, hz⟩ : ∃ z, (eV I (to - 1))[j3]? = some z := ⟨_, List.getElem?_eq_getElem (by omega)⟩
   obtain ⟨p, hp1, hp2⟩ := hxa j3 z hz
   have hpl := (List.getElem?_eq_some_iff.1 hp2).1
   obtain ⟨qa, b1_, b2_⟩ := (nvs.fr f2.wf F3 (by simp)).at F3.wf (j := j3) (x := .i (p : Nat)) (by rw [List.getElem?_map, hp1]; rfl)
   obtain ⟨qb, b3_, b4_⟩ := (y2.fr y3.wf fu3 (by simp)).at fu3.wf (j := j3) (x := .i z) (by rw [List.getElem?_map, hz]; rfl)
   obtain ⟨rp, hrp, nvp, rfl, _⟩ := hR p z hp2
   obtain ⟨bp, op, a4, _, a5, _⟩ := (hRN.fr f2.wf F3 (by simp)).at F3.wf (i := p) (x := _) hrp
   have w4 := a5 0 _ rfl
   rw [Nat.add_zero] at w4
   have d1 : ¬ ((p : Nat) : Int) < 0 := by omega
   have d2 : ¬ ((p : Nat) : Int) ≥ ((Ls.length : Nat) : Int) := by omega
   simp -implicitDefEqProofs (disch := first|go_size|fail) only [go_sem, i3, i8, i10, i12, i13, nl, c3, a1, w1, w2, b1_, b2_, b3_, b4_, a4, w4, lr, d1, d2, eq_self, ne_eq, not_true]
   exact ⟨(eV I (to - 1)).length - (j3 + 1), by omega, j3 + 1, rfl, by omega, fu3, (by trivial), (by trivial), (by trivial), (by trivial), (by trivial)⟩
 · simp -implicitDefEqProofs (disch := first|go_size|fail) only [go_sem, i3, i8, i10, i12, i13, nl, c3, a1, w1, w2]
   exact ⟨Ls.length - (k + 1), by omega, k + 1, rfl, by omega, F3, (by trivial), (by trivial), by first | (rw [← J3, hto]; done) | (rw [← J3, hto]; trivial), (by trivial)⟩
end
end Go.Proofs.YtcgdlgbomjnnnaaLab
namespace Go.Proofs.YtcgdlgbomjnnnaaLab
open Go Go.WideShapes Go.ChangeShapes
set_option linter.all false
set_option maxRecDepth 10000
noncomputable section
theorem Vh {G : Pl} {s : St} {x : V} {l : List V} {a : Option Addr} {len cap : Nat} (vr : VR G x (.slice a len cap)) (sl : SL s x l) : l.length = len := by
 rcases sl with ⟨rfl, rfl | ⟨b, o, c, rfl⟩⟩ | ⟨b, o, c, n, g, rfl, _⟩
 · cases vr; rfl
 · obtain ⟨_, a', c', hax, _⟩ := vr.fJ
   cases hax; rfl
 · obtain ⟨_, a', c', hax, _⟩ := vr.fJ
   cases hax; rfl
theorem wk {H : Type} {enc : TypeId × Value → H} {P : Program} {W : World} {base : Nat} {spare : Nat → Bool} {held : Bool} {t e : TypeId} {a : Option Addr} {len cap : Nat} {d : DataW H} {ps : List MemPlace} {ts : List TypeId} {ds : List (DataW H)} {j : Nat}
 (hw : (DataW.weightsEach P ts ds).all (· ≤ reachBytes) = true) (ht : ts[j]? = some t) (hd : ds[j]? = some d) (hu : P.underlying t = some (.slice e)) (he : P.underlying e = some (.int .i64)) (hc : P.cellsOf e = 1) (hB : P.bytesOf e = 8)
 (h : DataW.Trod enc P W base spare held t (.slice a len cap) d ps) : len * 8 ≤ 140737488351232 := by
 obtain ⟨fuel, hf⟩ := h
 rcases open_ints hu he hc hf with ⟨hcs, _⟩ | ⟨x, l, c, zs, hcs, _, hl, _, hz, hx, _, _⟩
 · simp [Value.cells] at hcs
   obtain ⟨rfl, rfl, rfl⟩ := hcs
   simp
 · simp [Value.cells] at hcs
   obtain ⟨rfl, rfl, rfl⟩ := hcs
   obtain ⟨hx, _⟩ := Prod.mk.inj hx
   subst hx
   have z := sized_slice hw ht hd hu
   rw [hB] at z
   have hn : len ≤ zs.length := by
    rw [hz]; split
    · exact hl
    · exact Nat.le_refl _
   have hs : (lits (H := H) .i64 (zs.take len)).length + (lits (H := H) .i64 (zs.drop len)).length = zs.length := by
    simp [lits]; omega
   rw [hs] at z
   exact Nat.le_trans (Nat.mul_le_mul_right _ hn) z
theorem RN.sl {s : St} {v : V} {l : List V} (h : RN 1 s v (l.map fun x => [x])) : SL s v l := by
 rcases h.2 with ⟨h0, h1⟩ | ⟨b, o, c, n, f, h1, h2, h3, h4⟩
 · exact .inl ⟨by simpa using h0, h1⟩
 · rw [List.length_map] at h1 h3
   refine .inr ⟨b, o, c, n, f, h1, h2, by omega, fun i hi => ?_⟩
   have := h4 i [l[i]] (by rw [List.getElem?_map, List.getElem?_eq_getElem hi]; rfl) 0 (by omega)
   rw [show o + i * 1 + 0 = o + i by omega] at this
   rw [this, List.getElem?_eq_getElem hi]; rfl
section
variable {H : Type} {enc : TypeId × Value → H} {W : World} {base b0 : Nat} {r : Go.Reach} {held : Bool}
end
theorem SL.one {s : St} {v : V} {l : List V} (h : SL s v l) : v.one = true := by rcases h with ⟨_, rfl | ⟨b, o, c, rfl⟩⟩ | ⟨b, o, c, n, f, rfl, _⟩ <;> rfl
end
end Go.Proofs.YtcgdlgbomjnnnaaLab
namespace Go.Proofs.YtcgdlgbomjnnnaaLab
open Go
set_option linter.all false
set_option maxRecDepth 10000
noncomputable section
theorem nO {W : World} {v0 : Value} {x0 : V} {l0 : List Int} (vr0 : VR (mL W) x0 v0) (s0 : SL (uw W 1) x0 (l0.map V.i)) (k0 : ∀ b ∈ aE x0, b < W.heap.size) (w0 : ∀ n ∈ l0, -9223372036854775808 ≤ n ∧ n < 9223372036854775808) (z0 : l0.length ≤ 17592186044416) :
 Calls Try.prog 5 #[v0] W (fun e w' => e = .returned (.bool true) ∧ RowKit.Below W.heap.size W w') := by
 have hn : (uw W 1).next = W.heap.size := rfl
 obtain ⟨t, e⟩ := Oi (MJ W 1) s0 s0.one (fun x hx => w0 x hx) z0 k0 (m := 40) (by omega)
 exact Vq (fuel := 1152921504606846976) (n := 40) kR ⟨_, _, e, rfl⟩ (.cons _ _ _ _ vr0 .nil)
end
end Go.Proofs.YtcgdlgbomjnnnaaLab
