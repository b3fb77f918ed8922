/- The program's heap held against the document's. No condition on the program. -/
import Derived.Test.YtjipdnfaokdkbaaRK
namespace Go.Proofs.YtjipdnfaokdkbaaLab
open Go
set_option linter.all false
set_option maxRecDepth 10000
noncomputable section
/-- One of them, or none. -/
theorem pick_eq {s : St} (hw : Wf s) {v : V} {l : List Int} (h : SL s v (l.map .i)) (hl : l.length ≤ 100000) {x : Int} (hx : -9223372036854775808 ≤ x ∧ x < 9223372036854775808) (hb : ∀ y ∈ l, -9223372036854775808 ≤ y ∧ y < 9223372036854775808) (d : Nat) :
    ∃ r : Int, (K (d + 2)).call 31 [v, .i x] s = some (.i r, s) ∧ -9223372036854775808 ≤ r ∧ r < 9223372036854775808 := by
  have hlen := h.len
  rw [List.length_map] at hlen
  by_cases c0 : l.length = 0
  · have c : ((l.length : Nat) : Int) = 0 := by omega
    refine ⟨x, ?_, hx⟩
    rw [op31]
    simp -implicitDefEqProofs (maxSteps := 5000000) (disch := first | assumption | omega | (simp only [one_i, one_int, one_bool, one_str, one_ptr, one_nilp, one_nils, one_slice, one_map, one_nilm, one_func, one_iface, same_i, same_bool, same_nils, same_ptr, same_map, same_slice, List.length_cons, List.length_nil, Nat.zero_add, Nat.reduceAdd, allOne_cons, allOne_nil, Bool.and_self]; done) | (simp only [List.length_cons, List.length_nil, List.length_map, List.length_set]; omega)) only [go_sem, hlen, c]
  · have c : ¬ ((l.length : Nat) : Int) = 0 := by omega
    by_cases c2 : x.tmod 7 = 6
    · refine ⟨x, ?_, hx⟩
      rw [op31]
      simp -implicitDefEqProofs (maxSteps := 5000000) (disch := first | assumption | omega | (simp only [one_i, one_int, one_bool, one_str, one_ptr, one_nilp, one_nils, one_slice, one_map, one_nilm, one_func, one_iface, same_i, same_bool, same_nils, same_ptr, same_map, same_slice, List.length_cons, List.length_nil, Nat.zero_add, Nat.reduceAdd, allOne_cons, allOne_nil, Bool.and_self]; done) | (simp only [List.length_cons, List.length_nil, List.length_map, List.length_set]; omega)) only [go_sem, hlen, c, c2]
    · have e := within_eq s x 0 ((l.length : Nat) - 1 : Int) (by omega) (by omega) (by omega) d
      have hle := withinI_le x 0 ((l.length : Nat) - 1 : Int) (by omega)
      obtain ⟨y, hg⟩ : ∃ y, l[(withinI x 0 ((l.length : Nat) - 1 : Int)).toNat]? = some y := ⟨_, List.getElem?_eq_getElem (by omega)⟩
      obtain ⟨q, a1, a2⟩ := h.at hw (j := (withinI x 0 ((l.length : Nat) - 1 : Int)).toNat) (x := .i y) (by rw [List.getElem?_map, hg]; rfl)
      rw [show (((withinI x 0 ((l.length : Nat) - 1 : Int)).toNat : Nat) : Int) = withinI x 0 ((l.length : Nat) - 1 : Int) by omega] at a1
      refine ⟨y, ?_, hb _ (List.mem_of_getElem? hg)⟩
      rw [op31]
      simp -implicitDefEqProofs (maxSteps := 5000000) (disch := first | assumption | omega | (simp only [one_i, one_int, one_bool, one_str, one_ptr, one_nilp, one_nils, one_slice, one_map, one_nilm, one_func, one_iface, same_i, same_bool, same_nils, same_ptr, same_map, same_slice, List.length_cons, List.length_nil, Nat.zero_add, Nat.reduceAdd, allOne_cons, allOne_nil, Bool.and_self]; done) | (simp only [List.length_cons, List.length_nil, List.length_map, List.length_set]; omega)) only [go_sem, hlen, c, c2, e, a1, a2]
theorem starts_at : ∀ {os : List O} {a : Nat} {r : Int}, r ∈ starts a os → ∃ o, look os (r - a) = some o
  | [], a, r, h => by simp [starts] at h
  | o :: os, a, r, h => by
    simp only [starts, List.mem_cons] at h
    unfold look
    rcases h with rfl | h
    · exact ⟨o, by rw [if_pos (by omega)]⟩
    · obtain ⟨o', ho'⟩ := starts_at h
      by_cases c : r - a = 0
      · exact ⟨o, by rw [if_pos c]⟩
      · exact ⟨o', by rw [if_neg c, show r - a - (o.n : Nat) = r - ((a + o.n : Nat) : Int) by omega]; exact ho'⟩
section
variable {s : St} {p bw bb n bm rp : Nat} {os : List O} {z : List Int} {shapes : List (List Bool)} {F FO FS : List Nat} {w : Int} (H : HS s p bw bb n os z shapes bm F) (R : RR s rp w os shapes FO FS)
include H R
theorem same_eq (d : Nat) : Ret ((K (d + 5)).call 36 [.ptr p 0, .ptr rp 0] s) fun v s' => v = .bool true ∧ Fr s s' [] := by
  obtain ⟨sh, hA, hS⟩ := H.H
  have hw := hA.hr.wf
  have hn := hA.nn
  have hz := hA.size
  have hlen3 := lay_len3 os
  have hsl := starts_len 1 os
  obtain ⟨v1, s1, e1, g1', f1, b1⟩ := hA.all (d + 1)
  have A1 := hA.fr f1 (by simp) (by simp) (by simp)
  have R1 := R.fr f1 (by simp) (by simp) (by simp)
  obtain ⟨v2, s2, e2, g2', f2, b2⟩ := R1.all (d + 3)
  have F2 := f1.trans f2
  have A2 := hA.fr F2 (by simp) (by simp) (by simp)
  have R2 := R.fr F2 (by simp) (by simp) (by simp)
  have H2 := H.fr F2 (by simp) (by simp) (by simp) (by simp) (by simp)
  have g12 := g1'.fr f1.wf f2 (by simp)
  have e3 := same_int F2.wf (g12.sl F2.wf) (g2'.sl F2.wf) (by omega) (by omega) (d + 3)
  rw [decide_eq_true rfl] at e3
  have e4 := A2.hr.fnUsed (d + 3)
  have e5 := R2.used (d + 3)
  have e6 : ((1 + (lay os).length : Nat) : Int) - 1 = ((lay os).length : Nat) := by omega
  rw [e6] at e4
  have hlen := g12.len
  rw [List.length_map] at hlen
  simp -implicitDefEqProofs (maxSteps := 5000000) (disch := first | assumption | omega | (simp only [one_i, one_int, one_bool, one_str, one_ptr, one_nilp, one_nils, one_slice, one_map, one_nilm, one_func, one_iface, same_i, same_bool, same_nils, same_ptr, same_map, same_slice, List.length_cons, List.length_nil, Nat.zero_add, Nat.reduceAdd, allOne_cons, allOne_nil, Bool.and_self]; done) | (simp only [List.length_cons, List.length_nil, List.length_map, List.length_set]; omega)) only [op36, go_sem, fAdd_eq, e1, e2, e3, e4, e5]
  refine loop_at (Q := fun r => Ret (retR _ (seqR (blkR 0 r) _)) _) (fun m e t => ∃ j : Nat, m = os.length - j ∧ j ≤ os.length ∧ s2 = t ∧ g0 e = .ptr p 0 ∧ g1 e = .ptr rp 0 ∧ g5 e = v1 ∧ g6 e = .i j) ?_ (n := os.length) (by omega) ⟨0, by omega, by omega, rfl, (by first | trivial | rfl | assumption), (by first | trivial | rfl | assumption), (by first | trivial | rfl | assumption), (by first | trivial | rfl | assumption)⟩
  rintro m e t ⟨j, rfl, hj, rfl, i0, i1, i5, i6⟩
  replace i0 : e.a0.a0 = _ := i0
  replace i1 : e.a0.a1 = _ := i1
  replace i5 : e.a0.a5 = _ := i5
  replace i6 : e.a0.a6 = _ := i6
  rw [hsl] at hlen
  by_cases c : (j : Int) < ((os.length : Nat) : Int)
  · have hoj : (starts 1 os)[j]? = some (starts 1 os)[j] := List.getElem?_eq_getElem (by omega)
    obtain ⟨q, a1, a2⟩ := (g12.sl F2.wf).at F2.wf (j := j) (x := .i (starts 1 os)[j]) (by rw [List.getElem?_map, hoj]; rfl)
    generalize (starts 1 os)[j] = r at *
    obtain ⟨sh2, hA2, hS2⟩ := H2.H
    have x1 := hA2.len (d + 2) r
    have x2 := R2.len (d + 2) r
    have x3 := hA2.shape (d + 2) r
    have x4 := R2.shape (d + 2) r
    have x5 := hA2.tag (d + 2) r
    have x6 := R2.tag (d + 2) r
    have hll : 0 ≤ lenO os r ∧ lenO os r < 20000 := by
      unfold lenO
      cases hat : at? os r with
      | none => simp
      | some o =>
        have := lay_lt hat
        have : o.n = 3 + o.f.length := rfl
        simp only; omega
    simp -implicitDefEqProofs (maxSteps := 5000000) (disch := first | assumption | omega | (simp only [one_i, one_int, one_bool, one_str, one_ptr, one_nilp, one_nils, one_slice, one_map, one_nilm, one_func, one_iface, same_i, same_bool, same_nils, same_ptr, same_map, same_slice, List.length_cons, List.length_nil, Nat.zero_add, Nat.reduceAdd, allOne_cons, allOne_nil, Bool.and_self]; done) | (simp only [List.length_cons, List.length_nil, List.length_map, List.length_set]; omega)) only [go_sem, fAdd_eq, i0, i1, i5, i6, c, hlen, a1, a2, x1, x2, x3, x4, x5, x6]
    refine loop_at (Q := fun r => rnd (seqR (blkR 1 (blkR 2 r)) _) _ _) (fun m e t => ∃ k : Int, m = (lenO os r + 1 - k).toNat ∧ -1 ≤ k ∧ k ≤ lenO os r + 1 ∧ s2 = t ∧ g0 e = .ptr p 0 ∧ g1 e = .ptr rp 0 ∧ g5 e = v1 ∧ g6 e = .i j ∧ g7 e = .i k) ?_ (n := (lenO os r + 2).toNat) (by omega) ⟨-1, by omega, by omega, by omega, rfl, (by first | trivial | rfl | assumption), (by first | trivial | rfl | assumption), (by first | trivial | rfl | assumption), (by first | trivial | rfl | assumption), (by first | trivial | rfl | assumption)⟩
    clear i0 i1 i5 i6 e
    rintro m e t ⟨k, rfl, hk0, hk1, rfl, i0, i1, i5, i6, i7⟩
    replace i0 : e.a0.a0 = _ := i0
    replace i1 : e.a0.a1 = _ := i1
    replace i5 : e.a0.a5 = _ := i5
    replace i6 : e.a0.a6 = _ := i6
    replace i7 : e.a0.a7 = _ := i7
    by_cases ck : k ≤ lenO os r
    · have y1 := hA2.get d r k
      have y2 := R2.get (d + 2) r k
      have y3 := hA2.isRef hS2 H2.ok d r k
      have y4 := R2.isRef H2.ok (d + 2) r k
      cases hgo : getO os r k with
      | none =>
        rw [hgo] at y1 y2
        simp only at y1 y2
        simp -implicitDefEqProofs (maxSteps := 5000000) (disch := first | assumption | omega | (simp only [one_i, one_int, one_bool, one_str, one_ptr, one_nilp, one_nils, one_slice, one_map, one_nilm, one_func, one_iface, same_i, same_bool, same_nils, same_ptr, same_map, same_slice, List.length_cons, List.length_nil, Nat.zero_add, Nat.reduceAdd, allOne_cons, allOne_nil, Bool.and_self]; done) | (simp only [List.length_cons, List.length_nil, List.length_map, List.length_set]; omega)) only [go_sem, fAdd_eq, i0, i1, i5, i6, i7, ck, a1, a2, x1, y1, y2, y3, y4]
        exact ⟨(lenO os r + 1 - (k + 1)).toNat, by omega, k + 1, rfl, by omega, by omega, (by first | trivial | rfl | assumption), (by first | trivial | rfl | assumption), (by first | trivial | rfl | assumption), (by first | trivial | rfl | assumption), (by first | trivial | rfl | assumption), (by first | trivial | rfl | assumption)⟩
      | some y =>
        rw [hgo] at y1 y2
        simp only at y1 y2
        simp -implicitDefEqProofs (maxSteps := 5000000) (disch := first | assumption | omega | (simp only [one_i, one_int, one_bool, one_str, one_ptr, one_nilp, one_nils, one_slice, one_map, one_nilm, one_func, one_iface, same_i, same_bool, same_nils, same_ptr, same_map, same_slice, List.length_cons, List.length_nil, Nat.zero_add, Nat.reduceAdd, allOne_cons, allOne_nil, Bool.and_self]; done) | (simp only [List.length_cons, List.length_nil, List.length_map, List.length_set]; omega)) only [go_sem, fAdd_eq, i0, i1, i5, i6, i7, ck, a1, a2, x1, y1, y2, y3, y4]
        exact ⟨(lenO os r + 1 - (k + 1)).toNat, by omega, k + 1, rfl, by omega, by omega, (by first | trivial | rfl | assumption), (by first | trivial | rfl | assumption), (by first | trivial | rfl | assumption), (by first | trivial | rfl | assumption), (by first | trivial | rfl | assumption), (by first | trivial | rfl | assumption)⟩
    · simp -implicitDefEqProofs (maxSteps := 5000000) (disch := first | assumption | omega | (simp only [one_i, one_int, one_bool, one_str, one_ptr, one_nilp, one_nils, one_slice, one_map, one_nilm, one_func, one_iface, same_i, same_bool, same_nils, same_ptr, same_map, same_slice, List.length_cons, List.length_nil, Nat.zero_add, Nat.reduceAdd, allOne_cons, allOne_nil, Bool.and_self]; done) | (simp only [List.length_cons, List.length_nil, List.length_map, List.length_set]; omega)) only [go_sem, fAdd_eq, i0, i1, i5, i6, i7, ck, a1, a2, x1]
      exact ⟨os.length - (j + 1), by omega, j + 1, rfl, by omega, (by first | trivial | rfl | assumption), (by first | trivial | rfl | assumption), (by first | trivial | rfl | assumption), (by first | trivial | rfl | assumption), (by first | trivial | rfl | assumption)⟩
  · simp -implicitDefEqProofs (maxSteps := 5000000) (disch := first | assumption | omega | (simp only [one_i, one_int, one_bool, one_str, one_ptr, one_nilp, one_nils, one_slice, one_map, one_nilm, one_func, one_iface, same_i, same_bool, same_nils, same_ptr, same_map, same_slice, List.length_cons, List.length_nil, Nat.zero_add, Nat.reduceAdd, allOne_cons, allOne_nil, Bool.and_self]; done) | (simp only [List.length_cons, List.length_nil, List.length_map, List.length_set]; omega)) only [go_sem, fAdd_eq, i0, i1, i5, i6, c, hlen]
    exact ⟨(by first | trivial | rfl | assumption), F2⟩
end
end
end Go.Proofs.YtjipdnfaokdkbaaLab
