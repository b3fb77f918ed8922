/- The heap's functions that only look, by its objects. No condition on the program. -/
import Derived.Test.YtjipdnfaokdkbaaHB
import Derived.Test.YtjipdnfaokdkbaaHP
namespace Go.Proofs.YtjipdnfaokdkbaaLab
open Go
set_option linter.all false
set_option maxRecDepth 10000
noncomputable section
/-- A heap of objects. -/
structure AH (s : St) (p bw bb n : Nat) (os : List O) (sh mp : V) (z : List Int) : Prop where
  hr : HR s p bw bb n (0 :: (lay os ++ z)) (false :: (layB os ++ List.replicate z.length false)) (1 + (lay os).length) sh mp
def lenO (os : List O) (r : Int) : Int := match at? os r with | some o => (o.f.length : Int) | none => 0
def shapeO (os : List O) (r : Int) : Int := match at? os r with | some o => o.shape | none => -3
def tagO (os : List O) (r : Int) : Int := match at? os r with | some o => o.tag | none => 0
theorem isB_at (os : List O) (z : Nat) (r : Int) : isB (false :: (layB os ++ List.replicate z false)) r = (at? os r).isSome := by
  unfold isB at?
  by_cases h : 0 < r
  · obtain ⟨j, rfl⟩ : ∃ j : Nat, r = (j : Int) + 1 := ⟨(r - 1).toNat, by omega⟩
    rw [show (((j : Int) + 1).toNat) = j + 1 by omega, List.getElem?_cons_succ, layB_get, show ((j : Int) + 1 - 1) = (j : Int) by omega]
    simp
  · rw [look_neg _ _ (by omega)]; simp [h]
section
variable {s : St} {p bw bb n : Nat} {os : List O} {sh mp : V} {z : List Int} (H : AH s p bw bb n os sh mp z)
include H
theorem AH.is (d : Nat) (r : Int) : (K (d + 1)).call 40 [.ptr p 0, .i r] s = some (.bool (at? os r).isSome, s) := by
  rw [H.hr.fnIs, isB_at]
theorem AH.size : n = 1 + (lay os).length + z.length := by have := H.hr.lw; simp at this; omega
theorem AH.nn : n < 20000 := H.hr.nn
/-- A word of an object. -/
theorem AH.at {r : Int} {o : O} (h : at? os r = some o) (j : Nat) (hj : j < o.n) : 0 ≤ r + j ∧ r + j < n ∧ ((0 :: (lay os ++ z)).map V.i)[(r + j).toNat]? = (o.ws[j]?).map V.i := by
  obtain ⟨h1, h2, h3⟩ := lay_at h z
  have := H.size
  refine ⟨by omega, by omega, ?_⟩
  rw [List.getElem?_map, show (r + j).toNat = r.toNat + j by omega, h3 j hj]
theorem AH.len (d : Nat) (r : Int) : (K (d + 2)).call 11 [.ptr p 0, .i r] s = some (.i (lenO os r), s) := by
  have ei := H.is d r
  have hn := H.nn
  have hw := H.hr.wf
  have h1 := H.hr.hp
  have h2 := H.hr.hw
  rw [op11]
  unfold lenO
  cases ho : at? os r with
  | none =>
    rw [ho] at ei
    simp -implicitDefEqProofs (maxSteps := 5000000) (disch := first | assumption | omega | (simp only [one_i, one_int, one_bool, one_str, one_ptr, one_nilp, one_nils, one_slice, one_map, one_nilm, one_func, one_iface, same_i, same_bool, same_nils, same_ptr, same_map, same_slice, List.length_cons, List.length_nil, Nat.zero_add, Nat.reduceAdd, allOne_cons, allOne_nil, Bool.and_self]; done) | (simp only [List.length_cons, List.length_nil, List.length_map, List.length_set]; omega)) only [go_sem, fAdd_eq, ei, Option.isSome_none]
  | some o =>
    rw [ho] at ei
    have h3 := o.n_pos
    obtain ⟨a1, a2, a3⟩ := H.at ho 1 (by omega)
    have hl := H.hr.lw
    simp only [O.ws, List.getElem?_cons_succ, List.getElem?_cons_zero, Option.map_some] at a3
    replace a1 : 0 ≤ r + 1 := a1
    replace a2 : r + 1 < n := a2
    replace a3 : _[(r + 1).toNat]? = _ := a3
    simp -implicitDefEqProofs (maxSteps := 5000000) (disch := first | assumption | omega | (simp only [one_i, one_int, one_bool, one_str, one_ptr, one_nilp, one_nils, one_slice, one_map, one_nilm, one_func, one_iface, same_i, same_bool, same_nils, same_ptr, same_map, same_slice, List.length_cons, List.length_nil, Nat.zero_add, Nat.reduceAdd, allOne_cons, allOne_nil, Bool.and_self]; done) | (simp only [List.length_cons, List.length_nil, List.length_map, List.length_set]; omega)) only [go_sem, fAdd_eq, ei, Option.isSome_some, dLd_at hw h1, dLd_eq hw h2 a3]
theorem AH.shape (d : Nat) (r : Int) : (K (d + 2)).call 20 [.ptr p 0, .i r] s = some (.i (shapeO os r), s) := by
  have ei := H.is d r
  have hn := H.nn
  have hw := H.hr.wf
  have h1 := H.hr.hp
  have h2 := H.hr.hw
  rw [op20]
  unfold shapeO
  cases ho : at? os r with
  | none =>
    rw [ho] at ei
    simp -implicitDefEqProofs (maxSteps := 5000000) (disch := first | assumption | omega | (simp only [one_i, one_int, one_bool, one_str, one_ptr, one_nilp, one_nils, one_slice, one_map, one_nilm, one_func, one_iface, same_i, same_bool, same_nils, same_ptr, same_map, same_slice, List.length_cons, List.length_nil, Nat.zero_add, Nat.reduceAdd, allOne_cons, allOne_nil, Bool.and_self]; done) | (simp only [List.length_cons, List.length_nil, List.length_map, List.length_set]; omega)) only [go_sem, ei, Option.isSome_none]
  | some o =>
    rw [ho] at ei
    have h3 := o.n_pos
    obtain ⟨a1, a2, a3⟩ := H.at ho 0 (by omega)
    have hl := H.hr.lw
    simp only [O.ws, List.getElem?_cons_succ, List.getElem?_cons_zero, Option.map_some, Int.ofNat_zero, Int.natCast_zero, Int.add_zero] at a1 a2 a3
    simp -implicitDefEqProofs (maxSteps := 5000000) (disch := first | assumption | omega | (simp only [one_i, one_int, one_bool, one_str, one_ptr, one_nilp, one_nils, one_slice, one_map, one_nilm, one_func, one_iface, same_i, same_bool, same_nils, same_ptr, same_map, same_slice, List.length_cons, List.length_nil, Nat.zero_add, Nat.reduceAdd, allOne_cons, allOne_nil, Bool.and_self]; done) | (simp only [List.length_cons, List.length_nil, List.length_map, List.length_set]; omega)) only [go_sem, ei, Option.isSome_some, dLd_at hw h1, dLd_eq hw h2 a3]
theorem AH.tag (d : Nat) (r : Int) : (K (d + 2)).call 25 [.ptr p 0, .i r] s = some (.i (tagO os r), s) := by
  have ei := H.is d r
  have hn := H.nn
  have hw := H.hr.wf
  have h1 := H.hr.hp
  have h2 := H.hr.hw
  rw [op25]
  unfold tagO
  cases ho : at? os r with
  | none =>
    rw [ho] at ei
    simp -implicitDefEqProofs (maxSteps := 5000000) (disch := first | assumption | omega | (simp only [one_i, one_int, one_bool, one_str, one_ptr, one_nilp, one_nils, one_slice, one_map, one_nilm, one_func, one_iface, same_i, same_bool, same_nils, same_ptr, same_map, same_slice, List.length_cons, List.length_nil, Nat.zero_add, Nat.reduceAdd, allOne_cons, allOne_nil, Bool.and_self]; done) | (simp only [List.length_cons, List.length_nil, List.length_map, List.length_set]; omega)) only [go_sem, fAdd_eq, ei, Option.isSome_none]
  | some o =>
    rw [ho] at ei
    have h3 := o.n_pos
    obtain ⟨a1, a2, a3⟩ := H.at ho 2 (by omega)
    have hl := H.hr.lw
    simp only [O.ws, List.getElem?_cons_succ, List.getElem?_cons_zero, Option.map_some] at a3
    replace a1 : 0 ≤ r + 2 := a1
    replace a2 : r + 2 < n := a2
    replace a3 : _[(r + 2).toNat]? = _ := a3
    simp -implicitDefEqProofs (maxSteps := 5000000) (disch := first | assumption | omega | (simp only [one_i, one_int, one_bool, one_str, one_ptr, one_nilp, one_nils, one_slice, one_map, one_nilm, one_func, one_iface, same_i, same_bool, same_nils, same_ptr, same_map, same_slice, List.length_cons, List.length_nil, Nat.zero_add, Nat.reduceAdd, allOne_cons, allOne_nil, Bool.and_self]; done) | (simp only [List.length_cons, List.length_nil, List.length_map, List.length_set]; omega)) only [go_sem, fAdd_eq, ei, Option.isSome_some, dLd_at hw h1, dLd_eq hw h2 a3]
/-- Is there such a field? -/
theorem AH.field (d : Nat) (r k : Int) : (K (d + 3)).call 38 [.ptr p 0, .i r, .i k] s = some (.tup [.i (w64 (w64 (r + 3) + k)), .bool (decide (0 ≤ k ∧ k < lenO os r))], s) := by
  have el := H.len d r
  rw [op38]
  by_cases h0 : 0 ≤ k
  · simp -implicitDefEqProofs (maxSteps := 5000000) (disch := first | assumption | omega | (simp only [one_i, one_int, one_bool, one_str, one_ptr, one_nilp, one_nils, one_slice, one_map, one_nilm, one_func, one_iface, same_i, same_bool, same_nils, same_ptr, same_map, same_slice, List.length_cons, List.length_nil, Nat.zero_add, Nat.reduceAdd, allOne_cons, allOne_nil, Bool.and_self]; done) | (simp only [List.length_cons, List.length_nil, List.length_map, List.length_set]; omega)) only [go_sem, fAdd_w, el, h0, true_and]
  · simp -implicitDefEqProofs (maxSteps := 5000000) (disch := first | assumption | omega | (simp only [one_i, one_int, one_bool, one_str, one_ptr, one_nilp, one_nils, one_slice, one_map, one_nilm, one_func, one_iface, same_i, same_bool, same_nils, same_ptr, same_map, same_slice, List.length_cons, List.length_nil, Nat.zero_add, Nat.reduceAdd, allOne_cons, allOne_nil, Bool.and_self]; done) | (simp only [List.length_cons, List.length_nil, List.length_map, List.length_set]; omega)) only [go_sem, fAdd_w, el, h0, false_and]
end
/-- A field. -/
def getO (os : List O) (r k : Int) : Option Int := match at? os r with | some o => if 0 ≤ k then o.f[k.toNat]? else none | none => none
theorem getO_len {os : List O} {r k : Int} : (getO os r k).isSome = decide (0 ≤ k ∧ k < lenO os r) := by
  unfold getO lenO
  cases at? os r with
  | none => simp
  | some o =>
    by_cases h : 0 ≤ k
    · simp only [if_pos h, h, true_and]
      by_cases h2 : k < o.f.length
      · rw [List.getElem?_eq_getElem (by omega)]; simp [h2]
      · rw [List.getElem?_eq_none (by omega)]; simp [h2]
    · simp [h]
theorem getO_some {os : List O} {r k v : Int} (h : getO os r k = some v) : ∃ o, at? os r = some o ∧ 0 ≤ k ∧ k < o.f.length ∧ o.f[k.toNat]? = some v := by
  unfold getO at h
  split at h
  · rename_i o ho
    split at h
    · have := (List.getElem?_eq_some_iff.1 h).1
      exact ⟨o, ho, by omega, by omega, h⟩
    · cases h
  · cases h
section
variable {s : St} {p bw bb n : Nat} {os : List O} {sh mp : V} {z : List Int} (H : AH s p bw bb n os sh mp z)
include H
/-- Where a field lies. -/
theorem AH.atF {r k v : Int} (h : getO os r k = some v) : 1 ≤ r ∧ 0 ≤ k ∧ 0 ≤ r + 3 + k ∧ r + 3 + k < n ∧ w64 (w64 (r + 3) + k) = r + 3 + k ∧ ((0 :: (lay os ++ z)).map V.i)[(r + 3 + k).toNat]? = some (.i v) ∧ 0 ≤ k ∧ k < lenO os r := by
  obtain ⟨o, ho, h1, h2, h3⟩ := getO_some h
  have hn := H.nn
  obtain ⟨a1, a2, a3⟩ := H.at ho (3 + k.toNat) (by simp [O.n]; omega)
  have hr := (lay_lt ho).1
  refine ⟨hr, h1, by omega, by omega, ?_, ?_, h1, ?_⟩
  · rw [w64_of (n := r + 3) ⟨by omega, by omega⟩, w64_of ⟨by omega, by omega⟩]
  · rw [show r + 3 + k = r + ((3 + k.toNat : Nat) : Int) by omega, a3, show 3 + k.toNat = k.toNat + 1 + 1 + 1 by omega]
    simp only [O.ws, List.getElem?_cons_succ, h3, Option.map_some]
  · unfold lenO; rw [ho]; exact h2
theorem AH.get (d : Nat) (r k : Int) : (K (d + 4)).call 12 [.ptr p 0, .i r, .i k] s = some ((match getO os r k with | some v => .tup [.i v, .i 0] | none => .tup [.i 0, .i 1]), s) := by
  have ef := H.field d r k
  rw [← getO_len] at ef
  have hn := H.nn
  have hw := H.hr.wf
  have h1 := H.hr.hp
  have h2 := H.hr.hw
  have hl := H.hr.lw
  rw [op12]
  cases ho : getO os r k with
  | none =>
    rw [ho] at ef
    simp -implicitDefEqProofs (maxSteps := 5000000) (disch := first | assumption | omega | (simp only [one_i, one_int, one_bool, one_str, one_ptr, one_nilp, one_nils, one_slice, one_map, one_nilm, one_func, one_iface, same_i, same_bool, same_nils, same_ptr, same_map, same_slice, List.length_cons, List.length_nil, Nat.zero_add, Nat.reduceAdd, allOne_cons, allOne_nil, Bool.and_self]; done) | (simp only [List.length_cons, List.length_nil, List.length_map, List.length_set]; omega)) only [go_sem, ef, Option.isSome_none]
  | some v =>
    rw [ho] at ef
    obtain ⟨a0, b0, a1, a2, a3, a4, _⟩ := H.atF ho
    rw [a3] at ef
    simp -implicitDefEqProofs (maxSteps := 5000000) (disch := first | assumption | omega | (simp only [one_i, one_int, one_bool, one_str, one_ptr, one_nilp, one_nils, one_slice, one_map, one_nilm, one_func, one_iface, same_i, same_bool, same_nils, same_ptr, same_map, same_slice, List.length_cons, List.length_nil, Nat.zero_add, Nat.reduceAdd, allOne_cons, allOne_nil, Bool.and_self]; done) | (simp only [List.length_cons, List.length_nil, List.length_map, List.length_set]; omega)) only [go_sem, ef, Option.isSome_some, dLd_at hw h1, dLd_eq hw h2 a4]
end
end
end Go.Proofs.YtjipdnfaokdkbaaLab
