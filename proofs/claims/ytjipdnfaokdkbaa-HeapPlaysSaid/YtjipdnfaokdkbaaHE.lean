/- The heap's functions: new heaps, new objects, all objects. No condition on the program. -/
import Derived.Test.YtjipdnfaokdkbaaHD
namespace Go.Proofs.YtjipdnfaokdkbaaLab
open Go
set_option linter.all false
set_option maxRecDepth 10000
noncomputable section
theorem putW_lay (os : List O) (z : List Int) (m : Nat) (shape : Int) (hm : 3 + m ≤ z.length) : putW (0 :: (lay os ++ z)) (1 + (lay os).length) m shape = 0 :: (lay (os ++ [⟨shape, 0, List.replicate m 0⟩]) ++ z.drop (3 + m)) := by
  have e1 : (0 :: (lay os ++ z)).take (1 + (lay os).length) = 0 :: lay os := by
    rw [Nat.add_comm, List.take_succ_cons, List.take_left']; rfl
  have e2 : (0 :: (lay os ++ z)).drop (1 + (lay os).length + (3 + m)) = z.drop (3 + m) := by
    rw [show 1 + (lay os).length + (3 + m) = ((lay os).length + (3 + m)) + 1 by omega, List.drop_succ_cons, List.drop_append, List.drop_eq_nil_of_le (by omega)]
    simp
  unfold putW
  rw [e1, e2, lay_append]
  simp only [lay, O.ws, List.append_nil, List.length_replicate]
  rw [show 1 + (lay os).length = (lay os).length + 1 by omega]
  rw [show 3 + m = m + 1 + 1 + 1 by omega, List.replicate_succ, List.replicate_succ, List.replicate_succ]
  simp only [List.cons_append, List.set_cons_succ, List.append_assoc]
  rw [List.set_append_right _ _ (by omega), List.set_append_right _ _ (by omega)]
  simp
theorem layB_put (os : List O) (k m : Nat) (shape : Int) (hm : 3 + m ≤ k) : (false :: (layB os ++ List.replicate k false)).set (1 + (lay os).length) true = false :: (layB (os ++ [⟨shape, 0, List.replicate m 0⟩]) ++ List.replicate (k - (3 + m)) false) := by
  obtain ⟨j, rfl⟩ : ∃ j, k = 3 + m + j := ⟨k - (3 + m), by omega⟩
  rw [layB_append, Nat.add_comm 1, List.set_cons_succ, ← lay_len, List.set_append_right _ _ (by omega)]
  simp only [layB, O.bs, List.append_nil, List.length_replicate, Nat.sub_self, List.append_assoc, List.cons_append]
  rw [show 3 + m + j = (2 + m + j) + 1 by omega, List.replicate_succ, List.set_cons_zero, show 2 + m + j + 1 - (3 + m) = j by omega, List.replicate_append_replicate]
/-- A new object, at the end. -/
def newO (shape : Int) (m : Nat) : O := ⟨shape, 0, List.replicate m 0⟩
section
variable {s : St} {p bw bb n : Nat} {os : List O} {sh mp : V} {z : List Int} (H : AH s p bw bb n os sh mp z)
include H
theorem AH.put (d : Nat) (shape : Int) (m : Nat) (hm : m < 20000) :
    (n < 1 + (lay os).length + 3 + m → (K (d + 2)).call 37 [.ptr p 0, .i shape, .i m] s = some (.tup [.i 0, .i 26], s)) ∧
    (1 + (lay os).length + 3 + m ≤ n → ∃ s', (K (d + 2)).call 37 [.ptr p 0, .i shape, .i m] s = some (.tup [.i ((1 + (lay os).length : Nat) : Int), .i 0], s') ∧ AH s' p bw bb n (os ++ [newO shape m]) sh mp (z.drop (3 + m)) ∧ Fr s s' [p, bw, bb] ∧ s'.next = s.next) := by
  obtain ⟨h1, h2⟩ := H.hr.put d shape m hm
  refine ⟨h1, fun hle => ?_⟩
  obtain ⟨s', q1, q2, q3⟩ := h2 hle
  have hz := H.size
  refine ⟨s', q1, ⟨?_⟩, q3⟩
  rw [putW_lay _ _ _ _ (by omega), layB_put _ _ m shape (by omega)] at q2
  have e : 1 + (lay (os ++ [newO shape m])).length = 1 + (lay os).length + 3 + m := by simp [lay_append, lay, newO, O.ws]; omega
  rw [e, List.length_drop]
  exact q2
theorem AH.array (d : Nat) (ofRefs : Bool) (m : Int) :
    ((m < 0 ∨ 256 < m) → (K (d + 3)).call 9 [.ptr p 0, .bool ofRefs, .i m] s = some (.tup [.i 0, .i 1], s)) ∧
    (0 ≤ m → m ≤ 256 → (n : Int) < 1 + (lay os).length + 3 + m → (K (d + 3)).call 9 [.ptr p 0, .bool ofRefs, .i m] s = some (.tup [.i 0, .i 26], s)) ∧
    (0 ≤ m → m ≤ 256 → 1 + (lay os).length + 3 + m ≤ (n : Int) → ∃ s', (K (d + 3)).call 9 [.ptr p 0, .bool ofRefs, .i m] s = some (.tup [.i ((1 + (lay os).length : Nat) : Int), .i 0], s') ∧ AH s' p bw bb n (os ++ [newO (if ofRefs then -2 else -1) m.toNat]) sh mp (z.drop (3 + m.toNat)) ∧ Fr s s' [p, bw, bb] ∧ s'.next = s.next) := by
  refine ⟨fun h => ?_, fun h1 h2 h3 => ?_, fun h1 h2 h3 => ?_⟩
  · rw [op9]
    by_cases c : m < 0
    · simp -implicitDefEqProofs (maxSteps := 5000000) (disch := first | assumption | omega | (simp only [one_i, one_int, one_bool, one_str, one_ptr, one_nilp, one_nils, one_slice, one_map, one_nilm, one_func, one_iface, same_i, same_bool, same_nils, same_ptr, same_map, same_slice, List.length_cons, List.length_nil, Nat.zero_add, Nat.reduceAdd, allOne_cons, allOne_nil, Bool.and_self]; done) | (simp only [List.length_cons, List.length_nil, List.length_map, List.length_set]; omega)) only [go_sem, c]
    · have c2 : 256 < m := by omega
      simp -implicitDefEqProofs (maxSteps := 5000000) (disch := first | assumption | omega | (simp only [one_i, one_int, one_bool, one_str, one_ptr, one_nilp, one_nils, one_slice, one_map, one_nilm, one_func, one_iface, same_i, same_bool, same_nils, same_ptr, same_map, same_slice, List.length_cons, List.length_nil, Nat.zero_add, Nat.reduceAdd, allOne_cons, allOne_nil, Bool.and_self]; done) | (simp only [List.length_cons, List.length_nil, List.length_map, List.length_set]; omega)) only [go_sem, c, c2]
  · have c : ¬ m < 0 := by omega
    have c2 : ¬ 256 < m := by omega
    obtain ⟨q, _⟩ := H.put d (if ofRefs then -2 else -1) m.toNat (by omega)
    have q := q (by omega)
    rw [show ((m.toNat : Nat) : Int) = m by omega] at q
    rw [op9]
    cases ofRefs <;> simp only [if_true, if_false, Bool.false_eq_true] at q <;> simp -implicitDefEqProofs (maxSteps := 5000000) (disch := first | assumption | omega | (simp only [one_i, one_int, one_bool, one_str, one_ptr, one_nilp, one_nils, one_slice, one_map, one_nilm, one_func, one_iface, same_i, same_bool, same_nils, same_ptr, same_map, same_slice, List.length_cons, List.length_nil, Nat.zero_add, Nat.reduceAdd, allOne_cons, allOne_nil, Bool.and_self]; done) | (simp only [List.length_cons, List.length_nil, List.length_map, List.length_set]; omega)) only [go_sem, c, c2, q]
  · have c : ¬ m < 0 := by omega
    have c2 : ¬ 256 < m := by omega
    obtain ⟨_, q⟩ := H.put d (if ofRefs then -2 else -1) m.toNat (by omega)
    obtain ⟨s', q, r⟩ := q (by omega)
    rw [show ((m.toNat : Nat) : Int) = m by omega] at q
    refine ⟨s', ?_, r⟩
    rw [op9]
    cases ofRefs <;> simp only [if_true, if_false, Bool.false_eq_true] at q <;> simp -implicitDefEqProofs (maxSteps := 5000000) (disch := first | assumption | omega | (simp only [one_i, one_int, one_bool, one_str, one_ptr, one_nilp, one_nils, one_slice, one_map, one_nilm, one_func, one_iface, same_i, same_bool, same_nils, same_ptr, same_map, same_slice, List.length_cons, List.length_nil, Nat.zero_add, Nat.reduceAdd, allOne_cons, allOne_nil, Bool.and_self]; done) | (simp only [List.length_cons, List.length_nil, List.length_map, List.length_set]; omega)) only [go_sem, c, c2, q]
end
/-- A new heap. -/
theorem new_heap {s : St} (hw : Wf s) (d : Nat) (w : Int) (h1 : 1 ≤ w) (h2 : w ≤ 16384) : ∃ s', (K (d + 1)).call 8 [.i w] s = some (.tup [.ptr (s.next + 3) 0, .i 0], s') ∧ AH s' (s.next + 3) s.next (s.next + 1) (w.toNat + 1) [] .nils (.map (s.next + 2)) (List.replicate w.toNat 0) ∧ Fr s s' [] ∧ s'.next = s.next + 4 ∧ s'.mp (s.next + 2) = some ([], [], 0) := by
  obtain ⟨s1, e1, c1, f1, n1⟩ := new_ex (l := List.replicate (w + 1).toNat (V.i 0)) (n := (w + 1).toNat) hw (by simp)
  obtain ⟨s2, e2, c2, f2, n2⟩ := new_ex (s := s1) (l := List.replicate (w + 1).toNat (V.bool false)) (n := (w + 1).toNat) f1.wf (by simp)
  obtain ⟨s3, e3, c3, f3, n3⟩ : ∃ s', s2.new (.map [] [] 0) = s' ∧ s'.mp s2.next = some ([], [], 0) ∧ Fr s2 s' [] ∧ s'.next = s2.next + 1 :=
    ⟨_, rfl, by unfold St.mp; rw [new_at f2.wf], ⟨f2.wf.new trivial, Nat.le_succ _, fun j hj _ => new_ne (by omega)⟩, rfl⟩
  obtain ⟨s4, e4, c4, f4, n4⟩ := new_ex (s := s3) (l := [V.slice s.next 0 (w + 1).toNat (some (w + 1).toNat) 1, V.slice s1.next 0 (w + 1).toNat (some (w + 1).toNat) 1, V.i 1, V.nils, V.map s2.next]) (n := 5) f3.wf rfl
  have ec1 : ¬ w < 1 := by omega
  have ec2 : ¬ 16384 < w := by omega
  have en : s3.next = s.next + 3 := by omega
  have f24 : Fr s2 s4 [] := f3.trans f4
  have f14 : Fr s1 s4 [] := f2.trans f24
  refine ⟨s4, ?_, ⟨?_⟩, f1.trans f14, by omega, ?_⟩
  · rw [op8]
    simp -implicitDefEqProofs (maxSteps := 5000000) (disch := first | assumption | omega | (simp only [one_i, one_int, one_bool, one_str, one_ptr, one_nilp, one_nils, one_slice, one_map, one_nilm, one_func, one_iface, same_i, same_bool, same_nils, same_ptr, same_map, same_slice, List.length_cons, List.length_nil, Nat.zero_add, Nat.reduceAdd, allOne_cons, allOne_nil, Bool.and_self]; done) | (simp only [List.length_cons, List.length_nil, List.length_map, List.length_set]; omega)) only [go_sem, fAdd_eq, ec1, ec2, e1, e2, e3, e4]
    rw [en]
  · have hn : (w + 1).toNat = w.toNat + 1 := by omega
    rw [en, n1, n2, hn] at c4
    rw [hn] at c1 c2
    refine ⟨f4.wf, c4.trans (by simp [lay, n1]), ?_, ?_, by simp [lay], by simp [layB], by omega, by simp [lay], by simp [lay], by omega, by omega, by omega⟩
    · rw [f14.cl f1.wf c1 (by simp)]; simp [lay, List.replicate_succ]
    · rw [← n1, f24.cl f2.wf c2 (by simp)]; simp [layB, List.replicate_succ]
  · rw [show s.next + 2 = s2.next by omega]
    exact f4.mp f3.wf c3 (by simp)
theorem new_heap_bad (s : St) (d : Nat) (w : Int) (h : w < 1 ∨ 16384 < w) : (K (d + 1)).call 8 [.i w] s = some (.tup [.nilp, .i 1], s) := by
  rw [op8]
  by_cases c : w < 1
  · simp -implicitDefEqProofs (maxSteps := 5000000) (disch := first | assumption | omega | (simp only [one_i, one_int, one_bool, one_str, one_ptr, one_nilp, one_nils, one_slice, one_map, one_nilm, one_func, one_iface, same_i, same_bool, same_nils, same_ptr, same_map, same_slice, List.length_cons, List.length_nil, Nat.zero_add, Nat.reduceAdd, allOne_cons, allOne_nil, Bool.and_self]; done) | (simp only [List.length_cons, List.length_nil, List.length_map, List.length_set]; omega)) only [go_sem, fAdd_eq, c]
  · have c2 : 16384 < w := by omega
    simp -implicitDefEqProofs (maxSteps := 5000000) (disch := first | assumption | omega | (simp only [one_i, one_int, one_bool, one_str, one_ptr, one_nilp, one_nils, one_slice, one_map, one_nilm, one_func, one_iface, same_i, same_bool, same_nils, same_ptr, same_map, same_slice, List.length_cons, List.length_nil, Nat.zero_add, Nat.reduceAdd, allOne_cons, allOne_nil, Bool.and_self]; done) | (simp only [List.length_cons, List.length_nil, List.length_map, List.length_set]; omega)) only [go_sem, fAdd_eq, c, c2]
end
end Go.Proofs.YtjipdnfaokdkbaaLab
