/- The heap's functions that only look: what they answer. No condition on the program. -/
import Derived.Test.YtjipdnfaokdkbaaAt
import Derived.Test.YtjipdnfaokdkbaaLm5
namespace Go.Proofs.YtjipdnfaokdkbaaLab
open Go
set_option linter.all false
set_option maxRecDepth 10000
noncomputable section
/-- A heap of the program's: where its parts lie, what they hold. -/
structure HR (s : St) (p bw bb : Nat) (n : Nat) (words : List Int) (begins : List Bool) (next : Nat) (sh mp : V) : Prop where
  wf : Wf s
  hp : s.cl p = some [.slice bw 0 n (some n) 1, .slice bb 0 n (some n) 1, .i next, sh, mp]
  hw : s.cl bw = some (words.map .i)
  hb : s.cl bb = some (begins.map .bool)
  lw : words.length = n
  lb : begins.length = n
  nn : n < 20000
  n1 : 1 ≤ next
  nx : next ≤ n
  d1 : p ≠ bw
  d2 : p ≠ bb
  d3 : bw ≠ bb
/-- Does an object begin there? -/
def isB (begins : List Bool) (r : Int) : Bool := decide (0 < r) && (begins[r.toNat]?).getD false
section
variable {s : St} {p bw bb : Nat} {n : Nat} {words : List Int} {begins : List Bool} {next : Nat} {sh mp : V} (H : HR s p bw bb n words begins next sh mp)
include H
theorem HR.fnIs (d : Nat) (r : Int) : (K (d + 1)).call 40 [.ptr p 0, .i r] s = some (.bool (isB begins r), s) := by
  obtain ⟨hw, h1, h2, h3, h4, h5, h6, h7, h8, d1, d2, d3⟩ := H
  rw [op40]
  unfold isB
  by_cases c1 : 0 < r
  · by_cases c2 : r < n
    · have q7 : (begins.map V.bool)[r.toNat]? = some (.bool (begins[r.toNat]?.getD false)) := by
        rw [List.getElem?_map, List.getElem?_eq_getElem (show r.toNat < begins.length by omega)]; rfl
      simp -implicitDefEqProofs (maxSteps := 5000000) (disch := first | assumption | omega | (simp only [one_i, one_int, one_bool, one_str, one_ptr, one_nilp, one_nils, one_slice, one_map, one_nilm, one_func, one_iface, same_i, same_bool, same_nils, same_ptr, same_map, same_slice, List.length_cons, List.length_nil, Nat.zero_add, Nat.reduceAdd, allOne_cons, allOne_nil, Bool.and_self]; done) | (simp only [List.length_cons, List.length_nil, List.length_map, List.length_set]; omega)) only [go_sem, dLd_at hw h1, dLd_at hw h3, q7, c1, c2, Bool.true_and]
    · have q7 : begins[r.toNat]? = none := List.getElem?_eq_none (by omega)
      simp -implicitDefEqProofs (maxSteps := 5000000) (disch := first | assumption | omega | (simp only [one_i, one_int, one_bool, one_str, one_ptr, one_nilp, one_nils, one_slice, one_map, one_nilm, one_func, one_iface, same_i, same_bool, same_nils, same_ptr, same_map, same_slice, List.length_cons, List.length_nil, Nat.zero_add, Nat.reduceAdd, allOne_cons, allOne_nil, Bool.and_self]; done) | (simp only [List.length_cons, List.length_nil, List.length_map, List.length_set]; omega)) only [go_sem, dLd_at hw h1, c1, c2, q7, Bool.true_and, Option.getD_none]
  · simp -implicitDefEqProofs (maxSteps := 5000000) (disch := first | assumption | omega | (simp only [one_i, one_int, one_bool, one_str, one_ptr, one_nilp, one_nils, one_slice, one_map, one_nilm, one_func, one_iface, same_i, same_bool, same_nils, same_ptr, same_map, same_slice, List.length_cons, List.length_nil, Nat.zero_add, Nat.reduceAdd, allOne_cons, allOne_nil, Bool.and_self]; done) | (simp only [List.length_cons, List.length_nil, List.length_map, List.length_set]; omega)) only [go_sem, c1, Bool.false_and]
theorem HR.fnUsed (d : Nat) : (K (d + 1)).call 13 [.ptr p 0] s = some (.i (next - 1), s) := by
  obtain ⟨hw, h1, h2, h3, h4, h5, h6, h7, h8, d1, d2, d3⟩ := H
  rw [op13]
  simp -implicitDefEqProofs (maxSteps := 5000000) (disch := first | assumption | omega | (simp only [one_i, one_int, one_bool, one_str, one_ptr, one_nilp, one_nils, one_slice, one_map, one_nilm, one_func, one_iface, same_i, same_bool, same_nils, same_ptr, same_map, same_slice, List.length_cons, List.length_nil, Nat.zero_add, Nat.reduceAdd, allOne_cons, allOne_nil, Bool.and_self]; done) | (simp only [List.length_cons, List.length_nil, List.length_map, List.length_set]; omega)) only [go_sem, dLd_at hw h1]
theorem HR.fnWords (d : Nat) : (K (d + 1)).call 24 [.ptr p 0] s = some (.i (n - 1), s) := by
  obtain ⟨hw, h1, h2, h3, h4, h5, h6, h7, h8, d1, d2, d3⟩ := H
  rw [op24]
  simp -implicitDefEqProofs (maxSteps := 5000000) (disch := first | assumption | omega | (simp only [one_i, one_int, one_bool, one_str, one_ptr, one_nilp, one_nils, one_slice, one_map, one_nilm, one_func, one_iface, same_i, same_bool, same_nils, same_ptr, same_map, same_slice, List.length_cons, List.length_nil, Nat.zero_add, Nat.reduceAdd, allOne_cons, allOne_nil, Bool.and_self]; done) | (simp only [List.length_cons, List.length_nil, List.length_map, List.length_set]; omega)) only [go_sem, dLd_at hw h1]
end
end
end Go.Proofs.YtjipdnfaokdkbaaLab
