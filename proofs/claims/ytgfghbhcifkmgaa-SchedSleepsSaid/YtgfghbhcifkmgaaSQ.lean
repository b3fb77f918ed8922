/- Lists held against one another. No condition on the program. -/
import Derived.Test.YtgfghbhcifkmgaaSO
namespace Go.Proofs.YtgfghbhcifkmgaaLab
open Go
set_option linter.all false
set_option maxRecDepth 10000
noncomputable section
theorem same_ints {s : St} (hw : Wf s) {va vb : V} {la lb : List Int} (ha : SL s va (la.map .i)) (hb : SL s vb (lb.map .i)) (hl : la.length ≤ 900000) (d : Nat) : (K (d + 1)).call 22 [va, vb] s = some (.bool (decide (la = lb)), s) := by
  have h1 := ha.len
  have h2 := hb.len
  rw [List.length_map] at h1 h2
  have key : Ret ((K (d + 1)).call 22 [va, vb] s) fun x s' => x = .bool (decide (la = lb)) ∧ s' = s := by
    by_cases c : ((la.length : Nat) : Int) = ((lb.length : Nat) : Int)
    · have c' : la.length = lb.length := by omega
      simp -implicitDefEqProofs (maxSteps := 5000000) (disch := first | assumption | omega | (simp only [one_i, one_int, one_bool, one_str, one_ptr, one_nilp, one_nils, one_slice, one_map, one_nilm, one_func, one_iface, same_i, same_bool, same_nils, same_ptr, same_map, same_slice, List.length_cons, List.length_nil, Nat.zero_add, Nat.reduceAdd, allOne_cons, allOne_nil, Bool.and_self]; done) | (simp only [List.length_cons, List.length_nil, List.length_map, List.length_set]; omega)) only [op22, go_sem, h1, h2, c]
      refine loop_at (Q := fun r => Ret (retR _ (seqR (blkR 0 r) _)) _) (fun m e t => ∃ j : Nat, m = la.length - j ∧ j ≤ la.length ∧ la.take j = lb.take j ∧ t = s ∧ g0 e = va ∧ g1 e = vb ∧ g5 e = .i j) ?_ (n := la.length) (by omega) ⟨0, by omega, by omega, by simp, rfl, (by first | trivial | rfl | assumption), (by first | trivial | rfl | assumption), (by first | trivial | rfl | assumption)⟩
      rintro m e t ⟨j, rfl, hj, ht, rfl, i0, i1, i5⟩
      replace i0 : e.a0.a0 = _ := i0
      replace i1 : e.a0.a1 = _ := i1
      replace i5 : e.a0.a5 = _ := i5
      by_cases cj : (j : Int) < ((la.length : Nat) : Int)
      · obtain ⟨x, hx⟩ : ∃ x, la[j]? = some x := ⟨_, List.getElem?_eq_getElem (by omega)⟩
        obtain ⟨y, hy⟩ : ∃ y, lb[j]? = some y := ⟨_, List.getElem?_eq_getElem (by omega)⟩
        obtain ⟨q, a1, a2⟩ := ha.at hw (j := j) (x := .i x) (by rw [List.getElem?_map, hx]; rfl)
        obtain ⟨q', b1, b2⟩ := hb.at hw (j := j) (x := .i y) (by rw [List.getElem?_map, hy]; rfl)
        by_cases cx : x = y
        · subst cx
          have cj' := cj
          rw [c] at cj'
          simp -implicitDefEqProofs (maxSteps := 5000000) (disch := first | assumption | omega | (simp only [one_i, one_int, one_bool, one_str, one_ptr, one_nilp, one_nils, one_slice, one_map, one_nilm, one_func, one_iface, same_i, same_bool, same_nils, same_ptr, same_map, same_slice, List.length_cons, List.length_nil, Nat.zero_add, Nat.reduceAdd, allOne_cons, allOne_nil, Bool.and_self]; done) | (simp only [List.length_cons, List.length_nil, List.length_map, List.length_set]; omega)) only [go_sem, i0, i1, i5, h1, h2, cj, cj', a1, a2, b1, b2, eq_self]
          refine ⟨la.length - (j + 1), by omega, j + 1, rfl, by omega, ?_, (by first | trivial | rfl | assumption), (by first | trivial | rfl | assumption), (by first | trivial | rfl | assumption), (by first | trivial | rfl | assumption)⟩
          rw [List.take_succ, List.take_succ, ht, hx, hy]
        · have hne : ¬ la = lb := fun e => by rw [e, hy] at hx; cases hx; exact cx rfl
          have cj' := cj
          rw [c] at cj'
          simp -implicitDefEqProofs (maxSteps := 5000000) (disch := first | assumption | omega | (simp only [one_i, one_int, one_bool, one_str, one_ptr, one_nilp, one_nils, one_slice, one_map, one_nilm, one_func, one_iface, same_i, same_bool, same_nils, same_ptr, same_map, same_slice, List.length_cons, List.length_nil, Nat.zero_add, Nat.reduceAdd, allOne_cons, allOne_nil, Bool.and_self]; done) | (simp only [List.length_cons, List.length_nil, List.length_map, List.length_set]; omega)) only [go_sem, i0, i1, i5, h1, h2, cj, cj', a1, a2, b1, b2, cx]
          exact ⟨by rw [decide_eq_false hne], (by first | trivial | rfl | assumption)⟩
      · have : j = la.length := by omega
        subst this
        have he : la = lb := by rw [List.take_length, c', List.take_length] at ht; exact ht
        simp -implicitDefEqProofs (maxSteps := 5000000) (disch := first | assumption | omega | (simp only [one_i, one_int, one_bool, one_str, one_ptr, one_nilp, one_nils, one_slice, one_map, one_nilm, one_func, one_iface, same_i, same_bool, same_nils, same_ptr, same_map, same_slice, List.length_cons, List.length_nil, Nat.zero_add, Nat.reduceAdd, allOne_cons, allOne_nil, Bool.and_self]; done) | (simp only [List.length_cons, List.length_nil, List.length_map, List.length_set]; omega)) only [go_sem, i0, i1, i5, h1, h2, cj]
        exact ⟨by rw [decide_eq_true he], (by first | trivial | rfl | assumption)⟩
    · have hne : ¬ la = lb := fun e => c (by rw [e])
      simp -implicitDefEqProofs (maxSteps := 5000000) (disch := first | assumption | omega | (simp only [one_i, one_int, one_bool, one_str, one_ptr, one_nilp, one_nils, one_slice, one_map, one_nilm, one_func, one_iface, same_i, same_bool, same_nils, same_ptr, same_map, same_slice, List.length_cons, List.length_nil, Nat.zero_add, Nat.reduceAdd, allOne_cons, allOne_nil, Bool.and_self]; done) | (simp only [List.length_cons, List.length_nil, List.length_map, List.length_set]; omega)) only [op22, go_sem, h1, h2, c]
      exact ⟨by rw [decide_eq_false hne], (by first | trivial | rfl | assumption)⟩
  obtain ⟨x, s', e1, rfl, rfl⟩ := key
  exact e1
end
end Go.Proofs.YtgfghbhcifkmgaaLab
