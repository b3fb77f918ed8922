/- The library's heap: one more sleeper goes up. No condition on the program. -/
import Derived.Test.YtgfghbhcifkmgaaSB
namespace Go.Proofs.YtgfghbhcifkmgaaLab
open Go
set_option linter.all false
set_option maxRecDepth 10000
noncomputable section
def upL : Nat → List Sl → Nat → List Sl
  | 0, l, _ => l
  | n + 1, l, j => if j = 0 then l else match l[(j - 1) / 2]?, l[j]? with
    | some y, some x => if lessS x y then upL n ((l.set ((j - 1) / 2) x).set j y) ((j - 1) / 2) else l
    | _, _ => l
theorem upL_fuel : ∀ (n m : Nat) (l : List Sl) (j : Nat), j < n → j < m → upL n l j = upL m l j
  | 0, m, l, j, h, _ => by omega
  | n + 1, 0, l, j, _, h => by omega
  | n + 1, m + 1, l, j, h1, h2 => by
    unfold upL
    by_cases h0 : j = 0
    · rw [if_pos h0, if_pos h0]
    · rw [if_neg h0, if_neg h0]
      have ih := fun l' => upL_fuel n m l' ((j - 1) / 2) (by omega) (by omega)
      cases l[(j - 1) / 2]? with
      | none => rfl
      | some y =>
        cases l[j]? with
        | none => rfl
        | some x => simp only [ih]
theorem upL_perm : ∀ (n : Nat) (l : List Sl) (j : Nat), (upL n l j).Perm l
  | 0, l, j => List.Perm.refl _
  | n + 1, l, j => by
    unfold upL
    split
    · exact List.Perm.refl _
    · rename_i h0
      split
      · rename_i y x hy hx
        split
        · refine (upL_perm n _ _).trans ?_
          obtain ⟨h1, rfl⟩ := List.getElem?_eq_some_iff.1 hy
          obtain ⟨h2, rfl⟩ := List.getElem?_eq_some_iff.1 hx
          exact List.set_set_perm h1 h2
        · exact List.Perm.refl _
      · exact List.Perm.refl _
section
variable {s : St} {v : V} {b : Nat} {l : List Sl} (H : SP s v b l)
include H
theorem SP.up (d : Nat) {q o : Nat} (hp : ldP (.ptr q o) s = some v) (hq : q ≠ b) (hql : q < s.next) (j : Nat) (hj : j < l.length) (hl : l.length ≤ 100000) : ∃ s', (K (d + 2)).call 52 [.iface 84 (.ptr q o), .i (j : Nat)] s = some (.tup [], s') ∧ SP s' v b (upL (j + 1) l j) ∧ Fr s s' [b] ∧ s'.next = s.next := by
  have key : Ret ((K (d + 2)).call 52 [.iface 84 (.ptr q o), .i (j : Nat)] s) fun r s' => r = .tup [] ∧ SP s' v b (upL (j + 1) l j) ∧ Fr s s' [b] ∧ s'.next = s.next := by
    simp -implicitDefEqProofs (maxSteps := 5000000) (disch := first | assumption | omega | (simp only [one_i, one_int, one_bool, one_str, one_ptr, one_nilp, one_nils, one_slice, one_map, one_nilm, one_func, one_iface, same_i, same_bool, same_nils, same_ptr, same_map, same_slice, List.length_cons, List.length_nil, Nat.zero_add, Nat.reduceAdd, allOne_cons, allOne_nil, Bool.and_self]; done) | (simp only [List.length_cons, List.length_nil, List.length_map, List.length_set]; omega)) only [op52, go_sem]
    refine loop_at (Q := fun r => Ret (retR _ (blkR 0 r)) _) (fun m e t => ∃ (l' : List Sl), m < l'.length ∧ l'.length = l.length ∧ SP t v b l' ∧ upL (j + 1) l j = upL (m + 1) l' m ∧ Fr s t [b] ∧ t.next = s.next ∧ g0 e = .iface 84 (.ptr q o) ∧ g1 e = .i (m : Nat)) ?_ (n := j) (by omega) ⟨l, hj, rfl, H, rfl, Fr.refl H.wf _, rfl, (by first | trivial | rfl | assumption), (by first | trivial | rfl | assumption)⟩
    rintro m e t ⟨l', hm, hl', Ht, hu, ft, hn, i0, i1⟩
    replace i0 : e.a0.a0 = _ := i0
    replace i1 : e.a0.a1 = _ := i1
    have hpt : ldP (.ptr q o) t = some v := by
      show (match rdOf t q with | some (n, xs) => Bool.casesOn (motive := fun _ => Option V) (Nat.blt o n) none (xs o) | none => none) = _
      rw [rd_same (ft.same q hql (by simpa using hq))]
      exact hp
    by_cases c0 : m = 0
    · subst c0
      have e1 : ((0 : Int) - 1).tdiv 2 = 0 := rfl
      have e2 : upL (0 + 1) l' 0 = l' := rfl
      replace i1 : e.a0.a1 = .i 0 := i1
      have eq : quo64 (.i (-1)) (.i 2) = some (.i 0) := rfl
      simp -implicitDefEqProofs (maxSteps := 5000000) (disch := first | assumption | omega | (simp only [one_i, one_int, one_bool, one_str, one_ptr, one_nilp, one_nils, one_slice, one_map, one_nilm, one_func, one_iface, same_i, same_bool, same_nils, same_ptr, same_map, same_slice, List.length_cons, List.length_nil, Nat.zero_add, Nat.reduceAdd, allOne_cons, allOne_nil, Bool.and_self]; done) | (simp only [List.length_cons, List.length_nil, List.length_map, List.length_set]; omega)) only [go_sem, i0, i1, eq, eq_self]
      rw [hu, e2]
      exact ⟨(by first | trivial | rfl | assumption), Ht, ft, hn⟩
    · have hiN : (m - 1) / 2 < m := by omega
      have eq : quo64 (.i ((m : Nat) - 1 : Int)) (.i 2) = some (.i (((m - 1) / 2 : Nat) : Int)) := by
        have e1 : ((m : Nat) : Int) - 1 = ((m - 1 : Nat) : Int) := by omega
        have e2 : ((m - 1 : Nat) : Int).tdiv 2 = (((m - 1) / 2 : Nat) : Int) := rfl
        rw [e1, quo64_eq (by omega) (by rw [e2]; omega) (by rw [e2]; omega), e2]
      have cne : ¬ (((m - 1) / 2 : Nat) : Int) = (m : Int) := by omega
      obtain ⟨x, hx⟩ : ∃ x, l'[m]? = some x := ⟨_, List.getElem?_eq_getElem hm⟩
      obtain ⟨y, hy⟩ : ∃ y, l'[(m - 1) / 2]? = some y := ⟨_, List.getElem?_eq_getElem (by omega)⟩
      have el := Ht.less d hx hy
      have hstep : upL (m + 1) l' m = if lessS x y then upL m ((l'.set ((m - 1) / 2) x).set m y) ((m - 1) / 2) else l' := by
        rw [upL, if_neg c0, hy, hx]
      generalize hI : (m - 1) / 2 = i at *
      cases hle : lessS x y with
      | false =>
        rw [hle] at el hstep
        simp -implicitDefEqProofs (maxSteps := 5000000) (disch := first | assumption | omega | (simp only [one_i, one_int, one_bool, one_str, one_ptr, one_nilp, one_nils, one_slice, one_map, one_nilm, one_func, one_iface, same_i, same_bool, same_nils, same_ptr, same_map, same_slice, List.length_cons, List.length_nil, Nat.zero_add, Nat.reduceAdd, allOne_cons, allOne_nil, Bool.and_self]; done) | (simp only [List.length_cons, List.length_nil, List.length_map, List.length_set]; omega)) only [go_sem, i0, i1, eq, cne, hpt, el]
        rw [hu, hstep]
        exact ⟨(by first | trivial | rfl | assumption), Ht, ft, hn⟩
      | true =>
        rw [hle] at el hstep
        obtain ⟨t1, p1, H1, f1, n1⟩ := Ht.swap d hy hx
        simp -implicitDefEqProofs (maxSteps := 5000000) (disch := first | assumption | omega | (simp only [one_i, one_int, one_bool, one_str, one_ptr, one_nilp, one_nils, one_slice, one_map, one_nilm, one_func, one_iface, same_i, same_bool, same_nils, same_ptr, same_map, same_slice, List.length_cons, List.length_nil, Nat.zero_add, Nat.reduceAdd, allOne_cons, allOne_nil, Bool.and_self]; done) | (simp only [List.length_cons, List.length_nil, List.length_map, List.length_set]; omega)) only [go_sem, i0, i1, eq, cne, hpt, el, p1]
        refine ⟨i, hiN, (l'.set i x).set m y, by simp; omega, by simp; omega, H1, ?_, ft.trans f1, by omega, (by first | trivial | rfl | assumption), (by first | trivial | rfl | assumption)⟩
        rw [hu, hstep]
        simp only [if_true]
        exact upL_fuel _ _ _ _ hiN (by omega)
  obtain ⟨r, s', e1, rfl, h⟩ := key
  exact ⟨s', e1, h⟩
end
end
end Go.Proofs.YtgfghbhcifkmgaaLab
