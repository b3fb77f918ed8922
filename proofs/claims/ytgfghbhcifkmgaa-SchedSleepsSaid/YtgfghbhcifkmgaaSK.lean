/- The library's heap: down. No condition on the program. -/
import Derived.Test.YtgfghbhcifkmgaaSJ
namespace Go.Proofs.YtgfghbhcifkmgaaLab
open Go
set_option linter.all false
set_option maxRecDepth 10000
noncomputable section
theorem SP.down {s : St} {v : V} {b : Nat} {l r : List Sl} (H : SP s v b (l ++ r)) (d : Nat) {q o : Nat} (hp : ldP (.ptr q o) s = some v) (hq : q ≠ b) (hql : q < s.next) (hl : (l ++ r).length ≤ 100000) (h0 : 0 < l.length) : ∃ s' bv, (K (d + 2)).call 53 [.iface 84 (.ptr q o), .i 0, .i (l.length : Nat)] s = some (.bool bv, s') ∧ SP s' v b (downL l.length l 0 ++ r) ∧ Fr s s' [b] ∧ s'.next = s.next := by
  have key : Ret ((K (d + 2)).call 53 [.iface 84 (.ptr q o), .i 0, .i (l.length : Nat)] s) fun x s' => (∃ bv, x = .bool bv) ∧ SP s' v b (downL l.length l 0 ++ r) ∧ Fr s s' [b] ∧ s'.next = s.next := by
    simp -implicitDefEqProofs (maxSteps := 5000000) (disch := first | assumption | omega | (simp only [one_i, one_int, one_bool, one_str, one_ptr, one_nilp, one_nils, one_slice, one_map, one_nilm, one_func, one_iface, same_i, same_bool, same_nils, same_ptr, same_map, same_slice, List.length_cons, List.length_nil, Nat.zero_add, Nat.reduceAdd, allOne_cons, allOne_nil, Bool.and_self]; done) | (simp only [List.length_cons, List.length_nil, List.length_map, List.length_set]; omega)) only [op53, go_sem]
    refine loop_at (Q := fun r => Ret (retR _ (seqR (blkR 0 r) _)) _) (fun m e t => ∃ (l' : List Sl) (i : Nat), m = l.length - i ∧ i < l'.length ∧ l'.length = l.length ∧ SP t v b (l' ++ r) ∧ downL l.length l 0 = downL (l.length - i) l' i ∧ Fr s t [b] ∧ t.next = s.next ∧ g0 e = .iface 84 (.ptr q o) ∧ g1 e = .i 0 ∧ g2 e = .i (l.length : Nat) ∧ g7 e = .i (i : Nat)) ?_ (n := l.length) (by simp at hl; omega) ⟨l, 0, by omega, h0, rfl, H, rfl, Fr.refl H.wf _, rfl, (by first | trivial | rfl | assumption), (by first | trivial | rfl | assumption), (by first | trivial | rfl | assumption), (by first | trivial | rfl | assumption)⟩
    rintro m e t ⟨l', i, rfl, hi, hl', Ht, hu, ft, hn, i0, i1, i2, i7⟩
    replace i0 : e.a0.a0 = _ := i0
    replace i1 : e.a0.a1 = _ := i1
    replace i2 : e.a0.a2 = _ := i2
    replace i7 : e.a0.a7 = _ := i7
    have hpt : ldP (.ptr q o) t = some v := by
      show (match rdOf t q with | some (n, xs) => Bool.casesOn (motive := fun _ => Option V) (Nat.blt o n) none (xs o) | none => none) = _
      rw [rd_same (ft.same q hql (by simpa using hq))]
      exact hp
    have hll : l.length ≤ 100000 := by simp at hl; omega
    obtain ⟨x, hx⟩ : ∃ x, l'[i]? = some x := ⟨_, List.getElem?_eq_getElem hi⟩
    have hxr : (l' ++ r)[i]? = some x := by rw [List.getElem?_append_left hi]; exact hx
    have hfu : l.length - i = (l.length - i - 1) + 1 := by omega
    have m1 : ¬ 2 * ((i : Nat) : Int) + 1 < 0 := by omega
    by_cases ca : ((l.length : Nat) : Int) ≤ 2 * (i : Int) + 1
    · have hk : kidL l' i = none := by unfold kidL; rw [List.getElem?_eq_none (by omega)]
      simp -implicitDefEqProofs (maxSteps := 5000000) (disch := first | assumption | omega | (simp only [one_i, one_int, one_bool, one_str, one_ptr, one_nilp, one_nils, one_slice, one_map, one_nilm, one_func, one_iface, same_i, same_bool, same_nils, same_ptr, same_map, same_slice, List.length_cons, List.length_nil, Nat.zero_add, Nat.reduceAdd, allOne_cons, allOne_nil, Bool.and_self]; done) | (simp only [List.length_cons, List.length_nil, List.length_map, List.length_set]; omega)) only [go_sem, i0, i1, i2, i7, ca]
      refine ⟨⟨_, rfl⟩, ?_, ft, hn⟩
      rw [hu, hfu, downL, hk]
      exact Ht
    · obtain ⟨a, ha⟩ : ∃ a, l'[2 * i + 1]? = some a := ⟨_, List.getElem?_eq_getElem (by omega)⟩
      have har : (l' ++ r)[2 * i + 1]? = some a := by rw [List.getElem?_append_left (by omega)]; exact ha
      have e1 : 2 * ((i : Nat) : Int) + 1 = ((2 * i + 1 : Nat) : Int) := by omega
      have e2 : ((2 * i + 1 : Nat) : Int) + 1 = ((2 * i + 2 : Nat) : Int) := by omega
      rw [e1] at ca m1
      have stop : ∀ (j : Nat) (z : Sl), kidL l' i = some (j, z) → lessS z x = false → downL l.length l 0 = l' := fun j z hk hz => by
        rw [hu, hfu, downL, hk, hx]; simp only [hz, Bool.false_eq_true, if_false]
      have goes : ∀ (j : Nat) (z : Sl) t1, kidL l' i = some (j, z) → lessS z x = true → SP t1 v b (((l' ++ r).set i z).set j x) → Fr t t1 [b] → t1.next = t.next → ∃ m, m < l.length - i ∧ ∃ (l'' : List Sl) (i' : Nat), m = l.length - i' ∧ i' < l''.length ∧ l''.length = l.length ∧ SP t1 v b (l'' ++ r) ∧ downL l.length l 0 = downL (l.length - i') l'' i' ∧ Fr s t1 [b] ∧ t1.next = s.next ∧ i' = j := fun j z t1 hk hz H1 f1 n1 => by
        obtain ⟨hzj, hij, _, _, _⟩ := kidL_some hk
        have hjl := (List.getElem?_eq_some_iff.1 hzj).1
        refine ⟨l.length - j, by omega, (l'.set i z).set j x, j, rfl, by simp; exact hjl, by simp [hl'], ?_, ?_, ft.trans f1, by omega, rfl⟩
        · rw [List.set_append_left _ _ hi, List.set_append_left _ _ (by simp; exact hjl)] at H1
          exact H1
        · rw [hu, hfu, downL, hk, hx]
          simp only [hz, if_true]
          exact downL_fuel _ _ _ _ (by simp; omega) (by simp; omega)
      by_cases cb : ((2 * i + 2 : Nat) : Int) < ((l.length : Nat) : Int)
      · obtain ⟨b2, hb⟩ : ∃ b2, l'[2 * i + 2]? = some b2 := ⟨_, List.getElem?_eq_getElem (by omega)⟩
        have hbr : (l' ++ r)[2 * i + 2]? = some b2 := by rw [List.getElem?_append_left (by omega)]; exact hb
        have el := Ht.less d hbr har
        cases hba : lessS b2 a with
        | true =>
          have hk : kidL l' i = some (2 * i + 2, b2) := by unfold kidL; rw [ha, hb]; simp [hba]
          rw [hba] at el
          have el2 := Ht.less d hbr hxr
          cases hzx : lessS b2 x with
          | false =>
            rw [hzx] at el2
            simp -implicitDefEqProofs (maxSteps := 5000000) (disch := first | assumption | omega | (simp only [one_i, one_int, one_bool, one_str, one_ptr, one_nilp, one_nils, one_slice, one_map, one_nilm, one_func, one_iface, same_i, same_bool, same_nils, same_ptr, same_map, same_slice, List.length_cons, List.length_nil, Nat.zero_add, Nat.reduceAdd, allOne_cons, allOne_nil, Bool.and_self]; done) | (simp only [List.length_cons, List.length_nil, List.length_map, List.length_set]; omega)) only [go_sem, i0, i1, i2, i7, e1, e2, ca, m1, hpt, cb, el, el2]
            refine ⟨⟨_, rfl⟩, ?_, ft, hn⟩
            rw [stop _ _ hk hzx]
            exact Ht
          | true =>
            rw [hzx] at el2
            obtain ⟨t1, p1, H1, f1, n1⟩ := Ht.swap d hxr hbr
            obtain ⟨m', q1, l'', i', q2, q3, q4, q5, q6, q7, q8, rfl⟩ := goes _ _ t1 hk hzx H1 f1 n1
            simp -implicitDefEqProofs (maxSteps := 5000000) (disch := first | assumption | omega | (simp only [one_i, one_int, one_bool, one_str, one_ptr, one_nilp, one_nils, one_slice, one_map, one_nilm, one_func, one_iface, same_i, same_bool, same_nils, same_ptr, same_map, same_slice, List.length_cons, List.length_nil, Nat.zero_add, Nat.reduceAdd, allOne_cons, allOne_nil, Bool.and_self]; done) | (simp only [List.length_cons, List.length_nil, List.length_map, List.length_set]; omega)) only [go_sem, i0, i1, i2, i7, e1, e2, ca, m1, hpt, cb, el, el2, p1]
            exact ⟨m', q1, l'', _, q2, q3, q4, q5, q6, q7, q8, (by first | trivial | rfl | assumption), (by first | trivial | rfl | assumption), (by first | trivial | rfl | assumption), (by first | trivial | rfl | assumption)⟩

        | false =>
          have hk : kidL l' i = some (2 * i + 1, a) := by unfold kidL; rw [ha, hb]; simp [hba]
          rw [hba] at el
          have el2 := Ht.less d har hxr
          cases hzx : lessS a x with
          | false =>
            rw [hzx] at el2
            simp -implicitDefEqProofs (maxSteps := 5000000) (disch := first | assumption | omega | (simp only [one_i, one_int, one_bool, one_str, one_ptr, one_nilp, one_nils, one_slice, one_map, one_nilm, one_func, one_iface, same_i, same_bool, same_nils, same_ptr, same_map, same_slice, List.length_cons, List.length_nil, Nat.zero_add, Nat.reduceAdd, allOne_cons, allOne_nil, Bool.and_self]; done) | (simp only [List.length_cons, List.length_nil, List.length_map, List.length_set]; omega)) only [go_sem, i0, i1, i2, i7, e1, e2, ca, m1, hpt, cb, el, el2]
            refine ⟨⟨_, rfl⟩, ?_, ft, hn⟩
            rw [stop _ _ hk hzx]
            exact Ht
          | true =>
            rw [hzx] at el2
            obtain ⟨t1, p1, H1, f1, n1⟩ := Ht.swap d hxr har
            obtain ⟨m', q1, l'', i', q2, q3, q4, q5, q6, q7, q8, rfl⟩ := goes _ _ t1 hk hzx H1 f1 n1
            simp -implicitDefEqProofs (maxSteps := 5000000) (disch := first | assumption | omega | (simp only [one_i, one_int, one_bool, one_str, one_ptr, one_nilp, one_nils, one_slice, one_map, one_nilm, one_func, one_iface, same_i, same_bool, same_nils, same_ptr, same_map, same_slice, List.length_cons, List.length_nil, Nat.zero_add, Nat.reduceAdd, allOne_cons, allOne_nil, Bool.and_self]; done) | (simp only [List.length_cons, List.length_nil, List.length_map, List.length_set]; omega)) only [go_sem, i0, i1, i2, i7, e1, e2, ca, m1, hpt, cb, el, el2, p1]
            exact ⟨m', q1, l'', _, q2, q3, q4, q5, q6, q7, q8, (by first | trivial | rfl | assumption), (by first | trivial | rfl | assumption), (by first | trivial | rfl | assumption), (by first | trivial | rfl | assumption)⟩

      · have hk : kidL l' i = some (2 * i + 1, a) := by unfold kidL; rw [ha, List.getElem?_eq_none (show l'.length ≤ 2 * i + 2 by omega)]
        have el2 := Ht.less d har hxr
        cases hzx : lessS a x with
        | false =>
          rw [hzx] at el2
          simp -implicitDefEqProofs (maxSteps := 5000000) (disch := first | assumption | omega | (simp only [one_i, one_int, one_bool, one_str, one_ptr, one_nilp, one_nils, one_slice, one_map, one_nilm, one_func, one_iface, same_i, same_bool, same_nils, same_ptr, same_map, same_slice, List.length_cons, List.length_nil, Nat.zero_add, Nat.reduceAdd, allOne_cons, allOne_nil, Bool.and_self]; done) | (simp only [List.length_cons, List.length_nil, List.length_map, List.length_set]; omega)) only [go_sem, i0, i1, i2, i7, e1, e2, ca, m1, hpt, cb, el2]
          refine ⟨⟨_, rfl⟩, ?_, ft, hn⟩
          rw [stop _ _ hk hzx]
          exact Ht
        | true =>
          rw [hzx] at el2
          obtain ⟨t1, p1, H1, f1, n1⟩ := Ht.swap d hxr har
          obtain ⟨m', q1, l'', i', q2, q3, q4, q5, q6, q7, q8, rfl⟩ := goes _ _ t1 hk hzx H1 f1 n1
          simp -implicitDefEqProofs (maxSteps := 5000000) (disch := first | assumption | omega | (simp only [one_i, one_int, one_bool, one_str, one_ptr, one_nilp, one_nils, one_slice, one_map, one_nilm, one_func, one_iface, same_i, same_bool, same_nils, same_ptr, same_map, same_slice, List.length_cons, List.length_nil, Nat.zero_add, Nat.reduceAdd, allOne_cons, allOne_nil, Bool.and_self]; done) | (simp only [List.length_cons, List.length_nil, List.length_map, List.length_set]; omega)) only [go_sem, i0, i1, i2, i7, e1, e2, ca, m1, hpt, cb, el2, p1]
          exact ⟨m', q1, l'', _, q2, q3, q4, q5, q6, q7, q8, (by first | trivial | rfl | assumption), (by first | trivial | rfl | assumption), (by first | trivial | rfl | assumption), (by first | trivial | rfl | assumption)⟩
  obtain ⟨x, s', e1, ⟨bv, rfl⟩, h⟩ := key
  exact ⟨s', bv, e1, h⟩
end
end Go.Proofs.YtgfghbhcifkmgaaLab
