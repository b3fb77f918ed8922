/- Lists held against one another; a number brought into bounds; all objects; the known runs. No condition on the program. -/
import Derived.Test.YtjipdnfaokdkbaaHE
namespace Go.Proofs.YtjipdnfaokdkbaaLab
open Go
set_option linter.all false
set_option maxRecDepth 10000
noncomputable section
theorem same_int {s : St} (hw : Wf s) {v1 v2 : V} {l1 l2 : List Int} (h1 : SL s v1 (l1.map .i)) (h2 : SL s v2 (l2.map .i)) (hb1 : l1.length < 1000000) (hb2 : l2.length < 1000000) (d : Nat) : (K (d + 1)).call 14 [v1, v2] s = some (.bool (decide (l1 = l2)), s) := by
  have e1 := h1.len
  have e2 := h2.len
  rw [List.length_map] at e1 e2
  rw [op14]
  by_cases hl : l1.length = l2.length
  · have c : ((l1.length : Nat) : Int) = ((l2.length : Nat) : Int) := by omega
    simp -implicitDefEqProofs (maxSteps := 5000000) (disch := first | assumption | omega | (simp only [one_i, one_int, one_bool, one_str, one_ptr, one_nilp, one_nils, one_slice, one_map, one_nilm, one_func, one_iface, same_i, same_bool, same_nils, same_ptr, same_map, same_slice, List.length_cons, List.length_nil, Nat.zero_add, Nat.reduceAdd, allOne_cons, allOne_nil, Bool.and_self]; done) | (simp only [List.length_cons, List.length_nil, List.length_map, List.length_set]; omega)) only [go_sem, fAdd_eq, e1, e2, c]
    refine loop_at (Q := fun r => retR _ (seqR (blkR 0 r) _) = _) (fun m e t => t = s ∧ ∃ j : Nat, m = l1.length - j ∧ j ≤ l1.length ∧ g5 e = .i j ∧ g0 e = v1 ∧ g1 e = v2 ∧ l1.take j = l2.take j) ?_ (n := l1.length) ?_ ?_
    · rintro n e t ⟨rfl, j, rfl, hj, i1, i2, i3, i4⟩
      replace i1 : e.a0.a5 = _ := i1
      replace i2 : e.a0.a0 = _ := i2
      replace i3 : e.a0.a1 = _ := i3
      by_cases hc : (j : Int) < ((l1.length : Nat) : Int)
      · have hj1 : j < l1.length := by omega
        have hj2 : j < l2.length := by omega
        obtain ⟨q1, a1, b1⟩ := h1.at hw (j := j) (x := .i l1[j]) (by simp [hj1])
        obtain ⟨q2, a2, b2⟩ := h2.at hw (j := j) (x := .i l2[j]) (by simp [hj2])
        by_cases hx : l1[j] = l2[j]
        · simp -implicitDefEqProofs (maxSteps := 5000000) (disch := first | assumption | omega | (simp only [one_i, one_int, one_bool, one_str, one_ptr, one_nilp, one_nils, one_slice, one_map, one_nilm, one_func, one_iface, same_i, same_bool, same_nils, same_ptr, same_map, same_slice, List.length_cons, List.length_nil, Nat.zero_add, Nat.reduceAdd, allOne_cons, allOne_nil, Bool.and_self]; done) | (simp only [List.length_cons, List.length_nil, List.length_map, List.length_set]; omega)) only [go_sem, fAdd_eq, e1, e2, i1, i2, i3, hc, a1, a2, b1, b2, hx]
          refine ⟨l1.length - (j + 1), by omega, trivial, j + 1, rfl, by omega, rfl, trivial, trivial, ?_⟩
          rw [List.take_succ, List.take_succ, i4]; simp [hj1, hj2, hx]
        · simp -implicitDefEqProofs (maxSteps := 5000000) (disch := first | assumption | omega | (simp only [one_i, one_int, one_bool, one_str, one_ptr, one_nilp, one_nils, one_slice, one_map, one_nilm, one_func, one_iface, same_i, same_bool, same_nils, same_ptr, same_map, same_slice, List.length_cons, List.length_nil, Nat.zero_add, Nat.reduceAdd, allOne_cons, allOne_nil, Bool.and_self]; done) | (simp only [List.length_cons, List.length_nil, List.length_map, List.length_set]; omega)) only [go_sem, fAdd_eq, e1, e2, i1, i2, i3, hc, a1, a2, b1, b2, hx]
          have : l1 ≠ l2 := fun h => hx (by simp [h])
          simp [this]
      · have : j = l1.length := by omega
        subst this
        simp -implicitDefEqProofs (maxSteps := 5000000) (disch := first | assumption | omega | (simp only [one_i, one_int, one_bool, one_str, one_ptr, one_nilp, one_nils, one_slice, one_map, one_nilm, one_func, one_iface, same_i, same_bool, same_nils, same_ptr, same_map, same_slice, List.length_cons, List.length_nil, Nat.zero_add, Nat.reduceAdd, allOne_cons, allOne_nil, Bool.and_self]; done) | (simp only [List.length_cons, List.length_nil, List.length_map, List.length_set]; omega)) only [go_sem, fAdd_eq, e1, e2, i1, i2, i3, hc]
        rw [List.take_length, hl, List.take_length] at i4
        simp [i4]
    · omega
    · exact ⟨rfl, 0, by omega, by omega, rfl, rfl, rfl, rfl⟩
  · have c : ¬ ((l1.length : Nat) : Int) = ((l2.length : Nat) : Int) := by omega
    have : l1 ≠ l2 := fun h => hl (by rw [h])
    simp -implicitDefEqProofs (maxSteps := 5000000) (disch := first | assumption | omega | (simp only [one_i, one_int, one_bool, one_str, one_ptr, one_nilp, one_nils, one_slice, one_map, one_nilm, one_func, one_iface, same_i, same_bool, same_nils, same_ptr, same_map, same_slice, List.length_cons, List.length_nil, Nat.zero_add, Nat.reduceAdd, allOne_cons, allOne_nil, Bool.and_self]; done) | (simp only [List.length_cons, List.length_nil, List.length_map, List.length_set]; omega)) only [go_sem, fAdd_eq, e1, e2, c, this]
/-- A number brought into bounds. -/
def withinI (n lo hi : Int) : Int := lo + (if n.tmod (hi - lo + 1) < 0 then n.tmod (hi - lo + 1) + hi - lo + 1 else n.tmod (hi - lo + 1))
theorem withinI_le (n lo hi : Int) (h : lo ≤ hi) : lo ≤ withinI n lo hi ∧ withinI n lo hi ≤ hi := by
  unfold withinI
  have h1 := Int.lt_tmod_of_pos n (show 0 < hi - lo + 1 by omega)
  have h2 := Int.tmod_lt_of_pos n (show 0 < hi - lo + 1 by omega)
  split <;> omega
theorem within_eq (s : St) (n lo hi : Int) (h0 : 0 ≤ lo) (h1 : lo ≤ hi) (h2 : hi < 1000000000) (d : Nat) : (K (d + 1)).call 7 [.i n, .i lo, .i hi] s = some (.i (withinI n lo hi), s) := by
  have b1 := Int.lt_tmod_of_pos n (show 0 < hi - lo + 1 by omega)
  have b2 := Int.tmod_lt_of_pos n (show 0 < hi - lo + 1 by omega)
  unfold withinI
  rw [op7]
  by_cases c : n.tmod (hi - lo + 1) < 0
  · simp -implicitDefEqProofs (maxSteps := 5000000) (disch := first | assumption | omega | (simp only [one_i, one_int, one_bool, one_str, one_ptr, one_nilp, one_nils, one_slice, one_map, one_nilm, one_func, one_iface, same_i, same_bool, same_nils, same_ptr, same_map, same_slice, List.length_cons, List.length_nil, Nat.zero_add, Nat.reduceAdd, allOne_cons, allOne_nil, Bool.and_self]; done) | (simp only [List.length_cons, List.length_nil, List.length_map, List.length_set]; omega)) only [go_sem, fAdd_eq, c, if_true]
  · simp -implicitDefEqProofs (maxSteps := 5000000) (disch := first | assumption | omega | (simp only [one_i, one_int, one_bool, one_str, one_ptr, one_nilp, one_nils, one_slice, one_map, one_nilm, one_func, one_iface, same_i, same_bool, same_nils, same_ptr, same_map, same_slice, List.length_cons, List.length_nil, Nat.zero_add, Nat.reduceAdd, allOne_cons, allOne_nil, Bool.and_self]; done) | (simp only [List.length_cons, List.length_nil, List.length_map, List.length_set]; omega)) only [go_sem, fAdd_eq, c, if_false]
/-- Where objects begin. -/
def starts : Nat → List O → List Int | _, [] => [] | a, o :: os => (a : Int) :: starts (a + o.n) os
theorem starts_append : ∀ (a : Nat) (x y : List O), starts a (x ++ y) = starts a x ++ starts (a + (lay x).length) y
  | a, [], y => by simp [starts, lay]
  | a, o :: x, y => by simp [starts, lay, starts_append (a + o.n) x y, O.ws_len, Nat.add_assoc]
theorem starts_len : ∀ (a : Nat) (x : List O), (starts a x).length = x.length
  | a, [] => rfl
  | a, o :: x => by simp [starts, starts_len (a + o.n) x]
theorem lay_len3 : ∀ os, 3 * os.length ≤ (lay os).length
  | [] => by simp [lay]
  | o :: os => by have := lay_len3 os; have := o.n_pos; simp [lay, O.ws_len]; omega
section
variable {s : St} {p bw bb n : Nat} {os : List O} {sh mp : V} {z : List Int} (H : AH s p bw bb n os sh mp z)
theorem AH.fr {s' : St} {l : List Nat} (H : AH s p bw bb n os sh mp z) (f : Fr s s' l) (h1 : p ∉ l) (h2 : bw ∉ l) (h3 : bb ∉ l) : AH s' p bw bb n os sh mp z := ⟨H.hr.other f h1 h2 h3⟩
theorem AH.lt (H : AH s p bw bb n os sh mp z) : p < s.next ∧ bw < s.next ∧ bb < s.next := ⟨cl_lt H.hr.wf H.hr.hp, cl_lt H.hr.wf H.hr.hw, cl_lt H.hr.wf H.hr.hb⟩
include H
theorem AH.all (d : Nat) : Ret ((K (d + 3)).call 15 [.ptr p 0] s) fun v s' => GL s' v ((starts 1 os).map .i) ∧ Fr s s' [] ∧ ∀ b, b ∈ blkV v → s.next ≤ b := by
  have hn := H.nn
  have hz := H.size
  have h0 := H.hr.wf
  have hlt := H.lt
  simp -implicitDefEqProofs (maxSteps := 5000000) (disch := first | assumption | omega | (simp only [one_i, one_int, one_bool, one_str, one_ptr, one_nilp, one_nils, one_slice, one_map, one_nilm, one_func, one_iface, same_i, same_bool, same_nils, same_ptr, same_map, same_slice, List.length_cons, List.length_nil, Nat.zero_add, Nat.reduceAdd, allOne_cons, allOne_nil, Bool.and_self]; done) | (simp only [List.length_cons, List.length_nil, List.length_map, List.length_set]; omega)) only [op15, go_sem, fAdd_eq]
  refine loop_at (Q := fun r => Ret (retR _ (seqR (blkR 0 r) _)) _) (fun m e t => ∃ pre post v, os = pre ++ post ∧ m = post.length ∧ g0 e = .ptr p 0 ∧ g3 e = v ∧ g4 e = .i ((1 + (lay pre).length : Nat) : Int) ∧ GL t v ((starts 1 pre).map .i) ∧ Fr s t [] ∧ ∀ b, b ∈ blkV v → s.next ≤ b) ?_ (n := os.length) ?_ ?_
  · rintro m e t ⟨pre, post, v, rfl, rfl, i0, i3, i4, hg, hf, hb⟩
    replace i0 : e.a0.a0 = _ := i0
    replace i3 : e.a0.a3 = _ := i3
    replace i4 : e.a0.a4 = _ := i4
    have hw := hf.wf
    have Ht := H.fr hf (by simp) (by simp) (by simp)
    have h1 := Ht.hr.hp
    cases post with
    | nil =>
      have c : ¬ (((1 + (lay pre).length : Nat) : Int) < ((1 + (lay pre).length : Nat) : Int)) := by omega
      simp only [List.append_nil] at h1 ⊢
      simp -implicitDefEqProofs (maxSteps := 5000000) (disch := first | assumption | omega | (simp only [one_i, one_int, one_bool, one_str, one_ptr, one_nilp, one_nils, one_slice, one_map, one_nilm, one_func, one_iface, same_i, same_bool, same_nils, same_ptr, same_map, same_slice, List.length_cons, List.length_nil, Nat.zero_add, Nat.reduceAdd, allOne_cons, allOne_nil, Bool.and_self]; done) | (simp only [List.length_cons, List.length_nil, List.length_map, List.length_set]; omega)) only [go_sem, fAdd_eq, i0, i3, i4, dLd_at hw h1, c]
      exact ⟨hg, hf, hb⟩
    | cons o post =>
      have h3 := o.n_pos
      have hon : o.n = 3 + o.f.length := rfl
      have hl : (lay (pre ++ o :: post)).length = (lay pre).length + o.n + (lay post).length := by simp [lay_append, lay, O.ws_len]; omega
      have c : (((1 + (lay pre).length : Nat) : Int) < ((1 + (lay (pre ++ o :: post)).length : Nat) : Int)) := by omega
      have h33 := lay_len3 pre
      obtain ⟨s1, s2, e1, e2, hg2, f2, n2⟩ := hg.push hw (x := .i ((1 + (lay pre).length : Nat) : Int)) rfl (fun y hy => by obtain ⟨a, _, rfl⟩ := List.mem_map.1 hy; rfl) (by simp [starts_len]; omega)
      have F2 : Fr s s2 [] := hf.trans' f2 (fun j hj => .inr (hb j hj))
      have H2 := H.fr F2 (by simp) (by simp) (by simp)
      have el := H2.len d ((1 + (lay pre).length : Nat) : Int)
      have hat : at? (pre ++ o :: post) ((1 + (lay pre).length : Nat) : Int) = some o := by
        unfold at?
        rw [show (((1 + (lay pre).length : Nat) : Int) - 1) = ((lay pre).length : Nat) by omega]
        exact look_of pre o post
      have e5 : lenO (pre ++ o :: post) ((1 + (lay pre).length : Nat) : Int) = (o.f.length : Int) := by unfold lenO; rw [hat]
      rw [e5] at el
      simp -implicitDefEqProofs (maxSteps := 5000000) (disch := first | assumption | omega | (simp only [one_i, one_int, one_bool, one_str, one_ptr, one_nilp, one_nils, one_slice, one_map, one_nilm, one_func, one_iface, same_i, same_bool, same_nils, same_ptr, same_map, same_slice, List.length_cons, List.length_nil, Nat.zero_add, Nat.reduceAdd, allOne_cons, allOne_nil, Bool.and_self]; done) | (simp only [List.length_cons, List.length_nil, List.length_map, List.length_set]; omega)) only [go_sem, fAdd_eq, i0, i3, i4, dLd_at hw h1, c, e1, e2, el]
      refine ⟨post.length, by simp, pre ++ [o], post, _, by simp, rfl, (by first | trivial | rfl | assumption), rfl, ?_, ?_, F2, ?_⟩
      · show V.i _ = V.i _
        congr 1; rw [lay_append]; simp [lay, O.ws_len, O.n]; omega
      · rw [starts_append]; simp only [starts, List.map_append, List.map_cons, List.map_nil]; simpa using hg2
      · simp [blkV]; have := hf.nx; omega
  · have := lay_len3 os; omega
  · exact ⟨[], os, .nils, rfl, rfl, rfl, rfl, by simp [lay]; rfl, .inl ⟨rfl, rfl⟩, Fr.refl h0 _, by simp [blkV]⟩
end
/-- The known runs. -/
theorem known_eq {s : St} (hw : Wf s) (d : Nat) : Ret ((K (d + 4)).call 16 [] s) fun v s' => v = .bool true ∧ Fr s s' [] := by
  obtain ⟨s1, e1, H1, f1, n1, _⟩ := new_heap hw (d + 2) 8 (by omega) (by omega)
  obtain ⟨s2, e2, H2, f2, n2⟩ := (H1.array d false 5).2.2 (by omega) (by omega) (by simp [lay])
  have e3 := (H2.array d false 0).2.1 (by omega) (by omega) (by simp [lay, newO, O.ws])
  have e4 := H2.len (d + 1) 1
  have e5 := H2.shape (d + 1) 1
  have hat : at? ([] ++ [newO (if false = true then -2 else -1) (5 : Int).toNat]) 1 = some (newO (-1) 5) := rfl
  have q4 : lenO ([] ++ [newO (if false = true then -2 else -1) (5 : Int).toNat]) 1 = 5 := rfl
  have q5 : shapeO ([] ++ [newO (if false = true then -2 else -1) (5 : Int).toNat]) 1 = -1 := rfl
  rw [q4] at e4; rw [q5] at e5
  have q2 : ((1 + (lay []).length : Nat) : Int) = 1 := rfl
  rw [q2] at e2
  have ef : (V.bool (decide ((5 : Int) = 5 ∧ True))) = .bool true := rfl
  simp -implicitDefEqProofs (maxSteps := 5000000) (disch := first | assumption | omega | (simp only [one_i, one_int, one_bool, one_str, one_ptr, one_nilp, one_nils, one_slice, one_map, one_nilm, one_func, one_iface, same_i, same_bool, same_nils, same_ptr, same_map, same_slice, List.length_cons, List.length_nil, Nat.zero_add, Nat.reduceAdd, allOne_cons, allOne_nil, Bool.and_self]; done) | (simp only [List.length_cons, List.length_nil, List.length_map, List.length_set]; omega)) only [op16, go_sem, e1, e2, e3, e4, e5]
  refine ⟨trivial, f1.trans' f2 (fun j hj => .inr ?_)⟩
  simp at hj; omega
end
end Go.Proofs.YtjipdnfaokdkbaaLab
