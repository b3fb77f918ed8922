/- What is reached, put into order. No condition on the program. -/
import Derived.Test.YtjipdnfaokdkbaaRI
namespace Go.Proofs.YtjipdnfaokdkbaaLab
open Go
set_option linter.all false
set_option maxRecDepth 10000
noncomputable section
theorem sorted_snoc {A : List Int} {x : Int} (h : A.Pairwise (· ≤ ·)) (hx : ∀ a, A.getLast? = some a → a ≤ x) : ∀ a ∈ A, a ≤ x := fun a ha => by
  obtain ⟨i, hi, rfl⟩ := List.getElem_of_mem ha
  have hl : A.getLast? = some A[A.length - 1] := by rw [List.getLast?_eq_getElem?]; exact List.getElem?_eq_getElem (by omega)
  have hx := hx _ hl
  by_cases e : i = A.length - 1
  · subst e; exact hx
  · have := List.pairwise_iff_getElem.1 h i (A.length - 1) hi (by omega) (by omega)
    omega
theorem sort_tail {s s0 : St} {out : List Int} {v : V} (hw : Wf s) (f0 : Fr s0 s []) (hg : GL s v (out.map .i)) (hl : out.length ≤ 100000) (hb : ∀ b ∈ blkV v, s0.next ≤ b) (d : Nat) (e0 : E) (z6 : e0.a0.a6 = v) :
    Ret (retR (resV [rT g4, rT g5]) (p34_60 (K (d + 2)) e0 s)) fun r s' => ∃ l : List Int, r = .tup [v, .bool true] ∧ GL s' v (l.map .i) ∧ l.Perm out ∧ l.Pairwise (· ≤ ·) ∧ Fr s0 s' [] := by
  have hlen : uLenS v = some (.i (out.length : Nat)) := by have := hg.len; rwa [List.length_map] at this
  simp -implicitDefEqProofs (maxSteps := 5000000) (disch := first | assumption | omega | (simp only [one_i, one_int, one_bool, one_str, one_ptr, one_nilp, one_nils, one_slice, one_map, one_nilm, one_func, one_iface, same_i, same_bool, same_nils, same_ptr, same_map, same_slice, List.length_cons, List.length_nil, Nat.zero_add, Nat.reduceAdd, allOne_cons, allOne_nil, Bool.and_self]; done) | (simp only [List.length_cons, List.length_nil, List.length_map, List.length_set]; omega)) only [go_sem, ↓p34_60.eq_1, fAdd_eq, z6]
  refine loop_at (Q := fun r => Ret (retR _ (seqR (blkR 6 r) _)) _) (fun m e t => ∃ (i : Nat) (l : List Int), m = out.length - i ∧ (i ≤ out.length ∨ i = 1) ∧ 1 ≤ i ∧ GL t v (l.map .i) ∧ l.Perm out ∧ (l.take i).Pairwise (· ≤ ·) ∧ Fr s0 t [] ∧ g6 e = v ∧ g12 e = .i i) ?_ (n := out.length - 1) (by omega) ⟨1, out, rfl, .inr rfl, by omega, hg, List.Perm.refl _, ?_, f0, (by first | trivial | rfl | assumption), (by first | trivial | rfl | assumption)⟩
  rotate_left
  · cases out with
    | nil => simp
    | cons x l => simp
  rintro m e t ⟨i, l, rfl, hi, hi1, hgt, hp, hs, ft, i6, i12⟩
  replace i6 : e.a0.a6 = _ := i6
  replace i12 : e.a0.a12 = _ := i12
  have hlp := hp.length_eq
  by_cases c : (i : Int) < ((out.length : Nat) : Int)
  · simp -implicitDefEqProofs (maxSteps := 5000000) (disch := first | assumption | omega | (simp only [one_i, one_int, one_bool, one_str, one_ptr, one_nilp, one_nils, one_slice, one_map, one_nilm, one_func, one_iface, same_i, same_bool, same_nils, same_ptr, same_map, same_slice, List.length_cons, List.length_nil, Nat.zero_add, Nat.reduceAdd, allOne_cons, allOne_nil, Bool.and_self]; done) | (simp only [List.length_cons, List.length_nil, List.length_map, List.length_set]; omega)) only [go_sem, ↓p34_60.eq_1, fAdd_eq, i6, i12, hlen, c]
    have hil : i < l.length := by omega
    refine loop_at (Q := fun r => rnd (seqR (blkR 7 (blkR 8 r)) _) _ _) (fun m e u => ∃ (A B C : List Int) (x : Int), m = A.length ∧ (A ++ x :: B ++ C).Perm out ∧ A.length + 1 + B.length = i + 1 ∧ (A ++ B).Pairwise (· ≤ ·) ∧ (∀ b ∈ B, x ≤ b) ∧ GL u v ((A ++ x :: B ++ C).map .i) ∧ Fr s0 u [] ∧ g6 e = v ∧ g12 e = .i i ∧ g13 e = .i (A.length : Nat)) ?_ (n := i) (by omega) ⟨l.take i, [], l.drop (i + 1), l[i], by rw [List.length_take]; omega, ?_, by rw [List.length_take]; simp; omega, by simpa using hs, by simp, ?_, ft, (by first | trivial | rfl | assumption), (by first | trivial | rfl | assumption), ?_⟩
    rotate_left
    · have : l.take i ++ l[i] :: [] ++ l.drop (i + 1) = l := by
        rw [List.append_assoc, List.cons_append, List.nil_append, ← List.drop_eq_getElem_cons hil, List.take_append_drop]
      rw [this]; exact hp
    · have : l.take i ++ l[i] :: [] ++ l.drop (i + 1) = l := by
        rw [List.append_assoc, List.cons_append, List.nil_append, ← List.drop_eq_getElem_cons hil, List.take_append_drop]
      rw [this]; exact hgt
    · rw [List.length_take, Nat.min_eq_left (by omega)]; rfl
    clear i6 i12 e
    rintro m e u ⟨A, B, C, x, rfl, hp', hAB, hsAB, hxB, hgu, fu, i6, i12, i13⟩
    replace i6 : e.a0.a6 = _ := i6
    replace i12 : e.a0.a12 = _ := i12
    replace i13 : e.a0.a13 = _ := i13
    have hwu := fu.wf
    have hpl := hp'.length_eq
    simp only [List.length_append, List.length_cons] at hpl
    have hx : ((A ++ x :: B ++ C).map V.i)[A.length]? = some (.i x) := by simp
    have stop : (∀ a, A.getLast? = some a → a ≤ x) → ((A ++ x :: B ++ C).take (i + 1)).Pairwise (· ≤ ·) := fun h => by
      have hA := (List.pairwise_append.1 hsAB).1
      have hB := (List.pairwise_append.1 hsAB).2.1
      have hc := (List.pairwise_append.1 hsAB).2.2
      rw [show i + 1 = (A ++ x :: B).length by simp; omega, List.take_left']
      · rw [List.pairwise_append]
        refine ⟨hA, List.pairwise_cons.2 ⟨hxB, hB⟩, fun a ha b hb' => ?_⟩
        rcases List.mem_cons.1 hb' with rfl | hb'
        · exact sorted_snoc hA h a ha
        · exact hc a ha b hb'
      · rfl
    rcases List.eq_nil_or_concat A with rfl | ⟨A', a, rfl⟩
    · replace i13 : e.a0.a13 = .i 0 := i13
      simp -implicitDefEqProofs (maxSteps := 5000000) (disch := first | assumption | omega | (simp only [one_i, one_int, one_bool, one_str, one_ptr, one_nilp, one_nils, one_slice, one_map, one_nilm, one_func, one_iface, same_i, same_bool, same_nils, same_ptr, same_map, same_slice, List.length_cons, List.length_nil, Nat.zero_add, Nat.reduceAdd, allOne_cons, allOne_nil, Bool.and_self]; done) | (simp only [List.length_cons, List.length_nil, List.length_map, List.length_set]; omega)) only [go_sem, ↓p34_60.eq_1, fAdd_eq, i6, i12, i13]
      have hp2 := stop (by simp)
      exact ⟨out.length - (i + 1), by omega, i + 1, _, rfl, by omega, by omega, hgu, hp', hp2, fu, (by first | trivial | rfl | assumption), (by first | trivial | rfl | assumption)⟩
    · rw [List.concat_eq_append] at *
      have hal : (A' ++ [a]).length = A'.length + 1 := by simp
      rw [hal] at i13 hx
      have c0 : (0 : Int) < ((A'.length + 1 : Nat) : Int) := by omega
      have em : ((A'.length + 1 : Nat) : Int) - 1 = ((A'.length : Nat) : Int) := by omega
      obtain ⟨q1, a1, a2⟩ := (hgu.sl hwu).at hwu (j := A'.length) (x := .i a) (by simp)
      obtain ⟨q2, b1, b2⟩ := (hgu.sl hwu).at hwu (j := A'.length + 1) (x := .i x) hx
      have hla : ∀ y, (A' ++ [a]).getLast? = some y → y = a := fun y hy => by simp at hy; exact hy.symm
      by_cases cx : x < a
      · obtain ⟨b, rfl, cb⟩ : ∃ b, v = .slice b 0 ((A' ++ [a] ++ x :: B ++ C).map V.i).length none 1 ∧ u.cl b = some ((A' ++ [a] ++ x :: B ++ C).map V.i) := by
          rcases hgu with ⟨h0, _⟩ | h
          · simp at h0
          · exact h
        have e1 : q1 = .ptr b A'.length := by
          rw [bIdx1_eq (by omega) (by simp; omega), Nat.zero_add, Int.toNat_natCast] at a1
          injection a1 with a1; exact a1.symm
        have e2 : q2 = .ptr b (A'.length + 1) := by
          rw [bIdx1_eq (by omega) (by simp; omega), Nat.zero_add, Int.toNat_natCast] at b1
          injection b1 with b1; exact b1.symm
        subst e1; subst e2
        obtain ⟨x1, p1, c1, f1, n1⟩ := eSt_ex (s := u) (b := b) (o := A'.length) (v := .i x) hwu cb (by simp) rfl
        obtain ⟨x2, p2, c2, f2, n2⟩ := eSt_ex (s := x1) (b := b) (o := A'.length + 1) (v := .i a) f1.wf c1 (by simp) rfl
        have hsw : ((((A' ++ [a] ++ x :: B ++ C).map V.i).set A'.length (.i x)).set (A'.length + 1) (.i a)) = (A' ++ x :: (a :: B) ++ C).map V.i := by
          simp only [List.map_append, List.map_cons, List.map_nil, List.append_assoc, List.cons_append, List.nil_append]
          rw [List.set_append_right _ _ (by simp), List.set_append_right _ _ (by simp)]
          simp
        rw [hsw] at c2
        simp -implicitDefEqProofs (maxSteps := 5000000) (disch := first | assumption | omega | (simp only [one_i, one_int, one_bool, one_str, one_ptr, one_nilp, one_nils, one_slice, one_map, one_nilm, one_func, one_iface, same_i, same_bool, same_nils, same_ptr, same_map, same_slice, List.length_cons, List.length_nil, Nat.zero_add, Nat.reduceAdd, allOne_cons, allOne_nil, Bool.and_self]; done) | (simp only [List.length_cons, List.length_nil, List.length_map, List.length_set]; omega)) only [go_sem, ↓p34_60.eq_1, fAdd_eq, i6, i12, i13, c0, em, a1, a2, b1, b2, cx, p1, p2]
        have hbn := hb b (by simp [blkV])
        refine ⟨A'.length, by omega, A', a :: B, C, x, rfl, ?_, by simp at hAB ⊢; omega, by simpa using hsAB, ?_, ?_, fu.trans' (f1.trans f2) (fun y hy => .inr (by simp at hy; omega)), (by first | trivial | rfl | assumption), (by first | trivial | rfl | assumption), (by first | trivial | rfl | assumption)⟩
        · refine List.Perm.trans ?_ hp'
          simp only [List.append_assoc, List.cons_append, List.nil_append]
          exact List.Perm.append_left _ (List.Perm.swap _ _ _)
        · intro y hy
          rcases List.mem_cons.1 hy with rfl | hy
          · omega
          · exact hxB y hy
        · refine .inr ⟨b, ?_, c2⟩
          congr 1; simp
      · have hp2 := stop (fun y hy => by have := hla y hy; omega)
        simp -implicitDefEqProofs (maxSteps := 5000000) (disch := first | assumption | omega | (simp only [one_i, one_int, one_bool, one_str, one_ptr, one_nilp, one_nils, one_slice, one_map, one_nilm, one_func, one_iface, same_i, same_bool, same_nils, same_ptr, same_map, same_slice, List.length_cons, List.length_nil, Nat.zero_add, Nat.reduceAdd, allOne_cons, allOne_nil, Bool.and_self]; done) | (simp only [List.length_cons, List.length_nil, List.length_map, List.length_set]; omega)) only [go_sem, ↓p34_60.eq_1, fAdd_eq, i6, i12, i13, c0, em, a1, a2, b1, b2, cx]
        exact ⟨out.length - (i + 1), by omega, i + 1, _, rfl, by omega, by omega, hgu, hp', hp2, fu, (by first | trivial | rfl | assumption), (by first | trivial | rfl | assumption)⟩
  · simp -implicitDefEqProofs (maxSteps := 5000000) (disch := first | assumption | omega | (simp only [one_i, one_int, one_bool, one_str, one_ptr, one_nilp, one_nils, one_slice, one_map, one_nilm, one_func, one_iface, same_i, same_bool, same_nils, same_ptr, same_map, same_slice, List.length_cons, List.length_nil, Nat.zero_add, Nat.reduceAdd, allOne_cons, allOne_nil, Bool.and_self]; done) | (simp only [List.length_cons, List.length_nil, List.length_map, List.length_set]; omega)) only [go_sem, ↓p34_60.eq_1, fAdd_eq, i6, i12, hlen, c]
    rw [List.take_of_length_le (by omega)] at hs
    exact ⟨l, (by first | trivial | rfl | assumption), hgt, hp, hs, ft⟩
end
end Go.Proofs.YtjipdnfaokdkbaaLab
