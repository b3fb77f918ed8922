/- The library's heap: the first one taken off. No condition on the program. -/
import Derived.Test.YtgfghbhcifkmgaaSL
namespace Go.Proofs.YtgfghbhcifkmgaaLab
open Go
set_option linter.all false
set_option maxRecDepth 10000
noncomputable section
/-- What is left when the first one is gone. -/
def popL (t : List Sl) : List Sl := match t.reverse with
  | [] => []
  | z :: u => downL (u.length + 1) (z :: u.reverse) 0
theorem popL_snoc (u : List Sl) (z : Sl) : popL (u ++ [z]) = downL (u.length + 1) (z :: u) 0 := by
  unfold popL; simp
theorem popL_perm (t : List Sl) : (popL t).Perm t := by
  rcases List.eq_nil_or_concat t with rfl | ⟨u, z, rfl⟩
  · exact List.Perm.refl _
  · rw [List.concat_eq_append, popL_snoc]
    exact (downL_perm _ _ _).trans (List.perm_append_singleton z u).symm
theorem popL_heap {r : Sl} {t : List Sl} (h : isHeap (r :: t)) : isHeap (popL t) := by
  rcases List.eq_nil_or_concat t with rfl | ⟨u, z, rfl⟩
  · intro j x y _ hx; simp [popL] at hx
  · rw [List.concat_eq_append] at h ⊢
    rw [popL_snoc]
    rw [downL_fuel _ (u.length + 2) _ _ (by simp) (by simp)]
    refine downL_heap _ _ _ (by simp) (by simp) ⟨fun k x y hk hkp hx hy => ?_, fun c x y h0 => by omega⟩
    have hk2 : (k - 1) / 2 ≠ 0 := hkp
    obtain ⟨k', rfl⟩ : ∃ k', k = k' + 1 := ⟨k - 1, by omega⟩
    obtain ⟨p', hp'⟩ : ∃ p', (k' + 1 - 1) / 2 = p' + 1 := ⟨(k' + 1 - 1) / 2 - 1, by omega⟩
    rw [hp'] at hy
    rw [List.getElem?_cons_succ] at hx hy
    have hkl := (List.getElem?_eq_some_iff.1 hx).1
    have hpl := (List.getElem?_eq_some_iff.1 hy).1
    refine h (k' + 1) x y hk ?_ ?_
    · rw [List.getElem?_cons_succ, List.getElem?_append_left hkl]; exact hx
    · rw [hp', List.getElem?_cons_succ, List.getElem?_append_left hpl]; exact hy
theorem SP.down0 {s : St} {v : V} (d : Nat) {q o : Nat} : ∃ bv, (K (d + 2)).call 53 [.iface 84 (.ptr q o), .i 0, .i 0] s = some (.bool bv, s) := by
  have key : Ret ((K (d + 2)).call 53 [.iface 84 (.ptr q o), .i 0, .i 0] s) fun x s' => (∃ bv, x = .bool bv) ∧ s' = s := by
    simp -implicitDefEqProofs (maxSteps := 5000000) (disch := first | assumption | omega | (simp only [one_i, one_int, one_bool, one_str, one_ptr, one_nilp, one_nils, one_slice, one_map, one_nilm, one_func, one_iface, same_i, same_bool, same_nils, same_ptr, same_map, same_slice, List.length_cons, List.length_nil, Nat.zero_add, Nat.reduceAdd, allOne_cons, allOne_nil, Bool.and_self]; done) | (simp only [List.length_cons, List.length_nil, List.length_map, List.length_set]; omega)) only [op53, go_sem]
    refine loop_at (Q := fun r => Ret (retR _ (seqR (blkR 0 r) _)) _) (fun m e t => t = s ∧ g0 e = .iface 84 (.ptr q o) ∧ g1 e = .i 0 ∧ g2 e = .i 0 ∧ g7 e = .i 0) ?_ (n := 0) (by omega) ⟨rfl, (by first | trivial | rfl | assumption), (by first | trivial | rfl | assumption), (by first | trivial | rfl | assumption), (by first | trivial | rfl | assumption)⟩
    rintro m e t ⟨rfl, i0, i1, i2, i7⟩
    replace i0 : e.a0.a0 = _ := i0
    replace i1 : e.a0.a1 = _ := i1
    replace i2 : e.a0.a2 = _ := i2
    replace i7 : e.a0.a7 = _ := i7
    have ca : (0 : Int) ≤ 1 := by omega
    simp -implicitDefEqProofs (maxSteps := 5000000) (disch := first | assumption | omega | (simp only [one_i, one_int, one_bool, one_str, one_ptr, one_nilp, one_nils, one_slice, one_map, one_nilm, one_func, one_iface, same_i, same_bool, same_nils, same_ptr, same_map, same_slice, List.length_cons, List.length_nil, Nat.zero_add, Nat.reduceAdd, allOne_cons, allOne_nil, Bool.and_self]; done) | (simp only [List.length_cons, List.length_nil, List.length_map, List.length_set]; omega)) only [go_sem, i0, i1, i2, i7, ca]
    exact ⟨⟨_, rfl⟩, (by first | trivial | rfl | assumption)⟩
  obtain ⟨x, s', e1, ⟨bv, rfl⟩, rfl⟩ := key
  exact ⟨bv, e1⟩
theorem ldP_fr {s s' : St} {L : List Nat} (f : Fr s s' L) {q o : Nat} (h : q < s.next) (hn : q ∉ L) : ldP (.ptr q o) s' = ldP (.ptr q o) s := by
  show (match rdOf s' q with | some (n, xs) => Bool.casesOn (motive := fun _ => Option V) (Nat.blt o n) none (xs o) | none => none) = (match rdOf s q with | some (n, xs) => Bool.casesOn (motive := fun _ => Option V) (Nat.blt o n) none (xs o) | none => none)
  rw [rd_same (f.same q h hn)]
theorem pop_eq {s : St} {q o : Nat} {M : List V} {v : V} {b : Nat} {r : Sl} {t : List Sl} (H : SP s v b (r :: t)) (hq : s.cl q = some M) (ho : M[o]? = some v) (hne : q ≠ b) (hl : t.length < 1000) (d : Nat) :
    ∃ s', (K (d + 3)).call 47 [.iface 84 (.ptr q o)] s = some (.iface 86 (.agg r.cells), s') ∧ s'.cl q = some (M.set o (.slice b 0 t.length none 3)) ∧ SP s' (.slice b 0 t.length none 3) b (popL t) ∧ Fr s s' [q, b] := by
  have hw := H.wf
  have hql := cl_lt hw hq
  have hld := dLd_eq hw hq ho
  have eL := H.len (d + 1)
  have ell : ((r :: t).length : Nat) = t.length + 1 := rfl
  rw [ell] at eL
  have em : ((t.length + 1 : Nat) : Int) - 1 = (t.length : Nat) := by omega
  rcases List.eq_nil_or_concat t with rfl | ⟨u, z, rfl⟩
  · obtain ⟨s1, p1, H1, f1, n1⟩ := H.swap (d + 1) (i := 0) (j := 0) (x := r) (y := r) rfl rfl
    have H1' : SP s1 v b ([] ++ [r]) := H1
    obtain ⟨bv, p2⟩ := SP.down0 (s := s1) (v := v) d (q := q) (o := o)
    have hq1 := f1.cl hw hq (by simpa using hne)
    have hld1 := (ldP_fr f1 hql (by simpa using hne) (o := o)).trans hld
    obtain ⟨s2, p3, c3, H3, f3⟩ := H1'.popM (d + 1) hq1 ho hne (by simp)
    replace em : ((0 + 1 : Nat) : Int) - 1 = 0 := by omega
    replace eL : (K (d + 1 + 1)).call 91 [v] s = some (.i ((0 + 1 : Nat) : Int), s) := eL
    replace p1 : (K (d + 1 + 1)).call 93 [v, .i 0, .i 0] s = some (.tup [], s1) := p1
    refine ⟨s2, ?_, c3, H3, (f1.mono (by simp)).trans (f3.mono (by simp))⟩
    rw [op47]
    simp -implicitDefEqProofs (maxSteps := 5000000) (disch := first | assumption | omega | (simp only [one_i, one_int, one_bool, one_str, one_ptr, one_nilp, one_nils, one_slice, one_map, one_nilm, one_func, one_iface, same_i, same_bool, same_nils, same_ptr, same_map, same_slice, List.length_cons, List.length_nil, Nat.zero_add, Nat.reduceAdd, allOne_cons, allOne_nil, Bool.and_self]; done) | (simp only [List.length_cons, List.length_nil, List.length_map, List.length_set]; omega)) only [go_sem, hld, eL, em, p1, hld1, p2, p3]
  · rw [List.concat_eq_append] at *
    have ul : (u ++ [z]).length = u.length + 1 := by simp
    rw [ul] at hl eL em ⊢
    have hz : (r :: (u ++ [z]))[u.length + 1]? = some z := by simp
    obtain ⟨s1, p1, H1, f1, n1⟩ := H.swap (d + 1) (i := 0) (j := u.length + 1) (x := r) (y := z) rfl hz
    have hset : ((r :: (u ++ [z])).set 0 z).set (u.length + 1) r = (z :: u) ++ [r] := by
      simp [List.set_append_right]
    rw [hset] at H1
    have hq1 := f1.cl hw hq (by simpa using hne)
    have hld1 := (ldP_fr f1 hql (by simpa using hne) (o := o)).trans hld
    have hlv : ldP (.ptr q o) s1 = some v := hld1
    obtain ⟨s2, bv, p2, H2, f2, n2⟩ := H1.down d hlv hne (by omega) (by simp; omega) (by simp)
    have hzl : (z :: u).length = u.length + 1 := rfl
    rw [hzl] at p2 H2
    have hq2 := f2.cl f1.wf hq1 (by simpa using hne)
    have hld2 := (ldP_fr f2 (by omega) (by simpa using hne) (o := o)).trans hld1
    have hdl : (downL (u.length + 1) (z :: u) 0).length = u.length + 1 := by rw [(downL_perm _ _ _).length_eq]; rfl
    obtain ⟨s3, p3, c3, H3, f3⟩ := H2.popM (d + 1) hq2 ho hne (by omega)
    rw [hdl] at c3 H3
    replace p1 : (K (d + 1 + 1)).call 93 [v, .i 0, .i ((u.length + 1 : Nat) : Int)] s = some (.tup [], s1) := p1
    refine ⟨s3, ?_, c3, ?_, (f1.mono (by simp)).trans ((f2.mono (by simp)).trans (f3.mono (by simp)))⟩
    · rw [op47]
      simp -implicitDefEqProofs (maxSteps := 5000000) (disch := first | assumption | omega | (simp only [one_i, one_int, one_bool, one_str, one_ptr, one_nilp, one_nils, one_slice, one_map, one_nilm, one_func, one_iface, same_i, same_bool, same_nils, same_ptr, same_map, same_slice, List.length_cons, List.length_nil, Nat.zero_add, Nat.reduceAdd, allOne_cons, allOne_nil, Bool.and_self]; done) | (simp only [List.length_cons, List.length_nil, List.length_map, List.length_set]; omega)) only [go_sem, hld, eL, em, p1, hld1, p2, p3]
    · rw [popL_snoc]; exact H3
end
end Go.Proofs.YtgfghbhcifkmgaaLab
