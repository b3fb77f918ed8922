/- The library's heap: one more sleeper. No condition on the program. -/
import Derived.Test.YtgfghbhcifkmgaaSC
namespace Go.Proofs.YtgfghbhcifkmgaaLab
open Go
set_option linter.all false
set_option maxRecDepth 10000
noncomputable section
/-- Sleepers, or none yet. -/
def SlR (s : St) (v : V) (l : List Sl) : Prop := (l = [] ∧ v = .nils) ∨ ∃ b, SP s v b l
theorem SlR.fr {s s' : St} {v : V} {l : List Sl} {L : List Nat} (h : SlR s v l) (f : Fr s s' L) (hd : ∀ b ∈ blkV v, b ∉ L) : SlR s' v l := by
  rcases h with h | ⟨b, h⟩
  · exact .inl h
  · have := h.v
    exact .inr ⟨b, h.fr f (hd b (by rw [this]; simp [blkV]))⟩
theorem SlR.push {s s1 : St} {v : V} {l : List Sl} {x : Sl} {y : Nat} (hw : Wf s1) (h : SlR s1 v l) (hy : Src s1 3 (.slice y 0 1 (some 1) 3) 1 x.cells) (hl : l.length ≤ 100000) :
    ∃ s2, apP 3 v (.slice y 0 1 (some 1) 3) s1 = some (.slice s1.next 0 (l.length + 1) none 3, s2) ∧ SP s2 (.slice s1.next 0 (l.length + 1) none 3) s1.next (l ++ [x]) ∧ Fr s1 s2 (blkV v) ∧ s2.next = s1.next + 1 := by
  have hx : flat3 [x] = x.cells := rfl
  rcases h with ⟨rfl, rfl⟩ | ⟨b, h⟩
  · obtain ⟨s2, e2, c2, f2, n2⟩ := eAp_nil hw hy (by omega)
    exact ⟨s2, e2, ⟨f2.wf, by simp, [], by rw [c2]; simp [hx]⟩, f2.mono (by simp), n2⟩
  · have hv := h.v
    subst hv
    obtain ⟨r, hr⟩ := h.c
    have hlen := flat3_len l
    obtain ⟨s2, e2, c2, f2, n2⟩ := eAp_move (o := 0) (len := l.length) hw hy (by omega) (by omega) hr (by rw [List.length_append]; omega)
    refine ⟨s2, e2, ⟨f2.wf, by simp, [], ?_⟩, f2, n2⟩
    rw [c2, List.drop_zero, List.take_left' (by omega), flat3_append, hx, List.append_nil]
theorem push_eq {s : St} (hw : Wf s) {q o : Nat} {M : List V} {v : V} {l : List Sl} {x : Sl} (hq : s.cl q = some M) (ho : M[o]? = some v) (hR : SlR s v l) (hne : q ∉ blkV v) (hl : l.length ≤ 1000) (d : Nat) :
    ∃ s' b', (K (d + 3)).call 45 [.iface 84 (.ptr q o), .iface 86 (.agg x.cells)] s = some (.tup [], s') ∧ s'.cl q = some (M.set o (.slice b' 0 (l.length + 1) none 3)) ∧ SP s' (.slice b' 0 (l.length + 1) none 3) b' (upL (l.length + 1) (l ++ [x]) l.length) ∧ s.next ≤ b' ∧ b' < s'.next ∧ Fr s s' (q :: blkV v) := by
  have hol := (List.getElem?_eq_some_iff.1 ho).1
  have hql := cl_lt hw hq
  obtain ⟨s1, p1, c1, f1, n1⟩ := new_ex (s := s) (l := x.cells) (n := 3) hw rfl
  obtain ⟨s2, p2, H2, f2, n2⟩ := (hR.fr f1 (by simp)).push (s := s) (x := x) (y := s.next) f1.wf (Src.full f1.wf c1 rfl (by intro v hv; simp [Sl.cells] at hv; rcases hv with rfl | rfl | rfl <;> rfl) (by omega)) (by omega)
  have hq2 := f2.cl f1.wf (f1.cl hw hq (by simp)) hne
  obtain ⟨s3, p3, c3, f3, n3⟩ := eSt_ex (s := s2) (o := o) (v := .slice s1.next 0 (l.length + 1) none 3) f2.wf hq2 hol rfl
  have H3 := H2.fr f3 (by simp; omega)
  have hld := dLd_at f3.wf c3 (o := o) (by rw [List.length_set]; exact hol)
  rw [List.getElem?_set_self hol] at hld
  have e95 : (K (d + 2)).call 95 [.ptr q o, .iface 86 (.agg x.cells)] s = some (.tup [], s3) := by
    have hsame : sameV 100 v v = true := by
      rcases hR with ⟨_, rfl⟩ | ⟨b, h⟩
      · exact same_nils
      · rw [h.v]; exact same_slice _ _ _ _ _
    have hld0 := dLd_eq hw hq ho
    have hlx : x.cells.length = 3 := rfl
    have hox : allOne x.cells = true := rfl
    rw [op95]
    simp -implicitDefEqProofs (maxSteps := 5000000) (disch := first | assumption | omega | (simp only [one_i, one_int, one_bool, one_str, one_ptr, one_nilp, one_nils, one_slice, one_map, one_nilm, one_func, one_iface, same_i, same_bool, same_nils, same_ptr, same_map, same_slice, List.length_cons, List.length_nil, Nat.zero_add, Nat.reduceAdd, allOne_cons, allOne_nil, Bool.and_self]; done) | (simp only [List.length_cons, List.length_nil, List.length_map, List.length_set]; omega)) only [go_sem, hld0, hlx, hox, p1, p2, p3]
  have eL := H3.len (d + 1)
  have ell : ((l ++ [x]).length : Nat) = l.length + 1 := by simp
  rw [ell] at eL
  obtain ⟨s4, p4, H4, f4, n4⟩ := H3.up d hld (by omega) (by omega) l.length (by simp) (by simp; omega)
  have em : ((l.length + 1 : Nat) : Int) - 1 = (l.length : Nat) := by omega
  refine ⟨s4, s1.next, ?_, f4.cl f3.wf c3 (by simp; omega), H4, by omega, by omega, ?_⟩
  · rw [op45]
    simp -implicitDefEqProofs (maxSteps := 5000000) (disch := first | assumption | omega | (simp only [one_i, one_int, one_bool, one_str, one_ptr, one_nilp, one_nils, one_slice, one_map, one_nilm, one_func, one_iface, same_i, same_bool, same_nils, same_ptr, same_map, same_slice, List.length_cons, List.length_nil, Nat.zero_add, Nat.reduceAdd, allOne_cons, allOne_nil, Bool.and_self]; done) | (simp only [List.length_cons, List.length_nil, List.length_map, List.length_set]; omega)) only [go_sem, e95, hld, eL, em, p4]
  · have F3 : Fr s s3 (q :: blkV v) := (f1.mono (by simp)).trans ((f2.mono (fun y hy => .inl (by simp [hy]))).trans (f3.mono (by simp)))
    exact F3.trans' f4 (fun y hy => .inr (by simp at hy; omega))
end
end Go.Proofs.YtgfghbhcifkmgaaLab
