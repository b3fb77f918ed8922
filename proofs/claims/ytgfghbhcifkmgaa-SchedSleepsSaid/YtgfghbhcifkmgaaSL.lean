/- The library's heap: the last one taken off. No condition on the program. -/
import Derived.Test.YtgfghbhcifkmgaaSK
namespace Go.Proofs.YtgfghbhcifkmgaaLab
open Go
set_option linter.all false
set_option maxRecDepth 10000
noncomputable section
theorem SP.popM {s : St} {v : V} {b : Nat} {l : List Sl} {x : Sl} (H : SP s v b (l ++ [x])) (d : Nat) {q o : Nat} {M : List V} (hq : s.cl q = some M) (ho : M[o]? = some v) (hne : q ≠ b) (hl : l.length ≤ 1000) : ∃ s', (K (d + 1)).call 94 [.ptr q o] s = some (.iface 86 (.agg x.cells), s') ∧ s'.cl q = some (M.set o (.slice b 0 l.length none 3)) ∧ SP s' (.slice b 0 l.length none 3) b l ∧ Fr s s' [q] := by
  have hw := H.wf
  have hol := (List.getElem?_eq_some_iff.1 ho).1
  have hql := cl_lt hw hq
  have hx : (l ++ [x])[l.length]? = some x := by simp
  obtain ⟨_, _, _, a3⟩ := H.ld hx
  have hv := H.v
  obtain ⟨r, hr⟩ := H.c
  have hbl := cl_lt hw hr
  have hld := dLd_eq hw hq ho
  obtain ⟨s1, p1, c1, f1, n1⟩ := new_ex (s := s) (l := [V.int .u64 0, .i 0, .i 0]) (n := 3) hw rfl
  obtain ⟨s2, p2, c2, f2, n2⟩ := eSt_exN (s := s1) (b := s.next) (o := 0) (vs := x.cells) (m := 3) f1.wf c1 rfl (by simp) (by intro v hv; simp [Sl.cells] at hv; rcases hv with rfl | rfl | rfl <;> rfl)
  have F2 : Fr s s2 [] := f1.trans' f2 (by simp)
  have hq2 := F2.cl hw hq (by simp)
  have hld2 := dLd_eq F2.wf hq2 ho
  obtain ⟨s3, p3, c3, f3, n3⟩ := eSt_ex (s := s2) (b := q) (o := o) (v := .slice b 0 l.length none 3) F2.wf hq2 hol rfl
  have hy2 : s2.cl s.next = some x.cells := by rw [c2]; simp [putL, Sl.cells]
  have hy3 := f3.cl F2.wf hy2 (by simp; omega)
  have eN := dLdN_eq (o := 0) (m := 3) f3.wf hy3 (by simp [Sl.cells])
  have eN' : ldNP 3 (.ptr s.next 0) s3 = some (.agg x.cells) := by rw [eN]; rfl
  have em : ((l.length + 1 : Nat) : Int) - 1 = (l.length : Nat) := by omega
  have hv' : v = .slice b 0 (l.length + 1) none 3 := by rw [hv]; simp
  subst hv'
  have hsame := same_slice b 0 (l.length + 1) 3 none
  have hs3 : seesB (some (V.agg x.cells)) (V.agg x.cells) = true := by
    show sameL 99 [V.int .u64 x.w, .i x.o, .i x.t] [V.int .u64 x.w, .i x.o, .i x.t] = true
    simp [sameL, sameV, eqI_self]
  have hr3 := f3.cl F2.wf (F2.cl hw hr (by simp)) (by simp; exact fun e => hne e.symm)
  refine ⟨s3, ?_, c3, ⟨f3.wf, rfl, flat3 [x] ++ r, by rw [hr3, flat3_append]; simp⟩, (F2.mono (by simp)).trans f3⟩
  rw [op94]
  simp -implicitDefEqProofs (maxSteps := 5000000) (disch := first | assumption | omega | (simp only [one_i, one_int, one_bool, one_str, one_ptr, one_nilp, one_nils, one_slice, one_map, one_nilm, one_func, one_iface, same_i, same_bool, same_nils, same_ptr, same_map, same_slice, List.length_cons, List.length_nil, Nat.zero_add, Nat.reduceAdd, allOne_cons, allOne_nil, Bool.and_self]; done) | (simp only [List.length_cons, List.length_nil, List.length_map, List.length_set]; omega)) only [go_sem, hld, em, Int.toNat_natCast, Nat.zero_add, a3, p1, aAl_eq, p2, hld2, p3, eN', hs3]
end
end Go.Proofs.YtgfghbhcifkmgaaLab
