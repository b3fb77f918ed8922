/- Sleepers in a row: told apart, exchanged. No condition on the program. -/
import Derived.Test.YtgfghbhcifkmgaaSA
namespace Go.Proofs.YtgfghbhcifkmgaaLab
open Go
set_option linter.all false
set_option maxRecDepth 10000
noncomputable section
structure Sl where
  w : Int
  o : Int
  t : Int
def Sl.cells (x : Sl) : List V := [.int .u64 x.w, .i x.o, .i x.t]
def flat3 : List Sl → List V | [] => [] | x :: l => .int .u64 x.w :: .i x.o :: .i x.t :: flat3 l
theorem flat3_len : ∀ l, (flat3 l).length = 3 * l.length
  | [] => rfl
  | x :: l => by simp [flat3, flat3_len l]; omega
theorem flat3_append : ∀ (a b : List Sl), flat3 (a ++ b) = flat3 a ++ flat3 b
  | [], b => rfl
  | x :: a, b => by simp [flat3, flat3_append a b]
theorem flat3_one : ∀ (l : List Sl), ∀ v ∈ flat3 l, v.one = true
  | [], v, h => by simp [flat3] at h
  | x :: l, v, h => by
    simp only [flat3, List.mem_cons] at h
    rcases h with rfl | rfl | rfl | h
    · rfl
    · rfl
    · rfl
    · exact flat3_one l v h
theorem flat3_at : ∀ {l : List Sl} {i : Nat} {x : Sl}, l[i]? = some x → (flat3 l)[i * 3]? = some (.int .u64 x.w) ∧ (flat3 l)[i * 3 + 1]? = some (.i x.o) ∧ (flat3 l)[i * 3 + 2]? = some (.i x.t)
  | [], i, x, h => by simp at h
  | y :: l, 0, x, h => by simp at h; subst h; simp [flat3]
  | y :: l, i + 1, x, h => by
    have := flat3_at (l := l) (i := i) (x := x) (by simpa using h)
    rw [show (i + 1) * 3 = i * 3 + 1 + 1 + 1 by omega]
    simpa [flat3] using this
theorem flat3_set : ∀ {l : List Sl} {i : Nat} (x : Sl) (r : List V), i < l.length → putL (flat3 l ++ r) (i * 3) x.cells = flat3 (l.set i x) ++ r
  | [], i, x, r, h => by simp at h
  | y :: l, 0, x, r, h => by simp [flat3, putL, Sl.cells]
  | y :: l, i + 1, x, r, h => by
    have := flat3_set (l := l) (i := i) x r (by simpa using h)
    rw [show (i + 1) * 3 = i * 3 + 1 + 1 + 1 by omega]
    unfold putL at this ⊢
    simp only [flat3, List.cons_append, List.take_succ_cons, List.set_cons_succ, Sl.cells, List.length_cons, List.length_nil] at this ⊢
    rw [show i * 3 + 1 + 1 + 1 + (0 + 1 + 1 + 1) = (i * 3 + (0 + 1 + 1 + 1)) + 1 + 1 + 1 by omega, List.drop_succ_cons, List.drop_succ_cons, List.drop_succ_cons]
    congr 3
/-- Who wakes first. -/
def lessS (a b : Sl) : Bool := decide (a.w < b.w) || (decide (a.w = b.w) && decide (a.o < b.o))
/-- A row of sleepers. -/
structure SP (s : St) (v : V) (b : Nat) (l : List Sl) : Prop where
  wf : Wf s
  v : v = .slice b 0 l.length none 3
  c : ∃ r, s.cl b = some (flat3 l ++ r)
theorem SP.fr {s s' : St} {v : V} {b : Nat} {l : List Sl} {L : List Nat} (h : SP s v b l) (f : Fr s s' L) (hb : b ∉ L) : SP s' v b l := by
  obtain ⟨r, hr⟩ := h.c
  exact ⟨f.wf, h.v, r, f.cl h.wf hr hb⟩
section
variable {s : St} {v : V} {b : Nat} {l : List Sl} (H : SP s v b l)
include H
theorem SP.ld {i : Nat} {x : Sl} (hi : l[i]? = some x) : ldP (.ptr b (i * 3)) s = some (.int .u64 x.w) ∧ ldP (.ptr b (i * 3 + 1)) s = some (.i x.o) ∧ ldP (.ptr b (i * 3 + 2)) s = some (.i x.t) ∧ ldNP 3 (.ptr b (i * 3)) s = some (.agg x.cells) := by
  obtain ⟨r, hr⟩ := H.c
  obtain ⟨h0, h1, h2⟩ := flat3_at hi
  have hl := (List.getElem?_eq_some_iff.1 hi).1
  have hlen := flat3_len l
  have g0' : (flat3 l ++ r)[i * 3]? = some (.int .u64 x.w) := by rw [List.getElem?_append_left (by omega)]; exact h0
  have g1' : (flat3 l ++ r)[i * 3 + 1]? = some (.i x.o) := by rw [List.getElem?_append_left (by omega)]; exact h1
  have g2' : (flat3 l ++ r)[i * 3 + 2]? = some (.i x.t) := by rw [List.getElem?_append_left (by omega)]; exact h2
  refine ⟨dLd_eq H.wf hr g0', dLd_eq H.wf hr g1', dLd_eq H.wf hr g2', ?_⟩
  rw [dLdN_eq H.wf hr (by rw [List.length_append]; omega)]
  obtain ⟨l0, e0⟩ := List.getElem?_eq_some_iff.1 g0'
  obtain ⟨l1, e1⟩ := List.getElem?_eq_some_iff.1 g1'
  obtain ⟨l2, e2⟩ := List.getElem?_eq_some_iff.1 g2'
  rw [List.drop_eq_getElem_cons l0, List.drop_eq_getElem_cons l1, List.drop_eq_getElem_cons l2, e0, e1, e2]
  rfl
theorem SP.less (d : Nat) {i j : Nat} {x y : Sl} (hi : l[i]? = some x) (hj : l[j]? = some y) : (K (d + 1)).call 92 [v, .i (i : Nat), .i (j : Nat)] s = some (.bool (lessS x y), s) := by
  have hv := H.v
  subst hv
  have hil := (List.getElem?_eq_some_iff.1 hi).1
  have hjl := (List.getElem?_eq_some_iff.1 hj).1
  obtain ⟨a0, a1, _, _⟩ := H.ld hi
  obtain ⟨b0, b1, _, _⟩ := H.ld hj
  rw [op92]
  unfold lessS
  by_cases c : x.w < y.w
  · simp -implicitDefEqProofs (maxSteps := 5000000) (disch := first | assumption | omega | (simp only [one_i, one_int, one_bool, one_str, one_ptr, one_nilp, one_nils, one_slice, one_map, one_nilm, one_func, one_iface, same_i, same_bool, same_nils, same_ptr, same_map, same_slice, List.length_cons, List.length_nil, Nat.zero_add, Nat.reduceAdd, allOne_cons, allOne_nil, Bool.and_self]; done) | (simp only [List.length_cons, List.length_nil, List.length_map, List.length_set]; omega)) only [go_sem, Int.toNat_natCast, Nat.zero_add, a0, b0, c, Bool.true_or]
  · by_cases c2 : x.w = y.w
    · have c3 : ¬ y.w < y.w := by omega
      simp -implicitDefEqProofs (maxSteps := 5000000) (disch := first | assumption | omega | (simp only [one_i, one_int, one_bool, one_str, one_ptr, one_nilp, one_nils, one_slice, one_map, one_nilm, one_func, one_iface, same_i, same_bool, same_nils, same_ptr, same_map, same_slice, List.length_cons, List.length_nil, Nat.zero_add, Nat.reduceAdd, allOne_cons, allOne_nil, Bool.and_self]; done) | (simp only [List.length_cons, List.length_nil, List.length_map, List.length_set]; omega)) only [go_sem, Int.toNat_natCast, Nat.zero_add, a0, a1, b0, b1, c3, c2, Bool.false_or, Bool.true_and]
    · simp -implicitDefEqProofs (maxSteps := 5000000) (disch := first | assumption | omega | (simp only [one_i, one_int, one_bool, one_str, one_ptr, one_nilp, one_nils, one_slice, one_map, one_nilm, one_func, one_iface, same_i, same_bool, same_nils, same_ptr, same_map, same_slice, List.length_cons, List.length_nil, Nat.zero_add, Nat.reduceAdd, allOne_cons, allOne_nil, Bool.and_self]; done) | (simp only [List.length_cons, List.length_nil, List.length_map, List.length_set]; omega)) only [go_sem, Int.toNat_natCast, Nat.zero_add, a0, b0, c, c2, Bool.false_or, Bool.false_and]
theorem SP.len (d : Nat) : (K (d + 1)).call 91 [v] s = some (.i (l.length : Nat), s) := by
  have hv := H.v
  subst hv
  rw [op91]
  simp -implicitDefEqProofs (maxSteps := 5000000) (disch := first | assumption | omega | (simp only [one_i, one_int, one_bool, one_str, one_ptr, one_nilp, one_nils, one_slice, one_map, one_nilm, one_func, one_iface, same_i, same_bool, same_nils, same_ptr, same_map, same_slice, List.length_cons, List.length_nil, Nat.zero_add, Nat.reduceAdd, allOne_cons, allOne_nil, Bool.and_self]; done) | (simp only [List.length_cons, List.length_nil, List.length_map, List.length_set]; omega)) only [go_sem, uLenS_slice]
theorem SP.swap (d : Nat) {i j : Nat} {x y : Sl} (hi : l[i]? = some x) (hj : l[j]? = some y) : ∃ s', (K (d + 1)).call 93 [v, .i (i : Nat), .i (j : Nat)] s = some (.tup [], s') ∧ SP s' v b ((l.set i y).set j x) ∧ Fr s s' [b] ∧ s'.next = s.next := by
  have hv := H.v
  have hil := (List.getElem?_eq_some_iff.1 hi).1
  have hjl := (List.getElem?_eq_some_iff.1 hj).1
  obtain ⟨_, _, _, a3⟩ := H.ld hi
  obtain ⟨_, _, _, b3⟩ := H.ld hj
  obtain ⟨r, hr⟩ := H.c
  have hlen := flat3_len l
  obtain ⟨s1, p1, c1, f1, n1⟩ := eSt_exN (s := s) (b := b) (o := i * 3) (vs := y.cells) (m := 3) H.wf hr rfl (by rw [List.length_append]; omega) (by intro v hv; simp [Sl.cells] at hv; rcases hv with rfl | rfl | rfl <;> rfl)
  rw [flat3_set y r hil] at c1
  have hlen1 := flat3_len (l.set i y)
  rw [List.length_set] at hlen1
  obtain ⟨s2, p2, c2, f2, n2⟩ := eSt_exN (s := s1) (b := b) (o := j * 3) (vs := x.cells) (m := 3) f1.wf c1 rfl (by rw [List.length_append]; omega) (by intro v hv; simp [Sl.cells] at hv; rcases hv with rfl | rfl | rfl <;> rfl)
  rw [flat3_set x r (by rw [List.length_set]; exact hjl)] at c2
  subst hv
  refine ⟨s2, ?_, ⟨f2.wf, by simp, r, c2⟩, f1.trans f2, by omega⟩
  rw [op93]
  simp -implicitDefEqProofs (maxSteps := 5000000) (disch := first | assumption | omega | (simp only [one_i, one_int, one_bool, one_str, one_ptr, one_nilp, one_nils, one_slice, one_map, one_nilm, one_func, one_iface, same_i, same_bool, same_nils, same_ptr, same_map, same_slice, List.length_cons, List.length_nil, Nat.zero_add, Nat.reduceAdd, allOne_cons, allOne_nil, Bool.and_self]; done) | (simp only [List.length_cons, List.length_nil, List.length_map, List.length_set]; omega)) only [go_sem, Int.toNat_natCast, Nat.zero_add, a3, b3, p1, p2]
end
end
end Go.Proofs.YtgfghbhcifkmgaaLab
