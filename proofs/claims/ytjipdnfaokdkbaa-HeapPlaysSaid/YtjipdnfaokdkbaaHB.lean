/- The heap's functions that turn it: what they do. No condition on the program. -/
import Derived.Test.YtjipdnfaokdkbaaHA
namespace Go.Proofs.YtjipdnfaokdkbaaLab
open Go
set_option linter.all false
set_option maxRecDepth 10000
noncomputable section
section
variable {s : St} {p bw bb : Nat} {n : Nat} {words : List Int} {begins : List Bool} {next : Nat} {sh mp : V}
theorem HR.setW {s' : St} (H : HR s p bw bb n words begins next sh mp) (f : Fr s s' [bw]) {ws : List Int} (h : s'.cl bw = some (ws.map .i)) (hl : ws.length = words.length) : HR s' p bw bb n ws begins next sh mp :=
  ⟨f.wf, f.cl H.wf H.hp (by simpa using H.d1), h, f.cl H.wf H.hb (by simpa using H.d3.symm), hl.trans H.lw, H.lb, H.nn, H.n1, H.nx, H.d1, H.d2, H.d3⟩
theorem HR.setB {s' : St} (H : HR s p bw bb n words begins next sh mp) (f : Fr s s' [bb]) {bs : List Bool} (h : s'.cl bb = some (bs.map .bool)) (hl : bs.length = begins.length) : HR s' p bw bb n words bs next sh mp :=
  ⟨f.wf, f.cl H.wf H.hp (by simpa using H.d2), f.cl H.wf H.hw (by simpa using H.d3), h, H.lw, hl.trans H.lb, H.nn, H.n1, H.nx, H.d1, H.d2, H.d3⟩
theorem HR.setN {s' : St} (H : HR s p bw bb n words begins next sh mp) (f : Fr s s' [p]) {nx : Nat} (h : s'.cl p = some [.slice bw 0 n (some n) 1, .slice bb 0 n (some n) 1, .i nx, sh, mp]) (h1 : 1 ≤ nx) (hn : nx ≤ n) : HR s' p bw bb n words begins nx sh mp :=
  ⟨f.wf, h, f.cl H.wf H.hw (by simpa using H.d1.symm), f.cl H.wf H.hb (by simpa using H.d2.symm), H.lw, H.lb, H.nn, h1, hn, H.d1, H.d2, H.d3⟩
theorem HR.other {s' : St} {l : List Nat} (H : HR s p bw bb n words begins next sh mp) (f : Fr s s' l) (h1 : p ∉ l) (h2 : bw ∉ l) (h3 : bb ∉ l) : HR s' p bw bb n words begins next sh mp :=
  ⟨f.wf, f.cl H.wf H.hp h1, f.cl H.wf H.hw h2, f.cl H.wf H.hb h3, H.lw, H.lb, H.nn, H.n1, H.nx, H.d1, H.d2, H.d3⟩
theorem map_set_i (l : List Int) (o : Nat) (v : Int) : (l.map V.i).set o (.i v) = (l.set o v).map .i := by rw [List.map_set]
theorem map_set_b (l : List Bool) (o : Nat) (v : Bool) : (l.map V.bool).set o (.bool v) = (l.set o v).map .bool := by rw [List.map_set]
/-- What 'put' leaves in the words. -/
def putW (words : List Int) (next m : Nat) (shape : Int) : List Int := ((words.take next ++ List.replicate (3 + m) 0 ++ words.drop (next + (3 + m))).set next shape).set (next + 1) m
theorem putW_len {words : List Int} {next m : Nat} {shape : Int} (h : next + (3 + m) ≤ words.length) : (putW words next m shape).length = words.length := by simp [putW]; omega
theorem HR.put (H : HR s p bw bb n words begins next sh mp) (d : Nat) (shape : Int) (m : Nat) (hm : m < 20000) :
    (n < next + 3 + m → (K (d + 2)).call 37 [.ptr p 0, .i shape, .i m] s = some (.tup [.i 0, .i 26], s)) ∧
    (next + 3 + m ≤ n → ∃ s', (K (d + 2)).call 37 [.ptr p 0, .i shape, .i m] s = some (.tup [.i next, .i 0], s') ∧ HR s' p bw bb n (putW words next m shape) (begins.set next true) (next + 3 + m) sh mp ∧ Fr s s' [p, bw, bb] ∧ s'.next = s.next) := by
  have ew := H.fnWords d
  have eu := H.fnUsed d
  obtain ⟨hw, h1, h2, h3, h4, h5, h6, h7, h8, d1, d2, d3⟩ := H
  constructor
  · intro hlt
    have c : (n : Int) - 1 - (next - 1) - 3 < m := by omega
    rw [op37]
    simp -implicitDefEqProofs (maxSteps := 5000000) (disch := first | assumption | omega | (simp only [one_i, one_int, one_bool, one_str, one_ptr, one_nilp, one_nils, one_slice, one_map, one_nilm, one_func, one_iface, same_i, same_bool, same_nils, same_ptr, same_map, same_slice, List.length_cons, List.length_nil, Nat.zero_add, Nat.reduceAdd, allOne_cons, allOne_nil, Bool.and_self]; done) | (simp only [List.length_cons, List.length_nil, List.length_map, List.length_set]; omega)) only [go_sem, fAdd_eq, ew, eu, dLd_at hw h1, c]
  · intro hle
    have c : ¬ (n : Int) - 1 - (next - 1) - 3 < m := by omega
    have e1 : ((next : Int)).toNat = next := by omega
    have e2 : ((next : Int) + 3 + m).toNat = next + 3 + m := by omega
    have e2b : next + 3 + m - next = 3 + m := by omega
    have e4 : ((next : Int) + 1).toNat = next + 1 := by omega
    obtain ⟨s1, E1, q1, f1, n1⟩ := eClr_ex (s := s) (z := .i 0) (o := next) (len := 3 + m) (c := some (n - next)) (es := 1) hw h2 (by simp; omega)
    have H : HR s p bw bb n words begins next sh mp := ⟨hw, h1, h2, h3, h4, h5, h6, h7, h8, d1, d2, d3⟩
    have x1 : putL (words.map V.i) next (List.replicate (3 + m) (.i 0)) = (words.take next ++ List.replicate (3 + m) 0 ++ words.drop (next + (3 + m))).map .i := by
      unfold putL; simp
    rw [x1] at q1
    have H1 := H.setW f1 q1 (by simp; omega)
    obtain ⟨s2, E2, q2, f2, n2⟩ := eSt_ex (s := s1) (o := next) (v := .i shape) H1.wf H1.hw (by simp; omega) rfl
    rw [map_set_i] at q2
    have H2 := H1.setW f2 q2 (by simp)
    obtain ⟨s3, E3, q3, f3, n3⟩ := eSt_ex (s := s2) (o := next + 1) (v := .i m) H2.wf H2.hw (by simp; omega) rfl
    rw [map_set_i] at q3
    have H3 := H2.setW f3 q3 (by simp)
    obtain ⟨s4, E4, q4, f4, n4⟩ := eSt_ex (s := s3) (o := next) (v := .bool true) H3.wf H3.hb (by simp; omega) rfl
    rw [map_set_b] at q4
    have H4 := H3.setB f4 q4 (by simp)
    obtain ⟨s5, E5, q5, f5, n5⟩ := eSt_ex (s := s4) (o := 2) (v := .i (next + (3 + m) : Int)) H4.wf H4.hp (by simp) rfl
    have H5 := H4.setN f5 (nx := next + 3 + m) (by rw [q5]; simp; omega) (by omega) (by omega)
    have e3 : (next : Int) + (3 + m) = ((next + 3 + m : Nat) : Int) := by omega
    rw [op37]
    refine ⟨s5, ?_, H5, ?_, by rw [n5, n4, n3, n2, n1]⟩
    · simp -implicitDefEqProofs (maxSteps := 5000000) (disch := first | assumption | omega | (simp only [one_i, one_int, one_bool, one_str, one_ptr, one_nilp, one_nils, one_slice, one_map, one_nilm, one_func, one_iface, same_i, same_bool, same_nils, same_ptr, same_map, same_slice, List.length_cons, List.length_nil, Nat.zero_add, Nat.reduceAdd, allOne_cons, allOne_nil, Bool.and_self]; done) | (simp only [List.length_cons, List.length_nil, List.length_map, List.length_set]; omega)) only [go_sem, fAdd_eq, ew, eu, dLd_at hw h1, dLd_at H1.wf H1.hp, dLd_at H2.wf H2.hp, dLd_at H3.wf H3.hp, dLd_at H4.wf H4.hp, c, e1, e2, e2b, e4, E1, E2, E3, E4, E5]
    · exact (f1.mono (by simp)).trans ((f2.mono (by simp)).trans ((f3.mono (by simp)).trans ((f4.mono (by simp)).trans (f5.mono (by simp)))))
end
end
end Go.Proofs.YtjipdnfaokdkbaaLab
