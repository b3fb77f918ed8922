/- Threads that are picked; new ones. No condition on the program. -/
import Derived.Test.YtgfghbhcifkmgaaSE
namespace Go.Proofs.YtgfghbhcifkmgaaLab
open Go
set_option linter.all false
set_option maxRecDepth 10000
noncomputable section
/-- Who is picked. -/
def pickV (ths : List Th) (m : Nat) : V := match (inL 1 ths 0)[m % (inL 1 ths 0).length]? with | some r => .tup [.i r, .bool true] | none => .tup [.i 0, .bool false]
section
variable {s : St} {sp lm : Nat} {ths : List Th} {sl : List Sl} {now slept : Int} {FT : List Nat} (H : SS s sp lm ths sl now slept FT)
include H
theorem SS.pick (d : Nat) (m : Nat) (hm : m ≤ 1000000) (n : Int) (hn : n = m ∨ n = -(m : Int) - 1) : Ret ((K (d + 2)).call 21 [.ptr sp 0, .i n] s) fun v s' => v = pickV ths m ∧ Fr s s' [] := by
  obtain ⟨slV, HC, _, _⟩ := H.h
  have hw := HC.wf
  obtain ⟨v, s1, e1, hg, f1, hb⟩ := HC.inn d 1
  have hlen := hg.len
  rw [List.length_map] at hlen
  have hl8 := HC.l8
  have hin := inL_len 1 ths 0
  unfold pickV
  generalize inL 1 ths 0 = l at *
  by_cases c0 : l.length = 0
  · have : l = [] := List.length_eq_zero_iff.1 c0
    subst this
    replace hlen : uLenS v = some (.i 0) := hlen
    simp -implicitDefEqProofs (maxSteps := 5000000) (disch := first | assumption | omega | (simp only [one_i, one_int, one_bool, one_str, one_ptr, one_nilp, one_nils, one_slice, one_map, one_nilm, one_func, one_iface, same_i, same_bool, same_nils, same_ptr, same_map, same_slice, List.length_cons, List.length_nil, Nat.zero_add, Nat.reduceAdd, allOne_cons, allOne_nil, Bool.and_self]; done) | (simp only [List.length_cons, List.length_nil, List.length_map, List.length_set]; omega)) only [op21, go_sem, e1, hlen, eq_self]
    exact ⟨rfl, f1⟩
  · have c : ¬ ((l.length : Nat) : Int) = 0 := by omega
    have hlt : m % l.length < l.length := Nat.mod_lt _ (by omega)
    obtain ⟨r, hr⟩ : ∃ r, l[m % l.length]? = some r := ⟨_, List.getElem?_eq_getElem hlt⟩
    rw [hr]
    obtain ⟨q, a1, a2⟩ := (hg.sl f1.wf).at f1.wf (j := m % l.length) (x := .i r) (by rw [List.getElem?_map, hr]; rfl)
    have em : ((m : Nat) : Int).tmod ((l.length : Nat) : Int) = ((m % l.length : Nat) : Int) := rfl
    rcases hn with rfl | rfl
    · have c1 : ¬ ((m : Nat) : Int) < 0 := by omega
      simp -implicitDefEqProofs (maxSteps := 5000000) (disch := first | assumption | omega | (simp only [one_i, one_int, one_bool, one_str, one_ptr, one_nilp, one_nils, one_slice, one_map, one_nilm, one_func, one_iface, same_i, same_bool, same_nils, same_ptr, same_map, same_slice, List.length_cons, List.length_nil, Nat.zero_add, Nat.reduceAdd, allOne_cons, allOne_nil, Bool.and_self]; done) | (simp only [List.length_cons, List.length_nil, List.length_map, List.length_set]; omega)) only [op21, go_sem, e1, hlen, c, c1, em, a1, a2]
      exact ⟨(by first | trivial | rfl | assumption), f1⟩
    · have c1 : -((m : Nat) : Int) - 1 < 0 := by omega
      have e2 : -(-((m : Nat) : Int) - 1 + 1) = (m : Nat) := by omega
      simp -implicitDefEqProofs (maxSteps := 5000000) (disch := first | assumption | omega | (simp only [one_i, one_int, one_bool, one_str, one_ptr, one_nilp, one_nils, one_slice, one_map, one_nilm, one_func, one_iface, same_i, same_bool, same_nils, same_ptr, same_map, same_slice, List.length_cons, List.length_nil, Nat.zero_add, Nat.reduceAdd, allOne_cons, allOne_nil, Bool.and_self]; done) | (simp only [List.length_cons, List.length_nil, List.length_map, List.length_set]; omega)) only [op21, go_sem, e1, hlen, c, c1, e2, em, a1, a2]
      exact ⟨(by first | trivial | rfl | assumption), f1⟩
theorem SS.start (d : Nat) (h8 : ths.length < 8) : ∃ s', (K (d + 1)).call 12 [.ptr sp 0] s = some (.tup [.i (ths.length : Nat), .i 0], s') ∧ SS s' sp lm (ths ++ [⟨1, 0, 0, 0⟩]) sl now slept ((s.next + 2) :: s.next :: FT) ∧ Fr s s' (sp :: FT) ∧ s'.next = s.next + 3 ∧ ∀ thV x slV y z, s'.cl sp = some [thV, x, slV, y, z] → ∃ thV', s.cl sp = some [thV', x, slV, y, z] := by
  obtain ⟨slV, HC, hsl, hbl⟩ := H.h
  obtain ⟨s', b, e1, H1, f1, n1, _⟩ := HC.start d h8
  refine ⟨s', e1, ⟨⟨slV, H1, hsl.fr f1 (fun x hx => by
      simp only [List.mem_cons]
      rintro (e | e)
      · exact (hbl x hx).1 e
      · exact (hbl x hx).2.1 e), fun x hx => ⟨(hbl x hx).1, fun hm => ?_, by have := (hbl x hx).2.2; omega⟩⟩, H.nw, H.sn, H.ll⟩, f1, n1, fun thV x slV2 y z hc => ?_⟩
  · have := (hbl x hx).2.2
    simp only [List.mem_cons] at hm
    rcases hm with h | h | h
    · omega
    · omega
    · exact (hbl x hx).2.1 h
  · obtain ⟨thV1, bs1, q1, _⟩ := H1.ex
    obtain ⟨thV0, bs0, q0, _⟩ := HC.ex
    rw [q1] at hc
    simp only [Option.some.injEq, List.cons.injEq, and_true] at hc
    obtain ⟨_, rfl, rfl, rfl, rfl⟩ := hc
    exact ⟨thV0, q0⟩
end
theorem new_sched {s : St} (hw : Wf s) (d : Nat) : ∃ s', (K (d + 1)).call 10 [] s = some (.ptr (s.next + 1) 0, s') ∧ SS s' (s.next + 1) s.next [] [] 0 0 [] ∧ Fr s s' [] ∧ s'.next = s.next + 2 ∧ s'.cl (s.next + 1) = some [.nils, .map s.next, .nils, .int .u64 0, .i 0] := by
  obtain ⟨s1, e1, c1, f1, n1⟩ : ∃ s', s.new (.map [] [] 0) = s' ∧ s'.mp s.next = some ([], [], 0) ∧ Fr s s' [] ∧ s'.next = s.next + 1 :=
    ⟨_, rfl, by unfold St.mp; rw [new_at hw], ⟨hw.new trivial, Nat.le_succ _, fun j hj _ => new_ne (by omega)⟩, rfl⟩
  obtain ⟨s2, e2, c2, f2, n2⟩ := new_ex (s := s1) (l := [V.nils, .map s.next, .nils, .int .u64 0, .i 0]) (n := 5) f1.wf rfl
  rw [n1] at c2
  refine ⟨s2, ?_, ⟨⟨.nils, ⟨f2.wf, ⟨_, [], c2, ⟨.inl ⟨rfl, rfl⟩, rfl, by simp, by simp [blkV], List.Pairwise.nil, by simp [blkV], by simp⟩⟩, by simp, by simp, by simp⟩, .inl ⟨rfl, rfl⟩, by simp [blkV]⟩, by omega, by omega, by simp⟩, f1.trans f2, by omega, c2⟩
  rw [op10]
  simp -implicitDefEqProofs (maxSteps := 5000000) (disch := first | assumption | omega | (simp only [one_i, one_int, one_bool, one_str, one_ptr, one_nilp, one_nils, one_slice, one_map, one_nilm, one_func, one_iface, same_i, same_bool, same_nils, same_ptr, same_map, same_slice, List.length_cons, List.length_nil, Nat.zero_add, Nat.reduceAdd, allOne_cons, allOne_nil, Bool.and_self]; done) | (simp only [List.length_cons, List.length_nil, List.length_map, List.length_set]; omega)) only [go_sem, e1, e2, n1]
end
end Go.Proofs.YtgfghbhcifkmgaaLab
