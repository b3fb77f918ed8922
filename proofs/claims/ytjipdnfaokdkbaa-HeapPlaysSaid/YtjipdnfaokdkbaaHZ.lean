/- The law HeapPlays: its run. No condition on the program. -/
import Derived.Test.YtjipdnfaokdkbaaIB
namespace Go.Proofs.YtjipdnfaokdkbaaLab
open Go
set_option linter.all false
set_option maxRecDepth 10000
noncomputable section
theorem AllQ.fr {s0 t t' : St} {p bw bb n bm rp : Nat} {w : Int} {i : Nat} (h : AllQ s0 p bw bb n bm rp w i t) (f : Fr t t' []) : AllQ s0 p bw bb n bm rp w i t' := by
  obtain ⟨os, ⟨z, shapes, F, FO, FS, T, h1⟩, h2⟩ := h
  exact ⟨os, ⟨z, shapes, F, FO, FS, T.fr f, h1⟩, h2.trans f⟩
theorem fin_step {s t : St} {p bw bb n bm rp : Nat} {w : Int} {i : Nat} {x1 : V} {e : E} (d : Nat) (hi : i < 40) (hQ : AllQ s p bw bb n bm rp w (i + 1) t) (z1 : e.a0.a1 = x1) (z5 : e.a0.a5 = .ptr p 0) (z7 : e.a0.a7 = .ptr rp 0) (z8 : e.a0.a8 = .i (i : Nat)) {P : E → St → Prop} {Q : Res → Prop}
    (hP : ∀ e2 t2, e2.a0.a1 = x1 → e2.a0.a5 = .ptr p 0 → e2.a0.a7 = .ptr rp 0 → e2.a0.a8 = .i ((i + 1 : Nat) : Int) → AllQ s p bw bb n bm rp w (i + 1) t2 → P e2 t2) : rnd (seqR (blkR 1 (seqR (blkR 2 (.nrm e t)) (p6_130 (K (d + 6))))) (p6_135 (K (d + 6)))) P Q := by
  obtain ⟨os, ⟨z, shapes, F, FO, FS, T, h1⟩, h2⟩ := hQ
  obtain ⟨v, t2, e1, rfl, f⟩ := same_eq T.h T.r (d + 1)
  simp -implicitDefEqProofs (maxSteps := 5000000) (disch := first | assumption | omega | (simp only [one_i, one_int, one_bool, one_str, one_ptr, one_nilp, one_nils, one_slice, one_map, one_nilm, one_func, one_iface, same_i, same_bool, same_nils, same_ptr, same_map, same_slice, List.length_cons, List.length_nil, Nat.zero_add, Nat.reduceAdd, allOne_cons, allOne_nil, Bool.and_self]; done) | (simp only [List.length_cons, List.length_nil, List.length_map, List.length_set]; omega)) only [go_sem, ↓p6_41.eq_1, ↓p6_36.eq_1, ↓p6_59.eq_1, ↓p6_80.eq_1, ↓p6_71.eq_1, ↓p6_88.eq_1, ↓p6_121.eq_1, ↓p6_98.eq_1, ↓p6_56.eq_1, ↓p6_130.eq_1, ↓p6_135.eq_1, fAdd_eq, z5, z7, z8, e1]
  exact hP _ _ (by first | trivial | rfl | assumption) (by first | trivial | rfl | assumption) (by first | trivial | rfl | assumption) (by first | trivial | rfl | assumption) (AllQ.fr ⟨os, ⟨z, shapes, F, FO, FS, T, h1⟩, h2⟩ f)
section
variable {s : St} (hw : Wf s) {x1 : V} {asks : List Ask} (hA : SA s x1 asks) (hbk : ∀ b ∈ blkV x1, b < s.next) (hB : ∀ a ∈ asks, AskOk s a)
include hw hA hbk hB
theorem heapPlays_run (a0 : Int) (d : Nat) : Ret ((K (d + 7)).call 6 [.i a0, x1] s) fun v s' => v = .bool true ∧ Fr s s' [] := by
  have hwi := withinI_le a0 0 599 (by omega)
  have e0 := within_eq s a0 0 599 (by omega) (by omega) (by omega) (d + 5)
  have hlen := hA.len
  generalize withinI a0 0 599 = w0 at *
  generalize hw1 : 1 + w0 = w at *
  obtain ⟨s1, e1, H1, f1, n1, m1⟩ := new_heap hw (d + 5) w (by omega) (by omega)
  obtain ⟨s2, e2, R2, f2, n2⟩ := new_ref f1.wf (d + 5) w (by omega) (by omega)
  have H2 := H1.fr f2 (by simp) (by simp) (by simp)
  have e3 := H2.hr.fnWords (d + 5)
  have m2 := f2.mp f1.wf m1 (by simp)
  have e4 : ((w.toNat + 1 : Nat) : Int) - 1 = w := by omega
  rw [e4] at e3
  have Q0 : AllQ s (s.next + 3) s.next (s.next + 1) (w.toNat + 1) (s.next + 2) s1.next w 0 s2 := by
    refine ⟨[], ⟨_, [], [], [], [], ⟨⟨⟨_, H2, .inl ⟨rfl, rfl⟩⟩, ⟨_, _, m2⟩, fun o ho => (by cases ho), fun b hb => (by cases hb)⟩, R2, by omega, fun r o ho => (by cases ho), ?_, ?_⟩, by simp, by simp⟩, f1.trans f2⟩
    · intro b hb
      simp only [List.mem_cons, List.not_mem_nil, or_false, List.append_nil] at hb ⊢
      omega
    · intro b hb
      simp only [List.mem_cons, List.not_mem_nil, or_false, List.append_nil] at hb
      omega
  generalize s.next + 3 = p at *
  generalize s.next + 2 = bm at *
  generalize s.next + 1 = bb at *
  generalize hbw : s.next = bw at *
  generalize s1.next = rp at *
  generalize w.toNat + 1 = n at *
  clear H1 H2 R2 m1 m2 n1 n2
  simp -implicitDefEqProofs (maxSteps := 5000000) (disch := first | assumption | omega | (simp only [one_i, one_int, one_bool, one_str, one_ptr, one_nilp, one_nils, one_slice, one_map, one_nilm, one_func, one_iface, same_i, same_bool, same_nils, same_ptr, same_map, same_slice, List.length_cons, List.length_nil, Nat.zero_add, Nat.reduceAdd, allOne_cons, allOne_nil, Bool.and_self]; done) | (simp only [List.length_cons, List.length_nil, List.length_map, List.length_set]; omega)) only [op6, go_sem, ↓p6_41.eq_1, ↓p6_36.eq_1, ↓p6_59.eq_1, ↓p6_80.eq_1, ↓p6_71.eq_1, ↓p6_88.eq_1, ↓p6_121.eq_1, ↓p6_98.eq_1, ↓p6_56.eq_1, ↓p6_130.eq_1, ↓p6_135.eq_1, fAdd_eq, e0, hw1, e1, e2, e3]
  refine loop_at (Q := fun r => Ret (retR _ (seqR (blkR 0 r) _)) _) (fun m e t => ∃ i : Nat, m = 40 - i ∧ i ≤ 40 ∧ AllQ s p bw bb n bm rp w i t ∧ g1 e = x1 ∧ g5 e = .ptr p 0 ∧ g7 e = .ptr rp 0 ∧ g8 e = .i i) ?_ (n := 40) (by omega) ⟨0, by omega, by omega, Q0, (by first | trivial | rfl | assumption), (by first | trivial | rfl | assumption), (by first | trivial | rfl | assumption), (by first | trivial | rfl | assumption)⟩
  rintro m e t ⟨i, rfl, hi, ⟨os, ⟨z, shapes, F, FO, FS, T, hs1, hs2⟩, ft⟩, i1, i5, i7, i8⟩
  replace i1 : e.a0.a1 = _ := i1
  replace i5 : e.a0.a5 = _ := i5
  replace i7 : e.a0.a7 = _ := i7
  replace i8 : e.a0.a8 = _ := i8
  have hwt := T.wf
  by_cases c : (i : Int) < ((asks.length : Nat) : Int)
  · by_cases c2 : (i : Int) < 40
    · have hai : asks[i]? = some asks[i] := List.getElem?_eq_getElem (by omega)
      have hok := hB _ (List.mem_of_getElem? hai)
      generalize asks[i] = a at *
      obtain ⟨q, a1, a2⟩ := (hA.fr hw ft (by simp)).at hai
      obtain ⟨lr, hr1, hr2⟩ := hok.refs
      obtain ⟨lb, hb1, hb2⟩ := hok.bits
      obtain ⟨t1, p1, c1, f1, n1⟩ := new_ex (s := t) (l := [V.i 0, .i 0, .i 0, .i 0, .nils, .i 0, .nils]) (n := 7) hwt rfl
      obtain ⟨t2, p2, c2', f2, n2⟩ := eSt_exN (s := t1) (b := t.next) (o := 0) (vs := a.cells) (m := 7) f1.wf c1 rfl (by simp) (by intro v hv; simp [Ask.cells] at hv; rcases hv with rfl | rfl | rfl | rfl | rfl | rfl | rfl; rfl; rfl; rfl; rfl; exact hr1.sl.one; rfl; exact hb1.sl.one)
      simp only [putL, List.take_zero, List.nil_append, List.length_cons, List.length_nil, Nat.zero_add, Nat.reduceAdd, Ask.cells, List.drop_succ_cons, List.drop_zero, List.append_nil] at c2'
      have F2 : Fr t t2 [] := f1.trans' f2 (by simp)
      have T2 := T.fr F2
      obtain ⟨va, t3, e5, ga, f3, hba⟩ := T2.r.all (d + 5)
      have F3 := F2.trans f3
      have T3 := T.fr F3
      have c3 := f3.cl f2.wf c2' (by simp)
      simp -implicitDefEqProofs (maxSteps := 5000000) (disch := first | assumption | omega | (simp only [one_i, one_int, one_bool, one_str, one_ptr, one_nilp, one_nils, one_slice, one_map, one_nilm, one_func, one_iface, same_i, same_bool, same_nils, same_ptr, same_map, same_slice, List.length_cons, List.length_nil, Nat.zero_add, Nat.reduceAdd, allOne_cons, allOne_nil, Bool.and_self]; done) | (simp only [List.length_cons, List.length_nil, List.length_map, List.length_set]; omega)) only [go_sem, ↓p6_41.eq_1, ↓p6_59.eq_1, ↓p6_80.eq_1, ↓p6_71.eq_1, ↓p6_88.eq_1, ↓p6_121.eq_1, ↓p6_98.eq_1, fAdd_eq, i1, i5, i7, i8, hlen, c, c2, a1, a2, aAl_eq, p1, p2, e5, dLd_at f3.wf c3]
      have hbx : t.next ∉ p :: bw :: bb :: bm :: F := fun h => by have := T.lt _ h; omega
      have hrx : t.next ∉ rp :: (FO ++ FS) := fun h => by have := T.ltR _ h; omega
      have hns := ft.nx
      have U : Turn s t3 p bw bb n bm rp w i a t.next va os z shapes F FO FS := by
        refine ⟨hw, T3, ft.trans F3, hs1, by omega, hs2, hok, c3, hns, hbx, hrx, ga, fun b hb => ?_⟩
        have hb2 := hba b hb
        exact ⟨by omega, fun h => by have := T.lt _ h; omega, fun h => by have := T.ltR _ h; omega, by omega⟩
      have stop : ∀ e' t', e'.a0.a1 = x1 → e'.a0.a5 = .ptr p 0 → e'.a0.a7 = .ptr rp 0 → e'.a0.a8 = .i (i : Nat) → AllQ s p bw bb n bm rp w (i + 1) t' → rnd (seqR (blkR 1 (seqR (blkR 2 (.nrm e' t')) (p6_130 (K (d + 6))))) (p6_135 (K (d + 6)))) (fun e' s' => ∃ m, m < 40 - i ∧ ∃ i, m = 40 - i ∧ i ≤ 40 ∧ AllQ s p bw bb n bm rp w i s' ∧ e'.a0.a1 = x1 ∧ e'.a0.a5 = V.ptr p 0 ∧ e'.a0.a7 = V.ptr rp 0 ∧ e'.a0.a8 = V.i (i : Nat))
          fun r => Ret (retR (resV [rT g4]) (seqR (blkR 0 r) (p6_136 (K (d + 6))))) fun v s' => v = V.bool true ∧ Fr s s' [] := fun e' t' z1 z5 z7 z8 hQ =>
        fin_step d (by omega) hQ z1 z5 z7 z8 fun e2 t2 y1 y5 y7 y8 hQ2 => ⟨40 - (i + 1), by omega, i + 1, rfl, by omega, hQ2, y1, y5, y7, y8⟩
      by_cases k1 : a.kind = 1
      · simp -implicitDefEqProofs (maxSteps := 5000000) (disch := first | assumption | omega | (simp only [one_i, one_int, one_bool, one_str, one_ptr, one_nilp, one_nils, one_slice, one_map, one_nilm, one_func, one_iface, same_i, same_bool, same_nils, same_ptr, same_map, same_slice, List.length_cons, List.length_nil, Nat.zero_add, Nat.reduceAdd, allOne_cons, allOne_nil, Bool.and_self]; done) | (simp only [List.length_cons, List.length_nil, List.length_map, List.length_set]; omega)) only [go_sem, ↓p6_41.eq_1, ↓p6_59.eq_1, ↓p6_80.eq_1, ↓p6_71.eq_1, ↓p6_88.eq_1, ↓p6_121.eq_1, ↓p6_98.eq_1, fAdd_eq, k1]
        refine kind1 U (C := fun r => rnd (seqR (blkR 1 (seqR (blkR 2 r) _)) _) _ _) d (by first | trivial | rfl | assumption) (by first | trivial | rfl | assumption) (by first | trivial | rfl | assumption) (fun e' t' z1 z5 z7 z8 hQ => stop e' t' (z1.trans (by first | trivial | rfl | assumption)) z5 z7 (z8.trans (by first | trivial | rfl | assumption)) hQ)
      · by_cases k2 : a.kind = 2
        · simp -implicitDefEqProofs (maxSteps := 5000000) (disch := first | assumption | omega | (simp only [one_i, one_int, one_bool, one_str, one_ptr, one_nilp, one_nils, one_slice, one_map, one_nilm, one_func, one_iface, same_i, same_bool, same_nils, same_ptr, same_map, same_slice, List.length_cons, List.length_nil, Nat.zero_add, Nat.reduceAdd, allOne_cons, allOne_nil, Bool.and_self]; done) | (simp only [List.length_cons, List.length_nil, List.length_map, List.length_set]; omega)) only [go_sem, ↓p6_41.eq_1, ↓p6_80.eq_1, ↓p6_121.eq_1, ↓p6_56.eq_1, fAdd_eq, k1, k2]
          refine kind2 U (C := fun r => rnd (seqR (blkR 1 (seqR (blkR 2 r) _)) _) _ _) d (by first | trivial | rfl | assumption) (by first | trivial | rfl | assumption) (by first | trivial | rfl | assumption) (fun e' t' z1 z5 z7 z8 hQ => stop e' t' (z1.trans (by first | trivial | rfl | assumption)) z5 z7 (z8.trans (by first | trivial | rfl | assumption)) hQ)
        · by_cases k3 : a.kind = 3
          · simp -implicitDefEqProofs (maxSteps := 5000000) (disch := first | assumption | omega | (simp only [one_i, one_int, one_bool, one_str, one_ptr, one_nilp, one_nils, one_slice, one_map, one_nilm, one_func, one_iface, same_i, same_bool, same_nils, same_ptr, same_map, same_slice, List.length_cons, List.length_nil, Nat.zero_add, Nat.reduceAdd, allOne_cons, allOne_nil, Bool.and_self]; done) | (simp only [List.length_cons, List.length_nil, List.length_map, List.length_set]; omega)) only [go_sem, ↓p6_41.eq_1, ↓p6_80.eq_1, ↓p6_121.eq_1, ↓p6_56.eq_1, fAdd_eq, k1, k2, k3]
            refine kind3 U (C := fun r => rnd (seqR (blkR 1 (seqR (blkR 2 r) _)) _) _ _) d (by first | trivial | rfl | assumption) (by first | trivial | rfl | assumption) (by first | trivial | rfl | assumption) (by first | trivial | rfl | assumption) (fun e' t' z1 z5 z7 z8 hQ => stop e' t' (z1.trans (by first | trivial | rfl | assumption)) z5 z7 (z8.trans (by first | trivial | rfl | assumption)) hQ)
          · by_cases k4 : a.kind = 4
            · simp -implicitDefEqProofs (maxSteps := 5000000) (disch := first | assumption | omega | (simp only [one_i, one_int, one_bool, one_str, one_ptr, one_nilp, one_nils, one_slice, one_map, one_nilm, one_func, one_iface, same_i, same_bool, same_nils, same_ptr, same_map, same_slice, List.length_cons, List.length_nil, Nat.zero_add, Nat.reduceAdd, allOne_cons, allOne_nil, Bool.and_self]; done) | (simp only [List.length_cons, List.length_nil, List.length_map, List.length_set]; omega)) only [go_sem, ↓p6_41.eq_1, ↓p6_80.eq_1, ↓p6_121.eq_1, ↓p6_56.eq_1, fAdd_eq, k1, k2, k3, k4]
              refine kind4 U (C := fun r => rnd (seqR (blkR 1 (seqR (blkR 2 r) _)) _) _ _) d (by first | trivial | rfl | assumption) (by first | trivial | rfl | assumption) (by first | trivial | rfl | assumption) (by first | trivial | rfl | assumption) (fun e' t' z1 z5 z7 z8 hQ => stop e' t' (z1.trans (by first | trivial | rfl | assumption)) z5 z7 (z8.trans (by first | trivial | rfl | assumption)) hQ)
            · by_cases k5 : a.kind = 5
              · simp -implicitDefEqProofs (maxSteps := 5000000) (disch := first | assumption | omega | (simp only [one_i, one_int, one_bool, one_str, one_ptr, one_nilp, one_nils, one_slice, one_map, one_nilm, one_func, one_iface, same_i, same_bool, same_nils, same_ptr, same_map, same_slice, List.length_cons, List.length_nil, Nat.zero_add, Nat.reduceAdd, allOne_cons, allOne_nil, Bool.and_self]; done) | (simp only [List.length_cons, List.length_nil, List.length_map, List.length_set]; omega)) only [go_sem, ↓p6_41.eq_1, ↓p6_80.eq_1, ↓p6_121.eq_1, ↓p6_56.eq_1, fAdd_eq, k1, k2, k3, k4, k5]
                refine kind5 U (C := fun r => rnd (seqR (blkR 1 (seqR (blkR 2 r) _)) _) _ _) d (by first | trivial | rfl | assumption) (by first | trivial | rfl | assumption) (by first | trivial | rfl | assumption) (by first | trivial | rfl | assumption) (fun e' t' z1 z5 z7 z8 hQ => stop e' t' (z1.trans (by first | trivial | rfl | assumption)) z5 z7 (z8.trans (by first | trivial | rfl | assumption)) hQ)
              · simp -implicitDefEqProofs (maxSteps := 5000000) (disch := first | assumption | omega | (simp only [one_i, one_int, one_bool, one_str, one_ptr, one_nilp, one_nils, one_slice, one_map, one_nilm, one_func, one_iface, same_i, same_bool, same_nils, same_ptr, same_map, same_slice, List.length_cons, List.length_nil, Nat.zero_add, Nat.reduceAdd, allOne_cons, allOne_nil, Bool.and_self]; done) | (simp only [List.length_cons, List.length_nil, List.length_map, List.length_set]; omega)) only [go_sem, ↓p6_41.eq_1, ↓p6_80.eq_1, ↓p6_121.eq_1, ↓p6_56.eq_1, fAdd_eq, k1, k2, k3, k4, k5]
                exact stop _ _ (by first | trivial | rfl | assumption) (by first | trivial | rfl | assumption) (by first | trivial | rfl | assumption) (by first | trivial | rfl | assumption) ⟨os, ⟨z, shapes, F, FO, FS, T3, by omega, hs2⟩, ft.trans F3⟩
    · obtain ⟨v, t2, e1, rfl, f⟩ := known_eq hwt (d + 2)
      simp -implicitDefEqProofs (maxSteps := 5000000) (disch := first | assumption | omega | (simp only [one_i, one_int, one_bool, one_str, one_ptr, one_nilp, one_nils, one_slice, one_map, one_nilm, one_func, one_iface, same_i, same_bool, same_nils, same_ptr, same_map, same_slice, List.length_cons, List.length_nil, Nat.zero_add, Nat.reduceAdd, allOne_cons, allOne_nil, Bool.and_self]; done) | (simp only [List.length_cons, List.length_nil, List.length_map, List.length_set]; omega)) only [go_sem, ↓p6_41.eq_1, ↓p6_36.eq_1, ↓p6_59.eq_1, ↓p6_80.eq_1, ↓p6_71.eq_1, ↓p6_88.eq_1, ↓p6_121.eq_1, ↓p6_98.eq_1, ↓p6_56.eq_1, ↓p6_130.eq_1, ↓p6_135.eq_1, fAdd_eq, i1, i5, i7, i8, hlen, c, c2, e1]
      exact ⟨(by first | trivial | rfl | assumption), ft.trans f⟩
  · obtain ⟨v, t2, e1, rfl, f⟩ := known_eq hwt (d + 2)
    simp -implicitDefEqProofs (maxSteps := 5000000) (disch := first | assumption | omega | (simp only [one_i, one_int, one_bool, one_str, one_ptr, one_nilp, one_nils, one_slice, one_map, one_nilm, one_func, one_iface, same_i, same_bool, same_nils, same_ptr, same_map, same_slice, List.length_cons, List.length_nil, Nat.zero_add, Nat.reduceAdd, allOne_cons, allOne_nil, Bool.and_self]; done) | (simp only [List.length_cons, List.length_nil, List.length_map, List.length_set]; omega)) only [go_sem, ↓p6_41.eq_1, ↓p6_36.eq_1, ↓p6_59.eq_1, ↓p6_80.eq_1, ↓p6_71.eq_1, ↓p6_88.eq_1, ↓p6_121.eq_1, ↓p6_98.eq_1, ↓p6_56.eq_1, ↓p6_130.eq_1, ↓p6_135.eq_1, fAdd_eq, i1, i5, i7, i8, hlen, c, e1]
    exact ⟨(by first | trivial | rfl | assumption), ft.trans f⟩
end
end
end Go.Proofs.YtjipdnfaokdkbaaLab
