/- The law SchedPicks: its run; its walk. No condition on the program. -/
import Derived.Test.YtgfghbhcifkmgaaSG
namespace Go.Proofs.YtgfghbhcifkmgaaLab
open Go
set_option linter.all false
set_option maxRecDepth 10000
noncomputable section
theorem schedPicks_run {s : St} (hw : Wf s) {x1 : V} {lb : List Bool} (hA : SL s x1 (lb.map .bool)) (a0 a2 : Int) (d : Nat) : Ret ((K (d + 5)).call 5 [.i a0, x1, .i a2] s) fun v s' => v = .bool true := by
  have hwi := withinI_le a0 0 7 (by omega)
  have e0 := within_eq s a0 0 7 (by omega) (by omega) (by omega) (d + 3)
  have hwp := withinI_le a2 0 1000 (by omega)
  have ep := fun t => within_eq t a2 0 1000 (by omega) (by omega) (by omega) (d + 3)
  have hlen := hA.len
  rw [List.length_map] at hlen
  obtain ⟨n, hn⟩ : ∃ n : Nat, withinI a0 0 7 = n := ⟨(withinI a0 0 7).toNat, by omega⟩
  obtain ⟨pk, hpk⟩ : ∃ n : Nat, withinI a2 0 1000 = n := ⟨(withinI a2 0 1000).toNat, by omega⟩
  rw [hn] at e0 hwi
  rw [hpk] at hwp
  have ep : ∀ t, (K (d + 4)).call 11 [.i a2, .i 0, .i 1000] t = some (.i (pk : Nat), t) := fun t => by rw [ep t, hpk]
  obtain ⟨s1, e1, H1, f1, n1, c1⟩ := new_sched hw (d + 3)
  have e0' : (K (d + 4)).call 11 [.i a0, .i 0, .i 7] s1 = some (.i (n : Nat), s1) := by
    have := within_eq s1 a0 0 7 (by omega) (by omega) (by omega) (d + 3)
    rw [this, hn]
  have P0 : PI s s1 (s.next + 1) s.next 0 .nils [] [] 0 [] := ⟨H1, rfl, .inl ⟨rfl, rfl⟩, by intro b hb; simp [blkV] at hb, by simp [blkV], f1, ⟨by omega, by simp⟩, fun thV x slV y z hc b hb => by
    rw [c1] at hc
    simp only [Option.some.injEq, List.cons.injEq, and_true] at hc
    obtain ⟨_, _, rfl, _⟩ := hc
    simp [blkV] at hb, by omega, by simp⟩
  generalize s.next + 1 = sp at *
  generalize s.next = lm at *
  simp -implicitDefEqProofs (maxSteps := 5000000) (disch := first | assumption | omega | (simp only [one_i, one_int, one_bool, one_str, one_ptr, one_nilp, one_nils, one_slice, one_map, one_nilm, one_func, one_iface, same_i, same_bool, same_nils, same_ptr, same_map, same_slice, List.length_cons, List.length_nil, Nat.zero_add, Nat.reduceAdd, allOne_cons, allOne_nil, Bool.and_self]; done) | (simp only [List.length_cons, List.length_nil, List.length_map, List.length_set]; omega)) only [op5, go_sem, e1, e0']
  refine loop_at (Q := fun r => Ret (retR _ (seqR (blkR 0 r) _)) _) (fun m e t => ∃ (i : Nat) (rv : V) (ths : List Th) (sl : List Sl) (slept : Int) (FT : List Nat), m = 1 + n - i ∧ i ≤ 1 + n ∧ PI s t sp lm i rv ths sl slept FT ∧ g0 e = .i (1 + (n : Nat) : Int) ∧ g1 e = x1 ∧ g2 e = .i a2 ∧ g7 e = .ptr sp 0 ∧ g8 e = rv ∧ g9 e = .i i) ?_ (n := 1 + n) (by omega) ⟨0, .nils, [], [], 0, [], by omega, by omega, P0, (by first | trivial | rfl | assumption), (by first | trivial | rfl | assumption), (by first | trivial | rfl | assumption), (by first | trivial | rfl | assumption), (by first | trivial | rfl | assumption), (by first | trivial | rfl | assumption)⟩
  rintro m e t ⟨i, rv, ths, sl, slept, FT, rfl, hi, P, i0, i1, i2, i7, i8, i9⟩
  replace i0 : e.a0.a0 = _ := i0
  replace i1 : e.a0.a1 = _ := i1
  replace i2 : e.a0.a2 = _ := i2
  replace i7 : e.a0.a7 = _ := i7
  replace i8 : e.a0.a8 = _ := i8
  replace i9 : e.a0.a9 = _ := i9
  by_cases c : (i : Int) < 1 + ((n : Nat) : Int)
  · have rdy : ∀ e' : E, True := fun _ => trivial
    clear rdy
    obtain ⟨t1, t2, t3, p1, p2, p3, P3⟩ := P.ready (d + 3) (by omega)
    by_cases cl : (i : Int) < ((lb.length : Nat) : Int)
    · obtain ⟨bv, hbv⟩ : ∃ bv, lb[i]? = some bv := ⟨_, List.getElem?_eq_getElem (by omega)⟩
      cases bv with
      | true =>
        obtain ⟨u1', u2', q1, q2, F1, P2⟩ := P.asleep d (by omega)
        obtain ⟨q, b1, b2⟩ := (hA.fr hw F1 (by simp)).at F1.wf (j := i) (x := .bool true) (by rw [List.getElem?_map, hbv]; rfl)
        simp -implicitDefEqProofs (maxSteps := 5000000) (disch := first | assumption | omega | (simp only [one_i, one_int, one_bool, one_str, one_ptr, one_nilp, one_nils, one_slice, one_map, one_nilm, one_func, one_iface, same_i, same_bool, same_nils, same_ptr, same_map, same_slice, List.length_cons, List.length_nil, Nat.zero_add, Nat.reduceAdd, allOne_cons, allOne_nil, Bool.and_self]; done) | (simp only [List.length_cons, List.length_nil, List.length_map, List.length_set]; omega)) only [go_sem, i0, i1, i2, i7, i8, i9, c, q1, hlen, cl, b1, b2, q2]
        exact ⟨1 + n - (i + 1), by omega, i + 1, rv, _, _, _, _, rfl, by omega, P2, (by first | trivial | rfl | assumption), (by first | trivial | rfl | assumption), (by first | trivial | rfl | assumption), (by first | trivial | rfl | assumption), (by first | trivial | rfl | assumption), (by first | trivial | rfl | assumption)⟩
      | false =>
        obtain ⟨u1', u2', q1, q2, F1, P2⟩ := P.asleep d (by omega)
        have e12 : u1' = t1 := by rw [q1] at p1; cases p1; rfl
        subst e12
        obtain ⟨q, b1, b2⟩ := (hA.fr hw F1 (by simp)).at F1.wf (j := i) (x := .bool false) (by rw [List.getElem?_map, hbv]; rfl)
        simp -implicitDefEqProofs (maxSteps := 5000000) (disch := first | assumption | omega | (simp only [one_i, one_int, one_bool, one_str, one_ptr, one_nilp, one_nils, one_slice, one_map, one_nilm, one_func, one_iface, same_i, same_bool, same_nils, same_ptr, same_map, same_slice, List.length_cons, List.length_nil, Nat.zero_add, Nat.reduceAdd, allOne_cons, allOne_nil, Bool.and_self]; done) | (simp only [List.length_cons, List.length_nil, List.length_map, List.length_set]; omega)) only [go_sem, i0, i1, i2, i7, i8, i9, c, q1, hlen, cl, b1, b2, p2, p3]
        exact ⟨1 + n - (i + 1), by omega, i + 1, _, _, _, _, _, rfl, by omega, P3, (by first | trivial | rfl | assumption), (by first | trivial | rfl | assumption), (by first | trivial | rfl | assumption), (by first | trivial | rfl | assumption), rfl, (by first | trivial | rfl | assumption)⟩
    · simp -implicitDefEqProofs (maxSteps := 5000000) (disch := first | assumption | omega | (simp only [one_i, one_int, one_bool, one_str, one_ptr, one_nilp, one_nils, one_slice, one_map, one_nilm, one_func, one_iface, same_i, same_bool, same_nils, same_ptr, same_map, same_slice, List.length_cons, List.length_nil, Nat.zero_add, Nat.reduceAdd, allOne_cons, allOne_nil, Bool.and_self]; done) | (simp only [List.length_cons, List.length_nil, List.length_map, List.length_set]; omega)) only [go_sem, i0, i1, i2, i7, i8, i9, c, p1, hlen, cl, p2, p3]
      exact ⟨1 + n - (i + 1), by omega, i + 1, _, _, _, _, _, rfl, by omega, P3, (by first | trivial | rfl | assumption), (by first | trivial | rfl | assumption), (by first | trivial | rfl | assumption), (by first | trivial | rfl | assumption), rfl, (by first | trivial | rfl | assumption)⟩
  · have hrl := P.g.len
    rw [List.length_map] at hrl
    have hwt := P.f.wf
    simp -implicitDefEqProofs (maxSteps := 5000000) (disch := first | assumption | omega | (simp only [one_i, one_int, one_bool, one_str, one_ptr, one_nilp, one_nils, one_slice, one_map, one_nilm, one_func, one_iface, same_i, same_bool, same_nils, same_ptr, same_map, same_slice, List.length_cons, List.length_nil, Nat.zero_add, Nat.reduceAdd, allOne_cons, allOne_nil, Bool.and_self]; done) | (simp only [List.length_cons, List.length_nil, List.length_map, List.length_set]; omega)) only [go_sem, i0, i1, i2, i7, i8, i9, c, ep]
    refine loop_at (Q := fun r => Ret (retR _ (seqR (blkR 2 r) _)) _) (fun m e u => ∃ (k : Nat), m = 2 * (1 + n) - k ∧ k ≤ 2 * (1 + n) ∧ Fr t u [] ∧ g0 e = .i (1 + (n : Nat) : Int) ∧ g2 e = .i (pk : Nat) ∧ g7 e = .ptr sp 0 ∧ g8 e = rv ∧ g10 e = .i k) ?_ (n := 2 * (1 + n)) (by omega) ⟨0, by omega, by omega, Fr.refl hwt _, (by first | trivial | rfl | assumption), (by first | trivial | rfl | assumption), (by first | trivial | rfl | assumption), (by first | trivial | rfl | assumption), (by first | trivial | rfl | assumption)⟩
    clear i0 i1 i2 i7 i8 i9 e c
    rintro m e u ⟨k, rfl, hk, fu, i0, i2, i7, i8, i10⟩
    replace i0 : e.a0.a0 = _ := i0
    replace i2 : e.a0.a2 = _ := i2
    replace i7 : e.a0.a7 = _ := i7
    replace i8 : e.a0.a8 = _ := i8
    replace i10 : e.a0.a10 = _ := i10
    by_cases ck : (k : Int) < 2 * (1 + ((n : Nat) : Int))
    · have Hu := P.h.fr fu
      obtain ⟨v1, u1', q1, rfl, g1'⟩ := Hu.pick (d + 2) (pk + k) (by omega) ((pk : Int) + k) (.inl (by omega))
      obtain ⟨v2, u2', q2, rfl, g2'⟩ := (Hu.fr g1').pick (d + 2) (pk + k) (by omega) (-((pk : Int) + k) - 1) (.inr (by omega))
      have F2 := fu.trans (g1'.trans g2')
      have hg2 := P.g.fr hwt F2 (by simp)
      have hin := inL_len 1 ths 0
      unfold pickV at q1 q2
      generalize inL 1 ths 0 = l at *
      have fin : ∃ m, m < 2 * (1 + n) - k ∧ m = 2 * (1 + n) - (k + 1) ∧ k + 1 ≤ 2 * (1 + n) := ⟨_, by omega, rfl, by omega⟩
      obtain ⟨m', m1, m2, m3⟩ := fin
      by_cases c0 : l.length = 0
      · have : l = [] := List.length_eq_zero_iff.1 c0
        subst this
        replace hrl : uLenS rv = some (.i 0) := hrl
        simp only [List.getElem?_nil] at q1 q2
        simp -implicitDefEqProofs (maxSteps := 5000000) (disch := first | assumption | omega | (simp only [one_i, one_int, one_bool, one_str, one_ptr, one_nilp, one_nils, one_slice, one_map, one_nilm, one_func, one_iface, same_i, same_bool, same_nils, same_ptr, same_map, same_slice, List.length_cons, List.length_nil, Nat.zero_add, Nat.reduceAdd, allOne_cons, allOne_nil, Bool.and_self]; done) | (simp only [List.length_cons, List.length_nil, List.length_map, List.length_set]; omega)) only [go_sem, i0, i2, i7, i8, i10, ck, q1, q2, hrl, eq_self]
        exact ⟨m', m1, k + 1, m2, m3, F2, (by first | trivial | rfl | assumption), (by first | trivial | rfl | assumption), (by first | trivial | rfl | assumption), (by first | trivial | rfl | assumption), (by first | trivial | rfl | assumption)⟩
      · have c : ¬ ((l.length : Nat) : Int) = 0 := by omega
        have cpos : (0 : Int) < ((l.length : Nat) : Int) := by omega
        have hlt : (pk + k) % l.length < l.length := Nat.mod_lt _ (by omega)
        obtain ⟨r, hr⟩ : ∃ r, l[(pk + k) % l.length]? = some r := ⟨_, List.getElem?_eq_getElem hlt⟩
        rw [hr] at q1 q2
        simp only at q1 q2
        obtain ⟨q, b1, b2⟩ := (hg2.sl F2.wf).at F2.wf (j := (pk + k) % l.length) (x := .i r) (by rw [List.getElem?_map, hr]; rfl)
        have em : ((pk : Int) + k).tmod ((l.length : Nat) : Int) = (((pk + k) % l.length : Nat) : Int) := rfl
        simp -implicitDefEqProofs (maxSteps := 5000000) (disch := first | assumption | omega | (simp only [one_i, one_int, one_bool, one_str, one_ptr, one_nilp, one_nils, one_slice, one_map, one_nilm, one_func, one_iface, same_i, same_bool, same_nils, same_ptr, same_map, same_slice, List.length_cons, List.length_nil, Nat.zero_add, Nat.reduceAdd, allOne_cons, allOne_nil, Bool.and_self]; done) | (simp only [List.length_cons, List.length_nil, List.length_map, List.length_set]; omega)) only [go_sem, i0, i2, i7, i8, i10, ck, q1, q2, hrl, eq_self, cpos, c, em, b1, b2]
        exact ⟨m', m1, k + 1, m2, m3, F2, (by first | trivial | rfl | assumption), (by first | trivial | rfl | assumption), (by first | trivial | rfl | assumption), (by first | trivial | rfl | assumption), (by first | trivial | rfl | assumption)⟩
    · have ek := op17 (d + 3) u
      simp -implicitDefEqProofs (maxSteps := 5000000) (disch := first | assumption | omega | (simp only [one_i, one_int, one_bool, one_str, one_ptr, one_nilp, one_nils, one_slice, one_map, one_nilm, one_func, one_iface, same_i, same_bool, same_nils, same_ptr, same_map, same_slice, List.length_cons, List.length_nil, Nat.zero_add, Nat.reduceAdd, allOne_cons, allOne_nil, Bool.and_self]; done) | (simp only [List.length_cons, List.length_nil, List.length_map, List.length_set]; omega)) only [go_sem, i0, i2, i7, i8, i10, ck, ek]
theorem schedPicks_walk {W : World} (a0 a2 : Int) {v1 : Value} {x1 : V} {l1 : List Bool} (vr : VR (impG W) x1 v1) (sl : SL (impS W 1) x1 (l1.map V.bool)) :
    Calls Try.prog 5 #[.int .i64 a0, v1, .int .i64 a2] W (fun e w' => e = .returned (.bool true) ∧ RowKit.Below W.heap.size W w') := by
  exact law_ro (fuel := 1000000) (n := 5) tblOk ((schedPicks_run (impS_wf W 1) sl a0 a2 0).mono fun v s' h => h) (.cons _ _ _ _ (.i _) (.cons _ _ _ _ vr (.cons _ _ _ _ (.i _) .nil)))
end
end Go.Proofs.YtgfghbhcifkmgaaLab
