/- The contract of caraferef5.one: which bytes an instruction gets, and whether it fits; for every instruction. -/
import Derived.Handy
import Derived.Deep.RegionHeld3
import Derived.Test.YtcjhhlbhfkcboaaPAf30
import Derived.Test.YtcjhhlbhfkcboaaPAf34
import Derived.Test.YtcjhhlbhfkcboaaPAf44
import Derived.Test.YtcjhhlbhfkcboaaAid
import Derived.Test.YtcjhhlbhfkcboaaLex
namespace Go.Proofs.Ytcjhhlbhfkcboaa.RefOne
open Go.Proofs.YtcjhhlbhfkcboaaLex Go.RowKit Go.Proofs.YtcjhhlbhfkcboaaW.PrintWords Go.Proofs.YtcjhhlbhfkcboaaW.PrintLast Go.Proofs.YtcjhhlbhfkcboaaW.PrintMore
open Go.Proofs.Ytcjhhlbhfkcboaa.PA Go.Proofs.Ytcjhhlbhfkcboaa.Aid
set_option linter.unusedVariables false
set_option linter.unusedSimpArgs false

set_option maxHeartbeats 3200000 in
set_option maxRecDepth 100000 in
theorem inc_tt (at_ op a b : Int) (w : World) (S : SizeIs 132 3) (I1 : InIs a 0 255 true) (I2 : InIs b (-128) 127 true) :
    Calls Try.prog 37 #[.agg #[.int .i64 at_, .int .i64 132, .int .i64 a, .int .i64 b]] w (Post [132, a % 256, b % 256] true w) := by
  replace S := Aside0.mk S
  replace I1 := Aside0.mk I1
  replace I2 := Aside0.mk I2
  have hu32 := Try.underlying32
  go_enter Try.func37, Try.ntmps37
  go_wp2_with fail
  refine (S.out _).mono ?_
  rintro e w' ⟨rfl, HB⟩
  have hc0 : w'.cell? ⟨w.heap.size, 0, none⟩ = some (.int .i64 at_) := by
    rw [HB.cell (p := ⟨w.heap.size, 0, none⟩) (by simp)]; simp [go_sem]
  have hc1 : w'.cell? ⟨w.heap.size, 1, none⟩ = some (.int .i64 132) := by
    rw [HB.cell (p := ⟨w.heap.size, 1, none⟩) (by simp)]; simp [go_sem]
  have hc2 : w'.cell? ⟨w.heap.size, 2, none⟩ = some (.int .i64 a) := by
    rw [HB.cell (p := ⟨w.heap.size, 2, none⟩) (by simp)]; simp [go_sem]
  have hc3 : w'.cell? ⟨w.heap.size, 3, none⟩ = some (.int .i64 b) := by
    rw [HB.cell (p := ⟨w.heap.size, 3, none⟩) (by simp)]; simp [go_sem]
  have HBW := Aside0.mk (show Below w.heap.size w w' from (below_alloc (Below.refl _ _) _).trans (HB.mono (by simp)))
  replace HB := Aside0.mk HB
  go_wp2_with fail
  have hlt : w.heap.size < w'.heap.size := by have := HB.out.size; simp at this; omega
  clear hc0
  refine wp_region_lex_lit (cls (fun s => if s 9 = true then w'.alloc (.cells #[.int .u8 (IntKind.u8.wrap 132), .int .u8 (IntKind.u8.wrap a), .int .u8 (IntKind.u8.wrap b)] 5) else w')) (by kernel_rfl) (by kernel_rfl) (by kernel_rfl) ?_ ?_
  (focus (first | exact cls_drew rfl | exact cls_drewN rfl))
  iterate 9 (refine lex_yes (v := ?_) ?_ (quiet_v ?_ ?_) ?_; rotate_left; (focus rfl); (focus ((intro s; simp); done)); (focus ((intro s n; (by_cases hb : s 9 = true <;> simp only [hb, if_true, if_false, Bool.false_eq_true]) <;> (go_simp; first | done | with_reducible rfl | (refine And.intro ?_ ?_ <;> rfl))); done)); (try simp only [Act.put, List.setIfInBounds_toArray, List.set_cons_zero, List.set_cons_succ]))
  (refine lex_yes (v := ?_) ?_ (turns_v ?_) ?_; rotate_left; (focus rfl); (focus ((intro s n hs; simp only [hs, Bool.false_or, BEq.rfl, if_true, Bool.false_eq_true, if_false]; go_simp; first | done | with_reducible rfl | (refine And.intro ?_ ?_ <;> rfl)); done)); (try simp only [Act.put, List.setIfInBounds_toArray, List.set_cons_zero, List.set_cons_succ]))
  iterate 2 (refine lex_yes (v := ?_) ?_ (quiet_v ?_ ?_) ?_; rotate_left; (focus rfl); (focus ((intro s; simp); done)); (focus ((intro s n; (by_cases hb : s 9 = true <;> simp only [hb, if_true, if_false, Bool.false_eq_true]) <;> (go_simp; first | done | with_reducible rfl | (refine And.intro ?_ ?_ <;> rfl))); done)); (try simp only [Act.put, List.setIfInBounds_toArray, List.set_cons_zero, List.set_cons_succ]))
  (refine lex_yes (v := ?_) ?_ (quiet_c (f := ?_) (args := ?_) ?_ ?_ ?_) ?_; rotate_left; (focus rfl); rotate_left 2; (focus ((intro s; simp); done)); (focus ((intro s n; (by_cases hb : s 9 = true <;> simp only [hb, if_true, if_false, Bool.false_eq_true]) <;> (go_simp; first | done | with_reducible rfl | (refine And.intro ?_ ?_ <;> rfl))); done)); (focus (intro s n; refine (I1.out _).mono ?_; rintro e9 w9 ⟨rfl, m9, rfl⟩; refine And.intro ?_ ?_; rfl; exact ⟨m9, rfl⟩)); (try simp only [Act.put, List.setIfInBounds_toArray, List.set_cons_zero, List.set_cons_succ]))
  iterate 3 (refine lex_yes (v := ?_) ?_ (quiet_v ?_ ?_) ?_; rotate_left; (focus rfl); (focus ((intro s; simp); done)); (focus ((intro s n; (by_cases hb : s 9 = true <;> simp only [hb, if_true, if_false, Bool.false_eq_true]) <;> (go_simp; first | done | with_reducible rfl | (refine And.intro ?_ ?_ <;> rfl))); done)); (try simp only [Act.put, List.setIfInBounds_toArray, List.set_cons_zero, List.set_cons_succ]))
  (refine lex_yes (v := ?_) ?_ (quiet_c (f := ?_) (args := ?_) ?_ ?_ ?_) ?_; rotate_left; (focus rfl); rotate_left 2; (focus ((intro s; simp); done)); (focus ((intro s n; (by_cases hb : s 9 = true <;> simp only [hb, if_true, if_false, Bool.false_eq_true]) <;> (go_simp; first | done | with_reducible rfl | (refine And.intro ?_ ?_ <;> rfl))); done)); (focus (intro s n; refine (I2.out _).mono ?_; rintro e9 w9 ⟨rfl, m9, rfl⟩; refine And.intro ?_ ?_; rfl; exact ⟨m9, rfl⟩)); (try simp only [Act.put, List.setIfInBounds_toArray, List.set_cons_zero, List.set_cons_succ]))
  iterate 3 (refine lex_yes (v := ?_) ?_ (quiet_v ?_ ?_) ?_; rotate_left; (focus rfl); (focus ((intro s; simp); done)); (focus ((intro s n; (by_cases hb : s 9 = true <;> simp only [hb, if_true, if_false, Bool.false_eq_true]) <;> (go_simp; first | done | with_reducible rfl | (refine And.intro ?_ ?_ <;> rfl))); done)); (try simp only [Act.put, List.setIfInBounds_toArray, List.set_cons_zero, List.set_cons_succ]))
  refine lex_nil ?_
  refine cls_end (w := w'.alloc (.cells #[.int .u8 (IntKind.u8.wrap 132), .int .u8 (IntKind.u8.wrap a), .int .u8 (IntKind.u8.wrap b)] 5)) [9] (by rfl) (fun s hs => if_pos (hs 9 List.mem_cons_self)) (fun m => ?_)
  go_wp2
  all_goals go_ret2
  all_goals refine Post.intro rfl ?_ ?_
  any_goals (with_reducible repeat (first | apply Kd.R_drewN | apply Kd.R_drew)); exact lit_u8 _ (by first | (have := HB.out.size; simp at this ⊢; omega)) (by simp [wrap_u8]) rfl (by decide)
  all_goals (repeat (first | (with_reducible first | exact HBW.out | apply below_alloc | apply pw_below_drewN | apply below_drew1) | exact HBW.out))

set_option maxHeartbeats 3200000 in
set_option maxRecDepth 100000 in
theorem inc_tf (at_ op a b : Int) (w : World) (S : SizeIs 132 3) (I1 : InIs a 0 255 true) (I2 : InIs b (-128) 127 false) :
    Calls Try.prog 37 #[.agg #[.int .i64 at_, .int .i64 132, .int .i64 a, .int .i64 b]] w (Post [132, a % 256, b % 256] false w) := by
  replace S := Aside0.mk S
  replace I1 := Aside0.mk I1
  replace I2 := Aside0.mk I2
  have hu32 := Try.underlying32
  go_enter Try.func37, Try.ntmps37
  go_wp2_with fail
  refine (S.out _).mono ?_
  rintro e w' ⟨rfl, HB⟩
  have hc0 : w'.cell? ⟨w.heap.size, 0, none⟩ = some (.int .i64 at_) := by
    rw [HB.cell (p := ⟨w.heap.size, 0, none⟩) (by simp)]; simp [go_sem]
  have hc1 : w'.cell? ⟨w.heap.size, 1, none⟩ = some (.int .i64 132) := by
    rw [HB.cell (p := ⟨w.heap.size, 1, none⟩) (by simp)]; simp [go_sem]
  have hc2 : w'.cell? ⟨w.heap.size, 2, none⟩ = some (.int .i64 a) := by
    rw [HB.cell (p := ⟨w.heap.size, 2, none⟩) (by simp)]; simp [go_sem]
  have hc3 : w'.cell? ⟨w.heap.size, 3, none⟩ = some (.int .i64 b) := by
    rw [HB.cell (p := ⟨w.heap.size, 3, none⟩) (by simp)]; simp [go_sem]
  have HBW := Aside0.mk (show Below w.heap.size w w' from (below_alloc (Below.refl _ _) _).trans (HB.mono (by simp)))
  replace HB := Aside0.mk HB
  go_wp2_with fail
  have hlt : w.heap.size < w'.heap.size := by have := HB.out.size; simp at this; omega
  clear hc0
  refine wp_region_lex_lit (cls (fun s => if s 9 = true then w'.alloc (.cells #[.int .u8 (IntKind.u8.wrap 132), .int .u8 (IntKind.u8.wrap a), .int .u8 (IntKind.u8.wrap b)] 5) else w')) (by kernel_rfl) (by kernel_rfl) (by kernel_rfl) ?_ ?_
  (focus (first | exact cls_drew rfl | exact cls_drewN rfl))
  iterate 9 (refine lex_yes (v := ?_) ?_ (quiet_v ?_ ?_) ?_; rotate_left; (focus rfl); (focus ((intro s; simp); done)); (focus ((intro s n; (by_cases hb : s 9 = true <;> simp only [hb, if_true, if_false, Bool.false_eq_true]) <;> (go_simp; first | done | with_reducible rfl | (refine And.intro ?_ ?_ <;> rfl))); done)); (try simp only [Act.put, List.setIfInBounds_toArray, List.set_cons_zero, List.set_cons_succ]))
  (refine lex_yes (v := ?_) ?_ (turns_v ?_) ?_; rotate_left; (focus rfl); (focus ((intro s n hs; simp only [hs, Bool.false_or, BEq.rfl, if_true, Bool.false_eq_true, if_false]; go_simp; first | done | with_reducible rfl | (refine And.intro ?_ ?_ <;> rfl)); done)); (try simp only [Act.put, List.setIfInBounds_toArray, List.set_cons_zero, List.set_cons_succ]))
  iterate 2 (refine lex_yes (v := ?_) ?_ (quiet_v ?_ ?_) ?_; rotate_left; (focus rfl); (focus ((intro s; simp); done)); (focus ((intro s n; (by_cases hb : s 9 = true <;> simp only [hb, if_true, if_false, Bool.false_eq_true]) <;> (go_simp; first | done | with_reducible rfl | (refine And.intro ?_ ?_ <;> rfl))); done)); (try simp only [Act.put, List.setIfInBounds_toArray, List.set_cons_zero, List.set_cons_succ]))
  (refine lex_yes (v := ?_) ?_ (quiet_c (f := ?_) (args := ?_) ?_ ?_ ?_) ?_; rotate_left; (focus rfl); rotate_left 2; (focus ((intro s; simp); done)); (focus ((intro s n; (by_cases hb : s 9 = true <;> simp only [hb, if_true, if_false, Bool.false_eq_true]) <;> (go_simp; first | done | with_reducible rfl | (refine And.intro ?_ ?_ <;> rfl))); done)); (focus (intro s n; refine (I1.out _).mono ?_; rintro e9 w9 ⟨rfl, m9, rfl⟩; refine And.intro ?_ ?_; rfl; exact ⟨m9, rfl⟩)); (try simp only [Act.put, List.setIfInBounds_toArray, List.set_cons_zero, List.set_cons_succ]))
  iterate 3 (refine lex_yes (v := ?_) ?_ (quiet_v ?_ ?_) ?_; rotate_left; (focus rfl); (focus ((intro s; simp); done)); (focus ((intro s n; (by_cases hb : s 9 = true <;> simp only [hb, if_true, if_false, Bool.false_eq_true]) <;> (go_simp; first | done | with_reducible rfl | (refine And.intro ?_ ?_ <;> rfl))); done)); (try simp only [Act.put, List.setIfInBounds_toArray, List.set_cons_zero, List.set_cons_succ]))
  (refine lex_yes (v := ?_) ?_ (quiet_c (f := ?_) (args := ?_) ?_ ?_ ?_) ?_; rotate_left; (focus rfl); rotate_left 2; (focus ((intro s; simp); done)); (focus ((intro s n; (by_cases hb : s 9 = true <;> simp only [hb, if_true, if_false, Bool.false_eq_true]) <;> (go_simp; first | done | with_reducible rfl | (refine And.intro ?_ ?_ <;> rfl))); done)); (focus (intro s n; refine (I2.out _).mono ?_; rintro e9 w9 ⟨rfl, m9, rfl⟩; refine And.intro ?_ ?_; rfl; exact ⟨m9, rfl⟩)); (try simp only [Act.put, List.setIfInBounds_toArray, List.set_cons_zero, List.set_cons_succ]))
  iterate 3 (refine lex_yes (v := ?_) ?_ (quiet_v ?_ ?_) ?_; rotate_left; (focus rfl); (focus ((intro s; simp); done)); (focus ((intro s n; (by_cases hb : s 9 = true <;> simp only [hb, if_true, if_false, Bool.false_eq_true]) <;> (go_simp; first | done | with_reducible rfl | (refine And.intro ?_ ?_ <;> rfl))); done)); (try simp only [Act.put, List.setIfInBounds_toArray, List.set_cons_zero, List.set_cons_succ]))
  refine lex_nil ?_
  refine cls_end (w := w'.alloc (.cells #[.int .u8 (IntKind.u8.wrap 132), .int .u8 (IntKind.u8.wrap a), .int .u8 (IntKind.u8.wrap b)] 5)) [9] (by rfl) (fun s hs => if_pos (hs 9 List.mem_cons_self)) (fun m => ?_)
  go_wp2
  all_goals go_ret2
  all_goals refine Post.intro rfl ?_ ?_
  any_goals (with_reducible repeat (first | apply Kd.R_drewN | apply Kd.R_drew)); exact lit_u8 _ (by first | (have := HB.out.size; simp at this ⊢; omega)) (by simp [wrap_u8]) rfl (by decide)
  all_goals (repeat (first | (with_reducible first | exact HBW.out | apply below_alloc | apply pw_below_drewN | apply below_drew1) | exact HBW.out))

set_option maxHeartbeats 3200000 in
set_option maxRecDepth 100000 in
theorem inc_f (at_ op a b : Int) (w : World) (S : SizeIs 132 3) (I1 : InIs a 0 255 false) :
    Calls Try.prog 37 #[.agg #[.int .i64 at_, .int .i64 132, .int .i64 a, .int .i64 b]] w (Post [132, a % 256, b % 256] false w) := by
  replace S := Aside0.mk S
  replace I1 := Aside0.mk I1
  have hu32 := Try.underlying32
  go_enter Try.func37, Try.ntmps37
  go_wp2_with fail
  refine (S.out _).mono ?_
  rintro e w' ⟨rfl, HB⟩
  have hc0 : w'.cell? ⟨w.heap.size, 0, none⟩ = some (.int .i64 at_) := by
    rw [HB.cell (p := ⟨w.heap.size, 0, none⟩) (by simp)]; simp [go_sem]
  have hc1 : w'.cell? ⟨w.heap.size, 1, none⟩ = some (.int .i64 132) := by
    rw [HB.cell (p := ⟨w.heap.size, 1, none⟩) (by simp)]; simp [go_sem]
  have hc2 : w'.cell? ⟨w.heap.size, 2, none⟩ = some (.int .i64 a) := by
    rw [HB.cell (p := ⟨w.heap.size, 2, none⟩) (by simp)]; simp [go_sem]
  have hc3 : w'.cell? ⟨w.heap.size, 3, none⟩ = some (.int .i64 b) := by
    rw [HB.cell (p := ⟨w.heap.size, 3, none⟩) (by simp)]; simp [go_sem]
  have HBW := Aside0.mk (show Below w.heap.size w w' from (below_alloc (Below.refl _ _) _).trans (HB.mono (by simp)))
  replace HB := Aside0.mk HB
  go_wp2_with fail
  have hlt : w.heap.size < w'.heap.size := by have := HB.out.size; simp at this; omega
  clear hc0
  refine wp_region_lex_lit (cls (fun s => if s 9 = true then w'.alloc (.cells #[.int .u8 (IntKind.u8.wrap 132), .int .u8 (IntKind.u8.wrap a), .int .u8 (IntKind.u8.wrap b)] 5) else w')) (by kernel_rfl) (by kernel_rfl) (by kernel_rfl) ?_ ?_
  (focus (first | exact cls_drew rfl | exact cls_drewN rfl))
  iterate 9 (refine lex_yes (v := ?_) ?_ (quiet_v ?_ ?_) ?_; rotate_left; (focus rfl); (focus ((intro s; simp); done)); (focus ((intro s n; (by_cases hb : s 9 = true <;> simp only [hb, if_true, if_false, Bool.false_eq_true]) <;> (go_simp; first | done | with_reducible rfl | (refine And.intro ?_ ?_ <;> rfl))); done)); (try simp only [Act.put, List.setIfInBounds_toArray, List.set_cons_zero, List.set_cons_succ]))
  (refine lex_yes (v := ?_) ?_ (turns_v ?_) ?_; rotate_left; (focus rfl); (focus ((intro s n hs; simp only [hs, Bool.false_or, BEq.rfl, if_true, Bool.false_eq_true, if_false]; go_simp; first | done | with_reducible rfl | (refine And.intro ?_ ?_ <;> rfl)); done)); (try simp only [Act.put, List.setIfInBounds_toArray, List.set_cons_zero, List.set_cons_succ]))
  iterate 2 (refine lex_yes (v := ?_) ?_ (quiet_v ?_ ?_) ?_; rotate_left; (focus rfl); (focus ((intro s; simp); done)); (focus ((intro s n; (by_cases hb : s 9 = true <;> simp only [hb, if_true, if_false, Bool.false_eq_true]) <;> (go_simp; first | done | with_reducible rfl | (refine And.intro ?_ ?_ <;> rfl))); done)); (try simp only [Act.put, List.setIfInBounds_toArray, List.set_cons_zero, List.set_cons_succ]))
  (refine lex_yes (v := ?_) ?_ (quiet_c (f := ?_) (args := ?_) ?_ ?_ ?_) ?_; rotate_left; (focus rfl); rotate_left 2; (focus ((intro s; simp); done)); (focus ((intro s n; (by_cases hb : s 9 = true <;> simp only [hb, if_true, if_false, Bool.false_eq_true]) <;> (go_simp; first | done | with_reducible rfl | (refine And.intro ?_ ?_ <;> rfl))); done)); (focus (intro s n; refine (I1.out _).mono ?_; rintro e9 w9 ⟨rfl, m9, rfl⟩; refine And.intro ?_ ?_; rfl; exact ⟨m9, rfl⟩)); (try simp only [Act.put, List.setIfInBounds_toArray, List.set_cons_zero, List.set_cons_succ]))
  (refine lex_yes (v := ?_) ?_ (quiet_v ?_ ?_) ?_; rotate_left; (focus rfl); (focus ((intro s; simp); done)); (focus ((intro s n; (by_cases hb : s 9 = true <;> simp only [hb, if_true, if_false, Bool.false_eq_true]) <;> (go_simp; first | done | with_reducible rfl | (refine And.intro ?_ ?_ <;> rfl))); done)); (try simp only [Act.put, List.setIfInBounds_toArray, List.set_cons_zero, List.set_cons_succ]))
  iterate 3 (refine lex_no ?_ (quiet_no ?_) ?_; (focus rfl); (focus ((intro s; simp); done)); (try simp only [Act.put, List.setIfInBounds_toArray, List.set_cons_zero, List.set_cons_succ]))
  iterate 3 (refine lex_yes (v := ?_) ?_ (quiet_v ?_ ?_) ?_; rotate_left; (focus rfl); (focus ((intro s; simp); done)); (focus ((intro s n; (by_cases hb : s 9 = true <;> simp only [hb, if_true, if_false, Bool.false_eq_true]) <;> (go_simp; first | done | with_reducible rfl | (refine And.intro ?_ ?_ <;> rfl))); done)); (try simp only [Act.put, List.setIfInBounds_toArray, List.set_cons_zero, List.set_cons_succ]))
  refine lex_nil ?_
  refine cls_end (w := w'.alloc (.cells #[.int .u8 (IntKind.u8.wrap 132), .int .u8 (IntKind.u8.wrap a), .int .u8 (IntKind.u8.wrap b)] 5)) [9] (by rfl) (fun s hs => if_pos (hs 9 List.mem_cons_self)) (fun m => ?_)
  go_wp2
  all_goals go_ret2
  all_goals refine Post.intro rfl ?_ ?_
  any_goals (with_reducible repeat (first | apply Kd.R_drewN | apply Kd.R_drew)); exact lit_u8 _ (by first | (have := HB.out.size; simp at this ⊢; omega)) (by simp [wrap_u8]) rfl (by decide)
  all_goals (repeat (first | (with_reducible first | exact HBW.out | apply below_alloc | apply pw_below_drewN | apply below_drew1) | exact HBW.out))

set_option maxHeartbeats 3200000 in
set_option maxRecDepth 100000 in
theorem br_out (at_ op a b : Int) (w : World) (o1 : (op == 132) = false) (S : SizeIs op 3) (IB0 : BrIs op true) (IB : InIs a (-1048576) 1048576 false) :
    Calls Try.prog 37 #[.agg #[.int .i64 at_, .int .i64 op, .int .i64 a, .int .i64 b]] w (Post [] false w) := by
  replace S := Aside0.mk S
  replace IB0 := Aside0.mk IB0
  replace IB := Aside0.mk IB
  have hu32 := Try.underlying32
  go_enter Try.func37, Try.ntmps37
  go_wp2_with fail
  refine (S.out _).mono ?_
  rintro e w' ⟨rfl, HB⟩
  have hc0 : w'.cell? ⟨w.heap.size, 0, none⟩ = some (.int .i64 at_) := by
    rw [HB.cell (p := ⟨w.heap.size, 0, none⟩) (by simp)]; simp [go_sem]
  have hc1 : w'.cell? ⟨w.heap.size, 1, none⟩ = some (.int .i64 op) := by
    rw [HB.cell (p := ⟨w.heap.size, 1, none⟩) (by simp)]; simp [go_sem]
  have hc2 : w'.cell? ⟨w.heap.size, 2, none⟩ = some (.int .i64 a) := by
    rw [HB.cell (p := ⟨w.heap.size, 2, none⟩) (by simp)]; simp [go_sem]
  have hc3 : w'.cell? ⟨w.heap.size, 3, none⟩ = some (.int .i64 b) := by
    rw [HB.cell (p := ⟨w.heap.size, 3, none⟩) (by simp)]; simp [go_sem]
  have HBW := Aside0.mk (show Below w.heap.size w w' from (below_alloc (Below.refl _ _) _).trans (HB.mono (by simp)))
  replace HB := Aside0.mk HB
  go_wp2_with fail
  refine (IB0.out _).mono ?_
  rintro e w2 ⟨rfl, ⟨nd, rfl⟩⟩
  go_wp2_with fail
  refine (IB.out _).mono ?_
  rintro e w2 ⟨rfl, ⟨nd, rfl⟩⟩
  go_wp2_with fail
  go_wp2
  all_goals go_ret2
  all_goals refine Post.intro rfl ?_ ?_
  · exact Kd.R_nil _ _ _ _ _
  all_goals (repeat (first | (with_reducible first | exact HBW.out | apply below_alloc | apply pw_below_drewN | apply below_drew1) | exact HBW.out))

set_option maxHeartbeats 3200000 in
set_option maxRecDepth 100000 in
theorem br_in_tt (at_ op a b n : Int) (w : World) (o1 : (op == 132) = false) (S : SizeIs op 3) (IB0 : BrIs op true) (IB : InIs a (-1048576) 1048576 true) (hn : IntKind.i64.wrap (a - at_) = n) (SG : SgIs op true) (b0 : (b == 0) = true) (I1 : InIs n (-32768) 32767 true) :
    Calls Try.prog 37 #[.agg #[.int .i64 at_, .int .i64 op, .int .i64 a, .int .i64 b]] w (Post [op % 256, n / 256 % 256, n % 256] true w) := by
  replace S := Aside0.mk S
  replace IB0 := Aside0.mk IB0
  replace IB := Aside0.mk IB
  replace SG := Aside0.mk SG
  replace I1 := Aside0.mk I1
  have hu32 := Try.underlying32
  go_enter Try.func37, Try.ntmps37
  go_wp2_with fail
  refine (S.out _).mono ?_
  rintro e w' ⟨rfl, HB⟩
  have hc0 : w'.cell? ⟨w.heap.size, 0, none⟩ = some (.int .i64 at_) := by
    rw [HB.cell (p := ⟨w.heap.size, 0, none⟩) (by simp)]; simp [go_sem]
  have hc1 : w'.cell? ⟨w.heap.size, 1, none⟩ = some (.int .i64 op) := by
    rw [HB.cell (p := ⟨w.heap.size, 1, none⟩) (by simp)]; simp [go_sem]
  have hc2 : w'.cell? ⟨w.heap.size, 2, none⟩ = some (.int .i64 a) := by
    rw [HB.cell (p := ⟨w.heap.size, 2, none⟩) (by simp)]; simp [go_sem]
  have hc3 : w'.cell? ⟨w.heap.size, 3, none⟩ = some (.int .i64 b) := by
    rw [HB.cell (p := ⟨w.heap.size, 3, none⟩) (by simp)]; simp [go_sem]
  have HBW := Aside0.mk (show Below w.heap.size w w' from (below_alloc (Below.refl _ _) _).trans (HB.mono (by simp)))
  replace HB := Aside0.mk HB
  go_wp2_with fail
  refine (IB0.out _).mono ?_
  rintro e w2 ⟨rfl, ⟨nd, rfl⟩⟩
  go_wp2_with fail
  refine (IB.out _).mono ?_
  rintro e w2 ⟨rfl, ⟨nd, rfl⟩⟩
  go_wp2_with fail
  refine (SG.out _).mono ?_
  rintro e w2 ⟨rfl, ⟨nd, rfl⟩⟩
  go_wp2_with fail
  have hlt : w.heap.size < w'.heap.size := by have := HB.out.size; simp at this; omega
  clear hc0
  refine wp_region_lex_lit (cls (fun s => if s 8 = true then w'.alloc (.cells #[.int .u8 (IntKind.u8.wrap op), .int .u8 (IntKind.u8.wrap (n / 256)), .int .u8 (IntKind.u8.wrap n)] 5) else w')) (by kernel_rfl) (by kernel_rfl) (by kernel_rfl) ?_ ?_
  (focus (first | exact cls_drew rfl | exact cls_drewN rfl))
  iterate 8 (refine lex_yes (v := ?_) ?_ (quiet_v ?_ ?_) ?_; rotate_left; (focus rfl); (focus ((intro s; simp); done)); (focus ((intro s n; (by_cases hb : s 8 = true <;> simp only [hb, if_true, if_false, Bool.false_eq_true]) <;> (go_simp; first | done | with_reducible rfl | (refine And.intro ?_ ?_ <;> rfl))); done)); (try simp only [Act.put, List.setIfInBounds_toArray, List.set_cons_zero, List.set_cons_succ]))
  (refine lex_yes (v := ?_) ?_ (turns_v ?_) ?_; rotate_left; (focus rfl); (focus ((intro s n hs; simp only [hs, Bool.false_or, BEq.rfl, if_true, Bool.false_eq_true, if_false]; go_simp; first | done | with_reducible rfl | (refine And.intro ?_ ?_ <;> rfl)); done)); (try simp only [Act.put, List.setIfInBounds_toArray, List.set_cons_zero, List.set_cons_succ]))
  iterate 5 (refine lex_yes (v := ?_) ?_ (quiet_v ?_ ?_) ?_; rotate_left; (focus rfl); (focus ((intro s; simp); done)); (focus ((intro s n; (by_cases hb : s 8 = true <;> simp only [hb, if_true, if_false, Bool.false_eq_true]) <;> (go_simp; first | done | with_reducible rfl | (refine And.intro ?_ ?_ <;> rfl))); done)); (try simp only [Act.put, List.setIfInBounds_toArray, List.set_cons_zero, List.set_cons_succ]))
  (refine lex_yes (v := ?_) ?_ (quiet_c (f := ?_) (args := ?_) ?_ ?_ ?_) ?_; rotate_left; (focus rfl); rotate_left 2; (focus ((intro s; simp); done)); (focus ((intro s n; (by_cases hb : s 8 = true <;> simp only [hb, if_true, if_false, Bool.false_eq_true]) <;> (go_simp; first | done | with_reducible rfl | (refine And.intro ?_ ?_ <;> rfl))); done)); (focus (intro s n; refine (I1.out _).mono ?_; rintro e9 w9 ⟨rfl, m9, rfl⟩; refine And.intro ?_ ?_; rfl; exact ⟨m9, rfl⟩)); (try simp only [Act.put, List.setIfInBounds_toArray, List.set_cons_zero, List.set_cons_succ]))
  iterate 3 (refine lex_yes (v := ?_) ?_ (quiet_v ?_ ?_) ?_; rotate_left; (focus rfl); (focus ((intro s; simp); done)); (focus ((intro s n; (by_cases hb : s 8 = true <;> simp only [hb, if_true, if_false, Bool.false_eq_true]) <;> (go_simp; first | done | with_reducible rfl | (refine And.intro ?_ ?_ <;> rfl))); done)); (try simp only [Act.put, List.setIfInBounds_toArray, List.set_cons_zero, List.set_cons_succ]))
  refine lex_nil ?_
  refine cls_end (w := w'.alloc (.cells #[.int .u8 (IntKind.u8.wrap op), .int .u8 (IntKind.u8.wrap (n / 256)), .int .u8 (IntKind.u8.wrap n)] 5)) [8] (by rfl) (fun s hs => if_pos (hs 8 List.mem_cons_self)) (fun m => ?_)
  go_wp2
  all_goals go_ret2
  all_goals refine Post.intro rfl ?_ ?_
  any_goals (with_reducible repeat (first | apply Kd.R_drewN | apply Kd.R_drew)); exact lit_u8 _ (by first | (have := HB.out.size; simp at this ⊢; omega)) (by simp [wrap_u8]) rfl (by decide)
  all_goals (repeat (first | (with_reducible first | exact HBW.out | apply below_alloc | apply pw_below_drewN | apply below_drew1) | exact HBW.out))

set_option maxHeartbeats 3200000 in
set_option maxRecDepth 100000 in
theorem br_in_tf (at_ op a b n : Int) (w : World) (o1 : (op == 132) = false) (S : SizeIs op 3) (IB0 : BrIs op true) (IB : InIs a (-1048576) 1048576 true) (hn : IntKind.i64.wrap (a - at_) = n) (SG : SgIs op true) (b0 : (b == 0) = true) (I1 : InIs n (-32768) 32767 false) :
    Calls Try.prog 37 #[.agg #[.int .i64 at_, .int .i64 op, .int .i64 a, .int .i64 b]] w (Post [op % 256, n / 256 % 256, n % 256] false w) := by
  replace S := Aside0.mk S
  replace IB0 := Aside0.mk IB0
  replace IB := Aside0.mk IB
  replace SG := Aside0.mk SG
  replace I1 := Aside0.mk I1
  have hu32 := Try.underlying32
  go_enter Try.func37, Try.ntmps37
  go_wp2_with fail
  refine (S.out _).mono ?_
  rintro e w' ⟨rfl, HB⟩
  have hc0 : w'.cell? ⟨w.heap.size, 0, none⟩ = some (.int .i64 at_) := by
    rw [HB.cell (p := ⟨w.heap.size, 0, none⟩) (by simp)]; simp [go_sem]
  have hc1 : w'.cell? ⟨w.heap.size, 1, none⟩ = some (.int .i64 op) := by
    rw [HB.cell (p := ⟨w.heap.size, 1, none⟩) (by simp)]; simp [go_sem]
  have hc2 : w'.cell? ⟨w.heap.size, 2, none⟩ = some (.int .i64 a) := by
    rw [HB.cell (p := ⟨w.heap.size, 2, none⟩) (by simp)]; simp [go_sem]
  have hc3 : w'.cell? ⟨w.heap.size, 3, none⟩ = some (.int .i64 b) := by
    rw [HB.cell (p := ⟨w.heap.size, 3, none⟩) (by simp)]; simp [go_sem]
  have HBW := Aside0.mk (show Below w.heap.size w w' from (below_alloc (Below.refl _ _) _).trans (HB.mono (by simp)))
  replace HB := Aside0.mk HB
  go_wp2_with fail
  refine (IB0.out _).mono ?_
  rintro e w2 ⟨rfl, ⟨nd, rfl⟩⟩
  go_wp2_with fail
  refine (IB.out _).mono ?_
  rintro e w2 ⟨rfl, ⟨nd, rfl⟩⟩
  go_wp2_with fail
  refine (SG.out _).mono ?_
  rintro e w2 ⟨rfl, ⟨nd, rfl⟩⟩
  go_wp2_with fail
  have hlt : w.heap.size < w'.heap.size := by have := HB.out.size; simp at this; omega
  clear hc0
  refine wp_region_lex_lit (cls (fun s => if s 8 = true then w'.alloc (.cells #[.int .u8 (IntKind.u8.wrap op), .int .u8 (IntKind.u8.wrap (n / 256)), .int .u8 (IntKind.u8.wrap n)] 5) else w')) (by kernel_rfl) (by kernel_rfl) (by kernel_rfl) ?_ ?_
  (focus (first | exact cls_drew rfl | exact cls_drewN rfl))
  iterate 8 (refine lex_yes (v := ?_) ?_ (quiet_v ?_ ?_) ?_; rotate_left; (focus rfl); (focus ((intro s; simp); done)); (focus ((intro s n; (by_cases hb : s 8 = true <;> simp only [hb, if_true, if_false, Bool.false_eq_true]) <;> (go_simp; first | done | with_reducible rfl | (refine And.intro ?_ ?_ <;> rfl))); done)); (try simp only [Act.put, List.setIfInBounds_toArray, List.set_cons_zero, List.set_cons_succ]))
  (refine lex_yes (v := ?_) ?_ (turns_v ?_) ?_; rotate_left; (focus rfl); (focus ((intro s n hs; simp only [hs, Bool.false_or, BEq.rfl, if_true, Bool.false_eq_true, if_false]; go_simp; first | done | with_reducible rfl | (refine And.intro ?_ ?_ <;> rfl)); done)); (try simp only [Act.put, List.setIfInBounds_toArray, List.set_cons_zero, List.set_cons_succ]))
  iterate 5 (refine lex_yes (v := ?_) ?_ (quiet_v ?_ ?_) ?_; rotate_left; (focus rfl); (focus ((intro s; simp); done)); (focus ((intro s n; (by_cases hb : s 8 = true <;> simp only [hb, if_true, if_false, Bool.false_eq_true]) <;> (go_simp; first | done | with_reducible rfl | (refine And.intro ?_ ?_ <;> rfl))); done)); (try simp only [Act.put, List.setIfInBounds_toArray, List.set_cons_zero, List.set_cons_succ]))
  (refine lex_yes (v := ?_) ?_ (quiet_c (f := ?_) (args := ?_) ?_ ?_ ?_) ?_; rotate_left; (focus rfl); rotate_left 2; (focus ((intro s; simp); done)); (focus ((intro s n; (by_cases hb : s 8 = true <;> simp only [hb, if_true, if_false, Bool.false_eq_true]) <;> (go_simp; first | done | with_reducible rfl | (refine And.intro ?_ ?_ <;> rfl))); done)); (focus (intro s n; refine (I1.out _).mono ?_; rintro e9 w9 ⟨rfl, m9, rfl⟩; refine And.intro ?_ ?_; rfl; exact ⟨m9, rfl⟩)); (try simp only [Act.put, List.setIfInBounds_toArray, List.set_cons_zero, List.set_cons_succ]))
  iterate 3 (refine lex_yes (v := ?_) ?_ (quiet_v ?_ ?_) ?_; rotate_left; (focus rfl); (focus ((intro s; simp); done)); (focus ((intro s n; (by_cases hb : s 8 = true <;> simp only [hb, if_true, if_false, Bool.false_eq_true]) <;> (go_simp; first | done | with_reducible rfl | (refine And.intro ?_ ?_ <;> rfl))); done)); (try simp only [Act.put, List.setIfInBounds_toArray, List.set_cons_zero, List.set_cons_succ]))
  refine lex_nil ?_
  refine cls_end (w := w'.alloc (.cells #[.int .u8 (IntKind.u8.wrap op), .int .u8 (IntKind.u8.wrap (n / 256)), .int .u8 (IntKind.u8.wrap n)] 5)) [8] (by rfl) (fun s hs => if_pos (hs 8 List.mem_cons_self)) (fun m => ?_)
  go_wp2
  all_goals go_ret2
  all_goals refine Post.intro rfl ?_ ?_
  any_goals (with_reducible repeat (first | apply Kd.R_drewN | apply Kd.R_drew)); exact lit_u8 _ (by first | (have := HB.out.size; simp at this ⊢; omega)) (by simp [wrap_u8]) rfl (by decide)
  all_goals (repeat (first | (with_reducible first | exact HBW.out | apply below_alloc | apply pw_below_drewN | apply below_drew1) | exact HBW.out))

set_option maxHeartbeats 3200000 in
set_option maxRecDepth 100000 in
theorem br_in_f (at_ op a b n : Int) (w : World) (o1 : (op == 132) = false) (S : SizeIs op 3) (IB0 : BrIs op true) (IB : InIs a (-1048576) 1048576 true) (hn : IntKind.i64.wrap (a - at_) = n) (SG : SgIs op true) (b0 : (b == 0) = false) :
    Calls Try.prog 37 #[.agg #[.int .i64 at_, .int .i64 op, .int .i64 a, .int .i64 b]] w (Post [op % 256, n / 256 % 256, n % 256] false w) := by
  replace S := Aside0.mk S
  replace IB0 := Aside0.mk IB0
  replace IB := Aside0.mk IB
  replace SG := Aside0.mk SG
  have hu32 := Try.underlying32
  go_enter Try.func37, Try.ntmps37
  go_wp2_with fail
  refine (S.out _).mono ?_
  rintro e w' ⟨rfl, HB⟩
  have hc0 : w'.cell? ⟨w.heap.size, 0, none⟩ = some (.int .i64 at_) := by
    rw [HB.cell (p := ⟨w.heap.size, 0, none⟩) (by simp)]; simp [go_sem]
  have hc1 : w'.cell? ⟨w.heap.size, 1, none⟩ = some (.int .i64 op) := by
    rw [HB.cell (p := ⟨w.heap.size, 1, none⟩) (by simp)]; simp [go_sem]
  have hc2 : w'.cell? ⟨w.heap.size, 2, none⟩ = some (.int .i64 a) := by
    rw [HB.cell (p := ⟨w.heap.size, 2, none⟩) (by simp)]; simp [go_sem]
  have hc3 : w'.cell? ⟨w.heap.size, 3, none⟩ = some (.int .i64 b) := by
    rw [HB.cell (p := ⟨w.heap.size, 3, none⟩) (by simp)]; simp [go_sem]
  have HBW := Aside0.mk (show Below w.heap.size w w' from (below_alloc (Below.refl _ _) _).trans (HB.mono (by simp)))
  replace HB := Aside0.mk HB
  go_wp2_with fail
  refine (IB0.out _).mono ?_
  rintro e w2 ⟨rfl, ⟨nd, rfl⟩⟩
  go_wp2_with fail
  refine (IB.out _).mono ?_
  rintro e w2 ⟨rfl, ⟨nd, rfl⟩⟩
  go_wp2_with fail
  refine (SG.out _).mono ?_
  rintro e w2 ⟨rfl, ⟨nd, rfl⟩⟩
  go_wp2_with fail
  have hlt : w.heap.size < w'.heap.size := by have := HB.out.size; simp at this; omega
  clear hc0
  refine wp_region_lex_lit (cls (fun s => if s 8 = true then w'.alloc (.cells #[.int .u8 (IntKind.u8.wrap op), .int .u8 (IntKind.u8.wrap (n / 256)), .int .u8 (IntKind.u8.wrap n)] 5) else w')) (by kernel_rfl) (by kernel_rfl) (by kernel_rfl) ?_ ?_
  (focus (first | exact cls_drew rfl | exact cls_drewN rfl))
  iterate 8 (refine lex_yes (v := ?_) ?_ (quiet_v ?_ ?_) ?_; rotate_left; (focus rfl); (focus ((intro s; simp); done)); (focus ((intro s n; (by_cases hb : s 8 = true <;> simp only [hb, if_true, if_false, Bool.false_eq_true]) <;> (go_simp; first | done | with_reducible rfl | (refine And.intro ?_ ?_ <;> rfl))); done)); (try simp only [Act.put, List.setIfInBounds_toArray, List.set_cons_zero, List.set_cons_succ]))
  (refine lex_yes (v := ?_) ?_ (turns_v ?_) ?_; rotate_left; (focus rfl); (focus ((intro s n hs; simp only [hs, Bool.false_or, BEq.rfl, if_true, Bool.false_eq_true, if_false]; go_simp; first | done | with_reducible rfl | (refine And.intro ?_ ?_ <;> rfl)); done)); (try simp only [Act.put, List.setIfInBounds_toArray, List.set_cons_zero, List.set_cons_succ]))
  iterate 4 (refine lex_yes (v := ?_) ?_ (quiet_v ?_ ?_) ?_; rotate_left; (focus rfl); (focus ((intro s; simp); done)); (focus ((intro s n; (by_cases hb : s 8 = true <;> simp only [hb, if_true, if_false, Bool.false_eq_true]) <;> (go_simp; first | done | with_reducible rfl | (refine And.intro ?_ ?_ <;> rfl))); done)); (try simp only [Act.put, List.setIfInBounds_toArray, List.set_cons_zero, List.set_cons_succ]))
  iterate 2 (refine lex_no ?_ (quiet_no ?_) ?_; (focus rfl); (focus ((intro s; simp); done)); (try simp only [Act.put, List.setIfInBounds_toArray, List.set_cons_zero, List.set_cons_succ]))
  iterate 3 (refine lex_yes (v := ?_) ?_ (quiet_v ?_ ?_) ?_; rotate_left; (focus rfl); (focus ((intro s; simp); done)); (focus ((intro s n; (by_cases hb : s 8 = true <;> simp only [hb, if_true, if_false, Bool.false_eq_true]) <;> (go_simp; first | done | with_reducible rfl | (refine And.intro ?_ ?_ <;> rfl))); done)); (try simp only [Act.put, List.setIfInBounds_toArray, List.set_cons_zero, List.set_cons_succ]))
  refine lex_nil ?_
  refine cls_end (w := w'.alloc (.cells #[.int .u8 (IntKind.u8.wrap op), .int .u8 (IntKind.u8.wrap (n / 256)), .int .u8 (IntKind.u8.wrap n)] 5)) [8] (by rfl) (fun s hs => if_pos (hs 8 List.mem_cons_self)) (fun m => ?_)
  go_wp2
  all_goals go_ret2
  all_goals refine Post.intro rfl ?_ ?_
  any_goals (with_reducible repeat (first | apply Kd.R_drewN | apply Kd.R_drew)); exact lit_u8 _ (by first | (have := HB.out.size; simp at this ⊢; omega)) (by simp [wrap_u8]) rfl (by decide)
  all_goals (repeat (first | (with_reducible first | exact HBW.out | apply below_alloc | apply pw_below_drewN | apply below_drew1) | exact HBW.out))

set_option maxHeartbeats 3200000 in
set_option maxRecDepth 100000 in
theorem two_s_tt (at_ op a b : Int) (w : World) (o1 : (op == 132) = false) (S : SizeIs op 2) (IB0 : BrIs op false) (SG : SgIs op true) (b0 : (b == 0) = true) (I1 : InIs a (-128) 127 true) :
    Calls Try.prog 37 #[.agg #[.int .i64 at_, .int .i64 op, .int .i64 a, .int .i64 b]] w (Post [op % 256, a % 256] true w) := by
  replace S := Aside0.mk S
  replace IB0 := Aside0.mk IB0
  replace SG := Aside0.mk SG
  replace I1 := Aside0.mk I1
  have hu32 := Try.underlying32
  go_enter Try.func37, Try.ntmps37
  go_wp2_with fail
  refine (S.out _).mono ?_
  rintro e w' ⟨rfl, HB⟩
  have hc0 : w'.cell? ⟨w.heap.size, 0, none⟩ = some (.int .i64 at_) := by
    rw [HB.cell (p := ⟨w.heap.size, 0, none⟩) (by simp)]; simp [go_sem]
  have hc1 : w'.cell? ⟨w.heap.size, 1, none⟩ = some (.int .i64 op) := by
    rw [HB.cell (p := ⟨w.heap.size, 1, none⟩) (by simp)]; simp [go_sem]
  have hc2 : w'.cell? ⟨w.heap.size, 2, none⟩ = some (.int .i64 a) := by
    rw [HB.cell (p := ⟨w.heap.size, 2, none⟩) (by simp)]; simp [go_sem]
  have hc3 : w'.cell? ⟨w.heap.size, 3, none⟩ = some (.int .i64 b) := by
    rw [HB.cell (p := ⟨w.heap.size, 3, none⟩) (by simp)]; simp [go_sem]
  have HBW := Aside0.mk (show Below w.heap.size w w' from (below_alloc (Below.refl _ _) _).trans (HB.mono (by simp)))
  replace HB := Aside0.mk HB
  go_wp2_with fail
  refine (IB0.out _).mono ?_
  rintro e w2 ⟨rfl, ⟨nd, rfl⟩⟩
  go_wp2_with fail
  refine (SG.out _).mono ?_
  rintro e w2 ⟨rfl, ⟨nd, rfl⟩⟩
  go_wp2_with fail
  have hlt : w.heap.size < w'.heap.size := by have := HB.out.size; simp at this; omega
  clear hc0
  refine wp_region_lex_lit (cls (fun s => if s 5 = true then w'.alloc (.cells #[.int .u8 (IntKind.u8.wrap op), .int .u8 (IntKind.u8.wrap a)] 5) else w')) (by kernel_rfl) (by kernel_rfl) (by kernel_rfl) ?_ ?_
  (focus (first | exact cls_drew rfl | exact cls_drewN rfl))
  iterate 5 (refine lex_yes (v := ?_) ?_ (quiet_v ?_ ?_) ?_; rotate_left; (focus rfl); (focus ((intro s; simp); done)); (focus ((intro s n; (by_cases hb : s 5 = true <;> simp only [hb, if_true, if_false, Bool.false_eq_true]) <;> (go_simp; first | done | with_reducible rfl | (refine And.intro ?_ ?_ <;> rfl))); done)); (try simp only [Act.put, List.setIfInBounds_toArray, List.set_cons_zero, List.set_cons_succ]))
  (refine lex_yes (v := ?_) ?_ (turns_v ?_) ?_; rotate_left; (focus rfl); (focus ((intro s n hs; simp only [hs, Bool.false_or, BEq.rfl, if_true, Bool.false_eq_true, if_false]; go_simp; first | done | with_reducible rfl | (refine And.intro ?_ ?_ <;> rfl)); done)); (try simp only [Act.put, List.setIfInBounds_toArray, List.set_cons_zero, List.set_cons_succ]))
  iterate 5 (refine lex_yes (v := ?_) ?_ (quiet_v ?_ ?_) ?_; rotate_left; (focus rfl); (focus ((intro s; simp); done)); (focus ((intro s n; (by_cases hb : s 5 = true <;> simp only [hb, if_true, if_false, Bool.false_eq_true]) <;> (go_simp; first | done | with_reducible rfl | (refine And.intro ?_ ?_ <;> rfl))); done)); (try simp only [Act.put, List.setIfInBounds_toArray, List.set_cons_zero, List.set_cons_succ]))
  (refine lex_yes (v := ?_) ?_ (quiet_c (f := ?_) (args := ?_) ?_ ?_ ?_) ?_; rotate_left; (focus rfl); rotate_left 2; (focus ((intro s; simp); done)); (focus ((intro s n; (by_cases hb : s 5 = true <;> simp only [hb, if_true, if_false, Bool.false_eq_true]) <;> (go_simp; first | done | with_reducible rfl | (refine And.intro ?_ ?_ <;> rfl))); done)); (focus (intro s n; refine (I1.out _).mono ?_; rintro e9 w9 ⟨rfl, m9, rfl⟩; refine And.intro ?_ ?_; rfl; exact ⟨m9, rfl⟩)); (try simp only [Act.put, List.setIfInBounds_toArray, List.set_cons_zero, List.set_cons_succ]))
  iterate 3 (refine lex_yes (v := ?_) ?_ (quiet_v ?_ ?_) ?_; rotate_left; (focus rfl); (focus ((intro s; simp); done)); (focus ((intro s n; (by_cases hb : s 5 = true <;> simp only [hb, if_true, if_false, Bool.false_eq_true]) <;> (go_simp; first | done | with_reducible rfl | (refine And.intro ?_ ?_ <;> rfl))); done)); (try simp only [Act.put, List.setIfInBounds_toArray, List.set_cons_zero, List.set_cons_succ]))
  refine lex_nil ?_
  refine cls_end (w := w'.alloc (.cells #[.int .u8 (IntKind.u8.wrap op), .int .u8 (IntKind.u8.wrap a)] 5)) [5] (by rfl) (fun s hs => if_pos (hs 5 List.mem_cons_self)) (fun m => ?_)
  go_wp2
  all_goals go_ret2
  all_goals refine Post.intro rfl ?_ ?_
  any_goals (with_reducible repeat (first | apply Kd.R_drewN | apply Kd.R_drew)); exact lit_u8 _ (by first | (have := HB.out.size; simp at this ⊢; omega)) (by simp [wrap_u8]) rfl (by decide)
  all_goals (repeat (first | (with_reducible first | exact HBW.out | apply below_alloc | apply pw_below_drewN | apply below_drew1) | exact HBW.out))

set_option maxHeartbeats 3200000 in
set_option maxRecDepth 100000 in
theorem two_s_tf (at_ op a b : Int) (w : World) (o1 : (op == 132) = false) (S : SizeIs op 2) (IB0 : BrIs op false) (SG : SgIs op true) (b0 : (b == 0) = true) (I1 : InIs a (-128) 127 false) :
    Calls Try.prog 37 #[.agg #[.int .i64 at_, .int .i64 op, .int .i64 a, .int .i64 b]] w (Post [op % 256, a % 256] false w) := by
  replace S := Aside0.mk S
  replace IB0 := Aside0.mk IB0
  replace SG := Aside0.mk SG
  replace I1 := Aside0.mk I1
  have hu32 := Try.underlying32
  go_enter Try.func37, Try.ntmps37
  go_wp2_with fail
  refine (S.out _).mono ?_
  rintro e w' ⟨rfl, HB⟩
  have hc0 : w'.cell? ⟨w.heap.size, 0, none⟩ = some (.int .i64 at_) := by
    rw [HB.cell (p := ⟨w.heap.size, 0, none⟩) (by simp)]; simp [go_sem]
  have hc1 : w'.cell? ⟨w.heap.size, 1, none⟩ = some (.int .i64 op) := by
    rw [HB.cell (p := ⟨w.heap.size, 1, none⟩) (by simp)]; simp [go_sem]
  have hc2 : w'.cell? ⟨w.heap.size, 2, none⟩ = some (.int .i64 a) := by
    rw [HB.cell (p := ⟨w.heap.size, 2, none⟩) (by simp)]; simp [go_sem]
  have hc3 : w'.cell? ⟨w.heap.size, 3, none⟩ = some (.int .i64 b) := by
    rw [HB.cell (p := ⟨w.heap.size, 3, none⟩) (by simp)]; simp [go_sem]
  have HBW := Aside0.mk (show Below w.heap.size w w' from (below_alloc (Below.refl _ _) _).trans (HB.mono (by simp)))
  replace HB := Aside0.mk HB
  go_wp2_with fail
  refine (IB0.out _).mono ?_
  rintro e w2 ⟨rfl, ⟨nd, rfl⟩⟩
  go_wp2_with fail
  refine (SG.out _).mono ?_
  rintro e w2 ⟨rfl, ⟨nd, rfl⟩⟩
  go_wp2_with fail
  have hlt : w.heap.size < w'.heap.size := by have := HB.out.size; simp at this; omega
  clear hc0
  refine wp_region_lex_lit (cls (fun s => if s 5 = true then w'.alloc (.cells #[.int .u8 (IntKind.u8.wrap op), .int .u8 (IntKind.u8.wrap a)] 5) else w')) (by kernel_rfl) (by kernel_rfl) (by kernel_rfl) ?_ ?_
  (focus (first | exact cls_drew rfl | exact cls_drewN rfl))
  iterate 5 (refine lex_yes (v := ?_) ?_ (quiet_v ?_ ?_) ?_; rotate_left; (focus rfl); (focus ((intro s; simp); done)); (focus ((intro s n; (by_cases hb : s 5 = true <;> simp only [hb, if_true, if_false, Bool.false_eq_true]) <;> (go_simp; first | done | with_reducible rfl | (refine And.intro ?_ ?_ <;> rfl))); done)); (try simp only [Act.put, List.setIfInBounds_toArray, List.set_cons_zero, List.set_cons_succ]))
  (refine lex_yes (v := ?_) ?_ (turns_v ?_) ?_; rotate_left; (focus rfl); (focus ((intro s n hs; simp only [hs, Bool.false_or, BEq.rfl, if_true, Bool.false_eq_true, if_false]; go_simp; first | done | with_reducible rfl | (refine And.intro ?_ ?_ <;> rfl)); done)); (try simp only [Act.put, List.setIfInBounds_toArray, List.set_cons_zero, List.set_cons_succ]))
  iterate 5 (refine lex_yes (v := ?_) ?_ (quiet_v ?_ ?_) ?_; rotate_left; (focus rfl); (focus ((intro s; simp); done)); (focus ((intro s n; (by_cases hb : s 5 = true <;> simp only [hb, if_true, if_false, Bool.false_eq_true]) <;> (go_simp; first | done | with_reducible rfl | (refine And.intro ?_ ?_ <;> rfl))); done)); (try simp only [Act.put, List.setIfInBounds_toArray, List.set_cons_zero, List.set_cons_succ]))
  (refine lex_yes (v := ?_) ?_ (quiet_c (f := ?_) (args := ?_) ?_ ?_ ?_) ?_; rotate_left; (focus rfl); rotate_left 2; (focus ((intro s; simp); done)); (focus ((intro s n; (by_cases hb : s 5 = true <;> simp only [hb, if_true, if_false, Bool.false_eq_true]) <;> (go_simp; first | done | with_reducible rfl | (refine And.intro ?_ ?_ <;> rfl))); done)); (focus (intro s n; refine (I1.out _).mono ?_; rintro e9 w9 ⟨rfl, m9, rfl⟩; refine And.intro ?_ ?_; rfl; exact ⟨m9, rfl⟩)); (try simp only [Act.put, List.setIfInBounds_toArray, List.set_cons_zero, List.set_cons_succ]))
  iterate 3 (refine lex_yes (v := ?_) ?_ (quiet_v ?_ ?_) ?_; rotate_left; (focus rfl); (focus ((intro s; simp); done)); (focus ((intro s n; (by_cases hb : s 5 = true <;> simp only [hb, if_true, if_false, Bool.false_eq_true]) <;> (go_simp; first | done | with_reducible rfl | (refine And.intro ?_ ?_ <;> rfl))); done)); (try simp only [Act.put, List.setIfInBounds_toArray, List.set_cons_zero, List.set_cons_succ]))
  refine lex_nil ?_
  refine cls_end (w := w'.alloc (.cells #[.int .u8 (IntKind.u8.wrap op), .int .u8 (IntKind.u8.wrap a)] 5)) [5] (by rfl) (fun s hs => if_pos (hs 5 List.mem_cons_self)) (fun m => ?_)
  go_wp2
  all_goals go_ret2
  all_goals refine Post.intro rfl ?_ ?_
  any_goals (with_reducible repeat (first | apply Kd.R_drewN | apply Kd.R_drew)); exact lit_u8 _ (by first | (have := HB.out.size; simp at this ⊢; omega)) (by simp [wrap_u8]) rfl (by decide)
  all_goals (repeat (first | (with_reducible first | exact HBW.out | apply below_alloc | apply pw_below_drewN | apply below_drew1) | exact HBW.out))

set_option maxHeartbeats 3200000 in
set_option maxRecDepth 100000 in
theorem two_s_f (at_ op a b : Int) (w : World) (o1 : (op == 132) = false) (S : SizeIs op 2) (IB0 : BrIs op false) (SG : SgIs op true) (b0 : (b == 0) = false) :
    Calls Try.prog 37 #[.agg #[.int .i64 at_, .int .i64 op, .int .i64 a, .int .i64 b]] w (Post [op % 256, a % 256] false w) := by
  replace S := Aside0.mk S
  replace IB0 := Aside0.mk IB0
  replace SG := Aside0.mk SG
  have hu32 := Try.underlying32
  go_enter Try.func37, Try.ntmps37
  go_wp2_with fail
  refine (S.out _).mono ?_
  rintro e w' ⟨rfl, HB⟩
  have hc0 : w'.cell? ⟨w.heap.size, 0, none⟩ = some (.int .i64 at_) := by
    rw [HB.cell (p := ⟨w.heap.size, 0, none⟩) (by simp)]; simp [go_sem]
  have hc1 : w'.cell? ⟨w.heap.size, 1, none⟩ = some (.int .i64 op) := by
    rw [HB.cell (p := ⟨w.heap.size, 1, none⟩) (by simp)]; simp [go_sem]
  have hc2 : w'.cell? ⟨w.heap.size, 2, none⟩ = some (.int .i64 a) := by
    rw [HB.cell (p := ⟨w.heap.size, 2, none⟩) (by simp)]; simp [go_sem]
  have hc3 : w'.cell? ⟨w.heap.size, 3, none⟩ = some (.int .i64 b) := by
    rw [HB.cell (p := ⟨w.heap.size, 3, none⟩) (by simp)]; simp [go_sem]
  have HBW := Aside0.mk (show Below w.heap.size w w' from (below_alloc (Below.refl _ _) _).trans (HB.mono (by simp)))
  replace HB := Aside0.mk HB
  go_wp2_with fail
  refine (IB0.out _).mono ?_
  rintro e w2 ⟨rfl, ⟨nd, rfl⟩⟩
  go_wp2_with fail
  refine (SG.out _).mono ?_
  rintro e w2 ⟨rfl, ⟨nd, rfl⟩⟩
  go_wp2_with fail
  have hlt : w.heap.size < w'.heap.size := by have := HB.out.size; simp at this; omega
  clear hc0
  refine wp_region_lex_lit (cls (fun s => if s 5 = true then w'.alloc (.cells #[.int .u8 (IntKind.u8.wrap op), .int .u8 (IntKind.u8.wrap a)] 5) else w')) (by kernel_rfl) (by kernel_rfl) (by kernel_rfl) ?_ ?_
  (focus (first | exact cls_drew rfl | exact cls_drewN rfl))
  iterate 5 (refine lex_yes (v := ?_) ?_ (quiet_v ?_ ?_) ?_; rotate_left; (focus rfl); (focus ((intro s; simp); done)); (focus ((intro s n; (by_cases hb : s 5 = true <;> simp only [hb, if_true, if_false, Bool.false_eq_true]) <;> (go_simp; first | done | with_reducible rfl | (refine And.intro ?_ ?_ <;> rfl))); done)); (try simp only [Act.put, List.setIfInBounds_toArray, List.set_cons_zero, List.set_cons_succ]))
  (refine lex_yes (v := ?_) ?_ (turns_v ?_) ?_; rotate_left; (focus rfl); (focus ((intro s n hs; simp only [hs, Bool.false_or, BEq.rfl, if_true, Bool.false_eq_true, if_false]; go_simp; first | done | with_reducible rfl | (refine And.intro ?_ ?_ <;> rfl)); done)); (try simp only [Act.put, List.setIfInBounds_toArray, List.set_cons_zero, List.set_cons_succ]))
  iterate 4 (refine lex_yes (v := ?_) ?_ (quiet_v ?_ ?_) ?_; rotate_left; (focus rfl); (focus ((intro s; simp); done)); (focus ((intro s n; (by_cases hb : s 5 = true <;> simp only [hb, if_true, if_false, Bool.false_eq_true]) <;> (go_simp; first | done | with_reducible rfl | (refine And.intro ?_ ?_ <;> rfl))); done)); (try simp only [Act.put, List.setIfInBounds_toArray, List.set_cons_zero, List.set_cons_succ]))
  iterate 2 (refine lex_no ?_ (quiet_no ?_) ?_; (focus rfl); (focus ((intro s; simp); done)); (try simp only [Act.put, List.setIfInBounds_toArray, List.set_cons_zero, List.set_cons_succ]))
  iterate 3 (refine lex_yes (v := ?_) ?_ (quiet_v ?_ ?_) ?_; rotate_left; (focus rfl); (focus ((intro s; simp); done)); (focus ((intro s n; (by_cases hb : s 5 = true <;> simp only [hb, if_true, if_false, Bool.false_eq_true]) <;> (go_simp; first | done | with_reducible rfl | (refine And.intro ?_ ?_ <;> rfl))); done)); (try simp only [Act.put, List.setIfInBounds_toArray, List.set_cons_zero, List.set_cons_succ]))
  refine lex_nil ?_
  refine cls_end (w := w'.alloc (.cells #[.int .u8 (IntKind.u8.wrap op), .int .u8 (IntKind.u8.wrap a)] 5)) [5] (by rfl) (fun s hs => if_pos (hs 5 List.mem_cons_self)) (fun m => ?_)
  go_wp2
  all_goals go_ret2
  all_goals refine Post.intro rfl ?_ ?_
  any_goals (with_reducible repeat (first | apply Kd.R_drewN | apply Kd.R_drew)); exact lit_u8 _ (by first | (have := HB.out.size; simp at this ⊢; omega)) (by simp [wrap_u8]) rfl (by decide)
  all_goals (repeat (first | (with_reducible first | exact HBW.out | apply below_alloc | apply pw_below_drewN | apply below_drew1) | exact HBW.out))

set_option maxHeartbeats 3200000 in
set_option maxRecDepth 100000 in
theorem two_u_tt (at_ op a b : Int) (w : World) (o1 : (op == 132) = false) (S : SizeIs op 2) (IB0 : BrIs op false) (SG : SgIs op false) (b0 : (b == 0) = true) (I1 : InIs a 0 255 true) :
    Calls Try.prog 37 #[.agg #[.int .i64 at_, .int .i64 op, .int .i64 a, .int .i64 b]] w (Post [op % 256, a % 256] true w) := by
  replace S := Aside0.mk S
  replace IB0 := Aside0.mk IB0
  replace SG := Aside0.mk SG
  replace I1 := Aside0.mk I1
  have hu32 := Try.underlying32
  go_enter Try.func37, Try.ntmps37
  go_wp2_with fail
  refine (S.out _).mono ?_
  rintro e w' ⟨rfl, HB⟩
  have hc0 : w'.cell? ⟨w.heap.size, 0, none⟩ = some (.int .i64 at_) := by
    rw [HB.cell (p := ⟨w.heap.size, 0, none⟩) (by simp)]; simp [go_sem]
  have hc1 : w'.cell? ⟨w.heap.size, 1, none⟩ = some (.int .i64 op) := by
    rw [HB.cell (p := ⟨w.heap.size, 1, none⟩) (by simp)]; simp [go_sem]
  have hc2 : w'.cell? ⟨w.heap.size, 2, none⟩ = some (.int .i64 a) := by
    rw [HB.cell (p := ⟨w.heap.size, 2, none⟩) (by simp)]; simp [go_sem]
  have hc3 : w'.cell? ⟨w.heap.size, 3, none⟩ = some (.int .i64 b) := by
    rw [HB.cell (p := ⟨w.heap.size, 3, none⟩) (by simp)]; simp [go_sem]
  have HBW := Aside0.mk (show Below w.heap.size w w' from (below_alloc (Below.refl _ _) _).trans (HB.mono (by simp)))
  replace HB := Aside0.mk HB
  go_wp2_with fail
  refine (IB0.out _).mono ?_
  rintro e w2 ⟨rfl, ⟨nd, rfl⟩⟩
  go_wp2_with fail
  refine (SG.out _).mono ?_
  rintro e w2 ⟨rfl, ⟨nd, rfl⟩⟩
  go_wp2_with fail
  have hlt : w.heap.size < w'.heap.size := by have := HB.out.size; simp at this; omega
  clear hc0
  refine wp_region_lex_lit (cls (fun s => if s 5 = true then w'.alloc (.cells #[.int .u8 (IntKind.u8.wrap op), .int .u8 (IntKind.u8.wrap a)] 5) else w')) (by kernel_rfl) (by kernel_rfl) (by kernel_rfl) ?_ ?_
  (focus (first | exact cls_drew rfl | exact cls_drewN rfl))
  iterate 5 (refine lex_yes (v := ?_) ?_ (quiet_v ?_ ?_) ?_; rotate_left; (focus rfl); (focus ((intro s; simp); done)); (focus ((intro s n; (by_cases hb : s 5 = true <;> simp only [hb, if_true, if_false, Bool.false_eq_true]) <;> (go_simp; first | done | with_reducible rfl | (refine And.intro ?_ ?_ <;> rfl))); done)); (try simp only [Act.put, List.setIfInBounds_toArray, List.set_cons_zero, List.set_cons_succ]))
  (refine lex_yes (v := ?_) ?_ (turns_v ?_) ?_; rotate_left; (focus rfl); (focus ((intro s n hs; simp only [hs, Bool.false_or, BEq.rfl, if_true, Bool.false_eq_true, if_false]; go_simp; first | done | with_reducible rfl | (refine And.intro ?_ ?_ <;> rfl)); done)); (try simp only [Act.put, List.setIfInBounds_toArray, List.set_cons_zero, List.set_cons_succ]))
  iterate 5 (refine lex_yes (v := ?_) ?_ (quiet_v ?_ ?_) ?_; rotate_left; (focus rfl); (focus ((intro s; simp); done)); (focus ((intro s n; (by_cases hb : s 5 = true <;> simp only [hb, if_true, if_false, Bool.false_eq_true]) <;> (go_simp; first | done | with_reducible rfl | (refine And.intro ?_ ?_ <;> rfl))); done)); (try simp only [Act.put, List.setIfInBounds_toArray, List.set_cons_zero, List.set_cons_succ]))
  (refine lex_yes (v := ?_) ?_ (quiet_c (f := ?_) (args := ?_) ?_ ?_ ?_) ?_; rotate_left; (focus rfl); rotate_left 2; (focus ((intro s; simp); done)); (focus ((intro s n; (by_cases hb : s 5 = true <;> simp only [hb, if_true, if_false, Bool.false_eq_true]) <;> (go_simp; first | done | with_reducible rfl | (refine And.intro ?_ ?_ <;> rfl))); done)); (focus (intro s n; refine (I1.out _).mono ?_; rintro e9 w9 ⟨rfl, m9, rfl⟩; refine And.intro ?_ ?_; rfl; exact ⟨m9, rfl⟩)); (try simp only [Act.put, List.setIfInBounds_toArray, List.set_cons_zero, List.set_cons_succ]))
  iterate 3 (refine lex_yes (v := ?_) ?_ (quiet_v ?_ ?_) ?_; rotate_left; (focus rfl); (focus ((intro s; simp); done)); (focus ((intro s n; (by_cases hb : s 5 = true <;> simp only [hb, if_true, if_false, Bool.false_eq_true]) <;> (go_simp; first | done | with_reducible rfl | (refine And.intro ?_ ?_ <;> rfl))); done)); (try simp only [Act.put, List.setIfInBounds_toArray, List.set_cons_zero, List.set_cons_succ]))
  refine lex_nil ?_
  refine cls_end (w := w'.alloc (.cells #[.int .u8 (IntKind.u8.wrap op), .int .u8 (IntKind.u8.wrap a)] 5)) [5] (by rfl) (fun s hs => if_pos (hs 5 List.mem_cons_self)) (fun m => ?_)
  go_wp2
  all_goals go_ret2
  all_goals refine Post.intro rfl ?_ ?_
  any_goals (with_reducible repeat (first | apply Kd.R_drewN | apply Kd.R_drew)); exact lit_u8 _ (by first | (have := HB.out.size; simp at this ⊢; omega)) (by simp [wrap_u8]) rfl (by decide)
  all_goals (repeat (first | (with_reducible first | exact HBW.out | apply below_alloc | apply pw_below_drewN | apply below_drew1) | exact HBW.out))

set_option maxHeartbeats 3200000 in
set_option maxRecDepth 100000 in
theorem two_u_tf (at_ op a b : Int) (w : World) (o1 : (op == 132) = false) (S : SizeIs op 2) (IB0 : BrIs op false) (SG : SgIs op false) (b0 : (b == 0) = true) (I1 : InIs a 0 255 false) :
    Calls Try.prog 37 #[.agg #[.int .i64 at_, .int .i64 op, .int .i64 a, .int .i64 b]] w (Post [op % 256, a % 256] false w) := by
  replace S := Aside0.mk S
  replace IB0 := Aside0.mk IB0
  replace SG := Aside0.mk SG
  replace I1 := Aside0.mk I1
  have hu32 := Try.underlying32
  go_enter Try.func37, Try.ntmps37
  go_wp2_with fail
  refine (S.out _).mono ?_
  rintro e w' ⟨rfl, HB⟩
  have hc0 : w'.cell? ⟨w.heap.size, 0, none⟩ = some (.int .i64 at_) := by
    rw [HB.cell (p := ⟨w.heap.size, 0, none⟩) (by simp)]; simp [go_sem]
  have hc1 : w'.cell? ⟨w.heap.size, 1, none⟩ = some (.int .i64 op) := by
    rw [HB.cell (p := ⟨w.heap.size, 1, none⟩) (by simp)]; simp [go_sem]
  have hc2 : w'.cell? ⟨w.heap.size, 2, none⟩ = some (.int .i64 a) := by
    rw [HB.cell (p := ⟨w.heap.size, 2, none⟩) (by simp)]; simp [go_sem]
  have hc3 : w'.cell? ⟨w.heap.size, 3, none⟩ = some (.int .i64 b) := by
    rw [HB.cell (p := ⟨w.heap.size, 3, none⟩) (by simp)]; simp [go_sem]
  have HBW := Aside0.mk (show Below w.heap.size w w' from (below_alloc (Below.refl _ _) _).trans (HB.mono (by simp)))
  replace HB := Aside0.mk HB
  go_wp2_with fail
  refine (IB0.out _).mono ?_
  rintro e w2 ⟨rfl, ⟨nd, rfl⟩⟩
  go_wp2_with fail
  refine (SG.out _).mono ?_
  rintro e w2 ⟨rfl, ⟨nd, rfl⟩⟩
  go_wp2_with fail
  have hlt : w.heap.size < w'.heap.size := by have := HB.out.size; simp at this; omega
  clear hc0
  refine wp_region_lex_lit (cls (fun s => if s 5 = true then w'.alloc (.cells #[.int .u8 (IntKind.u8.wrap op), .int .u8 (IntKind.u8.wrap a)] 5) else w')) (by kernel_rfl) (by kernel_rfl) (by kernel_rfl) ?_ ?_
  (focus (first | exact cls_drew rfl | exact cls_drewN rfl))
  iterate 5 (refine lex_yes (v := ?_) ?_ (quiet_v ?_ ?_) ?_; rotate_left; (focus rfl); (focus ((intro s; simp); done)); (focus ((intro s n; (by_cases hb : s 5 = true <;> simp only [hb, if_true, if_false, Bool.false_eq_true]) <;> (go_simp; first | done | with_reducible rfl | (refine And.intro ?_ ?_ <;> rfl))); done)); (try simp only [Act.put, List.setIfInBounds_toArray, List.set_cons_zero, List.set_cons_succ]))
  (refine lex_yes (v := ?_) ?_ (turns_v ?_) ?_; rotate_left; (focus rfl); (focus ((intro s n hs; simp only [hs, Bool.false_or, BEq.rfl, if_true, Bool.false_eq_true, if_false]; go_simp; first | done | with_reducible rfl | (refine And.intro ?_ ?_ <;> rfl)); done)); (try simp only [Act.put, List.setIfInBounds_toArray, List.set_cons_zero, List.set_cons_succ]))
  iterate 5 (refine lex_yes (v := ?_) ?_ (quiet_v ?_ ?_) ?_; rotate_left; (focus rfl); (focus ((intro s; simp); done)); (focus ((intro s n; (by_cases hb : s 5 = true <;> simp only [hb, if_true, if_false, Bool.false_eq_true]) <;> (go_simp; first | done | with_reducible rfl | (refine And.intro ?_ ?_ <;> rfl))); done)); (try simp only [Act.put, List.setIfInBounds_toArray, List.set_cons_zero, List.set_cons_succ]))
  (refine lex_yes (v := ?_) ?_ (quiet_c (f := ?_) (args := ?_) ?_ ?_ ?_) ?_; rotate_left; (focus rfl); rotate_left 2; (focus ((intro s; simp); done)); (focus ((intro s n; (by_cases hb : s 5 = true <;> simp only [hb, if_true, if_false, Bool.false_eq_true]) <;> (go_simp; first | done | with_reducible rfl | (refine And.intro ?_ ?_ <;> rfl))); done)); (focus (intro s n; refine (I1.out _).mono ?_; rintro e9 w9 ⟨rfl, m9, rfl⟩; refine And.intro ?_ ?_; rfl; exact ⟨m9, rfl⟩)); (try simp only [Act.put, List.setIfInBounds_toArray, List.set_cons_zero, List.set_cons_succ]))
  iterate 3 (refine lex_yes (v := ?_) ?_ (quiet_v ?_ ?_) ?_; rotate_left; (focus rfl); (focus ((intro s; simp); done)); (focus ((intro s n; (by_cases hb : s 5 = true <;> simp only [hb, if_true, if_false, Bool.false_eq_true]) <;> (go_simp; first | done | with_reducible rfl | (refine And.intro ?_ ?_ <;> rfl))); done)); (try simp only [Act.put, List.setIfInBounds_toArray, List.set_cons_zero, List.set_cons_succ]))
  refine lex_nil ?_
  refine cls_end (w := w'.alloc (.cells #[.int .u8 (IntKind.u8.wrap op), .int .u8 (IntKind.u8.wrap a)] 5)) [5] (by rfl) (fun s hs => if_pos (hs 5 List.mem_cons_self)) (fun m => ?_)
  go_wp2
  all_goals go_ret2
  all_goals refine Post.intro rfl ?_ ?_
  any_goals (with_reducible repeat (first | apply Kd.R_drewN | apply Kd.R_drew)); exact lit_u8 _ (by first | (have := HB.out.size; simp at this ⊢; omega)) (by simp [wrap_u8]) rfl (by decide)
  all_goals (repeat (first | (with_reducible first | exact HBW.out | apply below_alloc | apply pw_below_drewN | apply below_drew1) | exact HBW.out))

set_option maxHeartbeats 3200000 in
set_option maxRecDepth 100000 in
theorem two_u_f (at_ op a b : Int) (w : World) (o1 : (op == 132) = false) (S : SizeIs op 2) (IB0 : BrIs op false) (SG : SgIs op false) (b0 : (b == 0) = false) :
    Calls Try.prog 37 #[.agg #[.int .i64 at_, .int .i64 op, .int .i64 a, .int .i64 b]] w (Post [op % 256, a % 256] false w) := by
  replace S := Aside0.mk S
  replace IB0 := Aside0.mk IB0
  replace SG := Aside0.mk SG
  have hu32 := Try.underlying32
  go_enter Try.func37, Try.ntmps37
  go_wp2_with fail
  refine (S.out _).mono ?_
  rintro e w' ⟨rfl, HB⟩
  have hc0 : w'.cell? ⟨w.heap.size, 0, none⟩ = some (.int .i64 at_) := by
    rw [HB.cell (p := ⟨w.heap.size, 0, none⟩) (by simp)]; simp [go_sem]
  have hc1 : w'.cell? ⟨w.heap.size, 1, none⟩ = some (.int .i64 op) := by
    rw [HB.cell (p := ⟨w.heap.size, 1, none⟩) (by simp)]; simp [go_sem]
  have hc2 : w'.cell? ⟨w.heap.size, 2, none⟩ = some (.int .i64 a) := by
    rw [HB.cell (p := ⟨w.heap.size, 2, none⟩) (by simp)]; simp [go_sem]
  have hc3 : w'.cell? ⟨w.heap.size, 3, none⟩ = some (.int .i64 b) := by
    rw [HB.cell (p := ⟨w.heap.size, 3, none⟩) (by simp)]; simp [go_sem]
  have HBW := Aside0.mk (show Below w.heap.size w w' from (below_alloc (Below.refl _ _) _).trans (HB.mono (by simp)))
  replace HB := Aside0.mk HB
  go_wp2_with fail
  refine (IB0.out _).mono ?_
  rintro e w2 ⟨rfl, ⟨nd, rfl⟩⟩
  go_wp2_with fail
  refine (SG.out _).mono ?_
  rintro e w2 ⟨rfl, ⟨nd, rfl⟩⟩
  go_wp2_with fail
  have hlt : w.heap.size < w'.heap.size := by have := HB.out.size; simp at this; omega
  clear hc0
  refine wp_region_lex_lit (cls (fun s => if s 5 = true then w'.alloc (.cells #[.int .u8 (IntKind.u8.wrap op), .int .u8 (IntKind.u8.wrap a)] 5) else w')) (by kernel_rfl) (by kernel_rfl) (by kernel_rfl) ?_ ?_
  (focus (first | exact cls_drew rfl | exact cls_drewN rfl))
  iterate 5 (refine lex_yes (v := ?_) ?_ (quiet_v ?_ ?_) ?_; rotate_left; (focus rfl); (focus ((intro s; simp); done)); (focus ((intro s n; (by_cases hb : s 5 = true <;> simp only [hb, if_true, if_false, Bool.false_eq_true]) <;> (go_simp; first | done | with_reducible rfl | (refine And.intro ?_ ?_ <;> rfl))); done)); (try simp only [Act.put, List.setIfInBounds_toArray, List.set_cons_zero, List.set_cons_succ]))
  (refine lex_yes (v := ?_) ?_ (turns_v ?_) ?_; rotate_left; (focus rfl); (focus ((intro s n hs; simp only [hs, Bool.false_or, BEq.rfl, if_true, Bool.false_eq_true, if_false]; go_simp; first | done | with_reducible rfl | (refine And.intro ?_ ?_ <;> rfl)); done)); (try simp only [Act.put, List.setIfInBounds_toArray, List.set_cons_zero, List.set_cons_succ]))
  iterate 4 (refine lex_yes (v := ?_) ?_ (quiet_v ?_ ?_) ?_; rotate_left; (focus rfl); (focus ((intro s; simp); done)); (focus ((intro s n; (by_cases hb : s 5 = true <;> simp only [hb, if_true, if_false, Bool.false_eq_true]) <;> (go_simp; first | done | with_reducible rfl | (refine And.intro ?_ ?_ <;> rfl))); done)); (try simp only [Act.put, List.setIfInBounds_toArray, List.set_cons_zero, List.set_cons_succ]))
  iterate 2 (refine lex_no ?_ (quiet_no ?_) ?_; (focus rfl); (focus ((intro s; simp); done)); (try simp only [Act.put, List.setIfInBounds_toArray, List.set_cons_zero, List.set_cons_succ]))
  iterate 3 (refine lex_yes (v := ?_) ?_ (quiet_v ?_ ?_) ?_; rotate_left; (focus rfl); (focus ((intro s; simp); done)); (focus ((intro s n; (by_cases hb : s 5 = true <;> simp only [hb, if_true, if_false, Bool.false_eq_true]) <;> (go_simp; first | done | with_reducible rfl | (refine And.intro ?_ ?_ <;> rfl))); done)); (try simp only [Act.put, List.setIfInBounds_toArray, List.set_cons_zero, List.set_cons_succ]))
  refine lex_nil ?_
  refine cls_end (w := w'.alloc (.cells #[.int .u8 (IntKind.u8.wrap op), .int .u8 (IntKind.u8.wrap a)] 5)) [5] (by rfl) (fun s hs => if_pos (hs 5 List.mem_cons_self)) (fun m => ?_)
  go_wp2
  all_goals go_ret2
  all_goals refine Post.intro rfl ?_ ?_
  any_goals (with_reducible repeat (first | apply Kd.R_drewN | apply Kd.R_drew)); exact lit_u8 _ (by first | (have := HB.out.size; simp at this ⊢; omega)) (by simp [wrap_u8]) rfl (by decide)
  all_goals (repeat (first | (with_reducible first | exact HBW.out | apply below_alloc | apply pw_below_drewN | apply below_drew1) | exact HBW.out))

set_option maxHeartbeats 3200000 in
set_option maxRecDepth 100000 in
theorem three_s_tt (at_ op a b : Int) (w : World) (o1 : (op == 132) = false) (S : SizeIs op 3) (IB0 : BrIs op false) (SG : SgIs op true) (b0 : (b == 0) = true) (I1 : InIs a (-32768) 32767 true) :
    Calls Try.prog 37 #[.agg #[.int .i64 at_, .int .i64 op, .int .i64 a, .int .i64 b]] w (Post [op % 256, a / 256 % 256, a % 256] true w) := by
  replace S := Aside0.mk S
  replace IB0 := Aside0.mk IB0
  replace SG := Aside0.mk SG
  replace I1 := Aside0.mk I1
  have hu32 := Try.underlying32
  go_enter Try.func37, Try.ntmps37
  go_wp2_with fail
  refine (S.out _).mono ?_
  rintro e w' ⟨rfl, HB⟩
  have hc0 : w'.cell? ⟨w.heap.size, 0, none⟩ = some (.int .i64 at_) := by
    rw [HB.cell (p := ⟨w.heap.size, 0, none⟩) (by simp)]; simp [go_sem]
  have hc1 : w'.cell? ⟨w.heap.size, 1, none⟩ = some (.int .i64 op) := by
    rw [HB.cell (p := ⟨w.heap.size, 1, none⟩) (by simp)]; simp [go_sem]
  have hc2 : w'.cell? ⟨w.heap.size, 2, none⟩ = some (.int .i64 a) := by
    rw [HB.cell (p := ⟨w.heap.size, 2, none⟩) (by simp)]; simp [go_sem]
  have hc3 : w'.cell? ⟨w.heap.size, 3, none⟩ = some (.int .i64 b) := by
    rw [HB.cell (p := ⟨w.heap.size, 3, none⟩) (by simp)]; simp [go_sem]
  have HBW := Aside0.mk (show Below w.heap.size w w' from (below_alloc (Below.refl _ _) _).trans (HB.mono (by simp)))
  replace HB := Aside0.mk HB
  go_wp2_with fail
  refine (IB0.out _).mono ?_
  rintro e w2 ⟨rfl, ⟨nd, rfl⟩⟩
  go_wp2_with fail
  refine (SG.out _).mono ?_
  rintro e w2 ⟨rfl, ⟨nd, rfl⟩⟩
  go_wp2_with fail
  have hlt : w.heap.size < w'.heap.size := by have := HB.out.size; simp at this; omega
  clear hc0
  refine wp_region_lex_lit (cls (fun s => if s 8 = true then w'.alloc (.cells #[.int .u8 (IntKind.u8.wrap op), .int .u8 (IntKind.u8.wrap (a / 256)), .int .u8 (IntKind.u8.wrap a)] 5) else w')) (by kernel_rfl) (by kernel_rfl) (by kernel_rfl) ?_ ?_
  (focus (first | exact cls_drew rfl | exact cls_drewN rfl))
  iterate 8 (refine lex_yes (v := ?_) ?_ (quiet_v ?_ ?_) ?_; rotate_left; (focus rfl); (focus ((intro s; simp); done)); (focus ((intro s n; (by_cases hb : s 8 = true <;> simp only [hb, if_true, if_false, Bool.false_eq_true]) <;> (go_simp; first | done | with_reducible rfl | (refine And.intro ?_ ?_ <;> rfl))); done)); (try simp only [Act.put, List.setIfInBounds_toArray, List.set_cons_zero, List.set_cons_succ]))
  (refine lex_yes (v := ?_) ?_ (turns_v ?_) ?_; rotate_left; (focus rfl); (focus ((intro s n hs; simp only [hs, Bool.false_or, BEq.rfl, if_true, Bool.false_eq_true, if_false]; go_simp; first | done | with_reducible rfl | (refine And.intro ?_ ?_ <;> rfl)); done)); (try simp only [Act.put, List.setIfInBounds_toArray, List.set_cons_zero, List.set_cons_succ]))
  iterate 5 (refine lex_yes (v := ?_) ?_ (quiet_v ?_ ?_) ?_; rotate_left; (focus rfl); (focus ((intro s; simp); done)); (focus ((intro s n; (by_cases hb : s 8 = true <;> simp only [hb, if_true, if_false, Bool.false_eq_true]) <;> (go_simp; first | done | with_reducible rfl | (refine And.intro ?_ ?_ <;> rfl))); done)); (try simp only [Act.put, List.setIfInBounds_toArray, List.set_cons_zero, List.set_cons_succ]))
  (refine lex_yes (v := ?_) ?_ (quiet_c (f := ?_) (args := ?_) ?_ ?_ ?_) ?_; rotate_left; (focus rfl); rotate_left 2; (focus ((intro s; simp); done)); (focus ((intro s n; (by_cases hb : s 8 = true <;> simp only [hb, if_true, if_false, Bool.false_eq_true]) <;> (go_simp; first | done | with_reducible rfl | (refine And.intro ?_ ?_ <;> rfl))); done)); (focus (intro s n; refine (I1.out _).mono ?_; rintro e9 w9 ⟨rfl, m9, rfl⟩; refine And.intro ?_ ?_; rfl; exact ⟨m9, rfl⟩)); (try simp only [Act.put, List.setIfInBounds_toArray, List.set_cons_zero, List.set_cons_succ]))
  iterate 3 (refine lex_yes (v := ?_) ?_ (quiet_v ?_ ?_) ?_; rotate_left; (focus rfl); (focus ((intro s; simp); done)); (focus ((intro s n; (by_cases hb : s 8 = true <;> simp only [hb, if_true, if_false, Bool.false_eq_true]) <;> (go_simp; first | done | with_reducible rfl | (refine And.intro ?_ ?_ <;> rfl))); done)); (try simp only [Act.put, List.setIfInBounds_toArray, List.set_cons_zero, List.set_cons_succ]))
  refine lex_nil ?_
  refine cls_end (w := w'.alloc (.cells #[.int .u8 (IntKind.u8.wrap op), .int .u8 (IntKind.u8.wrap (a / 256)), .int .u8 (IntKind.u8.wrap a)] 5)) [8] (by rfl) (fun s hs => if_pos (hs 8 List.mem_cons_self)) (fun m => ?_)
  go_wp2
  all_goals go_ret2
  all_goals refine Post.intro rfl ?_ ?_
  any_goals (with_reducible repeat (first | apply Kd.R_drewN | apply Kd.R_drew)); exact lit_u8 _ (by first | (have := HB.out.size; simp at this ⊢; omega)) (by simp [wrap_u8]) rfl (by decide)
  all_goals (repeat (first | (with_reducible first | exact HBW.out | apply below_alloc | apply pw_below_drewN | apply below_drew1) | exact HBW.out))

set_option maxHeartbeats 3200000 in
set_option maxRecDepth 100000 in
theorem three_s_tf (at_ op a b : Int) (w : World) (o1 : (op == 132) = false) (S : SizeIs op 3) (IB0 : BrIs op false) (SG : SgIs op true) (b0 : (b == 0) = true) (I1 : InIs a (-32768) 32767 false) :
    Calls Try.prog 37 #[.agg #[.int .i64 at_, .int .i64 op, .int .i64 a, .int .i64 b]] w (Post [op % 256, a / 256 % 256, a % 256] false w) := by
  replace S := Aside0.mk S
  replace IB0 := Aside0.mk IB0
  replace SG := Aside0.mk SG
  replace I1 := Aside0.mk I1
  have hu32 := Try.underlying32
  go_enter Try.func37, Try.ntmps37
  go_wp2_with fail
  refine (S.out _).mono ?_
  rintro e w' ⟨rfl, HB⟩
  have hc0 : w'.cell? ⟨w.heap.size, 0, none⟩ = some (.int .i64 at_) := by
    rw [HB.cell (p := ⟨w.heap.size, 0, none⟩) (by simp)]; simp [go_sem]
  have hc1 : w'.cell? ⟨w.heap.size, 1, none⟩ = some (.int .i64 op) := by
    rw [HB.cell (p := ⟨w.heap.size, 1, none⟩) (by simp)]; simp [go_sem]
  have hc2 : w'.cell? ⟨w.heap.size, 2, none⟩ = some (.int .i64 a) := by
    rw [HB.cell (p := ⟨w.heap.size, 2, none⟩) (by simp)]; simp [go_sem]
  have hc3 : w'.cell? ⟨w.heap.size, 3, none⟩ = some (.int .i64 b) := by
    rw [HB.cell (p := ⟨w.heap.size, 3, none⟩) (by simp)]; simp [go_sem]
  have HBW := Aside0.mk (show Below w.heap.size w w' from (below_alloc (Below.refl _ _) _).trans (HB.mono (by simp)))
  replace HB := Aside0.mk HB
  go_wp2_with fail
  refine (IB0.out _).mono ?_
  rintro e w2 ⟨rfl, ⟨nd, rfl⟩⟩
  go_wp2_with fail
  refine (SG.out _).mono ?_
  rintro e w2 ⟨rfl, ⟨nd, rfl⟩⟩
  go_wp2_with fail
  have hlt : w.heap.size < w'.heap.size := by have := HB.out.size; simp at this; omega
  clear hc0
  refine wp_region_lex_lit (cls (fun s => if s 8 = true then w'.alloc (.cells #[.int .u8 (IntKind.u8.wrap op), .int .u8 (IntKind.u8.wrap (a / 256)), .int .u8 (IntKind.u8.wrap a)] 5) else w')) (by kernel_rfl) (by kernel_rfl) (by kernel_rfl) ?_ ?_
  (focus (first | exact cls_drew rfl | exact cls_drewN rfl))
  iterate 8 (refine lex_yes (v := ?_) ?_ (quiet_v ?_ ?_) ?_; rotate_left; (focus rfl); (focus ((intro s; simp); done)); (focus ((intro s n; (by_cases hb : s 8 = true <;> simp only [hb, if_true, if_false, Bool.false_eq_true]) <;> (go_simp; first | done | with_reducible rfl | (refine And.intro ?_ ?_ <;> rfl))); done)); (try simp only [Act.put, List.setIfInBounds_toArray, List.set_cons_zero, List.set_cons_succ]))
  (refine lex_yes (v := ?_) ?_ (turns_v ?_) ?_; rotate_left; (focus rfl); (focus ((intro s n hs; simp only [hs, Bool.false_or, BEq.rfl, if_true, Bool.false_eq_true, if_false]; go_simp; first | done | with_reducible rfl | (refine And.intro ?_ ?_ <;> rfl)); done)); (try simp only [Act.put, List.setIfInBounds_toArray, List.set_cons_zero, List.set_cons_succ]))
  iterate 5 (refine lex_yes (v := ?_) ?_ (quiet_v ?_ ?_) ?_; rotate_left; (focus rfl); (focus ((intro s; simp); done)); (focus ((intro s n; (by_cases hb : s 8 = true <;> simp only [hb, if_true, if_false, Bool.false_eq_true]) <;> (go_simp; first | done | with_reducible rfl | (refine And.intro ?_ ?_ <;> rfl))); done)); (try simp only [Act.put, List.setIfInBounds_toArray, List.set_cons_zero, List.set_cons_succ]))
  (refine lex_yes (v := ?_) ?_ (quiet_c (f := ?_) (args := ?_) ?_ ?_ ?_) ?_; rotate_left; (focus rfl); rotate_left 2; (focus ((intro s; simp); done)); (focus ((intro s n; (by_cases hb : s 8 = true <;> simp only [hb, if_true, if_false, Bool.false_eq_true]) <;> (go_simp; first | done | with_reducible rfl | (refine And.intro ?_ ?_ <;> rfl))); done)); (focus (intro s n; refine (I1.out _).mono ?_; rintro e9 w9 ⟨rfl, m9, rfl⟩; refine And.intro ?_ ?_; rfl; exact ⟨m9, rfl⟩)); (try simp only [Act.put, List.setIfInBounds_toArray, List.set_cons_zero, List.set_cons_succ]))
  iterate 3 (refine lex_yes (v := ?_) ?_ (quiet_v ?_ ?_) ?_; rotate_left; (focus rfl); (focus ((intro s; simp); done)); (focus ((intro s n; (by_cases hb : s 8 = true <;> simp only [hb, if_true, if_false, Bool.false_eq_true]) <;> (go_simp; first | done | with_reducible rfl | (refine And.intro ?_ ?_ <;> rfl))); done)); (try simp only [Act.put, List.setIfInBounds_toArray, List.set_cons_zero, List.set_cons_succ]))
  refine lex_nil ?_
  refine cls_end (w := w'.alloc (.cells #[.int .u8 (IntKind.u8.wrap op), .int .u8 (IntKind.u8.wrap (a / 256)), .int .u8 (IntKind.u8.wrap a)] 5)) [8] (by rfl) (fun s hs => if_pos (hs 8 List.mem_cons_self)) (fun m => ?_)
  go_wp2
  all_goals go_ret2
  all_goals refine Post.intro rfl ?_ ?_
  any_goals (with_reducible repeat (first | apply Kd.R_drewN | apply Kd.R_drew)); exact lit_u8 _ (by first | (have := HB.out.size; simp at this ⊢; omega)) (by simp [wrap_u8]) rfl (by decide)
  all_goals (repeat (first | (with_reducible first | exact HBW.out | apply below_alloc | apply pw_below_drewN | apply below_drew1) | exact HBW.out))

set_option maxHeartbeats 3200000 in
set_option maxRecDepth 100000 in
theorem three_s_f (at_ op a b : Int) (w : World) (o1 : (op == 132) = false) (S : SizeIs op 3) (IB0 : BrIs op false) (SG : SgIs op true) (b0 : (b == 0) = false) :
    Calls Try.prog 37 #[.agg #[.int .i64 at_, .int .i64 op, .int .i64 a, .int .i64 b]] w (Post [op % 256, a / 256 % 256, a % 256] false w) := by
  replace S := Aside0.mk S
  replace IB0 := Aside0.mk IB0
  replace SG := Aside0.mk SG
  have hu32 := Try.underlying32
  go_enter Try.func37, Try.ntmps37
  go_wp2_with fail
  refine (S.out _).mono ?_
  rintro e w' ⟨rfl, HB⟩
  have hc0 : w'.cell? ⟨w.heap.size, 0, none⟩ = some (.int .i64 at_) := by
    rw [HB.cell (p := ⟨w.heap.size, 0, none⟩) (by simp)]; simp [go_sem]
  have hc1 : w'.cell? ⟨w.heap.size, 1, none⟩ = some (.int .i64 op) := by
    rw [HB.cell (p := ⟨w.heap.size, 1, none⟩) (by simp)]; simp [go_sem]
  have hc2 : w'.cell? ⟨w.heap.size, 2, none⟩ = some (.int .i64 a) := by
    rw [HB.cell (p := ⟨w.heap.size, 2, none⟩) (by simp)]; simp [go_sem]
  have hc3 : w'.cell? ⟨w.heap.size, 3, none⟩ = some (.int .i64 b) := by
    rw [HB.cell (p := ⟨w.heap.size, 3, none⟩) (by simp)]; simp [go_sem]
  have HBW := Aside0.mk (show Below w.heap.size w w' from (below_alloc (Below.refl _ _) _).trans (HB.mono (by simp)))
  replace HB := Aside0.mk HB
  go_wp2_with fail
  refine (IB0.out _).mono ?_
  rintro e w2 ⟨rfl, ⟨nd, rfl⟩⟩
  go_wp2_with fail
  refine (SG.out _).mono ?_
  rintro e w2 ⟨rfl, ⟨nd, rfl⟩⟩
  go_wp2_with fail
  have hlt : w.heap.size < w'.heap.size := by have := HB.out.size; simp at this; omega
  clear hc0
  refine wp_region_lex_lit (cls (fun s => if s 8 = true then w'.alloc (.cells #[.int .u8 (IntKind.u8.wrap op), .int .u8 (IntKind.u8.wrap (a / 256)), .int .u8 (IntKind.u8.wrap a)] 5) else w')) (by kernel_rfl) (by kernel_rfl) (by kernel_rfl) ?_ ?_
  (focus (first | exact cls_drew rfl | exact cls_drewN rfl))
  iterate 8 (refine lex_yes (v := ?_) ?_ (quiet_v ?_ ?_) ?_; rotate_left; (focus rfl); (focus ((intro s; simp); done)); (focus ((intro s n; (by_cases hb : s 8 = true <;> simp only [hb, if_true, if_false, Bool.false_eq_true]) <;> (go_simp; first | done | with_reducible rfl | (refine And.intro ?_ ?_ <;> rfl))); done)); (try simp only [Act.put, List.setIfInBounds_toArray, List.set_cons_zero, List.set_cons_succ]))
  (refine lex_yes (v := ?_) ?_ (turns_v ?_) ?_; rotate_left; (focus rfl); (focus ((intro s n hs; simp only [hs, Bool.false_or, BEq.rfl, if_true, Bool.false_eq_true, if_false]; go_simp; first | done | with_reducible rfl | (refine And.intro ?_ ?_ <;> rfl)); done)); (try simp only [Act.put, List.setIfInBounds_toArray, List.set_cons_zero, List.set_cons_succ]))
  iterate 4 (refine lex_yes (v := ?_) ?_ (quiet_v ?_ ?_) ?_; rotate_left; (focus rfl); (focus ((intro s; simp); done)); (focus ((intro s n; (by_cases hb : s 8 = true <;> simp only [hb, if_true, if_false, Bool.false_eq_true]) <;> (go_simp; first | done | with_reducible rfl | (refine And.intro ?_ ?_ <;> rfl))); done)); (try simp only [Act.put, List.setIfInBounds_toArray, List.set_cons_zero, List.set_cons_succ]))
  iterate 2 (refine lex_no ?_ (quiet_no ?_) ?_; (focus rfl); (focus ((intro s; simp); done)); (try simp only [Act.put, List.setIfInBounds_toArray, List.set_cons_zero, List.set_cons_succ]))
  iterate 3 (refine lex_yes (v := ?_) ?_ (quiet_v ?_ ?_) ?_; rotate_left; (focus rfl); (focus ((intro s; simp); done)); (focus ((intro s n; (by_cases hb : s 8 = true <;> simp only [hb, if_true, if_false, Bool.false_eq_true]) <;> (go_simp; first | done | with_reducible rfl | (refine And.intro ?_ ?_ <;> rfl))); done)); (try simp only [Act.put, List.setIfInBounds_toArray, List.set_cons_zero, List.set_cons_succ]))
  refine lex_nil ?_
  refine cls_end (w := w'.alloc (.cells #[.int .u8 (IntKind.u8.wrap op), .int .u8 (IntKind.u8.wrap (a / 256)), .int .u8 (IntKind.u8.wrap a)] 5)) [8] (by rfl) (fun s hs => if_pos (hs 8 List.mem_cons_self)) (fun m => ?_)
  go_wp2
  all_goals go_ret2
  all_goals refine Post.intro rfl ?_ ?_
  any_goals (with_reducible repeat (first | apply Kd.R_drewN | apply Kd.R_drew)); exact lit_u8 _ (by first | (have := HB.out.size; simp at this ⊢; omega)) (by simp [wrap_u8]) rfl (by decide)
  all_goals (repeat (first | (with_reducible first | exact HBW.out | apply below_alloc | apply pw_below_drewN | apply below_drew1) | exact HBW.out))

set_option maxHeartbeats 3200000 in
set_option maxRecDepth 100000 in
theorem three_u_tt (at_ op a b : Int) (w : World) (o1 : (op == 132) = false) (S : SizeIs op 3) (IB0 : BrIs op false) (SG : SgIs op false) (b0 : (b == 0) = true) (I1 : InIs a 0 65535 true) :
    Calls Try.prog 37 #[.agg #[.int .i64 at_, .int .i64 op, .int .i64 a, .int .i64 b]] w (Post [op % 256, a / 256 % 256, a % 256] true w) := by
  replace S := Aside0.mk S
  replace IB0 := Aside0.mk IB0
  replace SG := Aside0.mk SG
  replace I1 := Aside0.mk I1
  have hu32 := Try.underlying32
  go_enter Try.func37, Try.ntmps37
  go_wp2_with fail
  refine (S.out _).mono ?_
  rintro e w' ⟨rfl, HB⟩
  have hc0 : w'.cell? ⟨w.heap.size, 0, none⟩ = some (.int .i64 at_) := by
    rw [HB.cell (p := ⟨w.heap.size, 0, none⟩) (by simp)]; simp [go_sem]
  have hc1 : w'.cell? ⟨w.heap.size, 1, none⟩ = some (.int .i64 op) := by
    rw [HB.cell (p := ⟨w.heap.size, 1, none⟩) (by simp)]; simp [go_sem]
  have hc2 : w'.cell? ⟨w.heap.size, 2, none⟩ = some (.int .i64 a) := by
    rw [HB.cell (p := ⟨w.heap.size, 2, none⟩) (by simp)]; simp [go_sem]
  have hc3 : w'.cell? ⟨w.heap.size, 3, none⟩ = some (.int .i64 b) := by
    rw [HB.cell (p := ⟨w.heap.size, 3, none⟩) (by simp)]; simp [go_sem]
  have HBW := Aside0.mk (show Below w.heap.size w w' from (below_alloc (Below.refl _ _) _).trans (HB.mono (by simp)))
  replace HB := Aside0.mk HB
  go_wp2_with fail
  refine (IB0.out _).mono ?_
  rintro e w2 ⟨rfl, ⟨nd, rfl⟩⟩
  go_wp2_with fail
  refine (SG.out _).mono ?_
  rintro e w2 ⟨rfl, ⟨nd, rfl⟩⟩
  go_wp2_with fail
  have hlt : w.heap.size < w'.heap.size := by have := HB.out.size; simp at this; omega
  clear hc0
  refine wp_region_lex_lit (cls (fun s => if s 8 = true then w'.alloc (.cells #[.int .u8 (IntKind.u8.wrap op), .int .u8 (IntKind.u8.wrap (a / 256)), .int .u8 (IntKind.u8.wrap a)] 5) else w')) (by kernel_rfl) (by kernel_rfl) (by kernel_rfl) ?_ ?_
  (focus (first | exact cls_drew rfl | exact cls_drewN rfl))
  iterate 8 (refine lex_yes (v := ?_) ?_ (quiet_v ?_ ?_) ?_; rotate_left; (focus rfl); (focus ((intro s; simp); done)); (focus ((intro s n; (by_cases hb : s 8 = true <;> simp only [hb, if_true, if_false, Bool.false_eq_true]) <;> (go_simp; first | done | with_reducible rfl | (refine And.intro ?_ ?_ <;> rfl))); done)); (try simp only [Act.put, List.setIfInBounds_toArray, List.set_cons_zero, List.set_cons_succ]))
  (refine lex_yes (v := ?_) ?_ (turns_v ?_) ?_; rotate_left; (focus rfl); (focus ((intro s n hs; simp only [hs, Bool.false_or, BEq.rfl, if_true, Bool.false_eq_true, if_false]; go_simp; first | done | with_reducible rfl | (refine And.intro ?_ ?_ <;> rfl)); done)); (try simp only [Act.put, List.setIfInBounds_toArray, List.set_cons_zero, List.set_cons_succ]))
  iterate 5 (refine lex_yes (v := ?_) ?_ (quiet_v ?_ ?_) ?_; rotate_left; (focus rfl); (focus ((intro s; simp); done)); (focus ((intro s n; (by_cases hb : s 8 = true <;> simp only [hb, if_true, if_false, Bool.false_eq_true]) <;> (go_simp; first | done | with_reducible rfl | (refine And.intro ?_ ?_ <;> rfl))); done)); (try simp only [Act.put, List.setIfInBounds_toArray, List.set_cons_zero, List.set_cons_succ]))
  (refine lex_yes (v := ?_) ?_ (quiet_c (f := ?_) (args := ?_) ?_ ?_ ?_) ?_; rotate_left; (focus rfl); rotate_left 2; (focus ((intro s; simp); done)); (focus ((intro s n; (by_cases hb : s 8 = true <;> simp only [hb, if_true, if_false, Bool.false_eq_true]) <;> (go_simp; first | done | with_reducible rfl | (refine And.intro ?_ ?_ <;> rfl))); done)); (focus (intro s n; refine (I1.out _).mono ?_; rintro e9 w9 ⟨rfl, m9, rfl⟩; refine And.intro ?_ ?_; rfl; exact ⟨m9, rfl⟩)); (try simp only [Act.put, List.setIfInBounds_toArray, List.set_cons_zero, List.set_cons_succ]))
  iterate 3 (refine lex_yes (v := ?_) ?_ (quiet_v ?_ ?_) ?_; rotate_left; (focus rfl); (focus ((intro s; simp); done)); (focus ((intro s n; (by_cases hb : s 8 = true <;> simp only [hb, if_true, if_false, Bool.false_eq_true]) <;> (go_simp; first | done | with_reducible rfl | (refine And.intro ?_ ?_ <;> rfl))); done)); (try simp only [Act.put, List.setIfInBounds_toArray, List.set_cons_zero, List.set_cons_succ]))
  refine lex_nil ?_
  refine cls_end (w := w'.alloc (.cells #[.int .u8 (IntKind.u8.wrap op), .int .u8 (IntKind.u8.wrap (a / 256)), .int .u8 (IntKind.u8.wrap a)] 5)) [8] (by rfl) (fun s hs => if_pos (hs 8 List.mem_cons_self)) (fun m => ?_)
  go_wp2
  all_goals go_ret2
  all_goals refine Post.intro rfl ?_ ?_
  any_goals (with_reducible repeat (first | apply Kd.R_drewN | apply Kd.R_drew)); exact lit_u8 _ (by first | (have := HB.out.size; simp at this ⊢; omega)) (by simp [wrap_u8]) rfl (by decide)
  all_goals (repeat (first | (with_reducible first | exact HBW.out | apply below_alloc | apply pw_below_drewN | apply below_drew1) | exact HBW.out))

set_option maxHeartbeats 3200000 in
set_option maxRecDepth 100000 in
theorem three_u_tf (at_ op a b : Int) (w : World) (o1 : (op == 132) = false) (S : SizeIs op 3) (IB0 : BrIs op false) (SG : SgIs op false) (b0 : (b == 0) = true) (I1 : InIs a 0 65535 false) :
    Calls Try.prog 37 #[.agg #[.int .i64 at_, .int .i64 op, .int .i64 a, .int .i64 b]] w (Post [op % 256, a / 256 % 256, a % 256] false w) := by
  replace S := Aside0.mk S
  replace IB0 := Aside0.mk IB0
  replace SG := Aside0.mk SG
  replace I1 := Aside0.mk I1
  have hu32 := Try.underlying32
  go_enter Try.func37, Try.ntmps37
  go_wp2_with fail
  refine (S.out _).mono ?_
  rintro e w' ⟨rfl, HB⟩
  have hc0 : w'.cell? ⟨w.heap.size, 0, none⟩ = some (.int .i64 at_) := by
    rw [HB.cell (p := ⟨w.heap.size, 0, none⟩) (by simp)]; simp [go_sem]
  have hc1 : w'.cell? ⟨w.heap.size, 1, none⟩ = some (.int .i64 op) := by
    rw [HB.cell (p := ⟨w.heap.size, 1, none⟩) (by simp)]; simp [go_sem]
  have hc2 : w'.cell? ⟨w.heap.size, 2, none⟩ = some (.int .i64 a) := by
    rw [HB.cell (p := ⟨w.heap.size, 2, none⟩) (by simp)]; simp [go_sem]
  have hc3 : w'.cell? ⟨w.heap.size, 3, none⟩ = some (.int .i64 b) := by
    rw [HB.cell (p := ⟨w.heap.size, 3, none⟩) (by simp)]; simp [go_sem]
  have HBW := Aside0.mk (show Below w.heap.size w w' from (below_alloc (Below.refl _ _) _).trans (HB.mono (by simp)))
  replace HB := Aside0.mk HB
  go_wp2_with fail
  refine (IB0.out _).mono ?_
  rintro e w2 ⟨rfl, ⟨nd, rfl⟩⟩
  go_wp2_with fail
  refine (SG.out _).mono ?_
  rintro e w2 ⟨rfl, ⟨nd, rfl⟩⟩
  go_wp2_with fail
  have hlt : w.heap.size < w'.heap.size := by have := HB.out.size; simp at this; omega
  clear hc0
  refine wp_region_lex_lit (cls (fun s => if s 8 = true then w'.alloc (.cells #[.int .u8 (IntKind.u8.wrap op), .int .u8 (IntKind.u8.wrap (a / 256)), .int .u8 (IntKind.u8.wrap a)] 5) else w')) (by kernel_rfl) (by kernel_rfl) (by kernel_rfl) ?_ ?_
  (focus (first | exact cls_drew rfl | exact cls_drewN rfl))
  iterate 8 (refine lex_yes (v := ?_) ?_ (quiet_v ?_ ?_) ?_; rotate_left; (focus rfl); (focus ((intro s; simp); done)); (focus ((intro s n; (by_cases hb : s 8 = true <;> simp only [hb, if_true, if_false, Bool.false_eq_true]) <;> (go_simp; first | done | with_reducible rfl | (refine And.intro ?_ ?_ <;> rfl))); done)); (try simp only [Act.put, List.setIfInBounds_toArray, List.set_cons_zero, List.set_cons_succ]))
  (refine lex_yes (v := ?_) ?_ (turns_v ?_) ?_; rotate_left; (focus rfl); (focus ((intro s n hs; simp only [hs, Bool.false_or, BEq.rfl, if_true, Bool.false_eq_true, if_false]; go_simp; first | done | with_reducible rfl | (refine And.intro ?_ ?_ <;> rfl)); done)); (try simp only [Act.put, List.setIfInBounds_toArray, List.set_cons_zero, List.set_cons_succ]))
  iterate 5 (refine lex_yes (v := ?_) ?_ (quiet_v ?_ ?_) ?_; rotate_left; (focus rfl); (focus ((intro s; simp); done)); (focus ((intro s n; (by_cases hb : s 8 = true <;> simp only [hb, if_true, if_false, Bool.false_eq_true]) <;> (go_simp; first | done | with_reducible rfl | (refine And.intro ?_ ?_ <;> rfl))); done)); (try simp only [Act.put, List.setIfInBounds_toArray, List.set_cons_zero, List.set_cons_succ]))
  (refine lex_yes (v := ?_) ?_ (quiet_c (f := ?_) (args := ?_) ?_ ?_ ?_) ?_; rotate_left; (focus rfl); rotate_left 2; (focus ((intro s; simp); done)); (focus ((intro s n; (by_cases hb : s 8 = true <;> simp only [hb, if_true, if_false, Bool.false_eq_true]) <;> (go_simp; first | done | with_reducible rfl | (refine And.intro ?_ ?_ <;> rfl))); done)); (focus (intro s n; refine (I1.out _).mono ?_; rintro e9 w9 ⟨rfl, m9, rfl⟩; refine And.intro ?_ ?_; rfl; exact ⟨m9, rfl⟩)); (try simp only [Act.put, List.setIfInBounds_toArray, List.set_cons_zero, List.set_cons_succ]))
  iterate 3 (refine lex_yes (v := ?_) ?_ (quiet_v ?_ ?_) ?_; rotate_left; (focus rfl); (focus ((intro s; simp); done)); (focus ((intro s n; (by_cases hb : s 8 = true <;> simp only [hb, if_true, if_false, Bool.false_eq_true]) <;> (go_simp; first | done | with_reducible rfl | (refine And.intro ?_ ?_ <;> rfl))); done)); (try simp only [Act.put, List.setIfInBounds_toArray, List.set_cons_zero, List.set_cons_succ]))
  refine lex_nil ?_
  refine cls_end (w := w'.alloc (.cells #[.int .u8 (IntKind.u8.wrap op), .int .u8 (IntKind.u8.wrap (a / 256)), .int .u8 (IntKind.u8.wrap a)] 5)) [8] (by rfl) (fun s hs => if_pos (hs 8 List.mem_cons_self)) (fun m => ?_)
  go_wp2
  all_goals go_ret2
  all_goals refine Post.intro rfl ?_ ?_
  any_goals (with_reducible repeat (first | apply Kd.R_drewN | apply Kd.R_drew)); exact lit_u8 _ (by first | (have := HB.out.size; simp at this ⊢; omega)) (by simp [wrap_u8]) rfl (by decide)
  all_goals (repeat (first | (with_reducible first | exact HBW.out | apply below_alloc | apply pw_below_drewN | apply below_drew1) | exact HBW.out))

set_option maxHeartbeats 3200000 in
set_option maxRecDepth 100000 in
theorem three_u_f (at_ op a b : Int) (w : World) (o1 : (op == 132) = false) (S : SizeIs op 3) (IB0 : BrIs op false) (SG : SgIs op false) (b0 : (b == 0) = false) :
    Calls Try.prog 37 #[.agg #[.int .i64 at_, .int .i64 op, .int .i64 a, .int .i64 b]] w (Post [op % 256, a / 256 % 256, a % 256] false w) := by
  replace S := Aside0.mk S
  replace IB0 := Aside0.mk IB0
  replace SG := Aside0.mk SG
  have hu32 := Try.underlying32
  go_enter Try.func37, Try.ntmps37
  go_wp2_with fail
  refine (S.out _).mono ?_
  rintro e w' ⟨rfl, HB⟩
  have hc0 : w'.cell? ⟨w.heap.size, 0, none⟩ = some (.int .i64 at_) := by
    rw [HB.cell (p := ⟨w.heap.size, 0, none⟩) (by simp)]; simp [go_sem]
  have hc1 : w'.cell? ⟨w.heap.size, 1, none⟩ = some (.int .i64 op) := by
    rw [HB.cell (p := ⟨w.heap.size, 1, none⟩) (by simp)]; simp [go_sem]
  have hc2 : w'.cell? ⟨w.heap.size, 2, none⟩ = some (.int .i64 a) := by
    rw [HB.cell (p := ⟨w.heap.size, 2, none⟩) (by simp)]; simp [go_sem]
  have hc3 : w'.cell? ⟨w.heap.size, 3, none⟩ = some (.int .i64 b) := by
    rw [HB.cell (p := ⟨w.heap.size, 3, none⟩) (by simp)]; simp [go_sem]
  have HBW := Aside0.mk (show Below w.heap.size w w' from (below_alloc (Below.refl _ _) _).trans (HB.mono (by simp)))
  replace HB := Aside0.mk HB
  go_wp2_with fail
  refine (IB0.out _).mono ?_
  rintro e w2 ⟨rfl, ⟨nd, rfl⟩⟩
  go_wp2_with fail
  refine (SG.out _).mono ?_
  rintro e w2 ⟨rfl, ⟨nd, rfl⟩⟩
  go_wp2_with fail
  have hlt : w.heap.size < w'.heap.size := by have := HB.out.size; simp at this; omega
  clear hc0
  refine wp_region_lex_lit (cls (fun s => if s 8 = true then w'.alloc (.cells #[.int .u8 (IntKind.u8.wrap op), .int .u8 (IntKind.u8.wrap (a / 256)), .int .u8 (IntKind.u8.wrap a)] 5) else w')) (by kernel_rfl) (by kernel_rfl) (by kernel_rfl) ?_ ?_
  (focus (first | exact cls_drew rfl | exact cls_drewN rfl))
  iterate 8 (refine lex_yes (v := ?_) ?_ (quiet_v ?_ ?_) ?_; rotate_left; (focus rfl); (focus ((intro s; simp); done)); (focus ((intro s n; (by_cases hb : s 8 = true <;> simp only [hb, if_true, if_false, Bool.false_eq_true]) <;> (go_simp; first | done | with_reducible rfl | (refine And.intro ?_ ?_ <;> rfl))); done)); (try simp only [Act.put, List.setIfInBounds_toArray, List.set_cons_zero, List.set_cons_succ]))
  (refine lex_yes (v := ?_) ?_ (turns_v ?_) ?_; rotate_left; (focus rfl); (focus ((intro s n hs; simp only [hs, Bool.false_or, BEq.rfl, if_true, Bool.false_eq_true, if_false]; go_simp; first | done | with_reducible rfl | (refine And.intro ?_ ?_ <;> rfl)); done)); (try simp only [Act.put, List.setIfInBounds_toArray, List.set_cons_zero, List.set_cons_succ]))
  iterate 4 (refine lex_yes (v := ?_) ?_ (quiet_v ?_ ?_) ?_; rotate_left; (focus rfl); (focus ((intro s; simp); done)); (focus ((intro s n; (by_cases hb : s 8 = true <;> simp only [hb, if_true, if_false, Bool.false_eq_true]) <;> (go_simp; first | done | with_reducible rfl | (refine And.intro ?_ ?_ <;> rfl))); done)); (try simp only [Act.put, List.setIfInBounds_toArray, List.set_cons_zero, List.set_cons_succ]))
  iterate 2 (refine lex_no ?_ (quiet_no ?_) ?_; (focus rfl); (focus ((intro s; simp); done)); (try simp only [Act.put, List.setIfInBounds_toArray, List.set_cons_zero, List.set_cons_succ]))
  iterate 3 (refine lex_yes (v := ?_) ?_ (quiet_v ?_ ?_) ?_; rotate_left; (focus rfl); (focus ((intro s; simp); done)); (focus ((intro s n; (by_cases hb : s 8 = true <;> simp only [hb, if_true, if_false, Bool.false_eq_true]) <;> (go_simp; first | done | with_reducible rfl | (refine And.intro ?_ ?_ <;> rfl))); done)); (try simp only [Act.put, List.setIfInBounds_toArray, List.set_cons_zero, List.set_cons_succ]))
  refine lex_nil ?_
  refine cls_end (w := w'.alloc (.cells #[.int .u8 (IntKind.u8.wrap op), .int .u8 (IntKind.u8.wrap (a / 256)), .int .u8 (IntKind.u8.wrap a)] 5)) [8] (by rfl) (fun s hs => if_pos (hs 8 List.mem_cons_self)) (fun m => ?_)
  go_wp2
  all_goals go_ret2
  all_goals refine Post.intro rfl ?_ ?_
  any_goals (with_reducible repeat (first | apply Kd.R_drewN | apply Kd.R_drew)); exact lit_u8 _ (by first | (have := HB.out.size; simp at this ⊢; omega)) (by simp [wrap_u8]) rfl (by decide)
  all_goals (repeat (first | (with_reducible first | exact HBW.out | apply below_alloc | apply pw_below_drewN | apply below_drew1) | exact HBW.out))

set_option maxHeartbeats 3200000 in
set_option maxRecDepth 100000 in
theorem one_tt (at_ op a b : Int) (w : World) (o1 : (op == 132) = false) (S : SizeIs op 1) (IB0 : BrIs op false) (a0 : (a == 0) = true) (b0 : (b == 0) = true) :
    Calls Try.prog 37 #[.agg #[.int .i64 at_, .int .i64 op, .int .i64 a, .int .i64 b]] w (Post [op % 256] true w) := by
  replace S := Aside0.mk S
  replace IB0 := Aside0.mk IB0
  have hu32 := Try.underlying32
  go_enter Try.func37, Try.ntmps37
  go_wp2_with fail
  refine (S.out _).mono ?_
  rintro e w' ⟨rfl, HB⟩
  have hc0 : w'.cell? ⟨w.heap.size, 0, none⟩ = some (.int .i64 at_) := by
    rw [HB.cell (p := ⟨w.heap.size, 0, none⟩) (by simp)]; simp [go_sem]
  have hc1 : w'.cell? ⟨w.heap.size, 1, none⟩ = some (.int .i64 op) := by
    rw [HB.cell (p := ⟨w.heap.size, 1, none⟩) (by simp)]; simp [go_sem]
  have hc2 : w'.cell? ⟨w.heap.size, 2, none⟩ = some (.int .i64 a) := by
    rw [HB.cell (p := ⟨w.heap.size, 2, none⟩) (by simp)]; simp [go_sem]
  have hc3 : w'.cell? ⟨w.heap.size, 3, none⟩ = some (.int .i64 b) := by
    rw [HB.cell (p := ⟨w.heap.size, 3, none⟩) (by simp)]; simp [go_sem]
  have HBW := Aside0.mk (show Below w.heap.size w w' from (below_alloc (Below.refl _ _) _).trans (HB.mono (by simp)))
  replace HB := Aside0.mk HB
  go_wp2_with fail
  refine (IB0.out _).mono ?_
  rintro e w2 ⟨rfl, ⟨nd, rfl⟩⟩
  go_wp2_with fail
  have hlt : w.heap.size < w'.heap.size := by have := HB.out.size; simp at this; omega
  clear hc0
  refine wp_region_lex_lit (cls (fun s => if s 3 = true then w'.alloc (.cells #[.int .u8 (IntKind.u8.wrap op)] 5) else w')) (by kernel_rfl) (by kernel_rfl) (by kernel_rfl) ?_ ?_
  (focus (first | exact cls_drew rfl | exact cls_drewN rfl))
  iterate 3 (refine lex_yes (v := ?_) ?_ (quiet_v ?_ ?_) ?_; rotate_left; (focus rfl); (focus ((intro s; simp); done)); (focus ((intro s n; (by_cases hb : s 3 = true <;> simp only [hb, if_true, if_false, Bool.false_eq_true]) <;> (go_simp; first | done | with_reducible rfl | (refine And.intro ?_ ?_ <;> rfl))); done)); (try simp only [Act.put, List.setIfInBounds_toArray, List.set_cons_zero, List.set_cons_succ]))
  (refine lex_yes (v := ?_) ?_ (turns_v ?_) ?_; rotate_left; (focus rfl); (focus ((intro s n hs; simp only [hs, Bool.false_or, BEq.rfl, if_true, Bool.false_eq_true, if_false]; go_simp; first | done | with_reducible rfl | (refine And.intro ?_ ?_ <;> rfl)); done)); (try simp only [Act.put, List.setIfInBounds_toArray, List.set_cons_zero, List.set_cons_succ]))
  iterate 10 (refine lex_yes (v := ?_) ?_ (quiet_v ?_ ?_) ?_; rotate_left; (focus rfl); (focus ((intro s; simp); done)); (focus ((intro s n; (by_cases hb : s 3 = true <;> simp only [hb, if_true, if_false, Bool.false_eq_true]) <;> (go_simp; first | done | with_reducible rfl | (refine And.intro ?_ ?_ <;> rfl))); done)); (try simp only [Act.put, List.setIfInBounds_toArray, List.set_cons_zero, List.set_cons_succ]))
  refine lex_nil ?_
  refine cls_end (w := w'.alloc (.cells #[.int .u8 (IntKind.u8.wrap op)] 5)) [3] (by rfl) (fun s hs => if_pos (hs 3 List.mem_cons_self)) (fun m => ?_)
  go_wp2
  all_goals go_ret2
  all_goals refine Post.intro rfl ?_ ?_
  any_goals (with_reducible repeat (first | apply Kd.R_drewN | apply Kd.R_drew)); exact lit_u8 _ (by first | (have := HB.out.size; simp at this ⊢; omega)) (by simp [wrap_u8]) rfl (by decide)
  all_goals (repeat (first | (with_reducible first | exact HBW.out | apply below_alloc | apply pw_below_drewN | apply below_drew1) | exact HBW.out))

set_option maxHeartbeats 3200000 in
set_option maxRecDepth 100000 in
theorem one_tf (at_ op a b : Int) (w : World) (o1 : (op == 132) = false) (S : SizeIs op 1) (IB0 : BrIs op false) (a0 : (a == 0) = true) (b0 : (b == 0) = false) :
    Calls Try.prog 37 #[.agg #[.int .i64 at_, .int .i64 op, .int .i64 a, .int .i64 b]] w (Post [op % 256] false w) := by
  replace S := Aside0.mk S
  replace IB0 := Aside0.mk IB0
  have hu32 := Try.underlying32
  go_enter Try.func37, Try.ntmps37
  go_wp2_with fail
  refine (S.out _).mono ?_
  rintro e w' ⟨rfl, HB⟩
  have hc0 : w'.cell? ⟨w.heap.size, 0, none⟩ = some (.int .i64 at_) := by
    rw [HB.cell (p := ⟨w.heap.size, 0, none⟩) (by simp)]; simp [go_sem]
  have hc1 : w'.cell? ⟨w.heap.size, 1, none⟩ = some (.int .i64 op) := by
    rw [HB.cell (p := ⟨w.heap.size, 1, none⟩) (by simp)]; simp [go_sem]
  have hc2 : w'.cell? ⟨w.heap.size, 2, none⟩ = some (.int .i64 a) := by
    rw [HB.cell (p := ⟨w.heap.size, 2, none⟩) (by simp)]; simp [go_sem]
  have hc3 : w'.cell? ⟨w.heap.size, 3, none⟩ = some (.int .i64 b) := by
    rw [HB.cell (p := ⟨w.heap.size, 3, none⟩) (by simp)]; simp [go_sem]
  have HBW := Aside0.mk (show Below w.heap.size w w' from (below_alloc (Below.refl _ _) _).trans (HB.mono (by simp)))
  replace HB := Aside0.mk HB
  go_wp2_with fail
  refine (IB0.out _).mono ?_
  rintro e w2 ⟨rfl, ⟨nd, rfl⟩⟩
  go_wp2_with fail
  have hlt : w.heap.size < w'.heap.size := by have := HB.out.size; simp at this; omega
  clear hc0
  refine wp_region_lex_lit (cls (fun s => if s 3 = true then w'.alloc (.cells #[.int .u8 (IntKind.u8.wrap op)] 5) else w')) (by kernel_rfl) (by kernel_rfl) (by kernel_rfl) ?_ ?_
  (focus (first | exact cls_drew rfl | exact cls_drewN rfl))
  iterate 3 (refine lex_yes (v := ?_) ?_ (quiet_v ?_ ?_) ?_; rotate_left; (focus rfl); (focus ((intro s; simp); done)); (focus ((intro s n; (by_cases hb : s 3 = true <;> simp only [hb, if_true, if_false, Bool.false_eq_true]) <;> (go_simp; first | done | with_reducible rfl | (refine And.intro ?_ ?_ <;> rfl))); done)); (try simp only [Act.put, List.setIfInBounds_toArray, List.set_cons_zero, List.set_cons_succ]))
  (refine lex_yes (v := ?_) ?_ (turns_v ?_) ?_; rotate_left; (focus rfl); (focus ((intro s n hs; simp only [hs, Bool.false_or, BEq.rfl, if_true, Bool.false_eq_true, if_false]; go_simp; first | done | with_reducible rfl | (refine And.intro ?_ ?_ <;> rfl)); done)); (try simp only [Act.put, List.setIfInBounds_toArray, List.set_cons_zero, List.set_cons_succ]))
  iterate 10 (refine lex_yes (v := ?_) ?_ (quiet_v ?_ ?_) ?_; rotate_left; (focus rfl); (focus ((intro s; simp); done)); (focus ((intro s n; (by_cases hb : s 3 = true <;> simp only [hb, if_true, if_false, Bool.false_eq_true]) <;> (go_simp; first | done | with_reducible rfl | (refine And.intro ?_ ?_ <;> rfl))); done)); (try simp only [Act.put, List.setIfInBounds_toArray, List.set_cons_zero, List.set_cons_succ]))
  refine lex_nil ?_
  refine cls_end (w := w'.alloc (.cells #[.int .u8 (IntKind.u8.wrap op)] 5)) [3] (by rfl) (fun s hs => if_pos (hs 3 List.mem_cons_self)) (fun m => ?_)
  go_wp2
  all_goals go_ret2
  all_goals refine Post.intro rfl ?_ ?_
  any_goals (with_reducible repeat (first | apply Kd.R_drewN | apply Kd.R_drew)); exact lit_u8 _ (by first | (have := HB.out.size; simp at this ⊢; omega)) (by simp [wrap_u8]) rfl (by decide)
  all_goals (repeat (first | (with_reducible first | exact HBW.out | apply below_alloc | apply pw_below_drewN | apply below_drew1) | exact HBW.out))

set_option maxHeartbeats 3200000 in
set_option maxRecDepth 100000 in
theorem one_f (at_ op a b : Int) (w : World) (o1 : (op == 132) = false) (S : SizeIs op 1) (IB0 : BrIs op false) (a0 : (a == 0) = false) :
    Calls Try.prog 37 #[.agg #[.int .i64 at_, .int .i64 op, .int .i64 a, .int .i64 b]] w (Post [op % 256] false w) := by
  replace S := Aside0.mk S
  replace IB0 := Aside0.mk IB0
  have hu32 := Try.underlying32
  go_enter Try.func37, Try.ntmps37
  go_wp2_with fail
  refine (S.out _).mono ?_
  rintro e w' ⟨rfl, HB⟩
  have hc0 : w'.cell? ⟨w.heap.size, 0, none⟩ = some (.int .i64 at_) := by
    rw [HB.cell (p := ⟨w.heap.size, 0, none⟩) (by simp)]; simp [go_sem]
  have hc1 : w'.cell? ⟨w.heap.size, 1, none⟩ = some (.int .i64 op) := by
    rw [HB.cell (p := ⟨w.heap.size, 1, none⟩) (by simp)]; simp [go_sem]
  have hc2 : w'.cell? ⟨w.heap.size, 2, none⟩ = some (.int .i64 a) := by
    rw [HB.cell (p := ⟨w.heap.size, 2, none⟩) (by simp)]; simp [go_sem]
  have hc3 : w'.cell? ⟨w.heap.size, 3, none⟩ = some (.int .i64 b) := by
    rw [HB.cell (p := ⟨w.heap.size, 3, none⟩) (by simp)]; simp [go_sem]
  have HBW := Aside0.mk (show Below w.heap.size w w' from (below_alloc (Below.refl _ _) _).trans (HB.mono (by simp)))
  replace HB := Aside0.mk HB
  go_wp2_with fail
  refine (IB0.out _).mono ?_
  rintro e w2 ⟨rfl, ⟨nd, rfl⟩⟩
  go_wp2_with fail
  have hlt : w.heap.size < w'.heap.size := by have := HB.out.size; simp at this; omega
  clear hc0
  refine wp_region_lex_lit (cls (fun s => if s 3 = true then w'.alloc (.cells #[.int .u8 (IntKind.u8.wrap op)] 5) else w')) (by kernel_rfl) (by kernel_rfl) (by kernel_rfl) ?_ ?_
  (focus (first | exact cls_drew rfl | exact cls_drewN rfl))
  iterate 3 (refine lex_yes (v := ?_) ?_ (quiet_v ?_ ?_) ?_; rotate_left; (focus rfl); (focus ((intro s; simp); done)); (focus ((intro s n; (by_cases hb : s 3 = true <;> simp only [hb, if_true, if_false, Bool.false_eq_true]) <;> (go_simp; first | done | with_reducible rfl | (refine And.intro ?_ ?_ <;> rfl))); done)); (try simp only [Act.put, List.setIfInBounds_toArray, List.set_cons_zero, List.set_cons_succ]))
  (refine lex_yes (v := ?_) ?_ (turns_v ?_) ?_; rotate_left; (focus rfl); (focus ((intro s n hs; simp only [hs, Bool.false_or, BEq.rfl, if_true, Bool.false_eq_true, if_false]; go_simp; first | done | with_reducible rfl | (refine And.intro ?_ ?_ <;> rfl)); done)); (try simp only [Act.put, List.setIfInBounds_toArray, List.set_cons_zero, List.set_cons_succ]))
  iterate 4 (refine lex_yes (v := ?_) ?_ (quiet_v ?_ ?_) ?_; rotate_left; (focus rfl); (focus ((intro s; simp); done)); (focus ((intro s n; (by_cases hb : s 3 = true <;> simp only [hb, if_true, if_false, Bool.false_eq_true]) <;> (go_simp; first | done | with_reducible rfl | (refine And.intro ?_ ?_ <;> rfl))); done)); (try simp only [Act.put, List.setIfInBounds_toArray, List.set_cons_zero, List.set_cons_succ]))
  iterate 3 (refine lex_no ?_ (quiet_no ?_) ?_; (focus rfl); (focus ((intro s; simp); done)); (try simp only [Act.put, List.setIfInBounds_toArray, List.set_cons_zero, List.set_cons_succ]))
  iterate 3 (refine lex_yes (v := ?_) ?_ (quiet_v ?_ ?_) ?_; rotate_left; (focus rfl); (focus ((intro s; simp); done)); (focus ((intro s n; (by_cases hb : s 3 = true <;> simp only [hb, if_true, if_false, Bool.false_eq_true]) <;> (go_simp; first | done | with_reducible rfl | (refine And.intro ?_ ?_ <;> rfl))); done)); (try simp only [Act.put, List.setIfInBounds_toArray, List.set_cons_zero, List.set_cons_succ]))
  refine lex_nil ?_
  refine cls_end (w := w'.alloc (.cells #[.int .u8 (IntKind.u8.wrap op)] 5)) [3] (by rfl) (fun s hs => if_pos (hs 3 List.mem_cons_self)) (fun m => ?_)
  go_wp2
  all_goals go_ret2
  all_goals refine Post.intro rfl ?_ ?_
  any_goals (with_reducible repeat (first | apply Kd.R_drewN | apply Kd.R_drew)); exact lit_u8 _ (by first | (have := HB.out.size; simp at this ⊢; omega)) (by simp [wrap_u8]) rfl (by decide)
  all_goals (repeat (first | (with_reducible first | exact HBW.out | apply below_alloc | apply pw_below_drewN | apply below_drew1) | exact HBW.out))

end Go.Proofs.Ytcjhhlbhfkcboaa.RefOne
