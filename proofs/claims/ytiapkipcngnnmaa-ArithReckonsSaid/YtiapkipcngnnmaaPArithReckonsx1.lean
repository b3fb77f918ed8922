-- Written for this claim by a program of our own (myprint).
import Derived.Test.YtiapkipcngnnmaaPArithReckonsx0
namespace Go.Proofs.Ytiapkipcngnnmaa.PArithReckons
open Go.RowKit Go.Proofs.YtiapkipcngnnmaaW.PrintWords Go.Proofs.YtiapkipcngnnmaaW.PrintLast Go.Proofs.YtiapkipcngnnmaaW.PrintMore
attribute [local go_sem] max2_int min2_int max_two min_two max_three min_three max_four min_four   -- for this text's walks alone
set_option linter.unusedVariables false
set_option linter.unusedSimpArgs false

/-! ### arith_Test: function 10 -/
def arith_Test.f (a0 : Int) (a1 : Int) (a2 : Int) : Option (Bool × Int) := if a0 = 153 then (some (decide (a1 = 0), 0)) else (if a0 = 154 then (some (decide (¬ a1 = 0), 0)) else (if a0 = 155 then (some (decide (a1 < 0), 0)) else (if a0 = 156 then (some (decide (¬ a1 < 0), 0)) else (if a0 = 157 then (some (decide (a1 > 0), 0)) else (if a0 = 158 then (some (decide (¬ a1 > 0), 0)) else (if a0 = 159 then (some (decide (a1 = a2), 0)) else (if a0 = 160 then (some (decide (¬ a1 = a2), 0)) else (if a0 = 161 then (some (decide (a1 < a2), 0)) else (if a0 = 162 then (some (decide (¬ a1 < a2), 0)) else (if a0 = 163 then (some (decide (a1 > a2), 0)) else (if a0 = 164 then (some (decide (¬ a1 > a2), 0)) else (some (false, 15)))))))))))))
theorem arith_Test.idx0 (b0 b1 b2 b3 b4 b5 : Value) (w : World) : (Instr.index 44 (.agg #[b0, b1, b2, b3, b4, b5]) (.int .i64 0)).run Try.prog w = .ok b0 w := by rfl
theorem arith_Test.idx1 (b0 b1 b2 b3 b4 b5 : Value) (w : World) : (Instr.index 44 (.agg #[b0, b1, b2, b3, b4, b5]) (.int .i64 1)).run Try.prog w = .ok b1 w := by rfl
theorem arith_Test.idx2 (b0 b1 b2 b3 b4 b5 : Value) (w : World) : (Instr.index 44 (.agg #[b0, b1, b2, b3, b4, b5]) (.int .i64 2)).run Try.prog w = .ok b2 w := by rfl
theorem arith_Test.idx3 (b0 b1 b2 b3 b4 b5 : Value) (w : World) : (Instr.index 44 (.agg #[b0, b1, b2, b3, b4, b5]) (.int .i64 3)).run Try.prog w = .ok b3 w := by rfl
theorem arith_Test.idx4 (b0 b1 b2 b3 b4 b5 : Value) (w : World) : (Instr.index 44 (.agg #[b0, b1, b2, b3, b4, b5]) (.int .i64 4)).run Try.prog w = .ok b4 w := by rfl
theorem arith_Test.idx5 (b0 b1 b2 b3 b4 b5 : Value) (w : World) : (Instr.index 44 (.agg #[b0, b1, b2, b3, b4, b5]) (.int .i64 5)).run Try.prog w = .ok b5 w := by rfl
set_option maxHeartbeats 800000 in
set_option maxRecDepth 100000 in
theorem arith_Test.t153lt (a1 a2 : Int) (w : World) (h : a1 < 0) :
    Calls Try.prog 10 #[.int .i64 153, .int .i32 a1, .int .i32 a2] w fun e w' => e = .returned (.tuple #[.bool false, .int .i64 0]) ∧ Drawn0 w w' := by
  have h1 : decide (a1 < 0) = true := by simp; omega
  have h2 : decide (0 < a1) = false := by simp; omega
  have h3 := arith_Test.idx0
  clear h
  go_enter Try.func10, Try.ntmps10
  go_wp2
  go_ret2
  exact ⟨rfl, Drawn0.refl _⟩
set_option maxHeartbeats 800000 in
set_option maxRecDepth 100000 in
theorem arith_Test.t153eq (a1 a2 : Int) (w : World) (h : a1 = 0) :
    Calls Try.prog 10 #[.int .i64 153, .int .i32 a1, .int .i32 a2] w fun e w' => e = .returned (.tuple #[.bool true, .int .i64 0]) ∧ Drawn0 w w' := by
  have h1 : decide (a1 < 0) = false := by simp; omega
  have h2 : decide (0 < a1) = false := by simp; omega
  have h3 := arith_Test.idx0
  clear h
  go_enter Try.func10, Try.ntmps10
  go_wp2
  go_ret2
  exact ⟨rfl, Drawn0.refl _⟩
set_option maxHeartbeats 800000 in
set_option maxRecDepth 100000 in
theorem arith_Test.t153gt (a1 a2 : Int) (w : World) (h : 0 < a1) :
    Calls Try.prog 10 #[.int .i64 153, .int .i32 a1, .int .i32 a2] w fun e w' => e = .returned (.tuple #[.bool false, .int .i64 0]) ∧ Drawn0 w w' := by
  have h1 : decide (a1 < 0) = false := by simp; omega
  have h2 : decide (0 < a1) = true := by simp; omega
  have h3 := arith_Test.idx0
  clear h
  go_enter Try.func10, Try.ntmps10
  go_wp2
  go_ret2
  exact ⟨rfl, Drawn0.refl _⟩
set_option maxHeartbeats 800000 in
set_option maxRecDepth 100000 in
theorem arith_Test.t154lt (a1 a2 : Int) (w : World) (h : a1 < 0) :
    Calls Try.prog 10 #[.int .i64 154, .int .i32 a1, .int .i32 a2] w fun e w' => e = .returned (.tuple #[.bool true, .int .i64 0]) ∧ Drawn0 w w' := by
  have h1 : decide (a1 < 0) = true := by simp; omega
  have h2 : decide (0 < a1) = false := by simp; omega
  have h3 := arith_Test.idx1
  clear h
  go_enter Try.func10, Try.ntmps10
  go_wp2
  go_ret2
  exact ⟨rfl, Drawn0.refl _⟩
set_option maxHeartbeats 800000 in
set_option maxRecDepth 100000 in
theorem arith_Test.t154eq (a1 a2 : Int) (w : World) (h : a1 = 0) :
    Calls Try.prog 10 #[.int .i64 154, .int .i32 a1, .int .i32 a2] w fun e w' => e = .returned (.tuple #[.bool false, .int .i64 0]) ∧ Drawn0 w w' := by
  have h1 : decide (a1 < 0) = false := by simp; omega
  have h2 : decide (0 < a1) = false := by simp; omega
  have h3 := arith_Test.idx1
  clear h
  go_enter Try.func10, Try.ntmps10
  go_wp2
  go_ret2
  exact ⟨rfl, Drawn0.refl _⟩
set_option maxHeartbeats 800000 in
set_option maxRecDepth 100000 in
theorem arith_Test.t154gt (a1 a2 : Int) (w : World) (h : 0 < a1) :
    Calls Try.prog 10 #[.int .i64 154, .int .i32 a1, .int .i32 a2] w fun e w' => e = .returned (.tuple #[.bool true, .int .i64 0]) ∧ Drawn0 w w' := by
  have h1 : decide (a1 < 0) = false := by simp; omega
  have h2 : decide (0 < a1) = true := by simp; omega
  have h3 := arith_Test.idx1
  clear h
  go_enter Try.func10, Try.ntmps10
  go_wp2
  go_ret2
  exact ⟨rfl, Drawn0.refl _⟩
set_option maxHeartbeats 800000 in
set_option maxRecDepth 100000 in
theorem arith_Test.t155lt (a1 a2 : Int) (w : World) (h : a1 < 0) :
    Calls Try.prog 10 #[.int .i64 155, .int .i32 a1, .int .i32 a2] w fun e w' => e = .returned (.tuple #[.bool true, .int .i64 0]) ∧ Drawn0 w w' := by
  have h1 : decide (a1 < 0) = true := by simp; omega
  have h2 : decide (0 < a1) = false := by simp; omega
  have h3 := arith_Test.idx2
  clear h
  go_enter Try.func10, Try.ntmps10
  go_wp2
  go_ret2
  exact ⟨rfl, Drawn0.refl _⟩
set_option maxHeartbeats 800000 in
set_option maxRecDepth 100000 in
theorem arith_Test.t155eq (a1 a2 : Int) (w : World) (h : a1 = 0) :
    Calls Try.prog 10 #[.int .i64 155, .int .i32 a1, .int .i32 a2] w fun e w' => e = .returned (.tuple #[.bool false, .int .i64 0]) ∧ Drawn0 w w' := by
  have h1 : decide (a1 < 0) = false := by simp; omega
  have h2 : decide (0 < a1) = false := by simp; omega
  have h3 := arith_Test.idx2
  clear h
  go_enter Try.func10, Try.ntmps10
  go_wp2
  go_ret2
  exact ⟨rfl, Drawn0.refl _⟩
set_option maxHeartbeats 800000 in
set_option maxRecDepth 100000 in
theorem arith_Test.t155gt (a1 a2 : Int) (w : World) (h : 0 < a1) :
    Calls Try.prog 10 #[.int .i64 155, .int .i32 a1, .int .i32 a2] w fun e w' => e = .returned (.tuple #[.bool false, .int .i64 0]) ∧ Drawn0 w w' := by
  have h1 : decide (a1 < 0) = false := by simp; omega
  have h2 : decide (0 < a1) = true := by simp; omega
  have h3 := arith_Test.idx2
  clear h
  go_enter Try.func10, Try.ntmps10
  go_wp2
  go_ret2
  exact ⟨rfl, Drawn0.refl _⟩
set_option maxHeartbeats 800000 in
set_option maxRecDepth 100000 in
theorem arith_Test.t156lt (a1 a2 : Int) (w : World) (h : a1 < 0) :
    Calls Try.prog 10 #[.int .i64 156, .int .i32 a1, .int .i32 a2] w fun e w' => e = .returned (.tuple #[.bool false, .int .i64 0]) ∧ Drawn0 w w' := by
  have h1 : decide (a1 < 0) = true := by simp; omega
  have h2 : decide (0 < a1) = false := by simp; omega
  have h3 := arith_Test.idx3
  clear h
  go_enter Try.func10, Try.ntmps10
  go_wp2
  go_ret2
  exact ⟨rfl, Drawn0.refl _⟩
set_option maxHeartbeats 800000 in
set_option maxRecDepth 100000 in
theorem arith_Test.t156eq (a1 a2 : Int) (w : World) (h : a1 = 0) :
    Calls Try.prog 10 #[.int .i64 156, .int .i32 a1, .int .i32 a2] w fun e w' => e = .returned (.tuple #[.bool true, .int .i64 0]) ∧ Drawn0 w w' := by
  have h1 : decide (a1 < 0) = false := by simp; omega
  have h2 : decide (0 < a1) = false := by simp; omega
  have h3 := arith_Test.idx3
  clear h
  go_enter Try.func10, Try.ntmps10
  go_wp2
  go_ret2
  exact ⟨rfl, Drawn0.refl _⟩
set_option maxHeartbeats 800000 in
set_option maxRecDepth 100000 in
theorem arith_Test.t156gt (a1 a2 : Int) (w : World) (h : 0 < a1) :
    Calls Try.prog 10 #[.int .i64 156, .int .i32 a1, .int .i32 a2] w fun e w' => e = .returned (.tuple #[.bool true, .int .i64 0]) ∧ Drawn0 w w' := by
  have h1 : decide (a1 < 0) = false := by simp; omega
  have h2 : decide (0 < a1) = true := by simp; omega
  have h3 := arith_Test.idx3
  clear h
  go_enter Try.func10, Try.ntmps10
  go_wp2
  go_ret2
  exact ⟨rfl, Drawn0.refl _⟩
set_option maxHeartbeats 800000 in
set_option maxRecDepth 100000 in
theorem arith_Test.t157lt (a1 a2 : Int) (w : World) (h : a1 < 0) :
    Calls Try.prog 10 #[.int .i64 157, .int .i32 a1, .int .i32 a2] w fun e w' => e = .returned (.tuple #[.bool false, .int .i64 0]) ∧ Drawn0 w w' := by
  have h1 : decide (a1 < 0) = true := by simp; omega
  have h2 : decide (0 < a1) = false := by simp; omega
  have h3 := arith_Test.idx4
  clear h
  go_enter Try.func10, Try.ntmps10
  go_wp2
  go_ret2
  exact ⟨rfl, Drawn0.refl _⟩
set_option maxHeartbeats 800000 in
set_option maxRecDepth 100000 in
theorem arith_Test.t157eq (a1 a2 : Int) (w : World) (h : a1 = 0) :
    Calls Try.prog 10 #[.int .i64 157, .int .i32 a1, .int .i32 a2] w fun e w' => e = .returned (.tuple #[.bool false, .int .i64 0]) ∧ Drawn0 w w' := by
  have h1 : decide (a1 < 0) = false := by simp; omega
  have h2 : decide (0 < a1) = false := by simp; omega
  have h3 := arith_Test.idx4
  clear h
  go_enter Try.func10, Try.ntmps10
  go_wp2
  go_ret2
  exact ⟨rfl, Drawn0.refl _⟩
set_option maxHeartbeats 800000 in
set_option maxRecDepth 100000 in
theorem arith_Test.t157gt (a1 a2 : Int) (w : World) (h : 0 < a1) :
    Calls Try.prog 10 #[.int .i64 157, .int .i32 a1, .int .i32 a2] w fun e w' => e = .returned (.tuple #[.bool true, .int .i64 0]) ∧ Drawn0 w w' := by
  have h1 : decide (a1 < 0) = false := by simp; omega
  have h2 : decide (0 < a1) = true := by simp; omega
  have h3 := arith_Test.idx4
  clear h
  go_enter Try.func10, Try.ntmps10
  go_wp2
  go_ret2
  exact ⟨rfl, Drawn0.refl _⟩
set_option maxHeartbeats 800000 in
set_option maxRecDepth 100000 in
theorem arith_Test.t158lt (a1 a2 : Int) (w : World) (h : a1 < 0) :
    Calls Try.prog 10 #[.int .i64 158, .int .i32 a1, .int .i32 a2] w fun e w' => e = .returned (.tuple #[.bool true, .int .i64 0]) ∧ Drawn0 w w' := by
  have h1 : decide (a1 < 0) = true := by simp; omega
  have h2 : decide (0 < a1) = false := by simp; omega
  have h3 := arith_Test.idx5
  clear h
  go_enter Try.func10, Try.ntmps10
  go_wp2
  go_ret2
  exact ⟨rfl, Drawn0.refl _⟩
set_option maxHeartbeats 800000 in
set_option maxRecDepth 100000 in
theorem arith_Test.t158eq (a1 a2 : Int) (w : World) (h : a1 = 0) :
    Calls Try.prog 10 #[.int .i64 158, .int .i32 a1, .int .i32 a2] w fun e w' => e = .returned (.tuple #[.bool true, .int .i64 0]) ∧ Drawn0 w w' := by
  have h1 : decide (a1 < 0) = false := by simp; omega
  have h2 : decide (0 < a1) = false := by simp; omega
  have h3 := arith_Test.idx5
  clear h
  go_enter Try.func10, Try.ntmps10
  go_wp2
  go_ret2
  exact ⟨rfl, Drawn0.refl _⟩
set_option maxHeartbeats 800000 in
set_option maxRecDepth 100000 in
theorem arith_Test.t158gt (a1 a2 : Int) (w : World) (h : 0 < a1) :
    Calls Try.prog 10 #[.int .i64 158, .int .i32 a1, .int .i32 a2] w fun e w' => e = .returned (.tuple #[.bool false, .int .i64 0]) ∧ Drawn0 w w' := by
  have h1 : decide (a1 < 0) = false := by simp; omega
  have h2 : decide (0 < a1) = true := by simp; omega
  have h3 := arith_Test.idx5
  clear h
  go_enter Try.func10, Try.ntmps10
  go_wp2
  go_ret2
  exact ⟨rfl, Drawn0.refl _⟩
set_option maxHeartbeats 800000 in
set_option maxRecDepth 100000 in
theorem arith_Test.t159lt (a1 a2 : Int) (w : World) (h : a1 < a2) :
    Calls Try.prog 10 #[.int .i64 159, .int .i32 a1, .int .i32 a2] w fun e w' => e = .returned (.tuple #[.bool false, .int .i64 0]) ∧ Drawn0 w w' := by
  have h1 : decide (a1 < a2) = true := by simp; omega
  have h2 : decide (a2 < a1) = false := by simp; omega
  have h3 := arith_Test.idx0
  clear h
  go_enter Try.func10, Try.ntmps10
  go_wp2
  go_ret2
  exact ⟨rfl, Drawn0.refl _⟩
set_option maxHeartbeats 800000 in
set_option maxRecDepth 100000 in
theorem arith_Test.t159eq (a1 a2 : Int) (w : World) (h : a1 = a2) :
    Calls Try.prog 10 #[.int .i64 159, .int .i32 a1, .int .i32 a2] w fun e w' => e = .returned (.tuple #[.bool true, .int .i64 0]) ∧ Drawn0 w w' := by
  have h1 : decide (a1 < a2) = false := by simp; omega
  have h2 : decide (a2 < a1) = false := by simp; omega
  have h3 := arith_Test.idx0
  clear h
  go_enter Try.func10, Try.ntmps10
  go_wp2
  go_ret2
  exact ⟨rfl, Drawn0.refl _⟩
set_option maxHeartbeats 800000 in
set_option maxRecDepth 100000 in
theorem arith_Test.t159gt (a1 a2 : Int) (w : World) (h : a2 < a1) :
    Calls Try.prog 10 #[.int .i64 159, .int .i32 a1, .int .i32 a2] w fun e w' => e = .returned (.tuple #[.bool false, .int .i64 0]) ∧ Drawn0 w w' := by
  have h1 : decide (a1 < a2) = false := by simp; omega
  have h2 : decide (a2 < a1) = true := by simp; omega
  have h3 := arith_Test.idx0
  clear h
  go_enter Try.func10, Try.ntmps10
  go_wp2
  go_ret2
  exact ⟨rfl, Drawn0.refl _⟩
set_option maxHeartbeats 800000 in
set_option maxRecDepth 100000 in
theorem arith_Test.t160lt (a1 a2 : Int) (w : World) (h : a1 < a2) :
    Calls Try.prog 10 #[.int .i64 160, .int .i32 a1, .int .i32 a2] w fun e w' => e = .returned (.tuple #[.bool true, .int .i64 0]) ∧ Drawn0 w w' := by
  have h1 : decide (a1 < a2) = true := by simp; omega
  have h2 : decide (a2 < a1) = false := by simp; omega
  have h3 := arith_Test.idx1
  clear h
  go_enter Try.func10, Try.ntmps10
  go_wp2
  go_ret2
  exact ⟨rfl, Drawn0.refl _⟩
set_option maxHeartbeats 800000 in
set_option maxRecDepth 100000 in
theorem arith_Test.t160eq (a1 a2 : Int) (w : World) (h : a1 = a2) :
    Calls Try.prog 10 #[.int .i64 160, .int .i32 a1, .int .i32 a2] w fun e w' => e = .returned (.tuple #[.bool false, .int .i64 0]) ∧ Drawn0 w w' := by
  have h1 : decide (a1 < a2) = false := by simp; omega
  have h2 : decide (a2 < a1) = false := by simp; omega
  have h3 := arith_Test.idx1
  clear h
  go_enter Try.func10, Try.ntmps10
  go_wp2
  go_ret2
  exact ⟨rfl, Drawn0.refl _⟩
set_option maxHeartbeats 800000 in
set_option maxRecDepth 100000 in
theorem arith_Test.t160gt (a1 a2 : Int) (w : World) (h : a2 < a1) :
    Calls Try.prog 10 #[.int .i64 160, .int .i32 a1, .int .i32 a2] w fun e w' => e = .returned (.tuple #[.bool true, .int .i64 0]) ∧ Drawn0 w w' := by
  have h1 : decide (a1 < a2) = false := by simp; omega
  have h2 : decide (a2 < a1) = true := by simp; omega
  have h3 := arith_Test.idx1
  clear h
  go_enter Try.func10, Try.ntmps10
  go_wp2
  go_ret2
  exact ⟨rfl, Drawn0.refl _⟩
set_option maxHeartbeats 800000 in
set_option maxRecDepth 100000 in
theorem arith_Test.t161lt (a1 a2 : Int) (w : World) (h : a1 < a2) :
    Calls Try.prog 10 #[.int .i64 161, .int .i32 a1, .int .i32 a2] w fun e w' => e = .returned (.tuple #[.bool true, .int .i64 0]) ∧ Drawn0 w w' := by
  have h1 : decide (a1 < a2) = true := by simp; omega
  have h2 : decide (a2 < a1) = false := by simp; omega
  have h3 := arith_Test.idx2
  clear h
  go_enter Try.func10, Try.ntmps10
  go_wp2
  go_ret2
  exact ⟨rfl, Drawn0.refl _⟩
set_option maxHeartbeats 800000 in
set_option maxRecDepth 100000 in
theorem arith_Test.t161eq (a1 a2 : Int) (w : World) (h : a1 = a2) :
    Calls Try.prog 10 #[.int .i64 161, .int .i32 a1, .int .i32 a2] w fun e w' => e = .returned (.tuple #[.bool false, .int .i64 0]) ∧ Drawn0 w w' := by
  have h1 : decide (a1 < a2) = false := by simp; omega
  have h2 : decide (a2 < a1) = false := by simp; omega
  have h3 := arith_Test.idx2
  clear h
  go_enter Try.func10, Try.ntmps10
  go_wp2
  go_ret2
  exact ⟨rfl, Drawn0.refl _⟩
set_option maxHeartbeats 800000 in
set_option maxRecDepth 100000 in
theorem arith_Test.t161gt (a1 a2 : Int) (w : World) (h : a2 < a1) :
    Calls Try.prog 10 #[.int .i64 161, .int .i32 a1, .int .i32 a2] w fun e w' => e = .returned (.tuple #[.bool false, .int .i64 0]) ∧ Drawn0 w w' := by
  have h1 : decide (a1 < a2) = false := by simp; omega
  have h2 : decide (a2 < a1) = true := by simp; omega
  have h3 := arith_Test.idx2
  clear h
  go_enter Try.func10, Try.ntmps10
  go_wp2
  go_ret2
  exact ⟨rfl, Drawn0.refl _⟩
set_option maxHeartbeats 800000 in
set_option maxRecDepth 100000 in
theorem arith_Test.t162lt (a1 a2 : Int) (w : World) (h : a1 < a2) :
    Calls Try.prog 10 #[.int .i64 162, .int .i32 a1, .int .i32 a2] w fun e w' => e = .returned (.tuple #[.bool false, .int .i64 0]) ∧ Drawn0 w w' := by
  have h1 : decide (a1 < a2) = true := by simp; omega
  have h2 : decide (a2 < a1) = false := by simp; omega
  have h3 := arith_Test.idx3
  clear h
  go_enter Try.func10, Try.ntmps10
  go_wp2
  go_ret2
  exact ⟨rfl, Drawn0.refl _⟩
set_option maxHeartbeats 800000 in
set_option maxRecDepth 100000 in
theorem arith_Test.t162eq (a1 a2 : Int) (w : World) (h : a1 = a2) :
    Calls Try.prog 10 #[.int .i64 162, .int .i32 a1, .int .i32 a2] w fun e w' => e = .returned (.tuple #[.bool true, .int .i64 0]) ∧ Drawn0 w w' := by
  have h1 : decide (a1 < a2) = false := by simp; omega
  have h2 : decide (a2 < a1) = false := by simp; omega
  have h3 := arith_Test.idx3
  clear h
  go_enter Try.func10, Try.ntmps10
  go_wp2
  go_ret2
  exact ⟨rfl, Drawn0.refl _⟩
set_option maxHeartbeats 800000 in
set_option maxRecDepth 100000 in
theorem arith_Test.t162gt (a1 a2 : Int) (w : World) (h : a2 < a1) :
    Calls Try.prog 10 #[.int .i64 162, .int .i32 a1, .int .i32 a2] w fun e w' => e = .returned (.tuple #[.bool true, .int .i64 0]) ∧ Drawn0 w w' := by
  have h1 : decide (a1 < a2) = false := by simp; omega
  have h2 : decide (a2 < a1) = true := by simp; omega
  have h3 := arith_Test.idx3
  clear h
  go_enter Try.func10, Try.ntmps10
  go_wp2
  go_ret2
  exact ⟨rfl, Drawn0.refl _⟩
set_option maxHeartbeats 800000 in
set_option maxRecDepth 100000 in
theorem arith_Test.t163lt (a1 a2 : Int) (w : World) (h : a1 < a2) :
    Calls Try.prog 10 #[.int .i64 163, .int .i32 a1, .int .i32 a2] w fun e w' => e = .returned (.tuple #[.bool false, .int .i64 0]) ∧ Drawn0 w w' := by
  have h1 : decide (a1 < a2) = true := by simp; omega
  have h2 : decide (a2 < a1) = false := by simp; omega
  have h3 := arith_Test.idx4
  clear h
  go_enter Try.func10, Try.ntmps10
  go_wp2
  go_ret2
  exact ⟨rfl, Drawn0.refl _⟩
set_option maxHeartbeats 800000 in
set_option maxRecDepth 100000 in
theorem arith_Test.t163eq (a1 a2 : Int) (w : World) (h : a1 = a2) :
    Calls Try.prog 10 #[.int .i64 163, .int .i32 a1, .int .i32 a2] w fun e w' => e = .returned (.tuple #[.bool false, .int .i64 0]) ∧ Drawn0 w w' := by
  have h1 : decide (a1 < a2) = false := by simp; omega
  have h2 : decide (a2 < a1) = false := by simp; omega
  have h3 := arith_Test.idx4
  clear h
  go_enter Try.func10, Try.ntmps10
  go_wp2
  go_ret2
  exact ⟨rfl, Drawn0.refl _⟩
set_option maxHeartbeats 800000 in
set_option maxRecDepth 100000 in
theorem arith_Test.t163gt (a1 a2 : Int) (w : World) (h : a2 < a1) :
    Calls Try.prog 10 #[.int .i64 163, .int .i32 a1, .int .i32 a2] w fun e w' => e = .returned (.tuple #[.bool true, .int .i64 0]) ∧ Drawn0 w w' := by
  have h1 : decide (a1 < a2) = false := by simp; omega
  have h2 : decide (a2 < a1) = true := by simp; omega
  have h3 := arith_Test.idx4
  clear h
  go_enter Try.func10, Try.ntmps10
  go_wp2
  go_ret2
  exact ⟨rfl, Drawn0.refl _⟩
set_option maxHeartbeats 800000 in
set_option maxRecDepth 100000 in
theorem arith_Test.t164lt (a1 a2 : Int) (w : World) (h : a1 < a2) :
    Calls Try.prog 10 #[.int .i64 164, .int .i32 a1, .int .i32 a2] w fun e w' => e = .returned (.tuple #[.bool true, .int .i64 0]) ∧ Drawn0 w w' := by
  have h1 : decide (a1 < a2) = true := by simp; omega
  have h2 : decide (a2 < a1) = false := by simp; omega
  have h3 := arith_Test.idx5
  clear h
  go_enter Try.func10, Try.ntmps10
  go_wp2
  go_ret2
  exact ⟨rfl, Drawn0.refl _⟩
set_option maxHeartbeats 800000 in
set_option maxRecDepth 100000 in
theorem arith_Test.t164eq (a1 a2 : Int) (w : World) (h : a1 = a2) :
    Calls Try.prog 10 #[.int .i64 164, .int .i32 a1, .int .i32 a2] w fun e w' => e = .returned (.tuple #[.bool true, .int .i64 0]) ∧ Drawn0 w w' := by
  have h1 : decide (a1 < a2) = false := by simp; omega
  have h2 : decide (a2 < a1) = false := by simp; omega
  have h3 := arith_Test.idx5
  clear h
  go_enter Try.func10, Try.ntmps10
  go_wp2
  go_ret2
  exact ⟨rfl, Drawn0.refl _⟩
set_option maxHeartbeats 800000 in
set_option maxRecDepth 100000 in
theorem arith_Test.t164gt (a1 a2 : Int) (w : World) (h : a2 < a1) :
    Calls Try.prog 10 #[.int .i64 164, .int .i32 a1, .int .i32 a2] w fun e w' => e = .returned (.tuple #[.bool false, .int .i64 0]) ∧ Drawn0 w w' := by
  have h1 : decide (a1 < a2) = false := by simp; omega
  have h2 : decide (a2 < a1) = true := by simp; omega
  have h3 := arith_Test.idx5
  clear h
  go_enter Try.func10, Try.ntmps10
  go_wp2
  go_ret2
  exact ⟨rfl, Drawn0.refl _⟩
set_option maxHeartbeats 1600000 in
set_option maxRecDepth 100000 in
theorem arith_Test.tno (a0 a1 a2 : Int) (w : World) (h153 : ¬ a0 = 153) (h154 : ¬ a0 = 154) (h155 : ¬ a0 = 155) (h156 : ¬ a0 = 156) (h157 : ¬ a0 = 157) (h158 : ¬ a0 = 158) (h159 : ¬ a0 = 159) (h160 : ¬ a0 = 160) (h161 : ¬ a0 = 161) (h162 : ¬ a0 = 162) (h163 : ¬ a0 = 163) (h164 : ¬ a0 = 164) :
    Calls Try.prog 10 #[.int .i64 a0, .int .i32 a1, .int .i32 a2] w fun e w' => e = .returned (.tuple #[.bool false, .int .i64 15]) ∧ Drawn0 w w' := by
  have g153 : (a0 == 153) = false := beq_eq_false_iff_ne.mpr h153
  clear h153
  have g154 : (a0 == 154) = false := beq_eq_false_iff_ne.mpr h154
  clear h154
  have g155 : (a0 == 155) = false := beq_eq_false_iff_ne.mpr h155
  clear h155
  have g156 : (a0 == 156) = false := beq_eq_false_iff_ne.mpr h156
  clear h156
  have g157 : (a0 == 157) = false := beq_eq_false_iff_ne.mpr h157
  clear h157
  have g158 : (a0 == 158) = false := beq_eq_false_iff_ne.mpr h158
  clear h158
  have g159 : (a0 == 159) = false := beq_eq_false_iff_ne.mpr h159
  clear h159
  have g160 : (a0 == 160) = false := beq_eq_false_iff_ne.mpr h160
  clear h160
  have g161 : (a0 == 161) = false := beq_eq_false_iff_ne.mpr h161
  clear h161
  have g162 : (a0 == 162) = false := beq_eq_false_iff_ne.mpr h162
  clear h162
  have g163 : (a0 == 163) = false := beq_eq_false_iff_ne.mpr h163
  clear h163
  have g164 : (a0 == 164) = false := beq_eq_false_iff_ne.mpr h164
  clear h164
  go_enter Try.func10, Try.ntmps10
  go_wp2
  go_ret2
  exact ⟨rfl, Drawn0.refl _⟩
theorem arith_Test.calls (a0 : Int) (a1 : Int) (a2 : Int) (r1 : Bool) (r2 : Int) (w : World) (h : arith_Test.f a0 a1 a2 = some (r1, r2)) :
    Calls Try.prog 10 #[.int .i64 a0, .int .i32 a1, .int .i32 a2] w fun e w' => e = .returned (.tuple #[.bool r1, .int .i64 r2]) ∧ Drawn0 w w' := by
  unfold arith_Test.f at h
  by_cases h153 : a0 = 153
  · subst h153
    simp only [if_true, Option.some.injEq, Prod.mk.injEq] at h
    obtain ⟨rfl, rfl⟩ := h
    rcases Int.lt_trichotomy a1 0 with hh | hh | hh
    · rw [show decide (a1 = 0) = false from by simp; omega]; exact arith_Test.t153lt a1 a2 w hh
    · rw [show decide (a1 = 0) = true from by simp; omega]; exact arith_Test.t153eq a1 a2 w hh
    · rw [show decide (a1 = 0) = false from by simp; omega]; exact arith_Test.t153gt a1 a2 w hh
  rw [if_neg h153] at h
  by_cases h154 : a0 = 154
  · subst h154
    simp only [show ¬ ((154 : Int) = 153) from by omega, if_false, if_true, Option.some.injEq, Prod.mk.injEq] at h
    obtain ⟨rfl, rfl⟩ := h
    rcases Int.lt_trichotomy a1 0 with hh | hh | hh
    · rw [show decide (¬ a1 = 0) = true from by simp; omega]; exact arith_Test.t154lt a1 a2 w hh
    · rw [show decide (¬ a1 = 0) = false from by simp; omega]; exact arith_Test.t154eq a1 a2 w hh
    · rw [show decide (¬ a1 = 0) = true from by simp; omega]; exact arith_Test.t154gt a1 a2 w hh
  rw [if_neg h154] at h
  by_cases h155 : a0 = 155
  · subst h155
    simp only [show ¬ ((155 : Int) = 153) from by omega, if_false, show ¬ ((155 : Int) = 154) from by omega, if_false, if_true, Option.some.injEq, Prod.mk.injEq] at h
    obtain ⟨rfl, rfl⟩ := h
    rcases Int.lt_trichotomy a1 0 with hh | hh | hh
    · rw [show decide (a1 < 0) = true from by simp; omega]; exact arith_Test.t155lt a1 a2 w hh
    · rw [show decide (a1 < 0) = false from by simp; omega]; exact arith_Test.t155eq a1 a2 w hh
    · rw [show decide (a1 < 0) = false from by simp; omega]; exact arith_Test.t155gt a1 a2 w hh
  rw [if_neg h155] at h
  by_cases h156 : a0 = 156
  · subst h156
    simp only [show ¬ ((156 : Int) = 153) from by omega, if_false, show ¬ ((156 : Int) = 154) from by omega, if_false, show ¬ ((156 : Int) = 155) from by omega, if_false, if_true, Option.some.injEq, Prod.mk.injEq] at h
    obtain ⟨rfl, rfl⟩ := h
    rcases Int.lt_trichotomy a1 0 with hh | hh | hh
    · rw [show decide (¬ a1 < 0) = false from by simp; omega]; exact arith_Test.t156lt a1 a2 w hh
    · rw [show decide (¬ a1 < 0) = true from by simp; omega]; exact arith_Test.t156eq a1 a2 w hh
    · rw [show decide (¬ a1 < 0) = true from by simp; omega]; exact arith_Test.t156gt a1 a2 w hh
  rw [if_neg h156] at h
  by_cases h157 : a0 = 157
  · subst h157
    simp only [show ¬ ((157 : Int) = 153) from by omega, if_false, show ¬ ((157 : Int) = 154) from by omega, if_false, show ¬ ((157 : Int) = 155) from by omega, if_false, show ¬ ((157 : Int) = 156) from by omega, if_false, if_true, Option.some.injEq, Prod.mk.injEq] at h
    obtain ⟨rfl, rfl⟩ := h
    rcases Int.lt_trichotomy a1 0 with hh | hh | hh
    · rw [show decide (a1 > 0) = false from by simp; omega]; exact arith_Test.t157lt a1 a2 w hh
    · rw [show decide (a1 > 0) = false from by simp; omega]; exact arith_Test.t157eq a1 a2 w hh
    · rw [show decide (a1 > 0) = true from by simp; omega]; exact arith_Test.t157gt a1 a2 w hh
  rw [if_neg h157] at h
  by_cases h158 : a0 = 158
  · subst h158
    simp only [show ¬ ((158 : Int) = 153) from by omega, if_false, show ¬ ((158 : Int) = 154) from by omega, if_false, show ¬ ((158 : Int) = 155) from by omega, if_false, show ¬ ((158 : Int) = 156) from by omega, if_false, show ¬ ((158 : Int) = 157) from by omega, if_false, if_true, Option.some.injEq, Prod.mk.injEq] at h
    obtain ⟨rfl, rfl⟩ := h
    rcases Int.lt_trichotomy a1 0 with hh | hh | hh
    · rw [show decide (¬ a1 > 0) = true from by simp; omega]; exact arith_Test.t158lt a1 a2 w hh
    · rw [show decide (¬ a1 > 0) = true from by simp; omega]; exact arith_Test.t158eq a1 a2 w hh
    · rw [show decide (¬ a1 > 0) = false from by simp; omega]; exact arith_Test.t158gt a1 a2 w hh
  rw [if_neg h158] at h
  by_cases h159 : a0 = 159
  · subst h159
    simp only [show ¬ ((159 : Int) = 153) from by omega, if_false, show ¬ ((159 : Int) = 154) from by omega, if_false, show ¬ ((159 : Int) = 155) from by omega, if_false, show ¬ ((159 : Int) = 156) from by omega, if_false, show ¬ ((159 : Int) = 157) from by omega, if_false, show ¬ ((159 : Int) = 158) from by omega, if_false, if_true, Option.some.injEq, Prod.mk.injEq] at h
    obtain ⟨rfl, rfl⟩ := h
    rcases Int.lt_trichotomy a1 a2 with hh | hh | hh
    · rw [show decide (a1 = a2) = false from by simp; omega]; exact arith_Test.t159lt a1 a2 w hh
    · rw [show decide (a1 = a2) = true from by simp; omega]; exact arith_Test.t159eq a1 a2 w hh
    · rw [show decide (a1 = a2) = false from by simp; omega]; exact arith_Test.t159gt a1 a2 w hh
  rw [if_neg h159] at h
  by_cases h160 : a0 = 160
  · subst h160
    simp only [show ¬ ((160 : Int) = 153) from by omega, if_false, show ¬ ((160 : Int) = 154) from by omega, if_false, show ¬ ((160 : Int) = 155) from by omega, if_false, show ¬ ((160 : Int) = 156) from by omega, if_false, show ¬ ((160 : Int) = 157) from by omega, if_false, show ¬ ((160 : Int) = 158) from by omega, if_false, show ¬ ((160 : Int) = 159) from by omega, if_false, if_true, Option.some.injEq, Prod.mk.injEq] at h
    obtain ⟨rfl, rfl⟩ := h
    rcases Int.lt_trichotomy a1 a2 with hh | hh | hh
    · rw [show decide (¬ a1 = a2) = true from by simp; omega]; exact arith_Test.t160lt a1 a2 w hh
    · rw [show decide (¬ a1 = a2) = false from by simp; omega]; exact arith_Test.t160eq a1 a2 w hh
    · rw [show decide (¬ a1 = a2) = true from by simp; omega]; exact arith_Test.t160gt a1 a2 w hh
  rw [if_neg h160] at h
  by_cases h161 : a0 = 161
  · subst h161
    simp only [show ¬ ((161 : Int) = 153) from by omega, if_false, show ¬ ((161 : Int) = 154) from by omega, if_false, show ¬ ((161 : Int) = 155) from by omega, if_false, show ¬ ((161 : Int) = 156) from by omega, if_false, show ¬ ((161 : Int) = 157) from by omega, if_false, show ¬ ((161 : Int) = 158) from by omega, if_false, show ¬ ((161 : Int) = 159) from by omega, if_false, show ¬ ((161 : Int) = 160) from by omega, if_false, if_true, Option.some.injEq, Prod.mk.injEq] at h
    obtain ⟨rfl, rfl⟩ := h
    rcases Int.lt_trichotomy a1 a2 with hh | hh | hh
    · rw [show decide (a1 < a2) = true from by simp; omega]; exact arith_Test.t161lt a1 a2 w hh
    · rw [show decide (a1 < a2) = false from by simp; omega]; exact arith_Test.t161eq a1 a2 w hh
    · rw [show decide (a1 < a2) = false from by simp; omega]; exact arith_Test.t161gt a1 a2 w hh
  rw [if_neg h161] at h
  by_cases h162 : a0 = 162
  · subst h162
    simp only [show ¬ ((162 : Int) = 153) from by omega, if_false, show ¬ ((162 : Int) = 154) from by omega, if_false, show ¬ ((162 : Int) = 155) from by omega, if_false, show ¬ ((162 : Int) = 156) from by omega, if_false, show ¬ ((162 : Int) = 157) from by omega, if_false, show ¬ ((162 : Int) = 158) from by omega, if_false, show ¬ ((162 : Int) = 159) from by omega, if_false, show ¬ ((162 : Int) = 160) from by omega, if_false, show ¬ ((162 : Int) = 161) from by omega, if_false, if_true, Option.some.injEq, Prod.mk.injEq] at h
    obtain ⟨rfl, rfl⟩ := h
    rcases Int.lt_trichotomy a1 a2 with hh | hh | hh
    · rw [show decide (¬ a1 < a2) = false from by simp; omega]; exact arith_Test.t162lt a1 a2 w hh
    · rw [show decide (¬ a1 < a2) = true from by simp; omega]; exact arith_Test.t162eq a1 a2 w hh
    · rw [show decide (¬ a1 < a2) = true from by simp; omega]; exact arith_Test.t162gt a1 a2 w hh
  rw [if_neg h162] at h
  by_cases h163 : a0 = 163
  · subst h163
    simp only [show ¬ ((163 : Int) = 153) from by omega, if_false, show ¬ ((163 : Int) = 154) from by omega, if_false, show ¬ ((163 : Int) = 155) from by omega, if_false, show ¬ ((163 : Int) = 156) from by omega, if_false, show ¬ ((163 : Int) = 157) from by omega, if_false, show ¬ ((163 : Int) = 158) from by omega, if_false, show ¬ ((163 : Int) = 159) from by omega, if_false, show ¬ ((163 : Int) = 160) from by omega, if_false, show ¬ ((163 : Int) = 161) from by omega, if_false, show ¬ ((163 : Int) = 162) from by omega, if_false, if_true, Option.some.injEq, Prod.mk.injEq] at h
    obtain ⟨rfl, rfl⟩ := h
    rcases Int.lt_trichotomy a1 a2 with hh | hh | hh
    · rw [show decide (a1 > a2) = false from by simp; omega]; exact arith_Test.t163lt a1 a2 w hh
    · rw [show decide (a1 > a2) = false from by simp; omega]; exact arith_Test.t163eq a1 a2 w hh
    · rw [show decide (a1 > a2) = true from by simp; omega]; exact arith_Test.t163gt a1 a2 w hh
  rw [if_neg h163] at h
  by_cases h164 : a0 = 164
  · subst h164
    simp only [show ¬ ((164 : Int) = 153) from by omega, if_false, show ¬ ((164 : Int) = 154) from by omega, if_false, show ¬ ((164 : Int) = 155) from by omega, if_false, show ¬ ((164 : Int) = 156) from by omega, if_false, show ¬ ((164 : Int) = 157) from by omega, if_false, show ¬ ((164 : Int) = 158) from by omega, if_false, show ¬ ((164 : Int) = 159) from by omega, if_false, show ¬ ((164 : Int) = 160) from by omega, if_false, show ¬ ((164 : Int) = 161) from by omega, if_false, show ¬ ((164 : Int) = 162) from by omega, if_false, show ¬ ((164 : Int) = 163) from by omega, if_false, if_true, Option.some.injEq, Prod.mk.injEq] at h
    obtain ⟨rfl, rfl⟩ := h
    rcases Int.lt_trichotomy a1 a2 with hh | hh | hh
    · rw [show decide (¬ a1 > a2) = true from by simp; omega]; exact arith_Test.t164lt a1 a2 w hh
    · rw [show decide (¬ a1 > a2) = true from by simp; omega]; exact arith_Test.t164eq a1 a2 w hh
    · rw [show decide (¬ a1 > a2) = false from by simp; omega]; exact arith_Test.t164gt a1 a2 w hh
  rw [if_neg h164] at h
  simp only [Option.some.injEq, Prod.mk.injEq] at h
  obtain ⟨rfl, rfl⟩ := h
  exact arith_Test.tno a0 a1 a2 w h153 h154 h155 h156 h157 h158 h159 h160 h161 h162 h163 h164

/-! ### arith_divided: function 17 -/
def arith_divided.f (a0 : Int) (a1 : Int) (a2 : Int) : Option (Int × Int) := if a2 = 0 then (some (0, 22)) else (if a0 = 112 then (some (wrap32 (Int.tmod a1 a2), 0)) else (some (wrap32 (wrap64 (Int.tdiv a1 a2)), 0)))
set_option maxHeartbeats 8000000 in
set_option maxRecDepth 100000 in
theorem arith_divided.calls (a0 : Int) (a1 : Int) (a2 : Int) (r1 : Int) (r2 : Int) (w : World) (h : arith_divided.f a0 a1 a2 = some (r1, r2)) :
    Calls Try.prog 17 #[.int .i64 a0, .int .i64 a1, .int .i64 a2] w fun e w' => e = .returned (.tuple #[.int .i32 r1, .int .i64 r2]) ∧ Drawn0 w w' := by
  have H : (if a2 = 0 then (some (0, 22)) else (if a0 = 112 then (some (wrap32 (Int.tmod a1 a2), 0)) else (some (wrap32 (wrap64 (Int.tdiv a1 a2)), 0)))) = some (r1, r2) := h
  clear h
  by_cases c4 : a2 = 0
  · rw [if_pos c4] at H
    have c4b0 : (a2 == 0) = true := beq_iff_eq.mpr c4
    have c4b1 : (a2 != 0) = false := bne_eq_false_iff_eq.mpr c4
    clear c4
    simp only [Option.some.injEq, Prod.mk.injEq] at H
    obtain ⟨rfl, rfl⟩ := H
    go_enter Try.func17, Try.ntmps17
    go_wp2
    go_ret2
    exact ⟨by first | rfl | (simp; done) | (simp [*]; done), by repeat (first | exact Drawn0.refl _ | apply Drawn0.step)⟩
  · rw [if_neg c4] at H
    have c4b0 : (a2 == 0) = false := beq_eq_false_iff_ne.mpr c4
    have c4b1 : (a2 != 0) = true := bne_iff_ne.mpr c4
    by_cases c5 : a0 = 112
    · rw [if_pos c5] at H
      have c5b0 : (a0 == 112) = true := beq_iff_eq.mpr c5
      have c5b1 : (a0 != 112) = false := bne_eq_false_iff_eq.mpr c5
      clear c5
      simp only [Option.some.injEq, Prod.mk.injEq] at H
      obtain ⟨rfl, rfl⟩ := H
      go_enter Try.func17, Try.ntmps17
      go_wp2
      go_ret2
      exact ⟨by first | rfl | (simp; done) | (simp [*]; done), by repeat (first | exact Drawn0.refl _ | apply Drawn0.step)⟩
    · rw [if_neg c5] at H
      have c5b0 : (a0 == 112) = false := beq_eq_false_iff_ne.mpr c5
      have c5b1 : (a0 != 112) = true := bne_iff_ne.mpr c5
      simp only [Option.some.injEq, Prod.mk.injEq] at H
      obtain ⟨rfl, rfl⟩ := H
      go_enter Try.func17, Try.ntmps17
      go_wp2
      go_ret2
      exact ⟨by first | rfl | (simp; done) | (simp [*]; done), by repeat (first | exact Drawn0.refl _ | apply Drawn0.step)⟩

end Go.Proofs.Ytiapkipcngnnmaa.PArithReckons
