/- The lab's runs of SchedWaits: every one ends in true. -/
import Derived.Test.YtgfghbhcifkmgaaLabT
namespace Go.Proofs.YtgfghbhcifkmgaaLab.RunSchedWaits
open Go
set_option linter.unusedVariables false
set_option maxRecDepth 100000
theorem r0 : (([true, false]).all fun x1 => (remL 7).all fun x2 => isT ((kc tbl 1000 100).call 4 [V.rem 7 (-6), V.bool x1, V.rem 7 x2] s0)) = true := by decide +kernel
theorem r1 : (([true, false]).all fun x1 => (remL 7).all fun x2 => isT ((kc tbl 1000 100).call 4 [V.rem 7 (-5), V.bool x1, V.rem 7 x2] s0)) = true := by decide +kernel
theorem r2 : (([true, false]).all fun x1 => (remL 7).all fun x2 => isT ((kc tbl 1000 100).call 4 [V.rem 7 (-4), V.bool x1, V.rem 7 x2] s0)) = true := by decide +kernel
theorem r3 : (([true, false]).all fun x1 => (remL 7).all fun x2 => isT ((kc tbl 1000 100).call 4 [V.rem 7 (-3), V.bool x1, V.rem 7 x2] s0)) = true := by decide +kernel
theorem r4 : (([true, false]).all fun x1 => (remL 7).all fun x2 => isT ((kc tbl 1000 100).call 4 [V.rem 7 (-2), V.bool x1, V.rem 7 x2] s0)) = true := by decide +kernel
theorem r5 : (([true, false]).all fun x1 => (remL 7).all fun x2 => isT ((kc tbl 1000 100).call 4 [V.rem 7 (-1), V.bool x1, V.rem 7 x2] s0)) = true := by decide +kernel
theorem r6 : (([true, false]).all fun x1 => (remL 7).all fun x2 => isT ((kc tbl 1000 100).call 4 [V.rem 7 0, V.bool x1, V.rem 7 x2] s0)) = true := by decide +kernel
theorem r7 : (([true, false]).all fun x1 => (remL 7).all fun x2 => isT ((kc tbl 1000 100).call 4 [V.rem 7 1, V.bool x1, V.rem 7 x2] s0)) = true := by decide +kernel
theorem r8 : (([true, false]).all fun x1 => (remL 7).all fun x2 => isT ((kc tbl 1000 100).call 4 [V.rem 7 2, V.bool x1, V.rem 7 x2] s0)) = true := by decide +kernel
theorem r9 : (([true, false]).all fun x1 => (remL 7).all fun x2 => isT ((kc tbl 1000 100).call 4 [V.rem 7 3, V.bool x1, V.rem 7 x2] s0)) = true := by decide +kernel
theorem r10 : (([true, false]).all fun x1 => (remL 7).all fun x2 => isT ((kc tbl 1000 100).call 4 [V.rem 7 4, V.bool x1, V.rem 7 x2] s0)) = true := by decide +kernel
theorem r11 : (([true, false]).all fun x1 => (remL 7).all fun x2 => isT ((kc tbl 1000 100).call 4 [V.rem 7 5, V.bool x1, V.rem 7 x2] s0)) = true := by decide +kernel
theorem r12 : (([true, false]).all fun x1 => (remL 7).all fun x2 => isT ((kc tbl 1000 100).call 4 [V.rem 7 6, V.bool x1, V.rem 7 x2] s0)) = true := by decide +kernel
theorem all0 : ∀ x0 ∈ remL 7, (([true, false]).all fun x1 => (remL 7).all fun x2 => isT ((kc tbl 1000 100).call 4 [V.rem 7 x0, V.bool x1, V.rem 7 x2] s0)) = true := by
  have e : remL 7 = [(-6), (-5), (-4), (-3), (-2), (-1), 0, 1, 2, 3, 4, 5, 6] := by decide +kernel
  rw [e]
  intro x0 h
  simp only [List.mem_cons, List.not_mem_nil, or_false] at h
  rcases h with rfl | rfl | rfl | rfl | rfl | rfl | rfl | rfl | rfl | rfl | rfl | rfl | rfl
  · exact r0
  · exact r1
  · exact r2
  · exact r3
  · exact r4
  · exact r5
  · exact r6
  · exact r7
  · exact r8
  · exact r9
  · exact r10
  · exact r11
  · exact r12
theorem all : ∀ (x0 : Int) (x1 : Bool) (x2 : Int), x0 ∈ remL 7 → x1 ∈ [true, false] → x2 ∈ remL 7 → isT ((kc tbl 1000 100).call 4 [V.rem 7 x0, V.bool x1, V.rem 7 x2] s0) = true := fun x0 x1 x2 h0 h1 h2 => (List.all_eq_true.1 (List.all_eq_true.1 (all0 x0 h0) x1 h1) x2 h2)
theorem walk (n0 : Int) (n1 : Bool) (n2 : Int) (w : World) : Calls Try.prog 4 #[.int .i64 n0, .bool n1, .int .i64 n2] w (fun e w' => e = .returned (.bool true) ∧ RowKit.Below w.heap.size w w') := by
  obtain ⟨t0, m0, e0⟩ := rems n0 7 (by decide)
  obtain ⟨t2, m2, e2⟩ := rems n2 7 (by decide)
  exact law_true tblOk (all t0 n1 t2 m0 (by cases n1 <;> simp) m2) (.cons _ _ _ _ (.rem _ _ _ e0) (.cons _ _ _ _ (.bool _) (.cons _ _ _ _ (.rem _ _ _ e2) .nil))) w
end Go.Proofs.YtgfghbhcifkmgaaLab.RunSchedWaits
