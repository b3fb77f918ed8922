/- The lab's runs of SchedJoins: every one ends in true. -/
import Derived.Test.YtgfghbhcifkmgaaLabT
namespace Go.Proofs.YtgfghbhcifkmgaaLab.RunSchedJoins
open Go
set_option linter.unusedVariables false
set_option maxRecDepth 100000
theorem r0 : (isT ((kc tbl 1000 100).call 7 [V.rem 7 (-6)] s0)) = true := by decide +kernel
theorem r1 : (isT ((kc tbl 1000 100).call 7 [V.rem 7 (-5)] s0)) = true := by decide +kernel
theorem r2 : (isT ((kc tbl 1000 100).call 7 [V.rem 7 (-4)] s0)) = true := by decide +kernel
theorem r3 : (isT ((kc tbl 1000 100).call 7 [V.rem 7 (-3)] s0)) = true := by decide +kernel
theorem r4 : (isT ((kc tbl 1000 100).call 7 [V.rem 7 (-2)] s0)) = true := by decide +kernel
theorem r5 : (isT ((kc tbl 1000 100).call 7 [V.rem 7 (-1)] s0)) = true := by decide +kernel
theorem r6 : (isT ((kc tbl 1000 100).call 7 [V.rem 7 0] s0)) = true := by decide +kernel
theorem r7 : (isT ((kc tbl 1000 100).call 7 [V.rem 7 1] s0)) = true := by decide +kernel
theorem r8 : (isT ((kc tbl 1000 100).call 7 [V.rem 7 2] s0)) = true := by decide +kernel
theorem r9 : (isT ((kc tbl 1000 100).call 7 [V.rem 7 3] s0)) = true := by decide +kernel
theorem r10 : (isT ((kc tbl 1000 100).call 7 [V.rem 7 4] s0)) = true := by decide +kernel
theorem r11 : (isT ((kc tbl 1000 100).call 7 [V.rem 7 5] s0)) = true := by decide +kernel
theorem r12 : (isT ((kc tbl 1000 100).call 7 [V.rem 7 6] s0)) = true := by decide +kernel
theorem all0 : ∀ x0 ∈ remL 7, (isT ((kc tbl 1000 100).call 7 [V.rem 7 x0] s0)) = true := by
  have e : remL 7 = [(-6), (-5), (-4), (-3), (-2), (-1), 0, 1, 2, 3, 4, 5, 6] := by decide +kernel
  rw [e]
  intro x0 h
  simp only [List.mem_cons, List.not_mem_nil, or_false] at h
  rcases h with rfl | rfl | rfl | rfl | rfl | rfl | rfl | rfl | rfl | rfl | rfl | rfl | rfl
  · exact r0
  · exact r1
  · exact r2
  · exact r3
  · exact r4
  · exact r5
  · exact r6
  · exact r7
  · exact r8
  · exact r9
  · exact r10
  · exact r11
  · exact r12
theorem all : ∀ (x0 : Int), x0 ∈ remL 7 → isT ((kc tbl 1000 100).call 7 [V.rem 7 x0] s0) = true := fun x0 h0 => (all0 x0 h0)
theorem walk (n0 : Int) (w : World) : Calls Try.prog 7 #[.int .i64 n0] w (fun e w' => e = .returned (.bool true) ∧ RowKit.Below w.heap.size w w') := by
  obtain ⟨t0, m0, e0⟩ := rems n0 7 (by decide)
  exact law_true tblOk (all t0 m0) (.cons _ _ _ _ (.rem _ _ _ e0) .nil) w
end Go.Proofs.YtgfghbhcifkmgaaLab.RunSchedJoins
