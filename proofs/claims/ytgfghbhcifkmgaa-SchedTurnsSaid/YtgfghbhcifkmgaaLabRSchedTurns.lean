/- The lab's runs of SchedTurns: every one ends in true. -/
import Derived.Test.YtgfghbhcifkmgaaLabT
namespace Go.Proofs.YtgfghbhcifkmgaaLab.RunSchedTurns
open Go
set_option linter.unusedVariables false
set_option maxRecDepth 100000
theorem r0 : ((remL 6).all fun x1 => isT ((kc tbl 1000 100).call 3 [V.rem 7 (-6), V.rem 6 x1] s0)) = true := by decide +kernel
theorem r1 : ((remL 6).all fun x1 => isT ((kc tbl 1000 100).call 3 [V.rem 7 (-5), V.rem 6 x1] s0)) = true := by decide +kernel
theorem r2 : ((remL 6).all fun x1 => isT ((kc tbl 1000 100).call 3 [V.rem 7 (-4), V.rem 6 x1] s0)) = true := by decide +kernel
theorem r3 : ((remL 6).all fun x1 => isT ((kc tbl 1000 100).call 3 [V.rem 7 (-3), V.rem 6 x1] s0)) = true := by decide +kernel
theorem r4 : ((remL 6).all fun x1 => isT ((kc tbl 1000 100).call 3 [V.rem 7 (-2), V.rem 6 x1] s0)) = true := by decide +kernel
theorem r5 : ((remL 6).all fun x1 => isT ((kc tbl 1000 100).call 3 [V.rem 7 (-1), V.rem 6 x1] s0)) = true := by decide +kernel
theorem r6 : ((remL 6).all fun x1 => isT ((kc tbl 1000 100).call 3 [V.rem 7 0, V.rem 6 x1] s0)) = true := by decide +kernel
theorem r7 : ((remL 6).all fun x1 => isT ((kc tbl 1000 100).call 3 [V.rem 7 1, V.rem 6 x1] s0)) = true := by decide +kernel
theorem r8 : ((remL 6).all fun x1 => isT ((kc tbl 1000 100).call 3 [V.rem 7 2, V.rem 6 x1] s0)) = true := by decide +kernel
theorem r9 : ((remL 6).all fun x1 => isT ((kc tbl 1000 100).call 3 [V.rem 7 3, V.rem 6 x1] s0)) = true := by decide +kernel
theorem r10 : ((remL 6).all fun x1 => isT ((kc tbl 1000 100).call 3 [V.rem 7 4, V.rem 6 x1] s0)) = true := by decide +kernel
theorem r11 : ((remL 6).all fun x1 => isT ((kc tbl 1000 100).call 3 [V.rem 7 5, V.rem 6 x1] s0)) = true := by decide +kernel
theorem r12 : ((remL 6).all fun x1 => isT ((kc tbl 1000 100).call 3 [V.rem 7 6, V.rem 6 x1] s0)) = true := by decide +kernel
theorem all0 : ∀ x0 ∈ remL 7, ((remL 6).all fun x1 => isT ((kc tbl 1000 100).call 3 [V.rem 7 x0, V.rem 6 x1] s0)) = true := by
  have e : remL 7 = [(-6), (-5), (-4), (-3), (-2), (-1), 0, 1, 2, 3, 4, 5, 6] := by decide +kernel
  rw [e]
  intro x0 h
  simp only [List.mem_cons, List.not_mem_nil, or_false] at h
  rcases h with rfl | rfl | rfl | rfl | rfl | rfl | rfl | rfl | rfl | rfl | rfl | rfl | rfl
  · exact r0
  · exact r1
  · exact r2
  · exact r3
  · exact r4
  · exact r5
  · exact r6
  · exact r7
  · exact r8
  · exact r9
  · exact r10
  · exact r11
  · exact r12
theorem all : ∀ (x0 : Int) (x1 : Int), x0 ∈ remL 7 → x1 ∈ remL 6 → isT ((kc tbl 1000 100).call 3 [V.rem 7 x0, V.rem 6 x1] s0) = true := fun x0 x1 h0 h1 => (List.all_eq_true.1 (all0 x0 h0) x1 h1)
theorem walk (n0 : Int) (n1 : Int) (w : World) : Calls Try.prog 3 #[.int .i64 n0, .int .i64 n1] w (fun e w' => e = .returned (.bool true) ∧ RowKit.Below w.heap.size w w') := by
  obtain ⟨t0, m0, e0⟩ := rems n0 7 (by decide)
  obtain ⟨t1, m1, e1⟩ := rems n1 6 (by decide)
  exact law_true tblOk (all t0 t1 m0 m1) (.cons _ _ _ _ (.rem _ _ _ e0) (.cons _ _ _ _ (.rem _ _ _ e1) .nil)) w
end Go.Proofs.YtgfghbhcifkmgaaLab.RunSchedTurns
