/- The lab's runs of SchedNumbers: every one ends in true. -/
import Derived.Test.YtgfghbhcifkmgaaLabT
namespace Go.Proofs.YtgfghbhcifkmgaaLab.RunSchedNumbers
open Go
set_option linter.unusedVariables false
set_option maxRecDepth 100000
theorem r : isT ((kc tbl 3000 200).call 8 [] s0) = true := by decide +kernel
theorem walk  (w : World) : Calls Try.prog 8 #[] w (fun e w' => e = .returned (.bool true) ∧ RowKit.Below w.heap.size w w') := by
  exact law_true tblOk r .nil w
end Go.Proofs.YtgfghbhcifkmgaaLab.RunSchedNumbers
