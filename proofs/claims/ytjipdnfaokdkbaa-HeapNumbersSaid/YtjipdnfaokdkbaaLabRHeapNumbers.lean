/- The lab's runs of HeapNumbers: every one ends in true. -/
import Derived.Test.YtjipdnfaokdkbaaLabT
namespace Go.Proofs.YtjipdnfaokdkbaaLab.RunHeapNumbers
open Go
set_option linter.unusedVariables false
set_option maxRecDepth 100000
theorem r : isT ((kc tbl 3000 200).call 5 [] s0) = true := by decide +kernel
theorem walk  (w : World) : Calls Try.prog 5 #[] w (fun e w' => e = .returned (.bool true) ∧ RowKit.Below w.heap.size w w') := by
  exact law_true tblOk r .nil w
end Go.Proofs.YtjipdnfaokdkbaaLab.RunHeapNumbers
