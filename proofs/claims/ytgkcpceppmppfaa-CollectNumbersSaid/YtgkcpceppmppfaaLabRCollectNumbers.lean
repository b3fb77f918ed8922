/- The lab's runs of CollectNumbers: every one ends in true. -/
import Derived.Test.YtgkcpceppmppfaaLabT
namespace Go.Proofs.YtgkcpceppmppfaaLab.RunCollectNumbers
open Go
set_option linter.unusedVariables false
set_option maxRecDepth 100000
theorem r : isT ((kc tbl 300 60).call 7 [] s0) = true := by decide +kernel
theorem walk  (w : World) : Calls Try.prog 7 #[] w (fun e w' => e = .returned (.bool true) ∧ RowKit.Below w.heap.size w w') := by
  exact law_true tblOk r .nil w
end Go.Proofs.YtgkcpceppmppfaaLab.RunCollectNumbers
