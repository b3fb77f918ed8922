/- The law HeapPlaces: its walk. No condition on the program. -/
import Derived.Test.YtjipdnfaokdkbaaHG
import Derived.Test.YtjipdnfaokdkbaaLabZb
namespace Go.Proofs.YtjipdnfaokdkbaaLab
open Go
set_option linter.all false
noncomputable section
theorem heapPlaces_walk {W : World} (a0 : Int) {v1 : Value} {x1 : V} {l1 : List Int} (vr : VR (impG W) x1 v1) (sl : SL (impS W 1) x1 (l1.map V.i)) (bk : ∀ b ∈ blkV x1, b < W.heap.size) :
    Calls Try.prog 3 #[.int .i64 a0, v1] W (fun e w' => e = .returned (.bool true) ∧ RowKit.Below W.heap.size W w') := by
  exact law_ro (fuel := 1000000) (n := 6) tblOk ((heapPlaces_run (impS_wf W 1) sl bk a0 0).mono fun v s' h => h.1) (.cons _ _ _ _ (.i _) (.cons _ _ _ _ vr .nil))
end
end Go.Proofs.YtjipdnfaokdkbaaLab
