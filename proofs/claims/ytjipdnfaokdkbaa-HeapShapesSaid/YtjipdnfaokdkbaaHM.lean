/- The law HeapShapes: its walk. No condition on the program. -/
import Derived.Test.YtjipdnfaokdkbaaHL
namespace Go.Proofs.YtjipdnfaokdkbaaLab
open Go
set_option linter.all false
noncomputable section
theorem heapShapes_walk {W : World} {v0 : Value} {x0 : V} {ws : List V} (vr : VR (impG W) x0 v0) (sn : SN (impS W 1) x0 ws) (el : ∀ z ∈ ws, IsBs W z) (bk : ∀ b ∈ blkV x0, b < W.heap.size) :
    Calls Try.prog 4 #[v0] W (fun e w' => e = .returned (.bool true) ∧ RowKit.Below W.heap.size W w') := by
  have hx : ∃ ls, InB (impS W 1) W.heap.size x0 ls ws := by
    have : ∀ ws : List V, (∀ z ∈ ws, IsBs W z) → ∃ ls : List (List Bool), ws.length = ls.length ∧ ∀ (i : Nat) w, ws[i]? = some w → ∃ l, ls[i]? = some l ∧ SN (impS W 1) w (l.map .bool) ∧ ∀ b ∈ blkV w, b < W.heap.size := by
      intro ws
      induction ws with
      | nil => exact fun _ => ⟨[], rfl, by simp⟩
      | cons w ws ih =>
        intro h
        obtain ⟨ls, h1, h2⟩ := ih fun z hz => h z (by simp [hz])
        obtain ⟨l, h3, h4⟩ := h w (by simp)
        refine ⟨l :: ls, by simp [h1], fun i w' hw' => ?_⟩
        cases i with
        | zero => simp at hw'; subst hw'; exact ⟨l, rfl, h3, h4⟩
        | succ i => simpa using h2 i w' (by simpa using hw')
    obtain ⟨ls, h1, h2⟩ := this ws el
    exact ⟨ls, sn, bk, h1, h2⟩
  obtain ⟨ls, hx⟩ := hx
  exact law_ro (fuel := 1000000) (n := 6) tblOk ((heapShapes_run (impS_wf W 1) hx 0).mono fun v s' h => h.1) (.cons _ _ _ _ vr .nil)
end
end Go.Proofs.YtjipdnfaokdkbaaLab
