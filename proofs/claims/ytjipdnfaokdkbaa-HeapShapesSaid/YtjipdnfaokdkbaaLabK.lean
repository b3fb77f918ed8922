/- The lab: a table of functions; what a run of it says of the program. No condition on the program. -/
import Derived.Test.YtjipdnfaokdkbaaLabJ
import Derived.Below
namespace Go.Proofs.YtjipdnfaokdkbaaLab
open Go
set_option linter.unusedVariables false
noncomputable section

/-- What holds of all in a tree. -/
def T.All {α : Type} (p : Nat → α → Prop) (t : T α) : Prop := ∀ i x, t.get i = some x → p i x
theorem T.All.nil {α : Type} {p : Nat → α → Prop} : T.All p .nil := fun i x h => by cases h
theorem T.All.node {α : Type} {p : Nat → α → Prop} {v : α} {l r : T α} (h : p 0 v) (hl : T.All (fun i => p (2 * i + 1)) l) (hr : T.All (fun i => p (2 * i + 2)) r) : T.All p (.node v l r) := by
  intro i x hi
  cases i with
  | zero => cases hi; exact h
  | succ i =>
    rw [T.get_node] at hi
    split at hi
    · have h' : p (2 * (i / 2) + 1) x := hl _ x hi
      rwa [show 2 * (i / 2) + 1 = i + 1 by omega] at h'
    · have h' : p (2 * (i / 2) + 2) x := hr _ x hi
      rwa [show 2 * (i / 2) + 2 = i + 1 by omega] at h'

section
variable {P : Program} {gl : List Nat}
/-- A function of ours stands for the program's. -/
def FRun (P : Program) (gl : List Nat) (f : Nat) (F : FDen) : Prop := ∀ k, KOk P gl k → ∀ args s v s', runF F k args s = some (v, s') → ∀ G w args', GOk gl G → VRs G args args' → SR G s w →
  Calls P f ⟨args'⟩ w (fun e w' => match e with | .returned v' => Post G s w v s' v' w' | _ => False)
theorem FRun.of {f : Nat} {F : FDen} (h : FSnd P gl f F) : FRun P gl f F := fun k hk args s v s' hr G w args' hgl hargs hs => runF_ok h hk hr hgl hargs hs
def noF : FDen := ⟨[], fun _ _ _ => .bad, fun _ _ => none⟩
theorem FRun.no (f : Nat) : FRun P gl f noF := fun k hk args s v s' hr => by
  unfold runF noF at hr
  simp only at hr
  split at hr <;> cases hr
theorem kc_run {tbl : T FDen} (ht : T.All (FRun P gl) tbl) (fuel : Nat) : ∀ n, KOk P gl (kc tbl fuel n)
  | 0 => fun f args s v s' h => by cases h
  | n + 1 => fun f args s v s' h G w args' hgl hargs hs => by
    have h : (match tbl.get f with | some F => runF F (kc tbl fuel n) args s | none => none) = some (v, s') := h
    split at h
    · rename_i F hF
      exact ht f F hF (kc tbl fuel n) (kc_run ht fuel n) args s v s' h G w args' hgl hargs hs
    · cases h

def s0 : St := ⟨.nil, 0⟩
def isT (r : Option (V × St)) : Bool := match r with | some (.bool true, _) => true | _ => false
/-- A run of ours from nothing that ends in true says that the program's ends in true, and leaves alone what was there. -/
theorem law_true {tbl : T FDen} (ht : T.All (FRun P []) tbl) {fuel n f : Nat} {args : List V} {args' : List Value} (h : isT ((kc tbl fuel n).call f args s0) = true) (hargs : VRs (fun _ => none) args args') (w : World) :
    Calls P f ⟨args'⟩ w (fun e w' => e = .returned (.bool true) ∧ RowKit.Below w.heap.size w w') := by
  unfold isT at h
  split at h
  · rename_i s' hr
    have hs : SR (fun _ => none) s0 w := ⟨⟨(fun b o hb => by cases hb), (fun b b' o o' l l' hb => by cases hb)⟩, (fun b _ => rfl), (fun b l hb => by cases hb)⟩
    refine (kc_run ht fuel n f args s0 _ _ hr _ w args' (fun g hg => by cases hg) hargs hs).mono ?_
    intro e w' he
    match e, he with
    | .returned v', ⟨G', g1, g2, g3⟩ =>
      refine ⟨by rw [g3.bool_inv], g1.go.os, g1.go.tape, g1.go.output, g1.go.size, fun k hk => g1.go.same k hk ?_⟩
      rintro ⟨b, o, l, hb, _⟩
      cases hb
  · cases h
end
/-- The remainders by m. -/
def remL (m : Nat) : List Int := (List.range (2 * m - 1)).map fun (i : Nat) => (i : Int) - ((m - 1 : Nat) : Int)
theorem rems (n : Int) (m : Nat) (hm : 0 < m) : ∃ t, t ∈ remL m ∧ n.tmod m = t := by
  refine ⟨_, ?_, rfl⟩
  have h1 := Int.lt_tmod_of_pos n (show (0 : Int) < (m : Int) by omega)
  have h2 := Int.tmod_lt_of_pos n (show (0 : Int) < (m : Int) by omega)
  refine List.mem_map.2 ⟨(n.tmod m + (m - 1 : Nat)).toNat, List.mem_range.2 (by omega), ?_⟩
  omega
end
end Go.Proofs.YtjipdnfaokdkbaaLab
