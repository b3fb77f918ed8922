/-
  No cell of these rows narrows 'for every input' (looked for: loops, veiled, ifaces, maps, wideKeys, modest, calm, conditions, laid).
  DERIVED. THE GIVEN ROWS OF THIS SEAT. 6 by the template 'for every input the law returns true; each argument reads behind the call as it read before'; 0 by the template 'total and deterministic' (their statements: YtcjhhlbhfkcboaaTotals.lean).
  GIVEN WITH THE SEED: the statements are not yours to turn. If you find one false, say at which input.
  Laid BY PROGRAM, IN A SANDBOX (cutbox-rows.mjs): the forced cells as the released guide's own fill.sh prints them over the translation 74682bdb1e9bdc38… (all of the seat's roots in one cut). By AI agents, Wed Nov 11 2026. No macro, syntax, notation, axiom, sorry.
-/
import Derived.Test.YtcjhhlbhfkcboaaChecked
import GoSem.Claim
import GoSem.ClaimJoined
import GoSem.ClaimMapViews
import Derived.JoinedTies
import Derived.KernelRfl
namespace Go.Proofs.Ytcjhhlbhfkcboaa
/- THE CELL 'sum', in the pinned program and in every row, IS THE sha256 OF THE DUMP (.gsa) THAT YtcjhhlbhfkcboaaProg.lean LOADS. Nothing in Lean hashes anything: it is a label: what it is worth is what the hold of that sum in a sandbox is worth. -/
noncomputable def Try.pinned : Pinned := { name := "ytcjhhlbhfkcboaa", sum := "74682bdb1e9bdc381a146e74dcd09b5d41d85a8b035681fd4108b52c47fa9ce1", checked := Try.checked }
namespace Rows
def none {H : Type} : Left H := { results := [], args := [] }

/-- 'carafelaw5.CodeReads': WHATEVER THE INPUT: true; the input reads as it did. -/
def codeReadsSpec : ChangeSpec := { name := "codeReads", fn := fun _ => fun
  | [d] => { results := [.lit (.bool true)], args := [d] }
  | _ => none }
def codeReadsRow : OpenClaim := { program := "ytcjhhlbhfkcboaa", sum := "74682bdb1e9bdc381a146e74dcd09b5d41d85a8b035681fd4108b52c47fa9ce1", func := "carafe/carafelaw5.CodeReads", spec := "codeReads", apart := false }
def CodeReadsSaid : Prop := codeReadsRow.holds Try.pinned (OpenSpec.ofChange codeReadsSpec)

/-- ITS FALSE NEIGHBOUR: 'it returns false'. Refute it at one input. -/
def codeReadsWrong : ChangeSpec := { name := "codeReads", fn := fun _ => fun
  | [d] => { results := [.lit (.bool false)], args := [d] }
  | _ => none }
def CodeReadsWrongFalsely : Prop := codeReadsRow.holds Try.pinned (OpenSpec.ofChange codeReadsWrong)

/-- 'carafelaw5.CodeWrites': WHATEVER THE INPUT: true; the input reads as it did. -/
def codeWritesSpec : ChangeSpec := { name := "codeWrites", fn := fun _ => fun
  | [d] => { results := [.lit (.bool true)], args := [d] }
  | _ => none }
def codeWritesRow : OpenClaim := { program := "ytcjhhlbhfkcboaa", sum := "74682bdb1e9bdc381a146e74dcd09b5d41d85a8b035681fd4108b52c47fa9ce1", func := "carafe/carafelaw5.CodeWrites", spec := "codeWrites", apart := false }
def CodeWritesSaid : Prop := codeWritesRow.holds Try.pinned (OpenSpec.ofChange codeWritesSpec)

/-- ITS FALSE NEIGHBOUR: 'it returns false'. Refute it at one input. -/
def codeWritesWrong : ChangeSpec := { name := "codeWrites", fn := fun _ => fun
  | [d] => { results := [.lit (.bool false)], args := [d] }
  | _ => none }
def CodeWritesWrongFalsely : Prop := codeWritesRow.holds Try.pinned (OpenSpec.ofChange codeWritesWrong)

/-- 'carafelaw5.CodeBack': WHATEVER THE INPUT: true; the input reads as it did. -/
def codeBackSpec : ChangeSpec := { name := "codeBack", fn := fun _ => fun
  | [d1, d2] => { results := [.lit (.bool true)], args := [d1, d2] }
  | _ => none }
def codeBackRow : OpenClaim := { program := "ytcjhhlbhfkcboaa", sum := "74682bdb1e9bdc381a146e74dcd09b5d41d85a8b035681fd4108b52c47fa9ce1", func := "carafe/carafelaw5.CodeBack", spec := "codeBack", apart := false }
def CodeBackSaid : Prop := codeBackRow.holds Try.pinned (OpenSpec.ofChange codeBackSpec)

/-- ITS FALSE NEIGHBOUR: 'it returns false'. Refute it at one input. -/
def codeBackWrong : ChangeSpec := { name := "codeBack", fn := fun _ => fun
  | [d1, d2] => { results := [.lit (.bool false)], args := [d1, d2] }
  | _ => none }
def CodeBackWrongFalsely : Prop := codeBackRow.holds Try.pinned (OpenSpec.ofChange codeBackWrong)

/-- 'carafelaw5.CodeKept': WHATEVER THE INPUT: true; the input reads as it did. -/
def codeKeptSpec : ChangeSpec := { name := "codeKept", fn := fun _ => fun
  | [d] => { results := [.lit (.bool true)], args := [d] }
  | _ => none }
def codeKeptRow : OpenClaim := { program := "ytcjhhlbhfkcboaa", sum := "74682bdb1e9bdc381a146e74dcd09b5d41d85a8b035681fd4108b52c47fa9ce1", func := "carafe/carafelaw5.CodeKept", spec := "codeKept", unfollowed := true, recurses := true, apart := false }
def CodeKeptSaid : Prop := codeKeptRow.holds Try.pinned (OpenSpec.ofChange codeKeptSpec)

/-- ITS FALSE NEIGHBOUR: 'it returns false'. Refute it at one input. -/
def codeKeptWrong : ChangeSpec := { name := "codeKept", fn := fun _ => fun
  | [d] => { results := [.lit (.bool false)], args := [d] }
  | _ => none }
def CodeKeptWrongFalsely : Prop := codeKeptRow.holds Try.pinned (OpenSpec.ofChange codeKeptWrong)

/-- 'carafelaw5.CodeBranches': WHATEVER THE INPUT: true; the input reads as it did. -/
def codeBranchesSpec : ChangeSpec := { name := "codeBranches", fn := fun _ => fun
  | [d1, d2, d3] => { results := [.lit (.bool true)], args := [d1, d2, d3] }
  | _ => none }
def codeBranchesRow : OpenClaim := { program := "ytcjhhlbhfkcboaa", sum := "74682bdb1e9bdc381a146e74dcd09b5d41d85a8b035681fd4108b52c47fa9ce1", func := "carafe/carafelaw5.CodeBranches", spec := "codeBranches", apart := false }
def CodeBranchesSaid : Prop := codeBranchesRow.holds Try.pinned (OpenSpec.ofChange codeBranchesSpec)

/-- ITS FALSE NEIGHBOUR: 'it returns false'. Refute it at one input. -/
def codeBranchesWrong : ChangeSpec := { name := "codeBranches", fn := fun _ => fun
  | [d1, d2, d3] => { results := [.lit (.bool false)], args := [d1, d2, d3] }
  | _ => none }
def CodeBranchesWrongFalsely : Prop := codeBranchesRow.holds Try.pinned (OpenSpec.ofChange codeBranchesWrong)

/-- 'carafelaw5.CodeNumbers': WHATEVER THE INPUT: true; the input reads as it did. -/
def codeNumbersSpec : ChangeSpec := { name := "codeNumbers", fn := fun _ => fun
  | [] => { results := [.lit (.bool true)], args := [] }
  | _ => none }
def codeNumbersRow : OpenClaim := { program := "ytcjhhlbhfkcboaa", sum := "74682bdb1e9bdc381a146e74dcd09b5d41d85a8b035681fd4108b52c47fa9ce1", func := "carafe/carafelaw5.CodeNumbers", spec := "codeNumbers", apart := false }
def CodeNumbersSaid : Prop := codeNumbersRow.holds Try.pinned (OpenSpec.ofChange codeNumbersSpec)

/-- ITS FALSE NEIGHBOUR: 'it returns false'. Refute it at one input. -/
def codeNumbersWrong : ChangeSpec := { name := "codeNumbers", fn := fun _ => fun
  | [] => { results := [.lit (.bool false)], args := [] }
  | _ => none }
def CodeNumbersWrongFalsely : Prop := codeNumbersRow.holds Try.pinned (OpenSpec.ofChange codeNumbersWrong)

/- THE SECOND FORM. 'bulk': how many values and letters a reading holds, each counted each time it is reached (what is shared counts as often as it is met; a slice's spare places count too). A statement '..UptoSaid' is the law's where the arguments, and the package variables that the reading takes, are together of bulk at most 1048576: NARROWER than '..Said'. Prove '..Said' where nothing that the law and all that it calls make is longer than what came in: it says more and counts as full. Else prove '..UptoSaid'. A law counts once. -/
mutual
def uptoBulk {H : Type} : DataW H → Nat
  | .lit (.string bytes) => bytes.length + 1
  | .lit _ => 1
  | .nil => 1
  | .ptr d => uptoBulk d + 1
  | .slice elems spare => uptoBulkAll elems + uptoBulkAll spare + 1
  | .agg parts => uptoBulkAll parts + 1
  | .iface _ d => uptoBulk d + 1
  | .map entries => uptoBulkEntries entries + 1
  | .held _ => 1
def uptoBulkAll {H : Type} : List (DataW H) → Nat
  | [] => 0
  | d :: r => uptoBulk d + uptoBulkAll r
def uptoBulkEntries {H : Type} : List (Lit × DataW H) → Nat
  | [] => 0
  | x :: r => uptoBulkEntry x + uptoBulkEntries r
def uptoBulkEntry {H : Type} : Lit × DataW H → Nat
  | (.string bytes, d) => bytes.length + uptoBulk d + 1
  | (_, d) => uptoBulk d + 1
 end
def uptoSmall : (H : Type) → List (DataW H) → Bool := fun _ ds => decide (uptoBulkAll ds ≤ 1048576)
def OpenSpec.upto (s : _root_.Go.ChangeSpec) : _root_.Go.OpenSpec := { _root_.Go.OpenSpec.ofChange s with cond := some uptoSmall }

/-- 'carafelaw5.CodeReads', WHERE WHAT IT READS IS OF BULK AT MOST 1048576: true; the input reads as it did. -/
def codeReadsUptoRow : OpenClaim := { program := "ytcjhhlbhfkcboaa", sum := "74682bdb1e9bdc381a146e74dcd09b5d41d85a8b035681fd4108b52c47fa9ce1", func := "carafe/carafelaw5.CodeReads", spec := "codeReads", apart := false, narrowed := true }
def CodeReadsUptoSaid : Prop := codeReadsUptoRow.holds Try.pinned (OpenSpec.upto codeReadsSpec)

/-- 'carafelaw5.CodeWrites', WHERE WHAT IT READS IS OF BULK AT MOST 1048576: true; the input reads as it did. -/
def codeWritesUptoRow : OpenClaim := { program := "ytcjhhlbhfkcboaa", sum := "74682bdb1e9bdc381a146e74dcd09b5d41d85a8b035681fd4108b52c47fa9ce1", func := "carafe/carafelaw5.CodeWrites", spec := "codeWrites", apart := false, narrowed := true }
def CodeWritesUptoSaid : Prop := codeWritesUptoRow.holds Try.pinned (OpenSpec.upto codeWritesSpec)

/-- 'carafelaw5.CodeBack', WHERE WHAT IT READS IS OF BULK AT MOST 1048576: true; the input reads as it did. -/
def codeBackUptoRow : OpenClaim := { program := "ytcjhhlbhfkcboaa", sum := "74682bdb1e9bdc381a146e74dcd09b5d41d85a8b035681fd4108b52c47fa9ce1", func := "carafe/carafelaw5.CodeBack", spec := "codeBack", apart := false, narrowed := true }
def CodeBackUptoSaid : Prop := codeBackUptoRow.holds Try.pinned (OpenSpec.upto codeBackSpec)

/-- 'carafelaw5.CodeKept', WHERE WHAT IT READS IS OF BULK AT MOST 1048576: true; the input reads as it did. -/
def codeKeptUptoRow : OpenClaim := { program := "ytcjhhlbhfkcboaa", sum := "74682bdb1e9bdc381a146e74dcd09b5d41d85a8b035681fd4108b52c47fa9ce1", func := "carafe/carafelaw5.CodeKept", spec := "codeKept", unfollowed := true, recurses := true, apart := false, narrowed := true }
def CodeKeptUptoSaid : Prop := codeKeptUptoRow.holds Try.pinned (OpenSpec.upto codeKeptSpec)

/-- 'carafelaw5.CodeBranches', WHERE WHAT IT READS IS OF BULK AT MOST 1048576: true; the input reads as it did. -/
def codeBranchesUptoRow : OpenClaim := { program := "ytcjhhlbhfkcboaa", sum := "74682bdb1e9bdc381a146e74dcd09b5d41d85a8b035681fd4108b52c47fa9ce1", func := "carafe/carafelaw5.CodeBranches", spec := "codeBranches", apart := false, narrowed := true }
def CodeBranchesUptoSaid : Prop := codeBranchesUptoRow.holds Try.pinned (OpenSpec.upto codeBranchesSpec)

/-- 'carafelaw5.CodeNumbers', WHERE WHAT IT READS IS OF BULK AT MOST 1048576: true; the input reads as it did. -/
def codeNumbersUptoRow : OpenClaim := { program := "ytcjhhlbhfkcboaa", sum := "74682bdb1e9bdc381a146e74dcd09b5d41d85a8b035681fd4108b52c47fa9ce1", func := "carafe/carafelaw5.CodeNumbers", spec := "codeNumbers", apart := false, narrowed := true }
def CodeNumbersUptoSaid : Prop := codeNumbersUptoRow.holds Try.pinned (OpenSpec.upto codeNumbersSpec)

end Rows
end Go.Proofs.Ytcjhhlbhfkcboaa
