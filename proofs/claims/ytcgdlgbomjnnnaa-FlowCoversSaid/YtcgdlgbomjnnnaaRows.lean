/-
  No cell of these rows narrows 'for every input' (looked for: loops, veiled, ifaces, maps, wideKeys, modest, calm, conditions, laid).
  DERIVED. THE GIVEN ROWS OF THIS SEAT. 4 by the template 'for every input the law returns true; each argument reads behind the call as it read before'; 0 by the template 'total and deterministic' (their statements: YtcgdlgbomjnnnaaTotals.lean).
  GIVEN WITH THE SEED: the statements are not yours to turn. If you find one false, say at which input.
  Laid BY PROGRAM, IN A SANDBOX (cutbox-rows.mjs): the forced cells as the released guide's own fill.sh prints them over the translation c9e23bc29a9da5a3… (all of the seat's roots in one cut). By AI agents, Wed Nov 11 2026. No macro, syntax, notation, axiom, sorry.
-/
import Derived.Test.YtcgdlgbomjnnnaaChecked
import GoSem.Claim
import GoSem.ClaimJoined
import GoSem.ClaimMapViews
import Derived.JoinedTies
import Derived.KernelRfl
namespace Go.Proofs.Ytcgdlgbomjnnnaa
/- THE CELL 'sum', in the pinned program and in every row, IS THE sha256 OF THE DUMP (.gsa) THAT YtcgdlgbomjnnnaaProg.lean LOADS. Nothing in Lean hashes anything: it is a label: what it is worth is what the hold of that sum in a sandbox is worth. -/
noncomputable def Try.pinned : Pinned := { name := "ytcgdlgbomjnnnaa", sum := "c9e23bc29a9da5a318faf34907443a2c70692f83a41ea01640cd6c0a341a250a", checked := Try.checked }
namespace Rows
def none {H : Type} : Left H := { results := [], args := [] }

/-- 'carafelaw6.FlowNumbers': WHATEVER THE INPUT: true; the input reads as it did. -/
def flowNumbersSpec : ChangeSpec := { name := "flowNumbers", fn := fun _ => fun
  | [] => { results := [.lit (.bool true)], args := [] }
  | _ => none }
def flowNumbersRow : OpenClaim := { program := "ytcgdlgbomjnnnaa", sum := "c9e23bc29a9da5a318faf34907443a2c70692f83a41ea01640cd6c0a341a250a", func := "carafe/carafelaw6.FlowNumbers", spec := "flowNumbers", unfollowed := true, recurses := true, apart := false }
def FlowNumbersSaid : Prop := flowNumbersRow.holds Try.pinned (OpenSpec.ofChange flowNumbersSpec)

/-- ITS FALSE NEIGHBOUR: 'it returns false'. Refute it at one input. -/
def flowNumbersWrong : ChangeSpec := { name := "flowNumbers", fn := fun _ => fun
  | [] => { results := [.lit (.bool false)], args := [] }
  | _ => none }
def FlowNumbersWrongFalsely : Prop := flowNumbersRow.holds Try.pinned (OpenSpec.ofChange flowNumbersWrong)

/-- 'carafelaw6.FlowChecks': WHATEVER THE INPUT: true; the input reads as it did. -/
def flowChecksSpec : ChangeSpec := { name := "flowChecks", fn := fun _ => fun
  | [d1, d2, d3, d4, d5] => { results := [.lit (.bool true)], args := [d1, d2, d3, d4, d5] }
  | _ => none }
def flowChecksRow : OpenClaim := { program := "ytcgdlgbomjnnnaa", sum := "c9e23bc29a9da5a318faf34907443a2c70692f83a41ea01640cd6c0a341a250a", func := "carafe/carafelaw6.FlowChecks", spec := "flowChecks", unfollowed := true, recurses := true, apart := false }
def FlowChecksSaid : Prop := flowChecksRow.holds Try.pinned (OpenSpec.ofChange flowChecksSpec)

/-- ITS FALSE NEIGHBOUR: 'it returns false'. Refute it at one input. -/
def flowChecksWrong : ChangeSpec := { name := "flowChecks", fn := fun _ => fun
  | [d1, d2, d3, d4, d5] => { results := [.lit (.bool false)], args := [d1, d2, d3, d4, d5] }
  | _ => none }
def FlowChecksWrongFalsely : Prop := flowChecksRow.holds Try.pinned (OpenSpec.ofChange flowChecksWrong)

/-- 'carafelaw6.FlowCovers': WHATEVER THE INPUT: true; the input reads as it did. -/
def flowCoversSpec : ChangeSpec := { name := "flowCovers", fn := fun _ => fun
  | [d] => { results := [.lit (.bool true)], args := [d] }
  | _ => none }
def flowCoversRow : OpenClaim := { program := "ytcgdlgbomjnnnaa", sum := "c9e23bc29a9da5a318faf34907443a2c70692f83a41ea01640cd6c0a341a250a", func := "carafe/carafelaw6.FlowCovers", spec := "flowCovers", unfollowed := true, recurses := true, apart := false }
def FlowCoversSaid : Prop := flowCoversRow.holds Try.pinned (OpenSpec.ofChange flowCoversSpec)

/-- ITS FALSE NEIGHBOUR: 'it returns false'. Refute it at one input. -/
def flowCoversWrong : ChangeSpec := { name := "flowCovers", fn := fun _ => fun
  | [d] => { results := [.lit (.bool false)], args := [d] }
  | _ => none }
def FlowCoversWrongFalsely : Prop := flowCoversRow.holds Try.pinned (OpenSpec.ofChange flowCoversWrong)

/-- 'carafelaw6.FlowReached': WHATEVER THE INPUT: true; the input reads as it did. -/
def flowReachedSpec : ChangeSpec := { name := "flowReached", fn := fun _ => fun
  | [d] => { results := [.lit (.bool true)], args := [d] }
  | _ => none }
def flowReachedRow : OpenClaim := { program := "ytcgdlgbomjnnnaa", sum := "c9e23bc29a9da5a318faf34907443a2c70692f83a41ea01640cd6c0a341a250a", func := "carafe/carafelaw6.FlowReached", spec := "flowReached", unfollowed := true, recurses := true, apart := false }
def FlowReachedSaid : Prop := flowReachedRow.holds Try.pinned (OpenSpec.ofChange flowReachedSpec)

/-- ITS FALSE NEIGHBOUR: 'it returns false'. Refute it at one input. -/
def flowReachedWrong : ChangeSpec := { name := "flowReached", fn := fun _ => fun
  | [d] => { results := [.lit (.bool false)], args := [d] }
  | _ => none }
def FlowReachedWrongFalsely : Prop := flowReachedRow.holds Try.pinned (OpenSpec.ofChange flowReachedWrong)

/- THE SECOND FORM. 'bulk': how many values and letters a reading holds, each counted each time it is reached (what is shared counts as often as it is met; a slice's spare places count too). A statement '..UptoSaid' is the law's where the arguments, and the package variables that the reading takes, are together of bulk at most 1048576: NARROWER than '..Said'. Prove '..Said' where nothing that the law and all that it calls make is longer than what came in: it says more and counts as full. Else prove '..UptoSaid'. A law counts once. -/
mutual
def uptoBulk {H : Type} : DataW H → Nat
  | .lit (.string bytes) => bytes.length + 1
  | .lit _ => 1
  | .nil => 1
  | .ptr d => uptoBulk d + 1
  | .slice elems spare => uptoBulkAll elems + uptoBulkAll spare + 1
  | .agg parts => uptoBulkAll parts + 1
  | .iface _ d => uptoBulk d + 1
  | .map entries => uptoBulkEntries entries + 1
  | .held _ => 1
def uptoBulkAll {H : Type} : List (DataW H) → Nat
  | [] => 0
  | d :: r => uptoBulk d + uptoBulkAll r
def uptoBulkEntries {H : Type} : List (Lit × DataW H) → Nat
  | [] => 0
  | x :: r => uptoBulkEntry x + uptoBulkEntries r
def uptoBulkEntry {H : Type} : Lit × DataW H → Nat
  | (.string bytes, d) => bytes.length + uptoBulk d + 1
  | (_, d) => uptoBulk d + 1
 end
def uptoSmall : (H : Type) → List (DataW H) → Bool := fun _ ds => decide (uptoBulkAll ds ≤ 1048576)
def OpenSpec.upto (s : _root_.Go.ChangeSpec) : _root_.Go.OpenSpec := { _root_.Go.OpenSpec.ofChange s with cond := some uptoSmall }

/-- 'carafelaw6.FlowNumbers', WHERE WHAT IT READS IS OF BULK AT MOST 1048576: true; the input reads as it did. -/
def flowNumbersUptoRow : OpenClaim := { program := "ytcgdlgbomjnnnaa", sum := "c9e23bc29a9da5a318faf34907443a2c70692f83a41ea01640cd6c0a341a250a", func := "carafe/carafelaw6.FlowNumbers", spec := "flowNumbers", unfollowed := true, recurses := true, apart := false, narrowed := true }
def FlowNumbersUptoSaid : Prop := flowNumbersUptoRow.holds Try.pinned (OpenSpec.upto flowNumbersSpec)

/-- 'carafelaw6.FlowChecks', WHERE WHAT IT READS IS OF BULK AT MOST 1048576: true; the input reads as it did. -/
def flowChecksUptoRow : OpenClaim := { program := "ytcgdlgbomjnnnaa", sum := "c9e23bc29a9da5a318faf34907443a2c70692f83a41ea01640cd6c0a341a250a", func := "carafe/carafelaw6.FlowChecks", spec := "flowChecks", unfollowed := true, recurses := true, apart := false, narrowed := true }
def FlowChecksUptoSaid : Prop := flowChecksUptoRow.holds Try.pinned (OpenSpec.upto flowChecksSpec)

/-- 'carafelaw6.FlowCovers', WHERE WHAT IT READS IS OF BULK AT MOST 1048576: true; the input reads as it did. -/
def flowCoversUptoRow : OpenClaim := { program := "ytcgdlgbomjnnnaa", sum := "c9e23bc29a9da5a318faf34907443a2c70692f83a41ea01640cd6c0a341a250a", func := "carafe/carafelaw6.FlowCovers", spec := "flowCovers", unfollowed := true, recurses := true, apart := false, narrowed := true }
def FlowCoversUptoSaid : Prop := flowCoversUptoRow.holds Try.pinned (OpenSpec.upto flowCoversSpec)

/-- 'carafelaw6.FlowReached', WHERE WHAT IT READS IS OF BULK AT MOST 1048576: true; the input reads as it did. -/
def flowReachedUptoRow : OpenClaim := { program := "ytcgdlgbomjnnnaa", sum := "c9e23bc29a9da5a318faf34907443a2c70692f83a41ea01640cd6c0a341a250a", func := "carafe/carafelaw6.FlowReached", spec := "flowReached", unfollowed := true, recurses := true, apart := false, narrowed := true }
def FlowReachedUptoSaid : Prop := flowReachedUptoRow.holds Try.pinned (OpenSpec.upto flowReachedSpec)

end Rows
end Go.Proofs.Ytcgdlgbomjnnnaa
