/-
  No cell of these rows narrows 'for every input' (looked for: loops, veiled, ifaces, maps, wideKeys, modest, calm, conditions, laid).
  DERIVED. THE GIVEN ROWS OF THIS SEAT. 5 by the template 'for every input the law returns true; each argument reads behind the call as it read before'; 0 by the template 'total and deterministic' (their statements: YtgkcpceppmppfaaTotals.lean).
  GIVEN WITH THE SEED: the statements are not yours to turn. If you find one false, say at which input.
  Laid BY PROGRAM, IN A SANDBOX (cutbox-rows.mjs): the forced cells as the released guide's own fill.sh prints them over the translation efdd1d356faeb5af… (all of the seat's roots in one cut). By AI agents, Wed Nov 11 2026. No macro, syntax, notation, axiom, sorry.
-/
import Derived.Test.YtgkcpceppmppfaaChecked
import GoSem.Claim
import GoSem.ClaimJoined
import GoSem.ClaimMapViews
import Derived.JoinedTies
import Derived.KernelRfl
namespace Go.Proofs.Ytgkcpceppmppfaa
/- THE CELL 'sum', in the pinned program and in every row, IS THE sha256 OF THE DUMP (.gsa) THAT YtgkcpceppmppfaaProg.lean LOADS. Nothing in Lean hashes anything: it is a label: what it is worth is what the hold of that sum in a sandbox is worth. -/
noncomputable def Try.pinned : Pinned := { name := "ytgkcpceppmppfaa", sum := "efdd1d356faeb5affbddc3a40c91d24d757e9aad177bf053527a8d85c9054d0e", checked := Try.checked }
namespace Rows
def none {H : Type} : Left H := { results := [], args := [] }

/-- 'carafelaw14.CollectMarks': WHATEVER THE INPUT: true; the input reads as it did. -/
def collectMarksSpec : ChangeSpec := { name := "collectMarks", fn := fun _ => fun
  | [d1, d2, d3] => { results := [.lit (.bool true)], args := [d1, d2, d3] }
  | _ => none }
def collectMarksRow : OpenClaim := { program := "ytgkcpceppmppfaa", sum := "efdd1d356faeb5affbddc3a40c91d24d757e9aad177bf053527a8d85c9054d0e", func := "carafe/carafelaw14.CollectMarks", spec := "collectMarks", unfollowed := true, recurses := true, apart := false }
def CollectMarksSaid : Prop := collectMarksRow.holds Try.pinned (OpenSpec.ofChange collectMarksSpec)

/-- ITS FALSE NEIGHBOUR: 'it returns false'. Refute it at one input. -/
def collectMarksWrong : ChangeSpec := { name := "collectMarks", fn := fun _ => fun
  | [d1, d2, d3] => { results := [.lit (.bool false)], args := [d1, d2, d3] }
  | _ => none }
def CollectMarksWrongFalsely : Prop := collectMarksRow.holds Try.pinned (OpenSpec.ofChange collectMarksWrong)

/-- 'carafelaw14.CollectRuns': WHATEVER THE INPUT: true; the input reads as it did. -/
def collectRunsSpec : ChangeSpec := { name := "collectRuns", fn := fun _ => fun
  | [d1, d2] => { results := [.lit (.bool true)], args := [d1, d2] }
  | _ => none }
def collectRunsRow : OpenClaim := { program := "ytgkcpceppmppfaa", sum := "efdd1d356faeb5affbddc3a40c91d24d757e9aad177bf053527a8d85c9054d0e", func := "carafe/carafelaw14.CollectRuns", spec := "collectRuns", unfollowed := true, recurses := true, apart := false }
def CollectRunsSaid : Prop := collectRunsRow.holds Try.pinned (OpenSpec.ofChange collectRunsSpec)

/-- ITS FALSE NEIGHBOUR: 'it returns false'. Refute it at one input. -/
def collectRunsWrong : ChangeSpec := { name := "collectRuns", fn := fun _ => fun
  | [d1, d2] => { results := [.lit (.bool false)], args := [d1, d2] }
  | _ => none }
def CollectRunsWrongFalsely : Prop := collectRunsRow.holds Try.pinned (OpenSpec.ofChange collectRunsWrong)

/-- 'carafelaw14.CollectRoots': WHATEVER THE INPUT: true; the input reads as it did. -/
def collectRootsSpec : ChangeSpec := { name := "collectRoots", fn := fun _ => fun
  | [d1, d2] => { results := [.lit (.bool true)], args := [d1, d2] }
  | _ => none }
def collectRootsRow : OpenClaim := { program := "ytgkcpceppmppfaa", sum := "efdd1d356faeb5affbddc3a40c91d24d757e9aad177bf053527a8d85c9054d0e", func := "carafe/carafelaw14.CollectRoots", spec := "collectRoots", unfollowed := true, recurses := true, apart := false }
def CollectRootsSaid : Prop := collectRootsRow.holds Try.pinned (OpenSpec.ofChange collectRootsSpec)

/-- ITS FALSE NEIGHBOUR: 'it returns false'. Refute it at one input. -/
def collectRootsWrong : ChangeSpec := { name := "collectRoots", fn := fun _ => fun
  | [d1, d2] => { results := [.lit (.bool false)], args := [d1, d2] }
  | _ => none }
def CollectRootsWrongFalsely : Prop := collectRootsRow.holds Try.pinned (OpenSpec.ofChange collectRootsWrong)

/-- 'carafelaw14.CollectLike': WHATEVER THE INPUT: true; the input reads as it did. -/
def collectLikeSpec : ChangeSpec := { name := "collectLike", fn := fun _ => fun
  | [d1, d2, d3] => { results := [.lit (.bool true)], args := [d1, d2, d3] }
  | _ => none }
def collectLikeRow : OpenClaim := { program := "ytgkcpceppmppfaa", sum := "efdd1d356faeb5affbddc3a40c91d24d757e9aad177bf053527a8d85c9054d0e", func := "carafe/carafelaw14.CollectLike", spec := "collectLike", unfollowed := true, recurses := true, apart := false }
def CollectLikeSaid : Prop := collectLikeRow.holds Try.pinned (OpenSpec.ofChange collectLikeSpec)

/-- ITS FALSE NEIGHBOUR: 'it returns false'. Refute it at one input. -/
def collectLikeWrong : ChangeSpec := { name := "collectLike", fn := fun _ => fun
  | [d1, d2, d3] => { results := [.lit (.bool false)], args := [d1, d2, d3] }
  | _ => none }
def CollectLikeWrongFalsely : Prop := collectLikeRow.holds Try.pinned (OpenSpec.ofChange collectLikeWrong)

/-- 'carafelaw14.CollectNumbers': WHATEVER THE INPUT: true; the input reads as it did. -/
def collectNumbersSpec : ChangeSpec := { name := "collectNumbers", fn := fun _ => fun
  | [] => { results := [.lit (.bool true)], args := [] }
  | _ => none }
def collectNumbersRow : OpenClaim := { program := "ytgkcpceppmppfaa", sum := "efdd1d356faeb5affbddc3a40c91d24d757e9aad177bf053527a8d85c9054d0e", func := "carafe/carafelaw14.CollectNumbers", spec := "collectNumbers", unfollowed := true, recurses := true, apart := false }
def CollectNumbersSaid : Prop := collectNumbersRow.holds Try.pinned (OpenSpec.ofChange collectNumbersSpec)

/-- ITS FALSE NEIGHBOUR: 'it returns false'. Refute it at one input. -/
def collectNumbersWrong : ChangeSpec := { name := "collectNumbers", fn := fun _ => fun
  | [] => { results := [.lit (.bool false)], args := [] }
  | _ => none }
def CollectNumbersWrongFalsely : Prop := collectNumbersRow.holds Try.pinned (OpenSpec.ofChange collectNumbersWrong)

/- THE SECOND FORM. 'bulk': how many values and letters a reading holds, each counted each time it is reached (what is shared counts as often as it is met; a slice's spare places count too). A statement '..UptoSaid' is the law's where the arguments, and the package variables that the reading takes, are together of bulk at most 1048576: NARROWER than '..Said'. Prove '..Said' where nothing that the law and all that it calls make is longer than what came in: it says more and counts as full. Else prove '..UptoSaid'. A law counts once. -/
mutual
def uptoBulk {H : Type} : DataW H → Nat
  | .lit (.string bytes) => bytes.length + 1
  | .lit _ => 1
  | .nil => 1
  | .ptr d => uptoBulk d + 1
  | .slice elems spare => uptoBulkAll elems + uptoBulkAll spare + 1
  | .agg parts => uptoBulkAll parts + 1
  | .iface _ d => uptoBulk d + 1
  | .map entries => uptoBulkEntries entries + 1
  | .held _ => 1
def uptoBulkAll {H : Type} : List (DataW H) → Nat
  | [] => 0
  | d :: r => uptoBulk d + uptoBulkAll r
def uptoBulkEntries {H : Type} : List (Lit × DataW H) → Nat
  | [] => 0
  | x :: r => uptoBulkEntry x + uptoBulkEntries r
def uptoBulkEntry {H : Type} : Lit × DataW H → Nat
  | (.string bytes, d) => bytes.length + uptoBulk d + 1
  | (_, d) => uptoBulk d + 1
 end
def uptoSmall : (H : Type) → List (DataW H) → Bool := fun _ ds => decide (uptoBulkAll ds ≤ 1048576)
def OpenSpec.upto (s : _root_.Go.ChangeSpec) : _root_.Go.OpenSpec := { _root_.Go.OpenSpec.ofChange s with cond := some uptoSmall }

/-- 'carafelaw14.CollectMarks', WHERE WHAT IT READS IS OF BULK AT MOST 1048576: true; the input reads as it did. -/
def collectMarksUptoRow : OpenClaim := { program := "ytgkcpceppmppfaa", sum := "efdd1d356faeb5affbddc3a40c91d24d757e9aad177bf053527a8d85c9054d0e", func := "carafe/carafelaw14.CollectMarks", spec := "collectMarks", unfollowed := true, recurses := true, apart := false, narrowed := true }
def CollectMarksUptoSaid : Prop := collectMarksUptoRow.holds Try.pinned (OpenSpec.upto collectMarksSpec)

/-- 'carafelaw14.CollectRuns', WHERE WHAT IT READS IS OF BULK AT MOST 1048576: true; the input reads as it did. -/
def collectRunsUptoRow : OpenClaim := { program := "ytgkcpceppmppfaa", sum := "efdd1d356faeb5affbddc3a40c91d24d757e9aad177bf053527a8d85c9054d0e", func := "carafe/carafelaw14.CollectRuns", spec := "collectRuns", unfollowed := true, recurses := true, apart := false, narrowed := true }
def CollectRunsUptoSaid : Prop := collectRunsUptoRow.holds Try.pinned (OpenSpec.upto collectRunsSpec)

/-- 'carafelaw14.CollectRoots', WHERE WHAT IT READS IS OF BULK AT MOST 1048576: true; the input reads as it did. -/
def collectRootsUptoRow : OpenClaim := { program := "ytgkcpceppmppfaa", sum := "efdd1d356faeb5affbddc3a40c91d24d757e9aad177bf053527a8d85c9054d0e", func := "carafe/carafelaw14.CollectRoots", spec := "collectRoots", unfollowed := true, recurses := true, apart := false, narrowed := true }
def CollectRootsUptoSaid : Prop := collectRootsUptoRow.holds Try.pinned (OpenSpec.upto collectRootsSpec)

/-- 'carafelaw14.CollectLike', WHERE WHAT IT READS IS OF BULK AT MOST 1048576: true; the input reads as it did. -/
def collectLikeUptoRow : OpenClaim := { program := "ytgkcpceppmppfaa", sum := "efdd1d356faeb5affbddc3a40c91d24d757e9aad177bf053527a8d85c9054d0e", func := "carafe/carafelaw14.CollectLike", spec := "collectLike", unfollowed := true, recurses := true, apart := false, narrowed := true }
def CollectLikeUptoSaid : Prop := collectLikeUptoRow.holds Try.pinned (OpenSpec.upto collectLikeSpec)

/-- 'carafelaw14.CollectNumbers', WHERE WHAT IT READS IS OF BULK AT MOST 1048576: true; the input reads as it did. -/
def collectNumbersUptoRow : OpenClaim := { program := "ytgkcpceppmppfaa", sum := "efdd1d356faeb5affbddc3a40c91d24d757e9aad177bf053527a8d85c9054d0e", func := "carafe/carafelaw14.CollectNumbers", spec := "collectNumbers", unfollowed := true, recurses := true, apart := false, narrowed := true }
def CollectNumbersUptoSaid : Prop := collectNumbersUptoRow.holds Try.pinned (OpenSpec.upto collectNumbersSpec)

end Rows
end Go.Proofs.Ytgkcpceppmppfaa
