/-
  No cell of these rows narrows 'for every input' (looked for: loops, veiled, ifaces, maps, wideKeys, modest, calm, conditions, laid).
  DERIVED. THE GIVEN ROWS OF THIS SEAT. 4 by the template 'for every input the law returns true; each argument reads behind the call as it read before'; 0 by the template 'total and deterministic' (their statements: YtjipdnfaokdkbaaTotals.lean).
  GIVEN WITH THE SEED: the statements are not yours to turn. If you find one false, say at which input.
  Laid BY PROGRAM, IN A SANDBOX (cutbox-rows.mjs): the forced cells as the released guide's own fill.sh prints them over the translation bb775b784c5252a8… (all of the seat's roots in one cut). By AI agents, Wed Nov 11 2026. No macro, syntax, notation, axiom, sorry.
-/
import Derived.Test.YtjipdnfaokdkbaaChecked
import GoSem.Claim
import GoSem.ClaimJoined
import GoSem.ClaimMapViews
import Derived.JoinedTies
import Derived.KernelRfl
namespace Go.Proofs.Ytjipdnfaokdkbaa
/- THE CELL 'sum', in the pinned program and in every row, IS THE sha256 OF THE DUMP (.gsa) THAT YtjipdnfaokdkbaaProg.lean LOADS. Nothing in Lean hashes anything: it is a label: what it is worth is what the hold of that sum in a sandbox is worth. -/
noncomputable def Try.pinned : Pinned := { name := "ytjipdnfaokdkbaa", sum := "bb775b784c5252a868904902666a6dc6951dbfd08398141128642ede538d1c39", checked := Try.checked }
namespace Rows
def none {H : Type} : Left H := { results := [], args := [] }

/-- 'carafelaw13.HeapPlaces': WHATEVER THE INPUT: true; the input reads as it did. -/
def heapPlacesSpec : ChangeSpec := { name := "heapPlaces", fn := fun _ => fun
  | [d1, d2] => { results := [.lit (.bool true)], args := [d1, d2] }
  | _ => none }
def heapPlacesRow : OpenClaim := { program := "ytjipdnfaokdkbaa", sum := "bb775b784c5252a868904902666a6dc6951dbfd08398141128642ede538d1c39", func := "carafe/carafelaw13.HeapPlaces", spec := "heapPlaces", apart := false }
def HeapPlacesSaid : Prop := heapPlacesRow.holds Try.pinned (OpenSpec.ofChange heapPlacesSpec)

/-- ITS FALSE NEIGHBOUR: 'it returns false'. Refute it at one input. -/
def heapPlacesWrong : ChangeSpec := { name := "heapPlaces", fn := fun _ => fun
  | [d1, d2] => { results := [.lit (.bool false)], args := [d1, d2] }
  | _ => none }
def HeapPlacesWrongFalsely : Prop := heapPlacesRow.holds Try.pinned (OpenSpec.ofChange heapPlacesWrong)

/-- 'carafelaw13.HeapShapes': WHATEVER THE INPUT: true; the input reads as it did. -/
def heapShapesSpec : ChangeSpec := { name := "heapShapes", fn := fun _ => fun
  | [d] => { results := [.lit (.bool true)], args := [d] }
  | _ => none }
def heapShapesRow : OpenClaim := { program := "ytjipdnfaokdkbaa", sum := "bb775b784c5252a868904902666a6dc6951dbfd08398141128642ede538d1c39", func := "carafe/carafelaw13.HeapShapes", spec := "heapShapes", apart := false }
def HeapShapesSaid : Prop := heapShapesRow.holds Try.pinned (OpenSpec.ofChange heapShapesSpec)

/-- ITS FALSE NEIGHBOUR: 'it returns false'. Refute it at one input. -/
def heapShapesWrong : ChangeSpec := { name := "heapShapes", fn := fun _ => fun
  | [d] => { results := [.lit (.bool false)], args := [d] }
  | _ => none }
def HeapShapesWrongFalsely : Prop := heapShapesRow.holds Try.pinned (OpenSpec.ofChange heapShapesWrong)

/-- 'carafelaw13.HeapNumbers': WHATEVER THE INPUT: true; the input reads as it did. -/
def heapNumbersSpec : ChangeSpec := { name := "heapNumbers", fn := fun _ => fun
  | [] => { results := [.lit (.bool true)], args := [] }
  | _ => none }
def heapNumbersRow : OpenClaim := { program := "ytjipdnfaokdkbaa", sum := "bb775b784c5252a868904902666a6dc6951dbfd08398141128642ede538d1c39", func := "carafe/carafelaw13.HeapNumbers", spec := "heapNumbers", unfollowed := true, recurses := true, apart := false }
def HeapNumbersSaid : Prop := heapNumbersRow.holds Try.pinned (OpenSpec.ofChange heapNumbersSpec)

/-- ITS FALSE NEIGHBOUR: 'it returns false'. Refute it at one input. -/
def heapNumbersWrong : ChangeSpec := { name := "heapNumbers", fn := fun _ => fun
  | [] => { results := [.lit (.bool false)], args := [] }
  | _ => none }
def HeapNumbersWrongFalsely : Prop := heapNumbersRow.holds Try.pinned (OpenSpec.ofChange heapNumbersWrong)

/-- 'carafelaw13.HeapPlays': WHATEVER THE INPUT: true; the input reads as it did. -/
def heapPlaysSpec : ChangeSpec := { name := "heapPlays", fn := fun _ => fun
  | [d1, d2] => { results := [.lit (.bool true)], args := [d1, d2] }
  | _ => none }
def heapPlaysRow : OpenClaim := { program := "ytjipdnfaokdkbaa", sum := "bb775b784c5252a868904902666a6dc6951dbfd08398141128642ede538d1c39", func := "carafe/carafelaw13.HeapPlays", spec := "heapPlays", unfollowed := true, recurses := true, apart := false }
def HeapPlaysSaid : Prop := heapPlaysRow.holds Try.pinned (OpenSpec.ofChange heapPlaysSpec)

/-- ITS FALSE NEIGHBOUR: 'it returns false'. Refute it at one input. -/
def heapPlaysWrong : ChangeSpec := { name := "heapPlays", fn := fun _ => fun
  | [d1, d2] => { results := [.lit (.bool false)], args := [d1, d2] }
  | _ => none }
def HeapPlaysWrongFalsely : Prop := heapPlaysRow.holds Try.pinned (OpenSpec.ofChange heapPlaysWrong)

/- THE SECOND FORM. 'bulk': how many values and letters a reading holds, each counted each time it is reached (what is shared counts as often as it is met; a slice's spare places count too). A statement '..UptoSaid' is the law's where the arguments, and the package variables that the reading takes, are together of bulk at most 1048576: NARROWER than '..Said'. Prove '..Said' where nothing that the law and all that it calls make is longer than what came in: it says more and counts as full. Else prove '..UptoSaid'. A law counts once. -/
mutual
def uptoBulk {H : Type} : DataW H → Nat
  | .lit (.string bytes) => bytes.length + 1
  | .lit _ => 1
  | .nil => 1
  | .ptr d => uptoBulk d + 1
  | .slice elems spare => uptoBulkAll elems + uptoBulkAll spare + 1
  | .agg parts => uptoBulkAll parts + 1
  | .iface _ d => uptoBulk d + 1
  | .map entries => uptoBulkEntries entries + 1
  | .held _ => 1
def uptoBulkAll {H : Type} : List (DataW H) → Nat
  | [] => 0
  | d :: r => uptoBulk d + uptoBulkAll r
def uptoBulkEntries {H : Type} : List (Lit × DataW H) → Nat
  | [] => 0
  | x :: r => uptoBulkEntry x + uptoBulkEntries r
def uptoBulkEntry {H : Type} : Lit × DataW H → Nat
  | (.string bytes, d) => bytes.length + uptoBulk d + 1
  | (_, d) => uptoBulk d + 1
 end
def uptoSmall : (H : Type) → List (DataW H) → Bool := fun _ ds => decide (uptoBulkAll ds ≤ 1048576)
def OpenSpec.upto (s : _root_.Go.ChangeSpec) : _root_.Go.OpenSpec := { _root_.Go.OpenSpec.ofChange s with cond := some uptoSmall }

/-- 'carafelaw13.HeapPlaces', WHERE WHAT IT READS IS OF BULK AT MOST 1048576: true; the input reads as it did. -/
def heapPlacesUptoRow : OpenClaim := { program := "ytjipdnfaokdkbaa", sum := "bb775b784c5252a868904902666a6dc6951dbfd08398141128642ede538d1c39", func := "carafe/carafelaw13.HeapPlaces", spec := "heapPlaces", apart := false, narrowed := true }
def HeapPlacesUptoSaid : Prop := heapPlacesUptoRow.holds Try.pinned (OpenSpec.upto heapPlacesSpec)

/-- 'carafelaw13.HeapShapes', WHERE WHAT IT READS IS OF BULK AT MOST 1048576: true; the input reads as it did. -/
def heapShapesUptoRow : OpenClaim := { program := "ytjipdnfaokdkbaa", sum := "bb775b784c5252a868904902666a6dc6951dbfd08398141128642ede538d1c39", func := "carafe/carafelaw13.HeapShapes", spec := "heapShapes", apart := false, narrowed := true }
def HeapShapesUptoSaid : Prop := heapShapesUptoRow.holds Try.pinned (OpenSpec.upto heapShapesSpec)

/-- 'carafelaw13.HeapNumbers', WHERE WHAT IT READS IS OF BULK AT MOST 1048576: true; the input reads as it did. -/
def heapNumbersUptoRow : OpenClaim := { program := "ytjipdnfaokdkbaa", sum := "bb775b784c5252a868904902666a6dc6951dbfd08398141128642ede538d1c39", func := "carafe/carafelaw13.HeapNumbers", spec := "heapNumbers", unfollowed := true, recurses := true, apart := false, narrowed := true }
def HeapNumbersUptoSaid : Prop := heapNumbersUptoRow.holds Try.pinned (OpenSpec.upto heapNumbersSpec)

/-- 'carafelaw13.HeapPlays', WHERE WHAT IT READS IS OF BULK AT MOST 1048576: true; the input reads as it did. -/
def heapPlaysUptoRow : OpenClaim := { program := "ytjipdnfaokdkbaa", sum := "bb775b784c5252a868904902666a6dc6951dbfd08398141128642ede538d1c39", func := "carafe/carafelaw13.HeapPlays", spec := "heapPlays", unfollowed := true, recurses := true, apart := false, narrowed := true }
def HeapPlaysUptoSaid : Prop := heapPlaysUptoRow.holds Try.pinned (OpenSpec.upto heapPlaysSpec)

end Rows
end Go.Proofs.Ytjipdnfaokdkbaa
