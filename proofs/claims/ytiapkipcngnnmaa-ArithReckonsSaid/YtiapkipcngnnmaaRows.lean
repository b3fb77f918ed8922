/-
  No cell of these rows narrows 'for every input' (looked for: loops, veiled, ifaces, maps, wideKeys, modest, calm, conditions, laid).
  DERIVED. THE GIVEN ROWS OF THIS SEAT. 4 by the template 'for every input the law returns true; each argument reads behind the call as it read before'; 0 by the template 'total and deterministic' (their statements: YtiapkipcngnnmaaTotals.lean).
  GIVEN WITH THE SEED: the statements are not yours to turn. If you find one false, say at which input.
  Laid BY PROGRAM, IN A SANDBOX (cutbox-rows.mjs): the forced cells as the released guide's own fill.sh prints them over the translation 11d1a9237a6400ef… (all of the seat's roots in one cut). By AI agents, Wed Nov 11 2026. No macro, syntax, notation, axiom, sorry.
-/
import Derived.Test.YtiapkipcngnnmaaChecked
import GoSem.Claim
import GoSem.ClaimJoined
import GoSem.ClaimMapViews
import Derived.JoinedTies
import Derived.KernelRfl
namespace Go.Proofs.Ytiapkipcngnnmaa
/- THE CELL 'sum', in the pinned program and in every row, IS THE sha256 OF THE DUMP (.gsa) THAT YtiapkipcngnnmaaProg.lean LOADS. Nothing in Lean hashes anything: it is a label: what it is worth is what the hold of that sum in a sandbox is worth. -/
noncomputable def Try.pinned : Pinned := { name := "ytiapkipcngnnmaa", sum := "11d1a9237a6400ef189e8e53694a49c1257d12d67c658745bf6fb9f63f29c529", checked := Try.checked }
namespace Rows
def none {H : Type} : Left H := { results := [], args := [] }

/-- 'carafelaw12.ArithShifts': WHATEVER THE INPUT: true; the input reads as it did. -/
def arithShiftsSpec : ChangeSpec := { name := "arithShifts", fn := fun _ => fun
  | [d1, d2] => { results := [.lit (.bool true)], args := [d1, d2] }
  | _ => none }
def arithShiftsRow : OpenClaim := { program := "ytiapkipcngnnmaa", sum := "11d1a9237a6400ef189e8e53694a49c1257d12d67c658745bf6fb9f63f29c529", func := "carafe/carafelaw12.ArithShifts", spec := "arithShifts", apart := false }
def ArithShiftsSaid : Prop := arithShiftsRow.holds Try.pinned (OpenSpec.ofChange arithShiftsSpec)

/-- ITS FALSE NEIGHBOUR: 'it returns false'. Refute it at one input. -/
def arithShiftsWrong : ChangeSpec := { name := "arithShifts", fn := fun _ => fun
  | [d1, d2] => { results := [.lit (.bool false)], args := [d1, d2] }
  | _ => none }
def ArithShiftsWrongFalsely : Prop := arithShiftsRow.holds Try.pinned (OpenSpec.ofChange arithShiftsWrong)

/-- 'carafelaw12.ArithLaws': WHATEVER THE INPUT: true; the input reads as it did. -/
def arithLawsSpec : ChangeSpec := { name := "arithLaws", fn := fun _ => fun
  | [d1, d2, d3] => { results := [.lit (.bool true)], args := [d1, d2, d3] }
  | _ => none }
def arithLawsRow : OpenClaim := { program := "ytiapkipcngnnmaa", sum := "11d1a9237a6400ef189e8e53694a49c1257d12d67c658745bf6fb9f63f29c529", func := "carafe/carafelaw12.ArithLaws", spec := "arithLaws", apart := false }
def ArithLawsSaid : Prop := arithLawsRow.holds Try.pinned (OpenSpec.ofChange arithLawsSpec)

/-- ITS FALSE NEIGHBOUR: 'it returns false'. Refute it at one input. -/
def arithLawsWrong : ChangeSpec := { name := "arithLaws", fn := fun _ => fun
  | [d1, d2, d3] => { results := [.lit (.bool false)], args := [d1, d2, d3] }
  | _ => none }
def ArithLawsWrongFalsely : Prop := arithLawsRow.holds Try.pinned (OpenSpec.ofChange arithLawsWrong)

/-- 'carafelaw12.ArithNumbers': WHATEVER THE INPUT: true; the input reads as it did. -/
def arithNumbersSpec : ChangeSpec := { name := "arithNumbers", fn := fun _ => fun
  | [] => { results := [.lit (.bool true)], args := [] }
  | _ => none }
def arithNumbersRow : OpenClaim := { program := "ytiapkipcngnnmaa", sum := "11d1a9237a6400ef189e8e53694a49c1257d12d67c658745bf6fb9f63f29c529", func := "carafe/carafelaw12.ArithNumbers", spec := "arithNumbers", apart := false }
def ArithNumbersSaid : Prop := arithNumbersRow.holds Try.pinned (OpenSpec.ofChange arithNumbersSpec)

/-- ITS FALSE NEIGHBOUR: 'it returns false'. Refute it at one input. -/
def arithNumbersWrong : ChangeSpec := { name := "arithNumbers", fn := fun _ => fun
  | [] => { results := [.lit (.bool false)], args := [] }
  | _ => none }
def ArithNumbersWrongFalsely : Prop := arithNumbersRow.holds Try.pinned (OpenSpec.ofChange arithNumbersWrong)

/-- 'carafelaw12.ArithReckons': WHATEVER THE INPUT: true; the input reads as it did. -/
def arithReckonsSpec : ChangeSpec := { name := "arithReckons", fn := fun _ => fun
  | [d1, d2, d3, d4] => { results := [.lit (.bool true)], args := [d1, d2, d3, d4] }
  | _ => none }
def arithReckonsRow : OpenClaim := { program := "ytiapkipcngnnmaa", sum := "11d1a9237a6400ef189e8e53694a49c1257d12d67c658745bf6fb9f63f29c529", func := "carafe/carafelaw12.ArithReckons", spec := "arithReckons", apart := false }
def ArithReckonsSaid : Prop := arithReckonsRow.holds Try.pinned (OpenSpec.ofChange arithReckonsSpec)

/-- ITS FALSE NEIGHBOUR: 'it returns false'. Refute it at one input. -/
def arithReckonsWrong : ChangeSpec := { name := "arithReckons", fn := fun _ => fun
  | [d1, d2, d3, d4] => { results := [.lit (.bool false)], args := [d1, d2, d3, d4] }
  | _ => none }
def ArithReckonsWrongFalsely : Prop := arithReckonsRow.holds Try.pinned (OpenSpec.ofChange arithReckonsWrong)

/- THE SECOND FORM. 'bulk': how many values and letters a reading holds, each counted each time it is reached (what is shared counts as often as it is met; a slice's spare places count too). A statement '..UptoSaid' is the law's where the arguments, and the package variables that the reading takes, are together of bulk at most 1048576: NARROWER than '..Said'. Prove '..Said' where nothing that the law and all that it calls make is longer than what came in: it says more and counts as full. Else prove '..UptoSaid'. A law counts once. -/
mutual
def uptoBulk {H : Type} : DataW H → Nat
  | .lit (.string bytes) => bytes.length + 1
  | .lit _ => 1
  | .nil => 1
  | .ptr d => uptoBulk d + 1
  | .slice elems spare => uptoBulkAll elems + uptoBulkAll spare + 1
  | .agg parts => uptoBulkAll parts + 1
  | .iface _ d => uptoBulk d + 1
  | .map entries => uptoBulkEntries entries + 1
  | .held _ => 1
def uptoBulkAll {H : Type} : List (DataW H) → Nat
  | [] => 0
  | d :: r => uptoBulk d + uptoBulkAll r
def uptoBulkEntries {H : Type} : List (Lit × DataW H) → Nat
  | [] => 0
  | x :: r => uptoBulkEntry x + uptoBulkEntries r
def uptoBulkEntry {H : Type} : Lit × DataW H → Nat
  | (.string bytes, d) => bytes.length + uptoBulk d + 1
  | (_, d) => uptoBulk d + 1
 end
def uptoSmall : (H : Type) → List (DataW H) → Bool := fun _ ds => decide (uptoBulkAll ds ≤ 1048576)
def OpenSpec.upto (s : _root_.Go.ChangeSpec) : _root_.Go.OpenSpec := { _root_.Go.OpenSpec.ofChange s with cond := some uptoSmall }

/-- 'carafelaw12.ArithShifts', WHERE WHAT IT READS IS OF BULK AT MOST 1048576: true; the input reads as it did. -/
def arithShiftsUptoRow : OpenClaim := { program := "ytiapkipcngnnmaa", sum := "11d1a9237a6400ef189e8e53694a49c1257d12d67c658745bf6fb9f63f29c529", func := "carafe/carafelaw12.ArithShifts", spec := "arithShifts", apart := false, narrowed := true }
def ArithShiftsUptoSaid : Prop := arithShiftsUptoRow.holds Try.pinned (OpenSpec.upto arithShiftsSpec)

/-- 'carafelaw12.ArithLaws', WHERE WHAT IT READS IS OF BULK AT MOST 1048576: true; the input reads as it did. -/
def arithLawsUptoRow : OpenClaim := { program := "ytiapkipcngnnmaa", sum := "11d1a9237a6400ef189e8e53694a49c1257d12d67c658745bf6fb9f63f29c529", func := "carafe/carafelaw12.ArithLaws", spec := "arithLaws", apart := false, narrowed := true }
def ArithLawsUptoSaid : Prop := arithLawsUptoRow.holds Try.pinned (OpenSpec.upto arithLawsSpec)

/-- 'carafelaw12.ArithNumbers', WHERE WHAT IT READS IS OF BULK AT MOST 1048576: true; the input reads as it did. -/
def arithNumbersUptoRow : OpenClaim := { program := "ytiapkipcngnnmaa", sum := "11d1a9237a6400ef189e8e53694a49c1257d12d67c658745bf6fb9f63f29c529", func := "carafe/carafelaw12.ArithNumbers", spec := "arithNumbers", apart := false, narrowed := true }
def ArithNumbersUptoSaid : Prop := arithNumbersUptoRow.holds Try.pinned (OpenSpec.upto arithNumbersSpec)

/-- 'carafelaw12.ArithReckons', WHERE WHAT IT READS IS OF BULK AT MOST 1048576: true; the input reads as it did. -/
def arithReckonsUptoRow : OpenClaim := { program := "ytiapkipcngnnmaa", sum := "11d1a9237a6400ef189e8e53694a49c1257d12d67c658745bf6fb9f63f29c529", func := "carafe/carafelaw12.ArithReckons", spec := "arithReckons", apart := false, narrowed := true }
def ArithReckonsUptoSaid : Prop := arithReckonsUptoRow.holds Try.pinned (OpenSpec.upto arithReckonsSpec)

end Rows
end Go.Proofs.Ytiapkipcngnnmaa
