/-
  No cell of these rows narrows 'for every input' (looked for: loops, veiled, ifaces, maps, wideKeys, modest, calm, conditions, laid).
  DERIVED. THE GIVEN ROWS OF THIS SEAT. 7 by the template 'for every input the law returns true; each argument reads behind the call as it read before'; 0 by the template 'total and deterministic' (their statements: YtgfghbhcifkmgaaTotals.lean).
  GIVEN WITH THE SEED: the statements are not yours to turn. If you find one false, say at which input.
  Laid BY PROGRAM, IN A SANDBOX (cutbox-rows.mjs): the forced cells as the released guide's own fill.sh prints them over the translation 8e4ba85f1e28c727… (all of the seat's roots in one cut). By AI agents, Wed Nov 11 2026. No macro, syntax, notation, axiom, sorry.
-/
import Derived.Test.YtgfghbhcifkmgaaChecked
import GoSem.Claim
import GoSem.ClaimJoined
import GoSem.ClaimMapViews
import Derived.JoinedTies
import Derived.KernelRfl
namespace Go.Proofs.Ytgfghbhcifkmgaa
/- THE CELL 'sum', in the pinned program and in every row, IS THE sha256 OF THE DUMP (.gsa) THAT YtgfghbhcifkmgaaProg.lean LOADS. Nothing in Lean hashes anything: it is a label: what it is worth is what the hold of that sum in a sandbox is worth. -/
noncomputable def Try.pinned : Pinned := { name := "ytgfghbhcifkmgaa", sum := "8e4ba85f1e28c7278527bf3a2ee14271f45347f5377627915f4851510d3db222", checked := Try.checked }
namespace Rows
def none {H : Type} : Left H := { results := [], args := [] }

/-- 'carafelaw17.SchedTurns': WHATEVER THE INPUT: true; the input reads as it did. -/
def schedTurnsSpec : ChangeSpec := { name := "schedTurns", fn := fun _ => fun
  | [d1, d2] => { results := [.lit (.bool true)], args := [d1, d2] }
  | _ => none }
def schedTurnsRow : OpenClaim := { program := "ytgfghbhcifkmgaa", sum := "8e4ba85f1e28c7278527bf3a2ee14271f45347f5377627915f4851510d3db222", func := "carafe/carafelaw17.SchedTurns", spec := "schedTurns", apart := false }
def SchedTurnsSaid : Prop := schedTurnsRow.holds Try.pinned (OpenSpec.ofChange schedTurnsSpec)

/-- ITS FALSE NEIGHBOUR: 'it returns false'. Refute it at one input. -/
def schedTurnsWrong : ChangeSpec := { name := "schedTurns", fn := fun _ => fun
  | [d1, d2] => { results := [.lit (.bool false)], args := [d1, d2] }
  | _ => none }
def SchedTurnsWrongFalsely : Prop := schedTurnsRow.holds Try.pinned (OpenSpec.ofChange schedTurnsWrong)

/-- 'carafelaw17.SchedWaits': WHATEVER THE INPUT: true; the input reads as it did. -/
def schedWaitsSpec : ChangeSpec := { name := "schedWaits", fn := fun _ => fun
  | [d1, d2, d3] => { results := [.lit (.bool true)], args := [d1, d2, d3] }
  | _ => none }
def schedWaitsRow : OpenClaim := { program := "ytgfghbhcifkmgaa", sum := "8e4ba85f1e28c7278527bf3a2ee14271f45347f5377627915f4851510d3db222", func := "carafe/carafelaw17.SchedWaits", spec := "schedWaits", apart := false }
def SchedWaitsSaid : Prop := schedWaitsRow.holds Try.pinned (OpenSpec.ofChange schedWaitsSpec)

/-- ITS FALSE NEIGHBOUR: 'it returns false'. Refute it at one input. -/
def schedWaitsWrong : ChangeSpec := { name := "schedWaits", fn := fun _ => fun
  | [d1, d2, d3] => { results := [.lit (.bool false)], args := [d1, d2, d3] }
  | _ => none }
def SchedWaitsWrongFalsely : Prop := schedWaitsRow.holds Try.pinned (OpenSpec.ofChange schedWaitsWrong)

/-- 'carafelaw17.SchedPicks': WHATEVER THE INPUT: true; the input reads as it did. -/
def schedPicksSpec : ChangeSpec := { name := "schedPicks", fn := fun _ => fun
  | [d1, d2, d3] => { results := [.lit (.bool true)], args := [d1, d2, d3] }
  | _ => none }
def schedPicksRow : OpenClaim := { program := "ytgfghbhcifkmgaa", sum := "8e4ba85f1e28c7278527bf3a2ee14271f45347f5377627915f4851510d3db222", func := "carafe/carafelaw17.SchedPicks", spec := "schedPicks", unfollowed := true, recurses := true, apart := false }
def SchedPicksSaid : Prop := schedPicksRow.holds Try.pinned (OpenSpec.ofChange schedPicksSpec)

/-- ITS FALSE NEIGHBOUR: 'it returns false'. Refute it at one input. -/
def schedPicksWrong : ChangeSpec := { name := "schedPicks", fn := fun _ => fun
  | [d1, d2, d3] => { results := [.lit (.bool false)], args := [d1, d2, d3] }
  | _ => none }
def SchedPicksWrongFalsely : Prop := schedPicksRow.holds Try.pinned (OpenSpec.ofChange schedPicksWrong)

/-- 'carafelaw17.SchedSleeps': WHATEVER THE INPUT: true; the input reads as it did. -/
def schedSleepsSpec : ChangeSpec := { name := "schedSleeps", fn := fun _ => fun
  | [d] => { results := [.lit (.bool true)], args := [d] }
  | _ => none }
def schedSleepsRow : OpenClaim := { program := "ytgfghbhcifkmgaa", sum := "8e4ba85f1e28c7278527bf3a2ee14271f45347f5377627915f4851510d3db222", func := "carafe/carafelaw17.SchedSleeps", spec := "schedSleeps", unfollowed := true, recurses := true, apart := false }
def SchedSleepsSaid : Prop := schedSleepsRow.holds Try.pinned (OpenSpec.ofChange schedSleepsSpec)

/-- ITS FALSE NEIGHBOUR: 'it returns false'. Refute it at one input. -/
def schedSleepsWrong : ChangeSpec := { name := "schedSleeps", fn := fun _ => fun
  | [d] => { results := [.lit (.bool false)], args := [d] }
  | _ => none }
def SchedSleepsWrongFalsely : Prop := schedSleepsRow.holds Try.pinned (OpenSpec.ofChange schedSleepsWrong)

/-- 'carafelaw17.SchedJoins': WHATEVER THE INPUT: true; the input reads as it did. -/
def schedJoinsSpec : ChangeSpec := { name := "schedJoins", fn := fun _ => fun
  | [d] => { results := [.lit (.bool true)], args := [d] }
  | _ => none }
def schedJoinsRow : OpenClaim := { program := "ytgfghbhcifkmgaa", sum := "8e4ba85f1e28c7278527bf3a2ee14271f45347f5377627915f4851510d3db222", func := "carafe/carafelaw17.SchedJoins", spec := "schedJoins", recurses := true, apart := false }
def SchedJoinsSaid : Prop := schedJoinsRow.holds Try.pinned (OpenSpec.ofChange schedJoinsSpec)

/-- ITS FALSE NEIGHBOUR: 'it returns false'. Refute it at one input. -/
def schedJoinsWrong : ChangeSpec := { name := "schedJoins", fn := fun _ => fun
  | [d] => { results := [.lit (.bool false)], args := [d] }
  | _ => none }
def SchedJoinsWrongFalsely : Prop := schedJoinsRow.holds Try.pinned (OpenSpec.ofChange schedJoinsWrong)

/-- 'carafelaw17.SchedNumbers': WHATEVER THE INPUT: true; the input reads as it did. -/
def schedNumbersSpec : ChangeSpec := { name := "schedNumbers", fn := fun _ => fun
  | [] => { results := [.lit (.bool true)], args := [] }
  | _ => none }
def schedNumbersRow : OpenClaim := { program := "ytgfghbhcifkmgaa", sum := "8e4ba85f1e28c7278527bf3a2ee14271f45347f5377627915f4851510d3db222", func := "carafe/carafelaw17.SchedNumbers", spec := "schedNumbers", unfollowed := true, recurses := true, apart := false }
def SchedNumbersSaid : Prop := schedNumbersRow.holds Try.pinned (OpenSpec.ofChange schedNumbersSpec)

/-- ITS FALSE NEIGHBOUR: 'it returns false'. Refute it at one input. -/
def schedNumbersWrong : ChangeSpec := { name := "schedNumbers", fn := fun _ => fun
  | [] => { results := [.lit (.bool false)], args := [] }
  | _ => none }
def SchedNumbersWrongFalsely : Prop := schedNumbersRow.holds Try.pinned (OpenSpec.ofChange schedNumbersWrong)

/-- 'carafelaw17.SchedPlays': WHATEVER THE INPUT: true; the input reads as it did. -/
def schedPlaysSpec : ChangeSpec := { name := "schedPlays", fn := fun _ => fun
  | [d] => { results := [.lit (.bool true)], args := [d] }
  | _ => none }
def schedPlaysRow : OpenClaim := { program := "ytgfghbhcifkmgaa", sum := "8e4ba85f1e28c7278527bf3a2ee14271f45347f5377627915f4851510d3db222", func := "carafe/carafelaw17.SchedPlays", spec := "schedPlays", unfollowed := true, recurses := true, apart := false }
def SchedPlaysSaid : Prop := schedPlaysRow.holds Try.pinned (OpenSpec.ofChange schedPlaysSpec)

/-- ITS FALSE NEIGHBOUR: 'it returns false'. Refute it at one input. -/
def schedPlaysWrong : ChangeSpec := { name := "schedPlays", fn := fun _ => fun
  | [d] => { results := [.lit (.bool false)], args := [d] }
  | _ => none }
def SchedPlaysWrongFalsely : Prop := schedPlaysRow.holds Try.pinned (OpenSpec.ofChange schedPlaysWrong)

/- THE SECOND FORM. 'bulk': how many values and letters a reading holds, each counted each time it is reached (what is shared counts as often as it is met; a slice's spare places count too). A statement '..UptoSaid' is the law's where the arguments, and the package variables that the reading takes, are together of bulk at most 1048576: NARROWER than '..Said'. Prove '..Said' where nothing that the law and all that it calls make is longer than what came in: it says more and counts as full. Else prove '..UptoSaid'. A law counts once. -/
mutual
def uptoBulk {H : Type} : DataW H → Nat
  | .lit (.string bytes) => bytes.length + 1
  | .lit _ => 1
  | .nil => 1
  | .ptr d => uptoBulk d + 1
  | .slice elems spare => uptoBulkAll elems + uptoBulkAll spare + 1
  | .agg parts => uptoBulkAll parts + 1
  | .iface _ d => uptoBulk d + 1
  | .map entries => uptoBulkEntries entries + 1
  | .held _ => 1
def uptoBulkAll {H : Type} : List (DataW H) → Nat
  | [] => 0
  | d :: r => uptoBulk d + uptoBulkAll r
def uptoBulkEntries {H : Type} : List (Lit × DataW H) → Nat
  | [] => 0
  | x :: r => uptoBulkEntry x + uptoBulkEntries r
def uptoBulkEntry {H : Type} : Lit × DataW H → Nat
  | (.string bytes, d) => bytes.length + uptoBulk d + 1
  | (_, d) => uptoBulk d + 1
 end
def uptoSmall : (H : Type) → List (DataW H) → Bool := fun _ ds => decide (uptoBulkAll ds ≤ 1048576)
def OpenSpec.upto (s : _root_.Go.ChangeSpec) : _root_.Go.OpenSpec := { _root_.Go.OpenSpec.ofChange s with cond := some uptoSmall }

/-- 'carafelaw17.SchedTurns', WHERE WHAT IT READS IS OF BULK AT MOST 1048576: true; the input reads as it did. -/
def schedTurnsUptoRow : OpenClaim := { program := "ytgfghbhcifkmgaa", sum := "8e4ba85f1e28c7278527bf3a2ee14271f45347f5377627915f4851510d3db222", func := "carafe/carafelaw17.SchedTurns", spec := "schedTurns", apart := false, narrowed := true }
def SchedTurnsUptoSaid : Prop := schedTurnsUptoRow.holds Try.pinned (OpenSpec.upto schedTurnsSpec)

/-- 'carafelaw17.SchedWaits', WHERE WHAT IT READS IS OF BULK AT MOST 1048576: true; the input reads as it did. -/
def schedWaitsUptoRow : OpenClaim := { program := "ytgfghbhcifkmgaa", sum := "8e4ba85f1e28c7278527bf3a2ee14271f45347f5377627915f4851510d3db222", func := "carafe/carafelaw17.SchedWaits", spec := "schedWaits", apart := false, narrowed := true }
def SchedWaitsUptoSaid : Prop := schedWaitsUptoRow.holds Try.pinned (OpenSpec.upto schedWaitsSpec)

/-- 'carafelaw17.SchedPicks', WHERE WHAT IT READS IS OF BULK AT MOST 1048576: true; the input reads as it did. -/
def schedPicksUptoRow : OpenClaim := { program := "ytgfghbhcifkmgaa", sum := "8e4ba85f1e28c7278527bf3a2ee14271f45347f5377627915f4851510d3db222", func := "carafe/carafelaw17.SchedPicks", spec := "schedPicks", unfollowed := true, recurses := true, apart := false, narrowed := true }
def SchedPicksUptoSaid : Prop := schedPicksUptoRow.holds Try.pinned (OpenSpec.upto schedPicksSpec)

/-- 'carafelaw17.SchedSleeps', WHERE WHAT IT READS IS OF BULK AT MOST 1048576: true; the input reads as it did. -/
def schedSleepsUptoRow : OpenClaim := { program := "ytgfghbhcifkmgaa", sum := "8e4ba85f1e28c7278527bf3a2ee14271f45347f5377627915f4851510d3db222", func := "carafe/carafelaw17.SchedSleeps", spec := "schedSleeps", unfollowed := true, recurses := true, apart := false, narrowed := true }
def SchedSleepsUptoSaid : Prop := schedSleepsUptoRow.holds Try.pinned (OpenSpec.upto schedSleepsSpec)

/-- 'carafelaw17.SchedJoins', WHERE WHAT IT READS IS OF BULK AT MOST 1048576: true; the input reads as it did. -/
def schedJoinsUptoRow : OpenClaim := { program := "ytgfghbhcifkmgaa", sum := "8e4ba85f1e28c7278527bf3a2ee14271f45347f5377627915f4851510d3db222", func := "carafe/carafelaw17.SchedJoins", spec := "schedJoins", recurses := true, apart := false, narrowed := true }
def SchedJoinsUptoSaid : Prop := schedJoinsUptoRow.holds Try.pinned (OpenSpec.upto schedJoinsSpec)

/-- 'carafelaw17.SchedNumbers', WHERE WHAT IT READS IS OF BULK AT MOST 1048576: true; the input reads as it did. -/
def schedNumbersUptoRow : OpenClaim := { program := "ytgfghbhcifkmgaa", sum := "8e4ba85f1e28c7278527bf3a2ee14271f45347f5377627915f4851510d3db222", func := "carafe/carafelaw17.SchedNumbers", spec := "schedNumbers", unfollowed := true, recurses := true, apart := false, narrowed := true }
def SchedNumbersUptoSaid : Prop := schedNumbersUptoRow.holds Try.pinned (OpenSpec.upto schedNumbersSpec)

/-- 'carafelaw17.SchedPlays', WHERE WHAT IT READS IS OF BULK AT MOST 1048576: true; the input reads as it did. -/
def schedPlaysUptoRow : OpenClaim := { program := "ytgfghbhcifkmgaa", sum := "8e4ba85f1e28c7278527bf3a2ee14271f45347f5377627915f4851510d3db222", func := "carafe/carafelaw17.SchedPlays", spec := "schedPlays", unfollowed := true, recurses := true, apart := false, narrowed := true }
def SchedPlaysUptoSaid : Prop := schedPlaysUptoRow.holds Try.pinned (OpenSpec.upto schedPlaysSpec)

end Rows
end Go.Proofs.Ytgfghbhcifkmgaa
