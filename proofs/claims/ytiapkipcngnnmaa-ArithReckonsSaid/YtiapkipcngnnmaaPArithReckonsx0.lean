-- Written for this claim by a program of our own (myprint).
import Derived.Test.YtiapkipcngnnmaaProg
import Derived.Below
import Derived.Deep.Draws
import Derived.Deep.AppendLies
import Derived.Maps.AppendAt
import Derived.OwnWalk
import Derived.Laws.BytesArg
import Derived.Laws.MakeOwn
import Derived.Laws.OwnMore
import Derived.Deep.OwnRows
import Derived.Tactics
import Derived.Lib.ConvBytes
import Derived.Laws.Slices
import Derived.WalkKit
import Derived.KernelRfl
import Derived.RowKit3
import Derived.Deep.LoopGhost
import Derived.Deep.QuietTactic
import Derived.BigQuiet
import Derived.WideLaws
import Derived.Deep.DeepCutAuto
import Derived.Deep.CutBlock
import Derived.Deep.RegionHeld3
import Derived.Laws.Rows
import Derived.Lib.AppendStr
import Derived.ArgAppend
import Derived.Laws.IdiomCopy
import Derived.OrdersHeld
import Derived.Laws.BitsLemmas
import Derived.RowKit
import Derived.Test.YtiapkipcngnnmaaWWords
import Derived.Test.YtiapkipcngnnmaaWLast
import Derived.Test.YtiapkipcngnnmaaWTab
import Derived.Test.YtiapkipcngnnmaaWFour
import Derived.Test.YtiapkipcngnnmaaWQPut
import Derived.Test.YtiapkipcngnnmaaWApart
import Derived.Test.YtiapkipcngnnmaaWArr
import Derived.Test.YtiapkipcngnnmaaWZeros
import Derived.Test.YtiapkipcngnnmaaWFoot
import Derived.Test.YtiapkipcngnnmaaWKept
import Derived.Test.YtiapkipcngnnmaaWShare
import Derived.Test.YtiapkipcngnnmaaWN
import Derived.Test.YtiapkipcngnnmaaWFootNe
import Derived.Test.YtiapkipcngnnmaaWAt
import Derived.Test.YtiapkipcngnnmaaWEqStruct
import Derived.Test.YtiapkipcngnnmaaWRepsOne
import Derived.Test.YtiapkipcngnnmaaWInv
import Derived.Test.YtiapkipcngnnmaaWInvWords
import Derived.Test.YtiapkipcngnnmaaWGuard
import Derived.Test.YtiapkipcngnnmaaWNEv
import Derived.Test.YtiapkipcngnnmaaWMore
namespace Go.Proofs.Ytiapkipcngnnmaa.PArithReckons
open Go.RowKit Go.Proofs.YtiapkipcngnnmaaW.PrintWords Go.Proofs.YtiapkipcngnnmaaW.PrintLast Go.Proofs.YtiapkipcngnnmaaW.PrintMore
attribute [local go_sem] max2_int min2_int max_two min_two max_three min_three max_four min_four   -- for this text's walks alone
set_option linter.unusedVariables false
set_option linter.unusedSimpArgs false



def errW : Option Int → Value
  | none => .nilIface
  | some c => .iface 0 (.int .i64 c)
theorem errW_none : errW none = .nilIface := rfl
theorem errW_some (c : Int) : errW (some c) = .iface 0 (.int .i64 c) := rfl

-- the values' own types

end Go.Proofs.Ytiapkipcngnnmaa.PArithReckons
