/- The closed sentence ArithNumbers: chapter 12's runs come out as the document says. No condition. -/
import Derived.Test.YtiapkipcngnnmaaPArithNumbersx3
namespace Go.Proofs.Ytiapkipcngnnmaa.Pure
open Go.RowKit Go.Proofs.Ytiapkipcngnnmaa.PArithNumbers Go.Proofs.YtiapkipcngnnmaaW.PrintWords Go.Proofs.YtiapkipcngnnmaaW.PrintLast

theorem ArithNumbers : carafelaw12_ArithNumbers.Pure := ⟨310, by decide +kernel⟩

end Go.Proofs.Ytiapkipcngnnmaa.Pure
