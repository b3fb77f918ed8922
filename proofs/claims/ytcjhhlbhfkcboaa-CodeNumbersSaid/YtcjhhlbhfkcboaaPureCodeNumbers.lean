import Derived.Test.YtcjhhlbhfkcboaaPAf8
namespace Go.Proofs.Ytcjhhlbhfkcboaa.Pure
open Go.RowKit Go.Proofs.Ytcjhhlbhfkcboaa.PA Go.Proofs.YtcjhhlbhfkcboaaW.PrintWords Go.Proofs.YtcjhhlbhfkcboaaW.PrintLast
set_option maxRecDepth 100000 in
theorem CodeNumbers : carafelaw5_CodeNumbers.Pure := ⟨320, by decide +kernel⟩
end Go.Proofs.Ytcjhhlbhfkcboaa.Pure
