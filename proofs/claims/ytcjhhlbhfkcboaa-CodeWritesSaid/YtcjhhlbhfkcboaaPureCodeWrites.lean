/- CodeWrites, plain. -/
import Derived.Test.YtcjhhlbhfkcboaaCleanRef
import Derived.Test.YtcjhhlbhfkcboaaPAf4
namespace Go.Proofs.Ytcjhhlbhfkcboaa.Pure
open Go.RowKit Go.Proofs.YtcjhhlbhfkcboaaW.PrintLast Go.Proofs.YtcjhhlbhfkcboaaW.PrintMore
open Go.Proofs.YtcjhhlbhfkcboaaW.PrintWords hiding encs
open Go.Proofs.Ytcjhhlbhfkcboaa.PA Go.Proofs.Ytcjhhlbhfkcboaa.Clean
theorem CodeWrites (l : List S32) (hw : ∀ x ∈ l, -9223372036854775808 ≤ x.f2 ∧ x.f2 ≤ 9223372036854775807) : ∃ k, carafelaw5_CodeWrites.f k l = some true := by
  refine ⟨500, ?_⟩
  have main : ∀ y : List S32, y.length ≤ 400 → (∀ x ∈ y, -9223372036854775808 ≤ x.f2 ∧ x.f2 ≤ 9223372036854775807) → code_Encode.f 500 y = some (Enc y) ∧ caraferef5_Encode.f 500 y = some (Enc y) := fun y hy h =>
    ⟨Encode_f (by omega) 500 (by omega), Encode_ref (by omega) h 500 (by omega)⟩
  unfold carafelaw5_CodeWrites.f
  by_cases c : (l.length : Int) > 400
  · obtain ⟨e1, e2⟩ := main (l.take 400) (by rw [List.length_take]; omega) (fun x hx => hw x (List.mem_of_mem_take hx))
    rw [if_pos c, if_pos (by omega), Option.bind_some, e1, Option.bind_some, e2, Option.bind_some, if_pos rfl, if_pos rfl, known_f 500 (by omega)]
    rfl
  · obtain ⟨e1, e2⟩ := main l (by omega) hw
    rw [if_neg c, e1, Option.bind_some, e2, Option.bind_some, if_pos rfl, if_pos rfl, known_f 500 (by omega)]
    rfl
end Go.Proofs.Ytcjhhlbhfkcboaa.Pure
