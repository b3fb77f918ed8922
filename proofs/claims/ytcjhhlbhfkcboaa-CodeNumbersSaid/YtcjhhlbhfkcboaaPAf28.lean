-- Written for this claim by a program of our own (myprint).
import Derived.Test.YtcjhhlbhfkcboaaPA0
import Derived.Test.YtcjhhlbhfkcboaaPAf40
import Derived.Test.YtcjhhlbhfkcboaaPAf41
import Derived.Test.YtcjhhlbhfkcboaaPAf42
namespace Go.Proofs.Ytcjhhlbhfkcboaa.PA
open Go.RowKit Go.Proofs.YtcjhhlbhfkcboaaW.PrintWords Go.Proofs.YtcjhhlbhfkcboaaW.PrintLast Go.Proofs.YtcjhhlbhfkcboaaW.PrintMore
attribute [local go_sem] max2_int min2_int max_two min_two max_three min_three max_four min_four   -- for this text's walks alone
set_option linter.unusedVariables false
set_option linter.unusedSimpArgs false

/-! ### code_Name: function 28 -/
def code_Name.f (a0 : Int) : Option ByteArray := (code_moves.f a0).bind fun t1 => (code_branches.f a0).bind fun t2 => (code_objects.f a0).bind fun t3 => if t1.size ≤ 100 ∧ t2.size ≤ 100 ∧ t3.size ≤ 100 then some ((t1 ++ t2) ++ t3) else none
set_option maxHeartbeats 1600000 in
set_option maxRecDepth 100000 in
theorem code_Name.nm (a0 : Int) (t1 t2 t3 : ByteArray) (w : World) (h1 : Aside0 (code_moves.f a0 = some t1)) (h2 : Aside0 (code_branches.f a0 = some t2)) (h3 : Aside0 (code_objects.f a0 = some t3))
   (s1 : t1.size ≤ 100) (s2 : t2.size ≤ 100) (s3 : t3.size ≤ 100) :
    Calls Try.prog 28 #[.int .i64 a0] w fun e w' => e = .returned (.string ((t1 ++ t2) ++ t3)) ∧ Drawn0 w w' := by
  have z1 : ¬ (9223372036854775807 < t1.size + t2.size) := by omega
  have z2 : ¬ (9223372036854775807 < t1.size + t2.size + t3.size) := by omega
  have z3 : ¬ (9223372036854775807 < (t1 ++ t2).size + t3.size) := by rw [ByteArray.size_append]; exact z2
  clear s1 s2 s3
  go_enter Try.func28, Try.ntmps28
  go_wp2_with fail
  refine (code_moves.calls a0 t1 _ h1.out).mono ?_
  rintro e w' ⟨rfl, ⟨nd, rfl⟩⟩
  go_wp2_with fail
  refine (code_branches.calls a0 t2 _ h2.out).mono ?_
  rintro e w' ⟨rfl, ⟨nd, rfl⟩⟩
  go_wp2_with fail
  refine (code_objects.calls a0 t3 _ h3.out).mono ?_
  rintro e w' ⟨rfl, ⟨nd, rfl⟩⟩
  go_wp2
  go_ret
  exact ⟨rfl, ⟨_, rfl⟩⟩
theorem code_Name.calls (a0 : Int) (r : ByteArray) (w : World) (h : code_Name.f a0 = some r) :
    Calls Try.prog 28 #[.int .i64 a0] w fun e w' => e = .returned (.string r) ∧ Drawn0 w w' := by
  unfold code_Name.f at h
  obtain ⟨t1, h1, h⟩ := Option.bind_eq_some_iff.mp h
  obtain ⟨t2, h2, h⟩ := Option.bind_eq_some_iff.mp h
  obtain ⟨t3, h3, h⟩ := Option.bind_eq_some_iff.mp h
  by_cases c : t1.size ≤ 100 ∧ t2.size ≤ 100 ∧ t3.size ≤ 100
  · rw [if_pos c] at h
    obtain rfl := Option.some.inj h
    exact code_Name.nm a0 t1 t2 t3 w ⟨h1⟩ ⟨h2⟩ ⟨h3⟩ c.1 c.2.1 c.2.2
  · rw [if_neg c] at h; cases h

end Go.Proofs.Ytcjhhlbhfkcboaa.PA
