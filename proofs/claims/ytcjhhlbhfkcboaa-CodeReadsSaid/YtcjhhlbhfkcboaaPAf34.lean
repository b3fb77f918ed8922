-- Written for this claim by a program of our own (myprint).
import Derived.Test.YtcjhhlbhfkcboaaPA0
import Derived.Test.YtcjhhlbhfkcboaaPAf30
namespace Go.Proofs.Ytcjhhlbhfkcboaa.PA
open Go.RowKit Go.Proofs.YtcjhhlbhfkcboaaW.PrintWords Go.Proofs.YtcjhhlbhfkcboaaW.PrintLast Go.Proofs.YtcjhhlbhfkcboaaW.PrintMore
attribute [local go_sem] max2_int min2_int max_two min_two max_three min_three max_four min_four   -- for this text's walks alone
set_option linter.unusedVariables false
set_option linter.unusedSimpArgs false

/-! ### caraferef5_signed: function 34 -/
def caraferef5_signed.f (a0 : Int) : Option (Bool) := if a0 = 16 then (some true) else (if a0 = 17 then (some true) else ((caraferef5_Branch.f a0).bind fun t101 => (some t101)))
set_option maxHeartbeats 8000000 in
set_option maxRecDepth 100000 in
theorem caraferef5_signed.calls (a0 : Int) (r : Bool) (w : World) (h : caraferef5_signed.f a0 = some r) :
    Calls Try.prog 34 #[.int .i64 a0] w fun e w' => e = .returned (.bool r) ∧ Drawn0 w w' := by
  have H : (if a0 = 16 then (some true) else (if a0 = 17 then (some true) else ((caraferef5_Branch.f a0).bind fun t101 => (some t101)))) = some r := h
  clear h
  by_cases c2 : a0 = 16
  · rw [if_pos c2] at H
    have c2b0 : (a0 == 16) = true := beq_iff_eq.mpr c2
    have c2b1 : (a0 != 16) = false := bne_eq_false_iff_eq.mpr c2
    clear c2
    obtain rfl := Option.some.inj H
    go_enter Try.func34, Try.ntmps34
    go_wp2
    go_ret
    exact ⟨by first | rfl | (simp; done) | (simp [*]; done), by repeat (first | exact Drawn0.refl _ | apply Drawn0.step)⟩
  · rw [if_neg c2] at H
    have c2b0 : (a0 == 16) = false := beq_eq_false_iff_ne.mpr c2
    have c2b1 : (a0 != 16) = true := bne_iff_ne.mpr c2
    by_cases c3 : a0 = 17
    · rw [if_pos c3] at H
      have c3b0 : (a0 == 17) = true := beq_iff_eq.mpr c3
      have c3b1 : (a0 != 17) = false := bne_eq_false_iff_eq.mpr c3
      clear c3
      obtain rfl := Option.some.inj H
      go_enter Try.func34, Try.ntmps34
      go_wp2
      go_ret
      exact ⟨by first | rfl | (simp; done) | (simp [*]; done), by repeat (first | exact Drawn0.refl _ | apply Drawn0.step)⟩
    · rw [if_neg c3] at H
      have c3b0 : (a0 == 17) = false := beq_eq_false_iff_ne.mpr c3
      have c3b1 : (a0 != 17) = true := bne_iff_ne.mpr c3
      replace H := Option.bind_eq_some_iff.mp H
      obtain ⟨t101, A40, H⟩ := H
      replace H : (some t101) = some r := H
      have A4 := Aside0.mk A40
      clear A40
      obtain rfl := Option.some.inj H
      go_enter Try.func34, Try.ntmps34
      go_wp2_with (first | (go_at_call 30; (with_reducible refine (caraferef5_Branch.calls a0 t101 _ A4.out).mono ?_); rintro e w' ⟨rfl, ⟨nd, rfl⟩⟩))
      go_ret
      exact ⟨by first | rfl | (simp; done) | (simp [*]; done), by repeat (first | exact Drawn0.refl _ | apply Drawn0.step)⟩

end Go.Proofs.Ytcjhhlbhfkcboaa.PA
