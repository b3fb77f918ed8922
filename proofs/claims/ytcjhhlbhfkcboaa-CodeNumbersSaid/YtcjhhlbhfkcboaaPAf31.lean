-- Written for this claim by a program of our own (myprint).
import Derived.Test.YtcjhhlbhfkcboaaPA0
namespace Go.Proofs.Ytcjhhlbhfkcboaa.PA
open Go.RowKit Go.Proofs.YtcjhhlbhfkcboaaW.PrintWords Go.Proofs.YtcjhhlbhfkcboaaW.PrintLast Go.Proofs.YtcjhhlbhfkcboaaW.PrintMore
attribute [local go_sem] max2_int min2_int max_two min_two max_three min_three max_four min_four   -- for this text's walks alone
set_option linter.unusedVariables false
set_option linter.unusedSimpArgs false

/-! ### code_Ends: function 31 -/
def code_Ends.f (a0 : Int) : Option (Bool) := if a0 = 167 then (some true) else (if a0 = 172 then (some true) else (if a0 = 176 then (some true) else (if a0 = 177 then (some true) else (if a0 = 191 then (some true) else (some false)))))
set_option maxHeartbeats 8000000 in
set_option maxRecDepth 100000 in
theorem code_Ends.calls (a0 : Int) (r : Bool) (w : World) (h : code_Ends.f a0 = some r) :
    Calls Try.prog 31 #[.int .i64 a0] w fun e w' => e = .returned (.bool r) ∧ Drawn0 w w' := by
  have H : (if a0 = 167 then (some true) else (if a0 = 172 then (some true) else (if a0 = 176 then (some true) else (if a0 = 177 then (some true) else (if a0 = 191 then (some true) else (some false)))))) = some r := h
  clear h
  by_cases c2 : a0 = 167
  · rw [if_pos c2] at H
    have c2b0 : (a0 == 167) = true := beq_iff_eq.mpr c2
    have c2b1 : (a0 != 167) = false := bne_eq_false_iff_eq.mpr c2
    clear c2
    obtain rfl := Option.some.inj H
    go_enter Try.func31, Try.ntmps31
    go_wp2
    go_ret
    exact ⟨by first | rfl | (simp; done) | (simp [*]; done), by repeat (first | exact Drawn0.refl _ | apply Drawn0.step)⟩
  · rw [if_neg c2] at H
    have c2b0 : (a0 == 167) = false := beq_eq_false_iff_ne.mpr c2
    have c2b1 : (a0 != 167) = true := bne_iff_ne.mpr c2
    by_cases c3 : a0 = 172
    · rw [if_pos c3] at H
      have c3b0 : (a0 == 172) = true := beq_iff_eq.mpr c3
      have c3b1 : (a0 != 172) = false := bne_eq_false_iff_eq.mpr c3
      clear c3
      obtain rfl := Option.some.inj H
      go_enter Try.func31, Try.ntmps31
      go_wp2
      go_ret
      exact ⟨by first | rfl | (simp; done) | (simp [*]; done), by repeat (first | exact Drawn0.refl _ | apply Drawn0.step)⟩
    · rw [if_neg c3] at H
      have c3b0 : (a0 == 172) = false := beq_eq_false_iff_ne.mpr c3
      have c3b1 : (a0 != 172) = true := bne_iff_ne.mpr c3
      by_cases c4 : a0 = 176
      · rw [if_pos c4] at H
        have c4b0 : (a0 == 176) = true := beq_iff_eq.mpr c4
        have c4b1 : (a0 != 176) = false := bne_eq_false_iff_eq.mpr c4
        clear c4
        obtain rfl := Option.some.inj H
        go_enter Try.func31, Try.ntmps31
        go_wp2
        go_ret
        exact ⟨by first | rfl | (simp; done) | (simp [*]; done), by repeat (first | exact Drawn0.refl _ | apply Drawn0.step)⟩
      · rw [if_neg c4] at H
        have c4b0 : (a0 == 176) = false := beq_eq_false_iff_ne.mpr c4
        have c4b1 : (a0 != 176) = true := bne_iff_ne.mpr c4
        by_cases c5 : a0 = 177
        · rw [if_pos c5] at H
          have c5b0 : (a0 == 177) = true := beq_iff_eq.mpr c5
          have c5b1 : (a0 != 177) = false := bne_eq_false_iff_eq.mpr c5
          clear c5
          obtain rfl := Option.some.inj H
          go_enter Try.func31, Try.ntmps31
          go_wp2
          go_ret
          exact ⟨by first | rfl | (simp; done) | (simp [*]; done), by repeat (first | exact Drawn0.refl _ | apply Drawn0.step)⟩
        · rw [if_neg c5] at H
          have c5b0 : (a0 == 177) = false := beq_eq_false_iff_ne.mpr c5
          have c5b1 : (a0 != 177) = true := bne_iff_ne.mpr c5
          by_cases c6 : a0 = 191
          · rw [if_pos c6] at H
            have c6b0 : (a0 == 191) = true := beq_iff_eq.mpr c6
            have c6b1 : (a0 != 191) = false := bne_eq_false_iff_eq.mpr c6
            clear c6
            obtain rfl := Option.some.inj H
            go_enter Try.func31, Try.ntmps31
            go_wp2
            go_ret
            exact ⟨by first | rfl | (simp; done) | (simp [*]; done), by repeat (first | exact Drawn0.refl _ | apply Drawn0.step)⟩
          · rw [if_neg c6] at H
            have c6b0 : (a0 == 191) = false := beq_eq_false_iff_ne.mpr c6
            have c6b1 : (a0 != 191) = true := bne_iff_ne.mpr c6
            obtain rfl := Option.some.inj H
            go_enter Try.func31, Try.ntmps31
            go_wp2
            go_ret
            exact ⟨by first | rfl | (simp; done) | (simp [*]; done), by repeat (first | exact Drawn0.refl _ | apply Drawn0.step)⟩

end Go.Proofs.Ytcjhhlbhfkcboaa.PA
