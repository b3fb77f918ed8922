-- Written for this claim by a program of our own (myprint).
import Derived.Test.YtcjhhlbhfkcboaaPA0
namespace Go.Proofs.Ytcjhhlbhfkcboaa.PA
open Go.RowKit Go.Proofs.YtcjhhlbhfkcboaaW.PrintWords Go.Proofs.YtcjhhlbhfkcboaaW.PrintLast Go.Proofs.YtcjhhlbhfkcboaaW.PrintMore
attribute [local go_sem] max2_int min2_int max_two min_two max_three min_three max_four min_four   -- for this text's walks alone
set_option linter.unusedVariables false
set_option linter.unusedSimpArgs false

/-! ### code_moves: function 40 -/
def code_moves.f (a0 : Int) : Option (ByteArray) := if a0 = 0 then (some (⟨#[110, 111, 112]⟩ : ByteArray)) else (if a0 = 1 then (some (⟨#[110, 117, 108, 108]⟩ : ByteArray)) else (if a0 = 2 then (some (⟨#[99, 111, 110, 115, 116, 109, 49]⟩ : ByteArray)) else (if a0 = 3 then (some (⟨#[99, 111, 110, 115, 116, 48]⟩ : ByteArray)) else (if a0 = 4 then (some (⟨#[99, 111, 110, 115, 116, 49]⟩ : ByteArray)) else (if a0 = 5 then (some (⟨#[99, 111, 110, 115, 116, 50]⟩ : ByteArray)) else (if a0 = 6 then (some (⟨#[99, 111, 110, 115, 116, 51]⟩ : ByteArray)) else (if a0 = 7 then (some (⟨#[99, 111, 110, 115, 116, 52]⟩ : ByteArray)) else (if a0 = 8 then (some (⟨#[99, 111, 110, 115, 116, 53]⟩ : ByteArray)) else (if a0 = 16 then (some (⟨#[112, 117, 115, 104, 49]⟩ : ByteArray)) else (if a0 = 17 then (some (⟨#[112, 117, 115, 104, 50]⟩ : ByteArray)) else (if a0 = 18 then (some (⟨#[108, 100, 99]⟩ : ByteArray)) else (if a0 = 21 then (some (⟨#[105, 108, 111, 97, 100]⟩ : ByteArray)) else (if a0 = 25 then (some (⟨#[97, 108, 111, 97, 100]⟩ : ByteArray)) else (if a0 = 46 then (some (⟨#[105, 97, 108, 111, 97, 100]⟩ : ByteArray)) else (if a0 = 50 then (some (⟨#[97, 97, 108, 111, 97, 100]⟩ : ByteArray)) else (if a0 = 54 then (some (⟨#[105, 115, 116, 111, 114, 101]⟩ : ByteArray)) else (if a0 = 58 then (some (⟨#[97, 115, 116, 111, 114, 101]⟩ : ByteArray)) else (if a0 = 79 then (some (⟨#[105, 97, 115, 116, 111, 114, 101]⟩ : ByteArray)) else (if a0 = 83 then (some (⟨#[97, 97, 115, 116, 111, 114, 101]⟩ : ByteArray)) else (if a0 = 87 then (some (⟨#[112, 111, 112]⟩ : ByteArray)) else (if a0 = 89 then (some (⟨#[100, 117, 112]⟩ : ByteArray)) else (if a0 = 95 then (some (⟨#[115, 119, 97, 112]⟩ : ByteArray)) else (if a0 = 96 then (some (⟨#[97, 100, 100]⟩ : ByteArray)) else (if a0 = 100 then (some (⟨#[115, 117, 98]⟩ : ByteArray)) else (if a0 = 104 then (some (⟨#[109, 117, 108]⟩ : ByteArray)) else (if a0 = 108 then (some (⟨#[100, 105, 118]⟩ : ByteArray)) else (if a0 = 112 then (some (⟨#[114, 101, 109]⟩ : ByteArray)) else (if a0 = 116 then (some (⟨#[110, 101, 103]⟩ : ByteArray)) else (if a0 = 120 then (some (⟨#[115, 104, 108]⟩ : ByteArray)) else (if a0 = 122 then (some (⟨#[115, 104, 114]⟩ : ByteArray)) else (if a0 = 124 then (some (⟨#[117, 115, 104, 114]⟩ : ByteArray)) else (if a0 = 126 then (some (⟨#[97, 110, 100]⟩ : ByteArray)) else (if a0 = 128 then (some (⟨#[111, 114]⟩ : ByteArray)) else (if a0 = 130 then (some (⟨#[120, 111, 114]⟩ : ByteArray)) else (if a0 = 132 then (some (⟨#[105, 110, 99]⟩ : ByteArray)) else (some (⟨#[]⟩ : ByteArray)))))))))))))))))))))))))))))))))))))
set_option maxHeartbeats 8000000 in
set_option maxRecDepth 100000 in
theorem code_moves.calls (a0 : Int) (r : ByteArray) (w : World) (h : code_moves.f a0 = some r) :
    Calls Try.prog 40 #[.int .i64 a0] w fun e w' => e = .returned (.string r) ∧ Drawn0 w w' := by
  have H : (if a0 = 0 then (some (⟨#[110, 111, 112]⟩ : ByteArray)) else (if a0 = 1 then (some (⟨#[110, 117, 108, 108]⟩ : ByteArray)) else (if a0 = 2 then (some (⟨#[99, 111, 110, 115, 116, 109, 49]⟩ : ByteArray)) else (if a0 = 3 then (some (⟨#[99, 111, 110, 115, 116, 48]⟩ : ByteArray)) else (if a0 = 4 then (some (⟨#[99, 111, 110, 115, 116, 49]⟩ : ByteArray)) else (if a0 = 5 then (some (⟨#[99, 111, 110, 115, 116, 50]⟩ : ByteArray)) else (if a0 = 6 then (some (⟨#[99, 111, 110, 115, 116, 51]⟩ : ByteArray)) else (if a0 = 7 then (some (⟨#[99, 111, 110, 115, 116, 52]⟩ : ByteArray)) else (if a0 = 8 then (some (⟨#[99, 111, 110, 115, 116, 53]⟩ : ByteArray)) else (if a0 = 16 then (some (⟨#[112, 117, 115, 104, 49]⟩ : ByteArray)) else (if a0 = 17 then (some (⟨#[112, 117, 115, 104, 50]⟩ : ByteArray)) else (if a0 = 18 then (some (⟨#[108, 100, 99]⟩ : ByteArray)) else (if a0 = 21 then (some (⟨#[105, 108, 111, 97, 100]⟩ : ByteArray)) else (if a0 = 25 then (some (⟨#[97, 108, 111, 97, 100]⟩ : ByteArray)) else (if a0 = 46 then (some (⟨#[105, 97, 108, 111, 97, 100]⟩ : ByteArray)) else (if a0 = 50 then (some (⟨#[97, 97, 108, 111, 97, 100]⟩ : ByteArray)) else (if a0 = 54 then (some (⟨#[105, 115, 116, 111, 114, 101]⟩ : ByteArray)) else (if a0 = 58 then (some (⟨#[97, 115, 116, 111, 114, 101]⟩ : ByteArray)) else (if a0 = 79 then (some (⟨#[105, 97, 115, 116, 111, 114, 101]⟩ : ByteArray)) else (if a0 = 83 then (some (⟨#[97, 97, 115, 116, 111, 114, 101]⟩ : ByteArray)) else (if a0 = 87 then (some (⟨#[112, 111, 112]⟩ : ByteArray)) else (if a0 = 89 then (some (⟨#[100, 117, 112]⟩ : ByteArray)) else (if a0 = 95 then (some (⟨#[115, 119, 97, 112]⟩ : ByteArray)) else (if a0 = 96 then (some (⟨#[97, 100, 100]⟩ : ByteArray)) else (if a0 = 100 then (some (⟨#[115, 117, 98]⟩ : ByteArray)) else (if a0 = 104 then (some (⟨#[109, 117, 108]⟩ : ByteArray)) else (if a0 = 108 then (some (⟨#[100, 105, 118]⟩ : ByteArray)) else (if a0 = 112 then (some (⟨#[114, 101, 109]⟩ : ByteArray)) else (if a0 = 116 then (some (⟨#[110, 101, 103]⟩ : ByteArray)) else (if a0 = 120 then (some (⟨#[115, 104, 108]⟩ : ByteArray)) else (if a0 = 122 then (some (⟨#[115, 104, 114]⟩ : ByteArray)) else (if a0 = 124 then (some (⟨#[117, 115, 104, 114]⟩ : ByteArray)) else (if a0 = 126 then (some (⟨#[97, 110, 100]⟩ : ByteArray)) else (if a0 = 128 then (some (⟨#[111, 114]⟩ : ByteArray)) else (if a0 = 130 then (some (⟨#[120, 111, 114]⟩ : ByteArray)) else (if a0 = 132 then (some (⟨#[105, 110, 99]⟩ : ByteArray)) else (some (⟨#[]⟩ : ByteArray)))))))))))))))))))))))))))))))))))))) = some r := h
  clear h
  by_cases c2 : a0 = 0
  · rw [if_pos c2] at H
    have c2b0 : (a0 == 0) = true := beq_iff_eq.mpr c2
    have c2b1 : (a0 != 0) = false := bne_eq_false_iff_eq.mpr c2
    clear c2
    obtain rfl := Option.some.inj H
    go_enter Try.func40, Try.ntmps40
    go_wp2
    go_ret
    exact ⟨by first | rfl | (simp; done) | (simp [*]; done), by repeat (first | exact Drawn0.refl _ | apply Drawn0.step)⟩
  · rw [if_neg c2] at H
    have c2b0 : (a0 == 0) = false := beq_eq_false_iff_ne.mpr c2
    have c2b1 : (a0 != 0) = true := bne_iff_ne.mpr c2
    by_cases c3 : a0 = 1
    · rw [if_pos c3] at H
      have c3b0 : (a0 == 1) = true := beq_iff_eq.mpr c3
      have c3b1 : (a0 != 1) = false := bne_eq_false_iff_eq.mpr c3
      clear c3
      obtain rfl := Option.some.inj H
      go_enter Try.func40, Try.ntmps40
      go_wp2
      go_ret
      exact ⟨by first | rfl | (simp; done) | (simp [*]; done), by repeat (first | exact Drawn0.refl _ | apply Drawn0.step)⟩
    · rw [if_neg c3] at H
      have c3b0 : (a0 == 1) = false := beq_eq_false_iff_ne.mpr c3
      have c3b1 : (a0 != 1) = true := bne_iff_ne.mpr c3
      by_cases c4 : a0 = 2
      · rw [if_pos c4] at H
        have c4b0 : (a0 == 2) = true := beq_iff_eq.mpr c4
        have c4b1 : (a0 != 2) = false := bne_eq_false_iff_eq.mpr c4
        clear c4
        obtain rfl := Option.some.inj H
        go_enter Try.func40, Try.ntmps40
        go_wp2
        go_ret
        exact ⟨by first | rfl | (simp; done) | (simp [*]; done), by repeat (first | exact Drawn0.refl _ | apply Drawn0.step)⟩
      · rw [if_neg c4] at H
        have c4b0 : (a0 == 2) = false := beq_eq_false_iff_ne.mpr c4
        have c4b1 : (a0 != 2) = true := bne_iff_ne.mpr c4
        by_cases c5 : a0 = 3
        · rw [if_pos c5] at H
          have c5b0 : (a0 == 3) = true := beq_iff_eq.mpr c5
          have c5b1 : (a0 != 3) = false := bne_eq_false_iff_eq.mpr c5
          clear c5
          obtain rfl := Option.some.inj H
          go_enter Try.func40, Try.ntmps40
          go_wp2
          go_ret
          exact ⟨by first | rfl | (simp; done) | (simp [*]; done), by repeat (first | exact Drawn0.refl _ | apply Drawn0.step)⟩
        · rw [if_neg c5] at H
          have c5b0 : (a0 == 3) = false := beq_eq_false_iff_ne.mpr c5
          have c5b1 : (a0 != 3) = true := bne_iff_ne.mpr c5
          by_cases c6 : a0 = 4
          · rw [if_pos c6] at H
            have c6b0 : (a0 == 4) = true := beq_iff_eq.mpr c6
            have c6b1 : (a0 != 4) = false := bne_eq_false_iff_eq.mpr c6
            clear c6
            obtain rfl := Option.some.inj H
            go_enter Try.func40, Try.ntmps40
            go_wp2
            go_ret
            exact ⟨by first | rfl | (simp; done) | (simp [*]; done), by repeat (first | exact Drawn0.refl _ | apply Drawn0.step)⟩
          · rw [if_neg c6] at H
            have c6b0 : (a0 == 4) = false := beq_eq_false_iff_ne.mpr c6
            have c6b1 : (a0 != 4) = true := bne_iff_ne.mpr c6
            by_cases c7 : a0 = 5
            · rw [if_pos c7] at H
              have c7b0 : (a0 == 5) = true := beq_iff_eq.mpr c7
              have c7b1 : (a0 != 5) = false := bne_eq_false_iff_eq.mpr c7
              clear c7
              obtain rfl := Option.some.inj H
              go_enter Try.func40, Try.ntmps40
              go_wp2
              go_ret
              exact ⟨by first | rfl | (simp; done) | (simp [*]; done), by repeat (first | exact Drawn0.refl _ | apply Drawn0.step)⟩
            · rw [if_neg c7] at H
              have c7b0 : (a0 == 5) = false := beq_eq_false_iff_ne.mpr c7
              have c7b1 : (a0 != 5) = true := bne_iff_ne.mpr c7
              by_cases c8 : a0 = 6
              · rw [if_pos c8] at H
                have c8b0 : (a0 == 6) = true := beq_iff_eq.mpr c8
                have c8b1 : (a0 != 6) = false := bne_eq_false_iff_eq.mpr c8
                clear c8
                obtain rfl := Option.some.inj H
                go_enter Try.func40, Try.ntmps40
                go_wp2
                go_ret
                exact ⟨by first | rfl | (simp; done) | (simp [*]; done), by repeat (first | exact Drawn0.refl _ | apply Drawn0.step)⟩
              · rw [if_neg c8] at H
                have c8b0 : (a0 == 6) = false := beq_eq_false_iff_ne.mpr c8
                have c8b1 : (a0 != 6) = true := bne_iff_ne.mpr c8
                by_cases c9 : a0 = 7
                · rw [if_pos c9] at H
                  have c9b0 : (a0 == 7) = true := beq_iff_eq.mpr c9
                  have c9b1 : (a0 != 7) = false := bne_eq_false_iff_eq.mpr c9
                  clear c9
                  obtain rfl := Option.some.inj H
                  go_enter Try.func40, Try.ntmps40
                  go_wp2
                  go_ret
                  exact ⟨by first | rfl | (simp; done) | (simp [*]; done), by repeat (first | exact Drawn0.refl _ | apply Drawn0.step)⟩
                · rw [if_neg c9] at H
                  have c9b0 : (a0 == 7) = false := beq_eq_false_iff_ne.mpr c9
                  have c9b1 : (a0 != 7) = true := bne_iff_ne.mpr c9
                  by_cases c10 : a0 = 8
                  · rw [if_pos c10] at H
                    have c10b0 : (a0 == 8) = true := beq_iff_eq.mpr c10
                    have c10b1 : (a0 != 8) = false := bne_eq_false_iff_eq.mpr c10
                    clear c10
                    obtain rfl := Option.some.inj H
                    go_enter Try.func40, Try.ntmps40
                    go_wp2
                    go_ret
                    exact ⟨by first | rfl | (simp; done) | (simp [*]; done), by repeat (first | exact Drawn0.refl _ | apply Drawn0.step)⟩
                  · rw [if_neg c10] at H
                    have c10b0 : (a0 == 8) = false := beq_eq_false_iff_ne.mpr c10
                    have c10b1 : (a0 != 8) = true := bne_iff_ne.mpr c10
                    by_cases c11 : a0 = 16
                    · rw [if_pos c11] at H
                      have c11b0 : (a0 == 16) = true := beq_iff_eq.mpr c11
                      have c11b1 : (a0 != 16) = false := bne_eq_false_iff_eq.mpr c11
                      clear c11
                      obtain rfl := Option.some.inj H
                      go_enter Try.func40, Try.ntmps40
                      go_wp2
                      go_ret
                      exact ⟨by first | rfl | (simp; done) | (simp [*]; done), by repeat (first | exact Drawn0.refl _ | apply Drawn0.step)⟩
                    · rw [if_neg c11] at H
                      have c11b0 : (a0 == 16) = false := beq_eq_false_iff_ne.mpr c11
                      have c11b1 : (a0 != 16) = true := bne_iff_ne.mpr c11
                      by_cases c12 : a0 = 17
                      · rw [if_pos c12] at H
                        have c12b0 : (a0 == 17) = true := beq_iff_eq.mpr c12
                        have c12b1 : (a0 != 17) = false := bne_eq_false_iff_eq.mpr c12
                        clear c12
                        obtain rfl := Option.some.inj H
                        go_enter Try.func40, Try.ntmps40
                        go_wp2
                        go_ret
                        exact ⟨by first | rfl | (simp; done) | (simp [*]; done), by repeat (first | exact Drawn0.refl _ | apply Drawn0.step)⟩
                      · rw [if_neg c12] at H
                        have c12b0 : (a0 == 17) = false := beq_eq_false_iff_ne.mpr c12
                        have c12b1 : (a0 != 17) = true := bne_iff_ne.mpr c12
                        by_cases c13 : a0 = 18
                        · rw [if_pos c13] at H
                          have c13b0 : (a0 == 18) = true := beq_iff_eq.mpr c13
                          have c13b1 : (a0 != 18) = false := bne_eq_false_iff_eq.mpr c13
                          clear c13
                          obtain rfl := Option.some.inj H
                          go_enter Try.func40, Try.ntmps40
                          go_wp2
                          go_ret
                          exact ⟨by first | rfl | (simp; done) | (simp [*]; done), by repeat (first | exact Drawn0.refl _ | apply Drawn0.step)⟩
                        · rw [if_neg c13] at H
                          have c13b0 : (a0 == 18) = false := beq_eq_false_iff_ne.mpr c13
                          have c13b1 : (a0 != 18) = true := bne_iff_ne.mpr c13
                          by_cases c14 : a0 = 21
                          · rw [if_pos c14] at H
                            have c14b0 : (a0 == 21) = true := beq_iff_eq.mpr c14
                            have c14b1 : (a0 != 21) = false := bne_eq_false_iff_eq.mpr c14
                            clear c14
                            obtain rfl := Option.some.inj H
                            go_enter Try.func40, Try.ntmps40
                            go_wp2
                            go_ret
                            exact ⟨by first | rfl | (simp; done) | (simp [*]; done), by repeat (first | exact Drawn0.refl _ | apply Drawn0.step)⟩
                          · rw [if_neg c14] at H
                            have c14b0 : (a0 == 21) = false := beq_eq_false_iff_ne.mpr c14
                            have c14b1 : (a0 != 21) = true := bne_iff_ne.mpr c14
                            by_cases c15 : a0 = 25
                            · rw [if_pos c15] at H
                              have c15b0 : (a0 == 25) = true := beq_iff_eq.mpr c15
                              have c15b1 : (a0 != 25) = false := bne_eq_false_iff_eq.mpr c15
                              clear c15
                              obtain rfl := Option.some.inj H
                              go_enter Try.func40, Try.ntmps40
                              go_wp2
                              go_ret
                              exact ⟨by first | rfl | (simp; done) | (simp [*]; done), by repeat (first | exact Drawn0.refl _ | apply Drawn0.step)⟩
                            · rw [if_neg c15] at H
                              have c15b0 : (a0 == 25) = false := beq_eq_false_iff_ne.mpr c15
                              have c15b1 : (a0 != 25) = true := bne_iff_ne.mpr c15
                              by_cases c16 : a0 = 46
                              · rw [if_pos c16] at H
                                have c16b0 : (a0 == 46) = true := beq_iff_eq.mpr c16
                                have c16b1 : (a0 != 46) = false := bne_eq_false_iff_eq.mpr c16
                                clear c16
                                obtain rfl := Option.some.inj H
                                go_enter Try.func40, Try.ntmps40
                                go_wp2
                                go_ret
                                exact ⟨by first | rfl | (simp; done) | (simp [*]; done), by repeat (first | exact Drawn0.refl _ | apply Drawn0.step)⟩
                              · rw [if_neg c16] at H
                                have c16b0 : (a0 == 46) = false := beq_eq_false_iff_ne.mpr c16
                                have c16b1 : (a0 != 46) = true := bne_iff_ne.mpr c16
                                by_cases c17 : a0 = 50
                                · rw [if_pos c17] at H
                                  have c17b0 : (a0 == 50) = true := beq_iff_eq.mpr c17
                                  have c17b1 : (a0 != 50) = false := bne_eq_false_iff_eq.mpr c17
                                  clear c17
                                  obtain rfl := Option.some.inj H
                                  go_enter Try.func40, Try.ntmps40
                                  go_wp2
                                  go_ret
                                  exact ⟨by first | rfl | (simp; done) | (simp [*]; done), by repeat (first | exact Drawn0.refl _ | apply Drawn0.step)⟩
                                · rw [if_neg c17] at H
                                  have c17b0 : (a0 == 50) = false := beq_eq_false_iff_ne.mpr c17
                                  have c17b1 : (a0 != 50) = true := bne_iff_ne.mpr c17
                                  by_cases c18 : a0 = 54
                                  · rw [if_pos c18] at H
                                    have c18b0 : (a0 == 54) = true := beq_iff_eq.mpr c18
                                    have c18b1 : (a0 != 54) = false := bne_eq_false_iff_eq.mpr c18
                                    clear c18
                                    obtain rfl := Option.some.inj H
                                    go_enter Try.func40, Try.ntmps40
                                    go_wp2
                                    go_ret
                                    exact ⟨by first | rfl | (simp; done) | (simp [*]; done), by repeat (first | exact Drawn0.refl _ | apply Drawn0.step)⟩
                                  · rw [if_neg c18] at H
                                    have c18b0 : (a0 == 54) = false := beq_eq_false_iff_ne.mpr c18
                                    have c18b1 : (a0 != 54) = true := bne_iff_ne.mpr c18
                                    by_cases c19 : a0 = 58
                                    · rw [if_pos c19] at H
                                      have c19b0 : (a0 == 58) = true := beq_iff_eq.mpr c19
                                      have c19b1 : (a0 != 58) = false := bne_eq_false_iff_eq.mpr c19
                                      clear c19
                                      obtain rfl := Option.some.inj H
                                      go_enter Try.func40, Try.ntmps40
                                      go_wp2
                                      go_ret
                                      exact ⟨by first | rfl | (simp; done) | (simp [*]; done), by repeat (first | exact Drawn0.refl _ | apply Drawn0.step)⟩
                                    · rw [if_neg c19] at H
                                      have c19b0 : (a0 == 58) = false := beq_eq_false_iff_ne.mpr c19
                                      have c19b1 : (a0 != 58) = true := bne_iff_ne.mpr c19
                                      by_cases c20 : a0 = 79
                                      · rw [if_pos c20] at H
                                        have c20b0 : (a0 == 79) = true := beq_iff_eq.mpr c20
                                        have c20b1 : (a0 != 79) = false := bne_eq_false_iff_eq.mpr c20
                                        clear c20
                                        obtain rfl := Option.some.inj H
                                        go_enter Try.func40, Try.ntmps40
                                        go_wp2
                                        go_ret
                                        exact ⟨by first | rfl | (simp; done) | (simp [*]; done), by repeat (first | exact Drawn0.refl _ | apply Drawn0.step)⟩
                                      · rw [if_neg c20] at H
                                        have c20b0 : (a0 == 79) = false := beq_eq_false_iff_ne.mpr c20
                                        have c20b1 : (a0 != 79) = true := bne_iff_ne.mpr c20
                                        by_cases c21 : a0 = 83
                                        · rw [if_pos c21] at H
                                          have c21b0 : (a0 == 83) = true := beq_iff_eq.mpr c21
                                          have c21b1 : (a0 != 83) = false := bne_eq_false_iff_eq.mpr c21
                                          clear c21
                                          obtain rfl := Option.some.inj H
                                          go_enter Try.func40, Try.ntmps40
                                          go_wp2
                                          go_ret
                                          exact ⟨by first | rfl | (simp; done) | (simp [*]; done), by repeat (first | exact Drawn0.refl _ | apply Drawn0.step)⟩
                                        · rw [if_neg c21] at H
                                          have c21b0 : (a0 == 83) = false := beq_eq_false_iff_ne.mpr c21
                                          have c21b1 : (a0 != 83) = true := bne_iff_ne.mpr c21
                                          by_cases c22 : a0 = 87
                                          · rw [if_pos c22] at H
                                            have c22b0 : (a0 == 87) = true := beq_iff_eq.mpr c22
                                            have c22b1 : (a0 != 87) = false := bne_eq_false_iff_eq.mpr c22
                                            clear c22
                                            obtain rfl := Option.some.inj H
                                            go_enter Try.func40, Try.ntmps40
                                            go_wp2
                                            go_ret
                                            exact ⟨by first | rfl | (simp; done) | (simp [*]; done), by repeat (first | exact Drawn0.refl _ | apply Drawn0.step)⟩
                                          · rw [if_neg c22] at H
                                            have c22b0 : (a0 == 87) = false := beq_eq_false_iff_ne.mpr c22
                                            have c22b1 : (a0 != 87) = true := bne_iff_ne.mpr c22
                                            by_cases c23 : a0 = 89
                                            · rw [if_pos c23] at H
                                              have c23b0 : (a0 == 89) = true := beq_iff_eq.mpr c23
                                              have c23b1 : (a0 != 89) = false := bne_eq_false_iff_eq.mpr c23
                                              clear c23
                                              obtain rfl := Option.some.inj H
                                              go_enter Try.func40, Try.ntmps40
                                              go_wp2
                                              go_ret
                                              exact ⟨by first | rfl | (simp; done) | (simp [*]; done), by repeat (first | exact Drawn0.refl _ | apply Drawn0.step)⟩
                                            · rw [if_neg c23] at H
                                              have c23b0 : (a0 == 89) = false := beq_eq_false_iff_ne.mpr c23
                                              have c23b1 : (a0 != 89) = true := bne_iff_ne.mpr c23
                                              by_cases c24 : a0 = 95
                                              · rw [if_pos c24] at H
                                                have c24b0 : (a0 == 95) = true := beq_iff_eq.mpr c24
                                                have c24b1 : (a0 != 95) = false := bne_eq_false_iff_eq.mpr c24
                                                clear c24
                                                obtain rfl := Option.some.inj H
                                                go_enter Try.func40, Try.ntmps40
                                                go_wp2
                                                go_ret
                                                exact ⟨by first | rfl | (simp; done) | (simp [*]; done), by repeat (first | exact Drawn0.refl _ | apply Drawn0.step)⟩
                                              · rw [if_neg c24] at H
                                                have c24b0 : (a0 == 95) = false := beq_eq_false_iff_ne.mpr c24
                                                have c24b1 : (a0 != 95) = true := bne_iff_ne.mpr c24
                                                by_cases c25 : a0 = 96
                                                · rw [if_pos c25] at H
                                                  have c25b0 : (a0 == 96) = true := beq_iff_eq.mpr c25
                                                  have c25b1 : (a0 != 96) = false := bne_eq_false_iff_eq.mpr c25
                                                  clear c25
                                                  obtain rfl := Option.some.inj H
                                                  go_enter Try.func40, Try.ntmps40
                                                  go_wp2
                                                  go_ret
                                                  exact ⟨by first | rfl | (simp; done) | (simp [*]; done), by repeat (first | exact Drawn0.refl _ | apply Drawn0.step)⟩
                                                · rw [if_neg c25] at H
                                                  have c25b0 : (a0 == 96) = false := beq_eq_false_iff_ne.mpr c25
                                                  have c25b1 : (a0 != 96) = true := bne_iff_ne.mpr c25
                                                  by_cases c26 : a0 = 100
                                                  · rw [if_pos c26] at H
                                                    have c26b0 : (a0 == 100) = true := beq_iff_eq.mpr c26
                                                    have c26b1 : (a0 != 100) = false := bne_eq_false_iff_eq.mpr c26
                                                    clear c26
                                                    obtain rfl := Option.some.inj H
                                                    go_enter Try.func40, Try.ntmps40
                                                    go_wp2
                                                    go_ret
                                                    exact ⟨by first | rfl | (simp; done) | (simp [*]; done), by repeat (first | exact Drawn0.refl _ | apply Drawn0.step)⟩
                                                  · rw [if_neg c26] at H
                                                    have c26b0 : (a0 == 100) = false := beq_eq_false_iff_ne.mpr c26
                                                    have c26b1 : (a0 != 100) = true := bne_iff_ne.mpr c26
                                                    by_cases c27 : a0 = 104
                                                    · rw [if_pos c27] at H
                                                      have c27b0 : (a0 == 104) = true := beq_iff_eq.mpr c27
                                                      have c27b1 : (a0 != 104) = false := bne_eq_false_iff_eq.mpr c27
                                                      clear c27
                                                      obtain rfl := Option.some.inj H
                                                      go_enter Try.func40, Try.ntmps40
                                                      go_wp2
                                                      go_ret
                                                      exact ⟨by first | rfl | (simp; done) | (simp [*]; done), by repeat (first | exact Drawn0.refl _ | apply Drawn0.step)⟩
                                                    · rw [if_neg c27] at H
                                                      have c27b0 : (a0 == 104) = false := beq_eq_false_iff_ne.mpr c27
                                                      have c27b1 : (a0 != 104) = true := bne_iff_ne.mpr c27
                                                      by_cases c28 : a0 = 108
                                                      · rw [if_pos c28] at H
                                                        have c28b0 : (a0 == 108) = true := beq_iff_eq.mpr c28
                                                        have c28b1 : (a0 != 108) = false := bne_eq_false_iff_eq.mpr c28
                                                        clear c28
                                                        obtain rfl := Option.some.inj H
                                                        go_enter Try.func40, Try.ntmps40
                                                        go_wp2
                                                        go_ret
                                                        exact ⟨by first | rfl | (simp; done) | (simp [*]; done), by repeat (first | exact Drawn0.refl _ | apply Drawn0.step)⟩
                                                      · rw [if_neg c28] at H
                                                        have c28b0 : (a0 == 108) = false := beq_eq_false_iff_ne.mpr c28
                                                        have c28b1 : (a0 != 108) = true := bne_iff_ne.mpr c28
                                                        by_cases c29 : a0 = 112
                                                        · rw [if_pos c29] at H
                                                          have c29b0 : (a0 == 112) = true := beq_iff_eq.mpr c29
                                                          have c29b1 : (a0 != 112) = false := bne_eq_false_iff_eq.mpr c29
                                                          clear c29
                                                          obtain rfl := Option.some.inj H
                                                          go_enter Try.func40, Try.ntmps40
                                                          go_wp2
                                                          go_ret
                                                          exact ⟨by first | rfl | (simp; done) | (simp [*]; done), by repeat (first | exact Drawn0.refl _ | apply Drawn0.step)⟩
                                                        · rw [if_neg c29] at H
                                                          have c29b0 : (a0 == 112) = false := beq_eq_false_iff_ne.mpr c29
                                                          have c29b1 : (a0 != 112) = true := bne_iff_ne.mpr c29
                                                          by_cases c30 : a0 = 116
                                                          · rw [if_pos c30] at H
                                                            have c30b0 : (a0 == 116) = true := beq_iff_eq.mpr c30
                                                            have c30b1 : (a0 != 116) = false := bne_eq_false_iff_eq.mpr c30
                                                            clear c30
                                                            obtain rfl := Option.some.inj H
                                                            go_enter Try.func40, Try.ntmps40
                                                            go_wp2
                                                            go_ret
                                                            exact ⟨by first | rfl | (simp; done) | (simp [*]; done), by repeat (first | exact Drawn0.refl _ | apply Drawn0.step)⟩
                                                          · rw [if_neg c30] at H
                                                            have c30b0 : (a0 == 116) = false := beq_eq_false_iff_ne.mpr c30
                                                            have c30b1 : (a0 != 116) = true := bne_iff_ne.mpr c30
                                                            by_cases c31 : a0 = 120
                                                            · rw [if_pos c31] at H
                                                              have c31b0 : (a0 == 120) = true := beq_iff_eq.mpr c31
                                                              have c31b1 : (a0 != 120) = false := bne_eq_false_iff_eq.mpr c31
                                                              clear c31
                                                              obtain rfl := Option.some.inj H
                                                              go_enter Try.func40, Try.ntmps40
                                                              go_wp2
                                                              go_ret
                                                              exact ⟨by first | rfl | (simp; done) | (simp [*]; done), by repeat (first | exact Drawn0.refl _ | apply Drawn0.step)⟩
                                                            · rw [if_neg c31] at H
                                                              have c31b0 : (a0 == 120) = false := beq_eq_false_iff_ne.mpr c31
                                                              have c31b1 : (a0 != 120) = true := bne_iff_ne.mpr c31
                                                              by_cases c32 : a0 = 122
                                                              · rw [if_pos c32] at H
                                                                have c32b0 : (a0 == 122) = true := beq_iff_eq.mpr c32
                                                                have c32b1 : (a0 != 122) = false := bne_eq_false_iff_eq.mpr c32
                                                                clear c32
                                                                obtain rfl := Option.some.inj H
                                                                go_enter Try.func40, Try.ntmps40
                                                                go_wp2
                                                                go_ret
                                                                exact ⟨by first | rfl | (simp; done) | (simp [*]; done), by repeat (first | exact Drawn0.refl _ | apply Drawn0.step)⟩
                                                              · rw [if_neg c32] at H
                                                                have c32b0 : (a0 == 122) = false := beq_eq_false_iff_ne.mpr c32
                                                                have c32b1 : (a0 != 122) = true := bne_iff_ne.mpr c32
                                                                by_cases c33 : a0 = 124
                                                                · rw [if_pos c33] at H
                                                                  have c33b0 : (a0 == 124) = true := beq_iff_eq.mpr c33
                                                                  have c33b1 : (a0 != 124) = false := bne_eq_false_iff_eq.mpr c33
                                                                  clear c33
                                                                  obtain rfl := Option.some.inj H
                                                                  go_enter Try.func40, Try.ntmps40
                                                                  go_wp2
                                                                  go_ret
                                                                  exact ⟨by first | rfl | (simp; done) | (simp [*]; done), by repeat (first | exact Drawn0.refl _ | apply Drawn0.step)⟩
                                                                · rw [if_neg c33] at H
                                                                  have c33b0 : (a0 == 124) = false := beq_eq_false_iff_ne.mpr c33
                                                                  have c33b1 : (a0 != 124) = true := bne_iff_ne.mpr c33
                                                                  by_cases c34 : a0 = 126
                                                                  · rw [if_pos c34] at H
                                                                    have c34b0 : (a0 == 126) = true := beq_iff_eq.mpr c34
                                                                    have c34b1 : (a0 != 126) = false := bne_eq_false_iff_eq.mpr c34
                                                                    clear c34
                                                                    obtain rfl := Option.some.inj H
                                                                    go_enter Try.func40, Try.ntmps40
                                                                    go_wp2
                                                                    go_ret
                                                                    exact ⟨by first | rfl | (simp; done) | (simp [*]; done), by repeat (first | exact Drawn0.refl _ | apply Drawn0.step)⟩
                                                                  · rw [if_neg c34] at H
                                                                    have c34b0 : (a0 == 126) = false := beq_eq_false_iff_ne.mpr c34
                                                                    have c34b1 : (a0 != 126) = true := bne_iff_ne.mpr c34
                                                                    by_cases c35 : a0 = 128
                                                                    · rw [if_pos c35] at H
                                                                      have c35b0 : (a0 == 128) = true := beq_iff_eq.mpr c35
                                                                      have c35b1 : (a0 != 128) = false := bne_eq_false_iff_eq.mpr c35
                                                                      clear c35
                                                                      obtain rfl := Option.some.inj H
                                                                      go_enter Try.func40, Try.ntmps40
                                                                      go_wp2
                                                                      go_ret
                                                                      exact ⟨by first | rfl | (simp; done) | (simp [*]; done), by repeat (first | exact Drawn0.refl _ | apply Drawn0.step)⟩
                                                                    · rw [if_neg c35] at H
                                                                      have c35b0 : (a0 == 128) = false := beq_eq_false_iff_ne.mpr c35
                                                                      have c35b1 : (a0 != 128) = true := bne_iff_ne.mpr c35
                                                                      by_cases c36 : a0 = 130
                                                                      · rw [if_pos c36] at H
                                                                        have c36b0 : (a0 == 130) = true := beq_iff_eq.mpr c36
                                                                        have c36b1 : (a0 != 130) = false := bne_eq_false_iff_eq.mpr c36
                                                                        clear c36
                                                                        obtain rfl := Option.some.inj H
                                                                        go_enter Try.func40, Try.ntmps40
                                                                        go_wp2
                                                                        go_ret
                                                                        exact ⟨by first | rfl | (simp; done) | (simp [*]; done), by repeat (first | exact Drawn0.refl _ | apply Drawn0.step)⟩
                                                                      · rw [if_neg c36] at H
                                                                        have c36b0 : (a0 == 130) = false := beq_eq_false_iff_ne.mpr c36
                                                                        have c36b1 : (a0 != 130) = true := bne_iff_ne.mpr c36
                                                                        by_cases c37 : a0 = 132
                                                                        · rw [if_pos c37] at H
                                                                          have c37b0 : (a0 == 132) = true := beq_iff_eq.mpr c37
                                                                          have c37b1 : (a0 != 132) = false := bne_eq_false_iff_eq.mpr c37
                                                                          clear c37
                                                                          obtain rfl := Option.some.inj H
                                                                          go_enter Try.func40, Try.ntmps40
                                                                          go_wp2
                                                                          go_ret
                                                                          exact ⟨by first | rfl | (simp; done) | (simp [*]; done), by repeat (first | exact Drawn0.refl _ | apply Drawn0.step)⟩
                                                                        · rw [if_neg c37] at H
                                                                          have c37b0 : (a0 == 132) = false := beq_eq_false_iff_ne.mpr c37
                                                                          have c37b1 : (a0 != 132) = true := bne_iff_ne.mpr c37
                                                                          obtain rfl := Option.some.inj H
                                                                          go_enter Try.func40, Try.ntmps40
                                                                          go_wp2
                                                                          go_ret
                                                                          exact ⟨by first | rfl | (simp; done) | (simp [*]; done), by repeat (first | exact Drawn0.refl _ | apply Drawn0.step)⟩

end Go.Proofs.Ytcjhhlbhfkcboaa.PA
