-- Written for this claim by a program of our own (myprint).
import Derived.Test.YtcjhhlbhfkcboaaPA0
namespace Go.Proofs.Ytcjhhlbhfkcboaa.PA
open Go.RowKit Go.Proofs.YtcjhhlbhfkcboaaW.PrintWords Go.Proofs.YtcjhhlbhfkcboaaW.PrintLast Go.Proofs.YtcjhhlbhfkcboaaW.PrintMore
attribute [local go_sem] max2_int min2_int max_two min_two max_three min_three max_four min_four   -- for this text's walks alone
set_option linter.unusedVariables false
set_option linter.unusedSimpArgs false

/-! ### code_branches: function 41 -/
def code_branches.f (a0 : Int) : Option (ByteArray) := if a0 = 153 then (some (⟨#[105, 102, 101, 113]⟩ : ByteArray)) else (if a0 = 154 then (some (⟨#[105, 102, 110, 101]⟩ : ByteArray)) else (if a0 = 155 then (some (⟨#[105, 102, 108, 116]⟩ : ByteArray)) else (if a0 = 156 then (some (⟨#[105, 102, 103, 101]⟩ : ByteArray)) else (if a0 = 157 then (some (⟨#[105, 102, 103, 116]⟩ : ByteArray)) else (if a0 = 158 then (some (⟨#[105, 102, 108, 101]⟩ : ByteArray)) else (if a0 = 159 then (some (⟨#[99, 109, 112, 101, 113]⟩ : ByteArray)) else (if a0 = 160 then (some (⟨#[99, 109, 112, 110, 101]⟩ : ByteArray)) else (if a0 = 161 then (some (⟨#[99, 109, 112, 108, 116]⟩ : ByteArray)) else (if a0 = 162 then (some (⟨#[99, 109, 112, 103, 101]⟩ : ByteArray)) else (if a0 = 163 then (some (⟨#[99, 109, 112, 103, 116]⟩ : ByteArray)) else (if a0 = 164 then (some (⟨#[99, 109, 112, 108, 101]⟩ : ByteArray)) else (if a0 = 165 then (some (⟨#[114, 101, 102, 101, 113]⟩ : ByteArray)) else (if a0 = 166 then (some (⟨#[114, 101, 102, 110, 101]⟩ : ByteArray)) else (if a0 = 167 then (some (⟨#[103, 111, 116, 111]⟩ : ByteArray)) else (if a0 = 172 then (some (⟨#[105, 114, 101, 116, 117, 114, 110]⟩ : ByteArray)) else (if a0 = 176 then (some (⟨#[97, 114, 101, 116, 117, 114, 110]⟩ : ByteArray)) else (if a0 = 177 then (some (⟨#[114, 101, 116, 117, 114, 110]⟩ : ByteArray)) else (some (⟨#[]⟩ : ByteArray)))))))))))))))))))
set_option maxHeartbeats 8000000 in
set_option maxRecDepth 100000 in
theorem code_branches.calls (a0 : Int) (r : ByteArray) (w : World) (h : code_branches.f a0 = some r) :
    Calls Try.prog 41 #[.int .i64 a0] w fun e w' => e = .returned (.string r) ∧ Drawn0 w w' := by
  have H : (if a0 = 153 then (some (⟨#[105, 102, 101, 113]⟩ : ByteArray)) else (if a0 = 154 then (some (⟨#[105, 102, 110, 101]⟩ : ByteArray)) else (if a0 = 155 then (some (⟨#[105, 102, 108, 116]⟩ : ByteArray)) else (if a0 = 156 then (some (⟨#[105, 102, 103, 101]⟩ : ByteArray)) else (if a0 = 157 then (some (⟨#[105, 102, 103, 116]⟩ : ByteArray)) else (if a0 = 158 then (some (⟨#[105, 102, 108, 101]⟩ : ByteArray)) else (if a0 = 159 then (some (⟨#[99, 109, 112, 101, 113]⟩ : ByteArray)) else (if a0 = 160 then (some (⟨#[99, 109, 112, 110, 101]⟩ : ByteArray)) else (if a0 = 161 then (some (⟨#[99, 109, 112, 108, 116]⟩ : ByteArray)) else (if a0 = 162 then (some (⟨#[99, 109, 112, 103, 101]⟩ : ByteArray)) else (if a0 = 163 then (some (⟨#[99, 109, 112, 103, 116]⟩ : ByteArray)) else (if a0 = 164 then (some (⟨#[99, 109, 112, 108, 101]⟩ : ByteArray)) else (if a0 = 165 then (some (⟨#[114, 101, 102, 101, 113]⟩ : ByteArray)) else (if a0 = 166 then (some (⟨#[114, 101, 102, 110, 101]⟩ : ByteArray)) else (if a0 = 167 then (some (⟨#[103, 111, 116, 111]⟩ : ByteArray)) else (if a0 = 172 then (some (⟨#[105, 114, 101, 116, 117, 114, 110]⟩ : ByteArray)) else (if a0 = 176 then (some (⟨#[97, 114, 101, 116, 117, 114, 110]⟩ : ByteArray)) else (if a0 = 177 then (some (⟨#[114, 101, 116, 117, 114, 110]⟩ : ByteArray)) else (some (⟨#[]⟩ : ByteArray)))))))))))))))))))) = some r := h
  clear h
  by_cases c2 : a0 = 153
  · rw [if_pos c2] at H
    have c2b0 : (a0 == 153) = true := beq_iff_eq.mpr c2
    have c2b1 : (a0 != 153) = false := bne_eq_false_iff_eq.mpr c2
    clear c2
    obtain rfl := Option.some.inj H
    go_enter Try.func41, Try.ntmps41
    go_wp2
    go_ret
    exact ⟨by first | rfl | (simp; done) | (simp [*]; done), by repeat (first | exact Drawn0.refl _ | apply Drawn0.step)⟩
  · rw [if_neg c2] at H
    have c2b0 : (a0 == 153) = false := beq_eq_false_iff_ne.mpr c2
    have c2b1 : (a0 != 153) = true := bne_iff_ne.mpr c2
    by_cases c3 : a0 = 154
    · rw [if_pos c3] at H
      have c3b0 : (a0 == 154) = true := beq_iff_eq.mpr c3
      have c3b1 : (a0 != 154) = false := bne_eq_false_iff_eq.mpr c3
      clear c3
      obtain rfl := Option.some.inj H
      go_enter Try.func41, Try.ntmps41
      go_wp2
      go_ret
      exact ⟨by first | rfl | (simp; done) | (simp [*]; done), by repeat (first | exact Drawn0.refl _ | apply Drawn0.step)⟩
    · rw [if_neg c3] at H
      have c3b0 : (a0 == 154) = false := beq_eq_false_iff_ne.mpr c3
      have c3b1 : (a0 != 154) = true := bne_iff_ne.mpr c3
      by_cases c4 : a0 = 155
      · rw [if_pos c4] at H
        have c4b0 : (a0 == 155) = true := beq_iff_eq.mpr c4
        have c4b1 : (a0 != 155) = false := bne_eq_false_iff_eq.mpr c4
        clear c4
        obtain rfl := Option.some.inj H
        go_enter Try.func41, Try.ntmps41
        go_wp2
        go_ret
        exact ⟨by first | rfl | (simp; done) | (simp [*]; done), by repeat (first | exact Drawn0.refl _ | apply Drawn0.step)⟩
      · rw [if_neg c4] at H
        have c4b0 : (a0 == 155) = false := beq_eq_false_iff_ne.mpr c4
        have c4b1 : (a0 != 155) = true := bne_iff_ne.mpr c4
        by_cases c5 : a0 = 156
        · rw [if_pos c5] at H
          have c5b0 : (a0 == 156) = true := beq_iff_eq.mpr c5
          have c5b1 : (a0 != 156) = false := bne_eq_false_iff_eq.mpr c5
          clear c5
          obtain rfl := Option.some.inj H
          go_enter Try.func41, Try.ntmps41
          go_wp2
          go_ret
          exact ⟨by first | rfl | (simp; done) | (simp [*]; done), by repeat (first | exact Drawn0.refl _ | apply Drawn0.step)⟩
        · rw [if_neg c5] at H
          have c5b0 : (a0 == 156) = false := beq_eq_false_iff_ne.mpr c5
          have c5b1 : (a0 != 156) = true := bne_iff_ne.mpr c5
          by_cases c6 : a0 = 157
          · rw [if_pos c6] at H
            have c6b0 : (a0 == 157) = true := beq_iff_eq.mpr c6
            have c6b1 : (a0 != 157) = false := bne_eq_false_iff_eq.mpr c6
            clear c6
            obtain rfl := Option.some.inj H
            go_enter Try.func41, Try.ntmps41
            go_wp2
            go_ret
            exact ⟨by first | rfl | (simp; done) | (simp [*]; done), by repeat (first | exact Drawn0.refl _ | apply Drawn0.step)⟩
          · rw [if_neg c6] at H
            have c6b0 : (a0 == 157) = false := beq_eq_false_iff_ne.mpr c6
            have c6b1 : (a0 != 157) = true := bne_iff_ne.mpr c6
            by_cases c7 : a0 = 158
            · rw [if_pos c7] at H
              have c7b0 : (a0 == 158) = true := beq_iff_eq.mpr c7
              have c7b1 : (a0 != 158) = false := bne_eq_false_iff_eq.mpr c7
              clear c7
              obtain rfl := Option.some.inj H
              go_enter Try.func41, Try.ntmps41
              go_wp2
              go_ret
              exact ⟨by first | rfl | (simp; done) | (simp [*]; done), by repeat (first | exact Drawn0.refl _ | apply Drawn0.step)⟩
            · rw [if_neg c7] at H
              have c7b0 : (a0 == 158) = false := beq_eq_false_iff_ne.mpr c7
              have c7b1 : (a0 != 158) = true := bne_iff_ne.mpr c7
              by_cases c8 : a0 = 159
              · rw [if_pos c8] at H
                have c8b0 : (a0 == 159) = true := beq_iff_eq.mpr c8
                have c8b1 : (a0 != 159) = false := bne_eq_false_iff_eq.mpr c8
                clear c8
                obtain rfl := Option.some.inj H
                go_enter Try.func41, Try.ntmps41
                go_wp2
                go_ret
                exact ⟨by first | rfl | (simp; done) | (simp [*]; done), by repeat (first | exact Drawn0.refl _ | apply Drawn0.step)⟩
              · rw [if_neg c8] at H
                have c8b0 : (a0 == 159) = false := beq_eq_false_iff_ne.mpr c8
                have c8b1 : (a0 != 159) = true := bne_iff_ne.mpr c8
                by_cases c9 : a0 = 160
                · rw [if_pos c9] at H
                  have c9b0 : (a0 == 160) = true := beq_iff_eq.mpr c9
                  have c9b1 : (a0 != 160) = false := bne_eq_false_iff_eq.mpr c9
                  clear c9
                  obtain rfl := Option.some.inj H
                  go_enter Try.func41, Try.ntmps41
                  go_wp2
                  go_ret
                  exact ⟨by first | rfl | (simp; done) | (simp [*]; done), by repeat (first | exact Drawn0.refl _ | apply Drawn0.step)⟩
                · rw [if_neg c9] at H
                  have c9b0 : (a0 == 160) = false := beq_eq_false_iff_ne.mpr c9
                  have c9b1 : (a0 != 160) = true := bne_iff_ne.mpr c9
                  by_cases c10 : a0 = 161
                  · rw [if_pos c10] at H
                    have c10b0 : (a0 == 161) = true := beq_iff_eq.mpr c10
                    have c10b1 : (a0 != 161) = false := bne_eq_false_iff_eq.mpr c10
                    clear c10
                    obtain rfl := Option.some.inj H
                    go_enter Try.func41, Try.ntmps41
                    go_wp2
                    go_ret
                    exact ⟨by first | rfl | (simp; done) | (simp [*]; done), by repeat (first | exact Drawn0.refl _ | apply Drawn0.step)⟩
                  · rw [if_neg c10] at H
                    have c10b0 : (a0 == 161) = false := beq_eq_false_iff_ne.mpr c10
                    have c10b1 : (a0 != 161) = true := bne_iff_ne.mpr c10
                    by_cases c11 : a0 = 162
                    · rw [if_pos c11] at H
                      have c11b0 : (a0 == 162) = true := beq_iff_eq.mpr c11
                      have c11b1 : (a0 != 162) = false := bne_eq_false_iff_eq.mpr c11
                      clear c11
                      obtain rfl := Option.some.inj H
                      go_enter Try.func41, Try.ntmps41
                      go_wp2
                      go_ret
                      exact ⟨by first | rfl | (simp; done) | (simp [*]; done), by repeat (first | exact Drawn0.refl _ | apply Drawn0.step)⟩
                    · rw [if_neg c11] at H
                      have c11b0 : (a0 == 162) = false := beq_eq_false_iff_ne.mpr c11
                      have c11b1 : (a0 != 162) = true := bne_iff_ne.mpr c11
                      by_cases c12 : a0 = 163
                      · rw [if_pos c12] at H
                        have c12b0 : (a0 == 163) = true := beq_iff_eq.mpr c12
                        have c12b1 : (a0 != 163) = false := bne_eq_false_iff_eq.mpr c12
                        clear c12
                        obtain rfl := Option.some.inj H
                        go_enter Try.func41, Try.ntmps41
                        go_wp2
                        go_ret
                        exact ⟨by first | rfl | (simp; done) | (simp [*]; done), by repeat (first | exact Drawn0.refl _ | apply Drawn0.step)⟩
                      · rw [if_neg c12] at H
                        have c12b0 : (a0 == 163) = false := beq_eq_false_iff_ne.mpr c12
                        have c12b1 : (a0 != 163) = true := bne_iff_ne.mpr c12
                        by_cases c13 : a0 = 164
                        · rw [if_pos c13] at H
                          have c13b0 : (a0 == 164) = true := beq_iff_eq.mpr c13
                          have c13b1 : (a0 != 164) = false := bne_eq_false_iff_eq.mpr c13
                          clear c13
                          obtain rfl := Option.some.inj H
                          go_enter Try.func41, Try.ntmps41
                          go_wp2
                          go_ret
                          exact ⟨by first | rfl | (simp; done) | (simp [*]; done), by repeat (first | exact Drawn0.refl _ | apply Drawn0.step)⟩
                        · rw [if_neg c13] at H
                          have c13b0 : (a0 == 164) = false := beq_eq_false_iff_ne.mpr c13
                          have c13b1 : (a0 != 164) = true := bne_iff_ne.mpr c13
                          by_cases c14 : a0 = 165
                          · rw [if_pos c14] at H
                            have c14b0 : (a0 == 165) = true := beq_iff_eq.mpr c14
                            have c14b1 : (a0 != 165) = false := bne_eq_false_iff_eq.mpr c14
                            clear c14
                            obtain rfl := Option.some.inj H
                            go_enter Try.func41, Try.ntmps41
                            go_wp2
                            go_ret
                            exact ⟨by first | rfl | (simp; done) | (simp [*]; done), by repeat (first | exact Drawn0.refl _ | apply Drawn0.step)⟩
                          · rw [if_neg c14] at H
                            have c14b0 : (a0 == 165) = false := beq_eq_false_iff_ne.mpr c14
                            have c14b1 : (a0 != 165) = true := bne_iff_ne.mpr c14
                            by_cases c15 : a0 = 166
                            · rw [if_pos c15] at H
                              have c15b0 : (a0 == 166) = true := beq_iff_eq.mpr c15
                              have c15b1 : (a0 != 166) = false := bne_eq_false_iff_eq.mpr c15
                              clear c15
                              obtain rfl := Option.some.inj H
                              go_enter Try.func41, Try.ntmps41
                              go_wp2
                              go_ret
                              exact ⟨by first | rfl | (simp; done) | (simp [*]; done), by repeat (first | exact Drawn0.refl _ | apply Drawn0.step)⟩
                            · rw [if_neg c15] at H
                              have c15b0 : (a0 == 166) = false := beq_eq_false_iff_ne.mpr c15
                              have c15b1 : (a0 != 166) = true := bne_iff_ne.mpr c15
                              by_cases c16 : a0 = 167
                              · rw [if_pos c16] at H
                                have c16b0 : (a0 == 167) = true := beq_iff_eq.mpr c16
                                have c16b1 : (a0 != 167) = false := bne_eq_false_iff_eq.mpr c16
                                clear c16
                                obtain rfl := Option.some.inj H
                                go_enter Try.func41, Try.ntmps41
                                go_wp2
                                go_ret
                                exact ⟨by first | rfl | (simp; done) | (simp [*]; done), by repeat (first | exact Drawn0.refl _ | apply Drawn0.step)⟩
                              · rw [if_neg c16] at H
                                have c16b0 : (a0 == 167) = false := beq_eq_false_iff_ne.mpr c16
                                have c16b1 : (a0 != 167) = true := bne_iff_ne.mpr c16
                                by_cases c17 : a0 = 172
                                · rw [if_pos c17] at H
                                  have c17b0 : (a0 == 172) = true := beq_iff_eq.mpr c17
                                  have c17b1 : (a0 != 172) = false := bne_eq_false_iff_eq.mpr c17
                                  clear c17
                                  obtain rfl := Option.some.inj H
                                  go_enter Try.func41, Try.ntmps41
                                  go_wp2
                                  go_ret
                                  exact ⟨by first | rfl | (simp; done) | (simp [*]; done), by repeat (first | exact Drawn0.refl _ | apply Drawn0.step)⟩
                                · rw [if_neg c17] at H
                                  have c17b0 : (a0 == 172) = false := beq_eq_false_iff_ne.mpr c17
                                  have c17b1 : (a0 != 172) = true := bne_iff_ne.mpr c17
                                  by_cases c18 : a0 = 176
                                  · rw [if_pos c18] at H
                                    have c18b0 : (a0 == 176) = true := beq_iff_eq.mpr c18
                                    have c18b1 : (a0 != 176) = false := bne_eq_false_iff_eq.mpr c18
                                    clear c18
                                    obtain rfl := Option.some.inj H
                                    go_enter Try.func41, Try.ntmps41
                                    go_wp2
                                    go_ret
                                    exact ⟨by first | rfl | (simp; done) | (simp [*]; done), by repeat (first | exact Drawn0.refl _ | apply Drawn0.step)⟩
                                  · rw [if_neg c18] at H
                                    have c18b0 : (a0 == 176) = false := beq_eq_false_iff_ne.mpr c18
                                    have c18b1 : (a0 != 176) = true := bne_iff_ne.mpr c18
                                    by_cases c19 : a0 = 177
                                    · rw [if_pos c19] at H
                                      have c19b0 : (a0 == 177) = true := beq_iff_eq.mpr c19
                                      have c19b1 : (a0 != 177) = false := bne_eq_false_iff_eq.mpr c19
                                      clear c19
                                      obtain rfl := Option.some.inj H
                                      go_enter Try.func41, Try.ntmps41
                                      go_wp2
                                      go_ret
                                      exact ⟨by first | rfl | (simp; done) | (simp [*]; done), by repeat (first | exact Drawn0.refl _ | apply Drawn0.step)⟩
                                    · rw [if_neg c19] at H
                                      have c19b0 : (a0 == 177) = false := beq_eq_false_iff_ne.mpr c19
                                      have c19b1 : (a0 != 177) = true := bne_iff_ne.mpr c19
                                      obtain rfl := Option.some.inj H
                                      go_enter Try.func41, Try.ntmps41
                                      go_wp2
                                      go_ret
                                      exact ⟨by first | rfl | (simp; done) | (simp [*]; done), by repeat (first | exact Drawn0.refl _ | apply Drawn0.step)⟩

end Go.Proofs.Ytcjhhlbhfkcboaa.PA
