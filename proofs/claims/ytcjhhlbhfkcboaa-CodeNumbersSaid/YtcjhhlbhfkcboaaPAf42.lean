-- Written for this claim by a program of our own (myprint).
import Derived.Test.YtcjhhlbhfkcboaaPA0
namespace Go.Proofs.Ytcjhhlbhfkcboaa.PA
open Go.RowKit Go.Proofs.YtcjhhlbhfkcboaaW.PrintWords Go.Proofs.YtcjhhlbhfkcboaaW.PrintLast Go.Proofs.YtcjhhlbhfkcboaaW.PrintMore
attribute [local go_sem] max2_int min2_int max_two min_two max_three min_three max_four min_four   -- for this text's walks alone
set_option linter.unusedVariables false
set_option linter.unusedSimpArgs false

/-! ### code_objects: function 42 -/
def code_objects.f (a0 : Int) : Option (ByteArray) := if a0 = 178 then (some (⟨#[103, 101, 116, 115, 116, 97, 116, 105, 99]⟩ : ByteArray)) else (if a0 = 179 then (some (⟨#[112, 117, 116, 115, 116, 97, 116, 105, 99]⟩ : ByteArray)) else (if a0 = 180 then (some (⟨#[103, 101, 116, 102, 105, 101, 108, 100]⟩ : ByteArray)) else (if a0 = 181 then (some (⟨#[112, 117, 116, 102, 105, 101, 108, 100]⟩ : ByteArray)) else (if a0 = 182 then (some (⟨#[118, 105, 114, 116, 117, 97, 108]⟩ : ByteArray)) else (if a0 = 184 then (some (⟨#[115, 116, 97, 116, 105, 99]⟩ : ByteArray)) else (if a0 = 187 then (some (⟨#[110, 101, 119]⟩ : ByteArray)) else (if a0 = 188 then (some (⟨#[110, 101, 119, 105, 110, 116, 115]⟩ : ByteArray)) else (if a0 = 189 then (some (⟨#[110, 101, 119, 114, 101, 102, 115]⟩ : ByteArray)) else (if a0 = 190 then (some (⟨#[108, 101, 110, 103, 116, 104]⟩ : ByteArray)) else (if a0 = 191 then (some (⟨#[116, 104, 114, 111, 119]⟩ : ByteArray)) else (if a0 = 192 then (some (⟨#[99, 97, 115, 116]⟩ : ByteArray)) else (if a0 = 193 then (some (⟨#[105, 115, 97]⟩ : ByteArray)) else (if a0 = 194 then (some (⟨#[101, 110, 116, 101, 114]⟩ : ByteArray)) else (if a0 = 195 then (some (⟨#[101, 120, 105, 116]⟩ : ByteArray)) else (if a0 = 198 then (some (⟨#[105, 102, 110, 117, 108, 108]⟩ : ByteArray)) else (if a0 = 199 then (some (⟨#[105, 102, 115, 111, 109, 101]⟩ : ByteArray)) else (some (⟨#[]⟩ : ByteArray))))))))))))))))))
set_option maxHeartbeats 8000000 in
set_option maxRecDepth 100000 in
theorem code_objects.calls (a0 : Int) (r : ByteArray) (w : World) (h : code_objects.f a0 = some r) :
    Calls Try.prog 42 #[.int .i64 a0] w fun e w' => e = .returned (.string r) ∧ Drawn0 w w' := by
  have H : (if a0 = 178 then (some (⟨#[103, 101, 116, 115, 116, 97, 116, 105, 99]⟩ : ByteArray)) else (if a0 = 179 then (some (⟨#[112, 117, 116, 115, 116, 97, 116, 105, 99]⟩ : ByteArray)) else (if a0 = 180 then (some (⟨#[103, 101, 116, 102, 105, 101, 108, 100]⟩ : ByteArray)) else (if a0 = 181 then (some (⟨#[112, 117, 116, 102, 105, 101, 108, 100]⟩ : ByteArray)) else (if a0 = 182 then (some (⟨#[118, 105, 114, 116, 117, 97, 108]⟩ : ByteArray)) else (if a0 = 184 then (some (⟨#[115, 116, 97, 116, 105, 99]⟩ : ByteArray)) else (if a0 = 187 then (some (⟨#[110, 101, 119]⟩ : ByteArray)) else (if a0 = 188 then (some (⟨#[110, 101, 119, 105, 110, 116, 115]⟩ : ByteArray)) else (if a0 = 189 then (some (⟨#[110, 101, 119, 114, 101, 102, 115]⟩ : ByteArray)) else (if a0 = 190 then (some (⟨#[108, 101, 110, 103, 116, 104]⟩ : ByteArray)) else (if a0 = 191 then (some (⟨#[116, 104, 114, 111, 119]⟩ : ByteArray)) else (if a0 = 192 then (some (⟨#[99, 97, 115, 116]⟩ : ByteArray)) else (if a0 = 193 then (some (⟨#[105, 115, 97]⟩ : ByteArray)) else (if a0 = 194 then (some (⟨#[101, 110, 116, 101, 114]⟩ : ByteArray)) else (if a0 = 195 then (some (⟨#[101, 120, 105, 116]⟩ : ByteArray)) else (if a0 = 198 then (some (⟨#[105, 102, 110, 117, 108, 108]⟩ : ByteArray)) else (if a0 = 199 then (some (⟨#[105, 102, 115, 111, 109, 101]⟩ : ByteArray)) else (some (⟨#[]⟩ : ByteArray))))))))))))))))))) = some r := h
  clear h
  by_cases c2 : a0 = 178
  · rw [if_pos c2] at H
    have c2b0 : (a0 == 178) = true := beq_iff_eq.mpr c2
    have c2b1 : (a0 != 178) = false := bne_eq_false_iff_eq.mpr c2
    clear c2
    obtain rfl := Option.some.inj H
    go_enter Try.func42, Try.ntmps42
    go_wp2
    go_ret
    exact ⟨by first | rfl | (simp; done) | (simp [*]; done), by repeat (first | exact Drawn0.refl _ | apply Drawn0.step)⟩
  · rw [if_neg c2] at H
    have c2b0 : (a0 == 178) = false := beq_eq_false_iff_ne.mpr c2
    have c2b1 : (a0 != 178) = true := bne_iff_ne.mpr c2
    by_cases c3 : a0 = 179
    · rw [if_pos c3] at H
      have c3b0 : (a0 == 179) = true := beq_iff_eq.mpr c3
      have c3b1 : (a0 != 179) = false := bne_eq_false_iff_eq.mpr c3
      clear c3
      obtain rfl := Option.some.inj H
      go_enter Try.func42, Try.ntmps42
      go_wp2
      go_ret
      exact ⟨by first | rfl | (simp; done) | (simp [*]; done), by repeat (first | exact Drawn0.refl _ | apply Drawn0.step)⟩
    · rw [if_neg c3] at H
      have c3b0 : (a0 == 179) = false := beq_eq_false_iff_ne.mpr c3
      have c3b1 : (a0 != 179) = true := bne_iff_ne.mpr c3
      by_cases c4 : a0 = 180
      · rw [if_pos c4] at H
        have c4b0 : (a0 == 180) = true := beq_iff_eq.mpr c4
        have c4b1 : (a0 != 180) = false := bne_eq_false_iff_eq.mpr c4
        clear c4
        obtain rfl := Option.some.inj H
        go_enter Try.func42, Try.ntmps42
        go_wp2
        go_ret
        exact ⟨by first | rfl | (simp; done) | (simp [*]; done), by repeat (first | exact Drawn0.refl _ | apply Drawn0.step)⟩
      · rw [if_neg c4] at H
        have c4b0 : (a0 == 180) = false := beq_eq_false_iff_ne.mpr c4
        have c4b1 : (a0 != 180) = true := bne_iff_ne.mpr c4
        by_cases c5 : a0 = 181
        · rw [if_pos c5] at H
          have c5b0 : (a0 == 181) = true := beq_iff_eq.mpr c5
          have c5b1 : (a0 != 181) = false := bne_eq_false_iff_eq.mpr c5
          clear c5
          obtain rfl := Option.some.inj H
          go_enter Try.func42, Try.ntmps42
          go_wp2
          go_ret
          exact ⟨by first | rfl | (simp; done) | (simp [*]; done), by repeat (first | exact Drawn0.refl _ | apply Drawn0.step)⟩
        · rw [if_neg c5] at H
          have c5b0 : (a0 == 181) = false := beq_eq_false_iff_ne.mpr c5
          have c5b1 : (a0 != 181) = true := bne_iff_ne.mpr c5
          by_cases c6 : a0 = 182
          · rw [if_pos c6] at H
            have c6b0 : (a0 == 182) = true := beq_iff_eq.mpr c6
            have c6b1 : (a0 != 182) = false := bne_eq_false_iff_eq.mpr c6
            clear c6
            obtain rfl := Option.some.inj H
            go_enter Try.func42, Try.ntmps42
            go_wp2
            go_ret
            exact ⟨by first | rfl | (simp; done) | (simp [*]; done), by repeat (first | exact Drawn0.refl _ | apply Drawn0.step)⟩
          · rw [if_neg c6] at H
            have c6b0 : (a0 == 182) = false := beq_eq_false_iff_ne.mpr c6
            have c6b1 : (a0 != 182) = true := bne_iff_ne.mpr c6
            by_cases c7 : a0 = 184
            · rw [if_pos c7] at H
              have c7b0 : (a0 == 184) = true := beq_iff_eq.mpr c7
              have c7b1 : (a0 != 184) = false := bne_eq_false_iff_eq.mpr c7
              clear c7
              obtain rfl := Option.some.inj H
              go_enter Try.func42, Try.ntmps42
              go_wp2
              go_ret
              exact ⟨by first | rfl | (simp; done) | (simp [*]; done), by repeat (first | exact Drawn0.refl _ | apply Drawn0.step)⟩
            · rw [if_neg c7] at H
              have c7b0 : (a0 == 184) = false := beq_eq_false_iff_ne.mpr c7
              have c7b1 : (a0 != 184) = true := bne_iff_ne.mpr c7
              by_cases c8 : a0 = 187
              · rw [if_pos c8] at H
                have c8b0 : (a0 == 187) = true := beq_iff_eq.mpr c8
                have c8b1 : (a0 != 187) = false := bne_eq_false_iff_eq.mpr c8
                clear c8
                obtain rfl := Option.some.inj H
                go_enter Try.func42, Try.ntmps42
                go_wp2
                go_ret
                exact ⟨by first | rfl | (simp; done) | (simp [*]; done), by repeat (first | exact Drawn0.refl _ | apply Drawn0.step)⟩
              · rw [if_neg c8] at H
                have c8b0 : (a0 == 187) = false := beq_eq_false_iff_ne.mpr c8
                have c8b1 : (a0 != 187) = true := bne_iff_ne.mpr c8
                by_cases c9 : a0 = 188
                · rw [if_pos c9] at H
                  have c9b0 : (a0 == 188) = true := beq_iff_eq.mpr c9
                  have c9b1 : (a0 != 188) = false := bne_eq_false_iff_eq.mpr c9
                  clear c9
                  obtain rfl := Option.some.inj H
                  go_enter Try.func42, Try.ntmps42
                  go_wp2
                  go_ret
                  exact ⟨by first | rfl | (simp; done) | (simp [*]; done), by repeat (first | exact Drawn0.refl _ | apply Drawn0.step)⟩
                · rw [if_neg c9] at H
                  have c9b0 : (a0 == 188) = false := beq_eq_false_iff_ne.mpr c9
                  have c9b1 : (a0 != 188) = true := bne_iff_ne.mpr c9
                  by_cases c10 : a0 = 189
                  · rw [if_pos c10] at H
                    have c10b0 : (a0 == 189) = true := beq_iff_eq.mpr c10
                    have c10b1 : (a0 != 189) = false := bne_eq_false_iff_eq.mpr c10
                    clear c10
                    obtain rfl := Option.some.inj H
                    go_enter Try.func42, Try.ntmps42
                    go_wp2
                    go_ret
                    exact ⟨by first | rfl | (simp; done) | (simp [*]; done), by repeat (first | exact Drawn0.refl _ | apply Drawn0.step)⟩
                  · rw [if_neg c10] at H
                    have c10b0 : (a0 == 189) = false := beq_eq_false_iff_ne.mpr c10
                    have c10b1 : (a0 != 189) = true := bne_iff_ne.mpr c10
                    by_cases c11 : a0 = 190
                    · rw [if_pos c11] at H
                      have c11b0 : (a0 == 190) = true := beq_iff_eq.mpr c11
                      have c11b1 : (a0 != 190) = false := bne_eq_false_iff_eq.mpr c11
                      clear c11
                      obtain rfl := Option.some.inj H
                      go_enter Try.func42, Try.ntmps42
                      go_wp2
                      go_ret
                      exact ⟨by first | rfl | (simp; done) | (simp [*]; done), by repeat (first | exact Drawn0.refl _ | apply Drawn0.step)⟩
                    · rw [if_neg c11] at H
                      have c11b0 : (a0 == 190) = false := beq_eq_false_iff_ne.mpr c11
                      have c11b1 : (a0 != 190) = true := bne_iff_ne.mpr c11
                      by_cases c12 : a0 = 191
                      · rw [if_pos c12] at H
                        have c12b0 : (a0 == 191) = true := beq_iff_eq.mpr c12
                        have c12b1 : (a0 != 191) = false := bne_eq_false_iff_eq.mpr c12
                        clear c12
                        obtain rfl := Option.some.inj H
                        go_enter Try.func42, Try.ntmps42
                        go_wp2
                        go_ret
                        exact ⟨by first | rfl | (simp; done) | (simp [*]; done), by repeat (first | exact Drawn0.refl _ | apply Drawn0.step)⟩
                      · rw [if_neg c12] at H
                        have c12b0 : (a0 == 191) = false := beq_eq_false_iff_ne.mpr c12
                        have c12b1 : (a0 != 191) = true := bne_iff_ne.mpr c12
                        by_cases c13 : a0 = 192
                        · rw [if_pos c13] at H
                          have c13b0 : (a0 == 192) = true := beq_iff_eq.mpr c13
                          have c13b1 : (a0 != 192) = false := bne_eq_false_iff_eq.mpr c13
                          clear c13
                          obtain rfl := Option.some.inj H
                          go_enter Try.func42, Try.ntmps42
                          go_wp2
                          go_ret
                          exact ⟨by first | rfl | (simp; done) | (simp [*]; done), by repeat (first | exact Drawn0.refl _ | apply Drawn0.step)⟩
                        · rw [if_neg c13] at H
                          have c13b0 : (a0 == 192) = false := beq_eq_false_iff_ne.mpr c13
                          have c13b1 : (a0 != 192) = true := bne_iff_ne.mpr c13
                          by_cases c14 : a0 = 193
                          · rw [if_pos c14] at H
                            have c14b0 : (a0 == 193) = true := beq_iff_eq.mpr c14
                            have c14b1 : (a0 != 193) = false := bne_eq_false_iff_eq.mpr c14
                            clear c14
                            obtain rfl := Option.some.inj H
                            go_enter Try.func42, Try.ntmps42
                            go_wp2
                            go_ret
                            exact ⟨by first | rfl | (simp; done) | (simp [*]; done), by repeat (first | exact Drawn0.refl _ | apply Drawn0.step)⟩
                          · rw [if_neg c14] at H
                            have c14b0 : (a0 == 193) = false := beq_eq_false_iff_ne.mpr c14
                            have c14b1 : (a0 != 193) = true := bne_iff_ne.mpr c14
                            by_cases c15 : a0 = 194
                            · rw [if_pos c15] at H
                              have c15b0 : (a0 == 194) = true := beq_iff_eq.mpr c15
                              have c15b1 : (a0 != 194) = false := bne_eq_false_iff_eq.mpr c15
                              clear c15
                              obtain rfl := Option.some.inj H
                              go_enter Try.func42, Try.ntmps42
                              go_wp2
                              go_ret
                              exact ⟨by first | rfl | (simp; done) | (simp [*]; done), by repeat (first | exact Drawn0.refl _ | apply Drawn0.step)⟩
                            · rw [if_neg c15] at H
                              have c15b0 : (a0 == 194) = false := beq_eq_false_iff_ne.mpr c15
                              have c15b1 : (a0 != 194) = true := bne_iff_ne.mpr c15
                              by_cases c16 : a0 = 195
                              · rw [if_pos c16] at H
                                have c16b0 : (a0 == 195) = true := beq_iff_eq.mpr c16
                                have c16b1 : (a0 != 195) = false := bne_eq_false_iff_eq.mpr c16
                                clear c16
                                obtain rfl := Option.some.inj H
                                go_enter Try.func42, Try.ntmps42
                                go_wp2
                                go_ret
                                exact ⟨by first | rfl | (simp; done) | (simp [*]; done), by repeat (first | exact Drawn0.refl _ | apply Drawn0.step)⟩
                              · rw [if_neg c16] at H
                                have c16b0 : (a0 == 195) = false := beq_eq_false_iff_ne.mpr c16
                                have c16b1 : (a0 != 195) = true := bne_iff_ne.mpr c16
                                by_cases c17 : a0 = 198
                                · rw [if_pos c17] at H
                                  have c17b0 : (a0 == 198) = true := beq_iff_eq.mpr c17
                                  have c17b1 : (a0 != 198) = false := bne_eq_false_iff_eq.mpr c17
                                  clear c17
                                  obtain rfl := Option.some.inj H
                                  go_enter Try.func42, Try.ntmps42
                                  go_wp2
                                  go_ret
                                  exact ⟨by first | rfl | (simp; done) | (simp [*]; done), by repeat (first | exact Drawn0.refl _ | apply Drawn0.step)⟩
                                · rw [if_neg c17] at H
                                  have c17b0 : (a0 == 198) = false := beq_eq_false_iff_ne.mpr c17
                                  have c17b1 : (a0 != 198) = true := bne_iff_ne.mpr c17
                                  by_cases c18 : a0 = 199
                                  · rw [if_pos c18] at H
                                    have c18b0 : (a0 == 199) = true := beq_iff_eq.mpr c18
                                    have c18b1 : (a0 != 199) = false := bne_eq_false_iff_eq.mpr c18
                                    clear c18
                                    obtain rfl := Option.some.inj H
                                    go_enter Try.func42, Try.ntmps42
                                    go_wp2
                                    go_ret
                                    exact ⟨by first | rfl | (simp; done) | (simp [*]; done), by repeat (first | exact Drawn0.refl _ | apply Drawn0.step)⟩
                                  · rw [if_neg c18] at H
                                    have c18b0 : (a0 == 199) = false := beq_eq_false_iff_ne.mpr c18
                                    have c18b1 : (a0 != 199) = true := bne_iff_ne.mpr c18
                                    obtain rfl := Option.some.inj H
                                    go_enter Try.func42, Try.ntmps42
                                    go_wp2
                                    go_ret
                                    exact ⟨by first | rfl | (simp; done) | (simp [*]; done), by repeat (first | exact Drawn0.refl _ | apply Drawn0.step)⟩

end Go.Proofs.Ytcjhhlbhfkcboaa.PA
