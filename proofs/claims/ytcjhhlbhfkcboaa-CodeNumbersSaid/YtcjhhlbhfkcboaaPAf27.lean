-- Written for this claim by a program of our own (myprint).
import Derived.Test.YtcjhhlbhfkcboaaPA0
import Derived.Test.YtcjhhlbhfkcboaaPAf29
import Derived.Test.YtcjhhlbhfkcboaaPAf30
namespace Go.Proofs.Ytcjhhlbhfkcboaa.PA
open Go.RowKit Go.Proofs.YtcjhhlbhfkcboaaW.PrintWords Go.Proofs.YtcjhhlbhfkcboaaW.PrintLast Go.Proofs.YtcjhhlbhfkcboaaW.PrintMore
attribute [local go_sem] max2_int min2_int max_two min_two max_three min_three max_four min_four   -- for this text's walks alone
set_option linter.unusedVariables false
set_option linter.unusedSimpArgs false

/-! ### caraferef5_Size: function 27 -/
def caraferef5_Size.j0 : Nat → Int → Int → Bool → Option (Int)
  | 0, _, _, _ => none
  | k + 1, x0, x3, x4 => if x4 = true then (some 2) else (if x3 = 17 then (some 3) else (if x3 = 132 then (some 3) else (if x3 = 178 then (some 3) else (if x3 = 179 then (some 3) else (if x3 = 180 then (some 3) else (if x3 = 181 then (some 3) else (if x3 = 182 then (some 3) else (if x3 = 184 then (some 3) else (if x3 = 187 then (some 3) else (if x3 = 189 then (some 3) else (if x3 = 192 then (some 3) else (if x3 = 193 then (some 3) else ((caraferef5_Branch.f x0).bind fun t101 => (if t101 = true then (some 3) else ((caraferef5_Name.f x0).bind fun t102 => (if t102.toList = ([] : List UInt8) then (some 0) else (some 1)))))))))))))))))
def caraferef5_Size.f (k : Nat) (a0 : Int) : Option (Int) := if a0 = 16 then (caraferef5_Size.j0 k a0 a0 (a0 == 16)) else (if a0 = 18 then (caraferef5_Size.j0 k a0 a0 (a0 == 18)) else (if a0 = 21 then (caraferef5_Size.j0 k a0 a0 (a0 == 21)) else (if a0 = 25 then (caraferef5_Size.j0 k a0 a0 (a0 == 25)) else (if a0 = 54 then (caraferef5_Size.j0 k a0 a0 (a0 == 54)) else (if a0 = 58 then (caraferef5_Size.j0 k a0 a0 (a0 == 58)) else (caraferef5_Size.j0 k a0 a0 (a0 == 188)))))))
theorem caraferef5_Size.mono_l : ∀ k, (∀ y0 y1 y2, LeO (caraferef5_Size.j0 k y0 y1 y2) (caraferef5_Size.j0 (k + 1) y0 y1 y2))
  | 0 => fun _ _ _ r h => by simp [caraferef5_Size.j0] at h
  | k + 1 => by
    have ih0 := caraferef5_Size.mono_l k
    · intro y0 y1 y2
      unfold caraferef5_Size.j0
      repeat' first
      | (with_reducible exact ih0 _ _ _)
      | (with_reducible exact LeO.refl _)
      | (with_reducible exact LeO.none _)
      | (with_reducible refine LeO.ite ?_ ?_)
      | (with_reducible refine LeO.bind ?_ (fun _ => ?_))
      | exact ih0 _ _ _
      | exact LeO.none _
      | refine LeO.ite ?_ ?_
      | refine LeO.bind ?_ (fun _ => ?_)
theorem caraferef5_Size.mono : ∀ a0 k, LeO (caraferef5_Size.f k a0) (caraferef5_Size.f (k + 1) a0) := by
  intro a0 k
  have ih0 := caraferef5_Size.mono_l k
  unfold caraferef5_Size.f
  repeat' first
      | (with_reducible exact ih0 _ _ _)
      | (with_reducible exact LeO.refl _)
      | (with_reducible exact LeO.none _)
      | (with_reducible refine LeO.ite ?_ ?_)
      | (with_reducible refine LeO.bind ?_ (fun _ => ?_))
      | exact ih0 _ _ _
      | exact LeO.none _
      | refine LeO.ite ?_ ?_
      | refine LeO.bind ?_ (fun _ => ?_)
set_option maxHeartbeats 8000000 in
set_option maxRecDepth 100000 in
theorem caraferef5_Size.calls (k : Nat) (a0 : Int) (r : Int) (w : World) (h : caraferef5_Size.f k a0 = some r) :
    Calls Try.prog 27 #[.int .i64 a0] w fun e w' => e = .returned (.int .i64 r) ∧ Below w.heap.size w w' := by
  have HB := Aside0.mk (Below.refl w.heap.size w)
  have H : (if a0 = 16 then (caraferef5_Size.j0 k a0 a0 (a0 == 16)) else (if a0 = 18 then (caraferef5_Size.j0 k a0 a0 (a0 == 18)) else (if a0 = 21 then (caraferef5_Size.j0 k a0 a0 (a0 == 21)) else (if a0 = 25 then (caraferef5_Size.j0 k a0 a0 (a0 == 25)) else (if a0 = 54 then (caraferef5_Size.j0 k a0 a0 (a0 == 54)) else (if a0 = 58 then (caraferef5_Size.j0 k a0 a0 (a0 == 58)) else (caraferef5_Size.j0 k a0 a0 (a0 == 188)))))))) = some r := h
  clear h
  have HC2 := Aside0.mk H
  clear H
  go_enter Try.func27, Try.ntmps27
  go_upto_if 4 with (fail)
  go_cut [4] (fun v4 wc => ∃ (kq : Nat) (x4_1 : Bool), v4 = .bool x4_1 ∧ Aside0 (caraferef5_Size.j0 kq a0 a0 x4_1 = some r) ∧ Aside0 (kq ≤ k) ∧ Aside0 (Below w.heap.size w wc))
  case first =>
    have H := HC2.out
    clear HC2
    by_cases c3 : a0 = 16
    · rw [if_pos c3] at H
      have c3b0 : (a0 == 16) = true := beq_iff_eq.mpr c3
      have c3b1 : (a0 != 16) = false := bne_eq_false_iff_eq.mpr c3
      clear c3
      (first | rw [c3b0] | (simp only [i64_w, i32_w]; rw [c3b0]) | skip)
      have H' := Aside0.mk H
      clear H
      go_wp2
      go_meet
      case rel => exact ⟨_, ((a0 == 16)), (by first | rfl | (simp; done) | (simp [*]; done)), H', ⟨by first | omega | exact Nat.le_refl _⟩, ⟨by repeat (first | (with_reducible first | exact HB.out | apply below_alloc | apply pw_below_drewN | apply below_drew1) | exact HB.out)⟩⟩
    · rw [if_neg c3] at H
      have c3b0 : (a0 == 16) = false := beq_eq_false_iff_ne.mpr c3
      have c3b1 : (a0 != 16) = true := bne_iff_ne.mpr c3
      (first | rw [c3b0] | (simp only [i64_w, i32_w]; rw [c3b0]) | skip)
      by_cases c4 : a0 = 18
      · rw [if_pos c4] at H
        have c4b0 : (a0 == 18) = true := beq_iff_eq.mpr c4
        have c4b1 : (a0 != 18) = false := bne_eq_false_iff_eq.mpr c4
        clear c4
        have H' := Aside0.mk H
        clear H
        go_wp2
        go_meet
        case rel => exact ⟨_, ((a0 == 18)), (by first | rfl | (simp; done) | (simp [*]; done)), H', ⟨by first | omega | exact Nat.le_refl _⟩, ⟨by repeat (first | (with_reducible first | exact HB.out | apply below_alloc | apply pw_below_drewN | apply below_drew1) | exact HB.out)⟩⟩
      · rw [if_neg c4] at H
        have c4b0 : (a0 == 18) = false := beq_eq_false_iff_ne.mpr c4
        have c4b1 : (a0 != 18) = true := bne_iff_ne.mpr c4
        by_cases c5 : a0 = 21
        · rw [if_pos c5] at H
          have c5b0 : (a0 == 21) = true := beq_iff_eq.mpr c5
          have c5b1 : (a0 != 21) = false := bne_eq_false_iff_eq.mpr c5
          clear c5
          have H' := Aside0.mk H
          clear H
          go_wp2
          go_meet
          case rel => exact ⟨_, ((a0 == 21)), (by first | rfl | (simp; done) | (simp [*]; done)), H', ⟨by first | omega | exact Nat.le_refl _⟩, ⟨by repeat (first | (with_reducible first | exact HB.out | apply below_alloc | apply pw_below_drewN | apply below_drew1) | exact HB.out)⟩⟩
        · rw [if_neg c5] at H
          have c5b0 : (a0 == 21) = false := beq_eq_false_iff_ne.mpr c5
          have c5b1 : (a0 != 21) = true := bne_iff_ne.mpr c5
          by_cases c6 : a0 = 25
          · rw [if_pos c6] at H
            have c6b0 : (a0 == 25) = true := beq_iff_eq.mpr c6
            have c6b1 : (a0 != 25) = false := bne_eq_false_iff_eq.mpr c6
            clear c6
            have H' := Aside0.mk H
            clear H
            go_wp2
            go_meet
            case rel => exact ⟨_, ((a0 == 25)), (by first | rfl | (simp; done) | (simp [*]; done)), H', ⟨by first | omega | exact Nat.le_refl _⟩, ⟨by repeat (first | (with_reducible first | exact HB.out | apply below_alloc | apply pw_below_drewN | apply below_drew1) | exact HB.out)⟩⟩
          · rw [if_neg c6] at H
            have c6b0 : (a0 == 25) = false := beq_eq_false_iff_ne.mpr c6
            have c6b1 : (a0 != 25) = true := bne_iff_ne.mpr c6
            by_cases c7 : a0 = 54
            · rw [if_pos c7] at H
              have c7b0 : (a0 == 54) = true := beq_iff_eq.mpr c7
              have c7b1 : (a0 != 54) = false := bne_eq_false_iff_eq.mpr c7
              clear c7
              have H' := Aside0.mk H
              clear H
              go_wp2
              go_meet
              case rel => exact ⟨_, ((a0 == 54)), (by first | rfl | (simp; done) | (simp [*]; done)), H', ⟨by first | omega | exact Nat.le_refl _⟩, ⟨by repeat (first | (with_reducible first | exact HB.out | apply below_alloc | apply pw_below_drewN | apply below_drew1) | exact HB.out)⟩⟩
            · rw [if_neg c7] at H
              have c7b0 : (a0 == 54) = false := beq_eq_false_iff_ne.mpr c7
              have c7b1 : (a0 != 54) = true := bne_iff_ne.mpr c7
              by_cases c8 : a0 = 58
              · rw [if_pos c8] at H
                have c8b0 : (a0 == 58) = true := beq_iff_eq.mpr c8
                have c8b1 : (a0 != 58) = false := bne_eq_false_iff_eq.mpr c8
                clear c8
                have H' := Aside0.mk H
                clear H
                go_wp2
                go_meet
                case rel => exact ⟨_, ((a0 == 58)), (by first | rfl | (simp; done) | (simp [*]; done)), H', ⟨by first | omega | exact Nat.le_refl _⟩, ⟨by repeat (first | (with_reducible first | exact HB.out | apply below_alloc | apply pw_below_drewN | apply below_drew1) | exact HB.out)⟩⟩
              · rw [if_neg c8] at H
                have c8b0 : (a0 == 58) = false := beq_eq_false_iff_ne.mpr c8
                have c8b1 : (a0 != 58) = true := bne_iff_ne.mpr c8
                have H' := Aside0.mk H
                clear H
                go_wp2
                go_meet
                case rel => exact ⟨_, ((a0 == 188)), (by first | rfl | (simp; done) | (simp [*]; done)), H', ⟨by first | omega | exact Nat.le_refl _⟩, ⟨by repeat (first | (with_reducible first | exact HB.out | apply below_alloc | apply pw_below_drewN | apply below_drew1) | exact HB.out)⟩⟩
  case rest =>
    clear HC2
    try clear c2
    try clear p2
    try clear c3
    try clear c3b0
    try clear c3b1
    try clear c4
    try clear c4b0
    try clear c4b1
    try clear c5
    try clear c5b0
    try clear c5b1
    try clear c6
    try clear c6b0
    try clear c6b1
    try clear c7
    try clear c7b0
    try clear c7b1
    try clear c8
    try clear c8b0
    try clear c8b1
    obtain ⟨kq, x4_1, rfl, HA, HJ1, HB⟩ := hcut
    cases kq with
    | zero => exact absurd HA.out (by simp [caraferef5_Size.j0])
    | succ kj1 =>
      have H := HA.out
      clear HA
      simp only [caraferef5_Size.j0] at H
      by_cases c9 : x4_1 = true
      · subst c9
        have H1 : (some 2) = some r := by rw [if_pos rfl] at H; exact H
        clear H
        have H := H1
        clear H1
        obtain rfl := Option.some.inj H
        go_wp2
        go_ret
        exact ⟨by first | rfl | (simp [errW_none, errW_some] <;> rfl) | (simp [*, errW_none, errW_some] <;> rfl), by repeat (first | (with_reducible first | exact HB.out | apply below_alloc | apply pw_below_drewN | apply below_drew1) | exact HB.out)⟩
      · replace c9 := Bool.eq_false_iff.mpr c9
        subst c9
        have H1 : (if a0 = 17 then (some 3) else (if a0 = 132 then (some 3) else (if a0 = 178 then (some 3) else (if a0 = 179 then (some 3) else (if a0 = 180 then (some 3) else (if a0 = 181 then (some 3) else (if a0 = 182 then (some 3) else (if a0 = 184 then (some 3) else (if a0 = 187 then (some 3) else (if a0 = 189 then (some 3) else (if a0 = 192 then (some 3) else (if a0 = 193 then (some 3) else ((caraferef5_Branch.f a0).bind fun t101 => (if t101 = true then (some 3) else ((caraferef5_Name.f a0).bind fun t102 => (if t102.toList = ([] : List UInt8) then (some 0) else (some 1))))))))))))))))) = some r := by rw [if_neg (show ¬ (false = true) by decide)] at H; exact H
        clear H
        have H := H1
        clear H1
        by_cases c10 : a0 = 17
        · rw [if_pos c10] at H
          have c10b0 : (a0 == 17) = true := beq_iff_eq.mpr c10
          have c10b1 : (a0 != 17) = false := bne_eq_false_iff_eq.mpr c10
          clear c10
          obtain rfl := Option.some.inj H
          go_wp2
          go_ret
          exact ⟨by first | rfl | (simp [errW_none, errW_some] <;> rfl) | (simp [*, errW_none, errW_some] <;> rfl), by repeat (first | (with_reducible first | exact HB.out | apply below_alloc | apply pw_below_drewN | apply below_drew1) | exact HB.out)⟩
        · rw [if_neg c10] at H
          have c10b0 : (a0 == 17) = false := beq_eq_false_iff_ne.mpr c10
          have c10b1 : (a0 != 17) = true := bne_iff_ne.mpr c10
          by_cases c11 : a0 = 132
          · rw [if_pos c11] at H
            have c11b0 : (a0 == 132) = true := beq_iff_eq.mpr c11
            have c11b1 : (a0 != 132) = false := bne_eq_false_iff_eq.mpr c11
            clear c11
            obtain rfl := Option.some.inj H
            go_wp2
            go_ret
            exact ⟨by first | rfl | (simp [errW_none, errW_some] <;> rfl) | (simp [*, errW_none, errW_some] <;> rfl), by repeat (first | (with_reducible first | exact HB.out | apply below_alloc | apply pw_below_drewN | apply below_drew1) | exact HB.out)⟩
          · rw [if_neg c11] at H
            have c11b0 : (a0 == 132) = false := beq_eq_false_iff_ne.mpr c11
            have c11b1 : (a0 != 132) = true := bne_iff_ne.mpr c11
            by_cases c12 : a0 = 178
            · rw [if_pos c12] at H
              have c12b0 : (a0 == 178) = true := beq_iff_eq.mpr c12
              have c12b1 : (a0 != 178) = false := bne_eq_false_iff_eq.mpr c12
              clear c12
              obtain rfl := Option.some.inj H
              go_wp2
              go_ret
              exact ⟨by first | rfl | (simp [errW_none, errW_some] <;> rfl) | (simp [*, errW_none, errW_some] <;> rfl), by repeat (first | (with_reducible first | exact HB.out | apply below_alloc | apply pw_below_drewN | apply below_drew1) | exact HB.out)⟩
            · rw [if_neg c12] at H
              have c12b0 : (a0 == 178) = false := beq_eq_false_iff_ne.mpr c12
              have c12b1 : (a0 != 178) = true := bne_iff_ne.mpr c12
              by_cases c13 : a0 = 179
              · rw [if_pos c13] at H
                have c13b0 : (a0 == 179) = true := beq_iff_eq.mpr c13
                have c13b1 : (a0 != 179) = false := bne_eq_false_iff_eq.mpr c13
                clear c13
                obtain rfl := Option.some.inj H
                go_wp2
                go_ret
                exact ⟨by first | rfl | (simp [errW_none, errW_some] <;> rfl) | (simp [*, errW_none, errW_some] <;> rfl), by repeat (first | (with_reducible first | exact HB.out | apply below_alloc | apply pw_below_drewN | apply below_drew1) | exact HB.out)⟩
              · rw [if_neg c13] at H
                have c13b0 : (a0 == 179) = false := beq_eq_false_iff_ne.mpr c13
                have c13b1 : (a0 != 179) = true := bne_iff_ne.mpr c13
                by_cases c14 : a0 = 180
                · rw [if_pos c14] at H
                  have c14b0 : (a0 == 180) = true := beq_iff_eq.mpr c14
                  have c14b1 : (a0 != 180) = false := bne_eq_false_iff_eq.mpr c14
                  clear c14
                  obtain rfl := Option.some.inj H
                  go_wp2
                  go_ret
                  exact ⟨by first | rfl | (simp [errW_none, errW_some] <;> rfl) | (simp [*, errW_none, errW_some] <;> rfl), by repeat (first | (with_reducible first | exact HB.out | apply below_alloc | apply pw_below_drewN | apply below_drew1) | exact HB.out)⟩
                · rw [if_neg c14] at H
                  have c14b0 : (a0 == 180) = false := beq_eq_false_iff_ne.mpr c14
                  have c14b1 : (a0 != 180) = true := bne_iff_ne.mpr c14
                  by_cases c15 : a0 = 181
                  · rw [if_pos c15] at H
                    have c15b0 : (a0 == 181) = true := beq_iff_eq.mpr c15
                    have c15b1 : (a0 != 181) = false := bne_eq_false_iff_eq.mpr c15
                    clear c15
                    obtain rfl := Option.some.inj H
                    go_wp2
                    go_ret
                    exact ⟨by first | rfl | (simp [errW_none, errW_some] <;> rfl) | (simp [*, errW_none, errW_some] <;> rfl), by repeat (first | (with_reducible first | exact HB.out | apply below_alloc | apply pw_below_drewN | apply below_drew1) | exact HB.out)⟩
                  · rw [if_neg c15] at H
                    have c15b0 : (a0 == 181) = false := beq_eq_false_iff_ne.mpr c15
                    have c15b1 : (a0 != 181) = true := bne_iff_ne.mpr c15
                    by_cases c16 : a0 = 182
                    · rw [if_pos c16] at H
                      have c16b0 : (a0 == 182) = true := beq_iff_eq.mpr c16
                      have c16b1 : (a0 != 182) = false := bne_eq_false_iff_eq.mpr c16
                      clear c16
                      obtain rfl := Option.some.inj H
                      go_wp2
                      go_ret
                      exact ⟨by first | rfl | (simp [errW_none, errW_some] <;> rfl) | (simp [*, errW_none, errW_some] <;> rfl), by repeat (first | (with_reducible first | exact HB.out | apply below_alloc | apply pw_below_drewN | apply below_drew1) | exact HB.out)⟩
                    · rw [if_neg c16] at H
                      have c16b0 : (a0 == 182) = false := beq_eq_false_iff_ne.mpr c16
                      have c16b1 : (a0 != 182) = true := bne_iff_ne.mpr c16
                      by_cases c17 : a0 = 184
                      · rw [if_pos c17] at H
                        have c17b0 : (a0 == 184) = true := beq_iff_eq.mpr c17
                        have c17b1 : (a0 != 184) = false := bne_eq_false_iff_eq.mpr c17
                        clear c17
                        obtain rfl := Option.some.inj H
                        go_wp2
                        go_ret
                        exact ⟨by first | rfl | (simp [errW_none, errW_some] <;> rfl) | (simp [*, errW_none, errW_some] <;> rfl), by repeat (first | (with_reducible first | exact HB.out | apply below_alloc | apply pw_below_drewN | apply below_drew1) | exact HB.out)⟩
                      · rw [if_neg c17] at H
                        have c17b0 : (a0 == 184) = false := beq_eq_false_iff_ne.mpr c17
                        have c17b1 : (a0 != 184) = true := bne_iff_ne.mpr c17
                        by_cases c18 : a0 = 187
                        · rw [if_pos c18] at H
                          have c18b0 : (a0 == 187) = true := beq_iff_eq.mpr c18
                          have c18b1 : (a0 != 187) = false := bne_eq_false_iff_eq.mpr c18
                          clear c18
                          obtain rfl := Option.some.inj H
                          go_wp2
                          go_ret
                          exact ⟨by first | rfl | (simp [errW_none, errW_some] <;> rfl) | (simp [*, errW_none, errW_some] <;> rfl), by repeat (first | (with_reducible first | exact HB.out | apply below_alloc | apply pw_below_drewN | apply below_drew1) | exact HB.out)⟩
                        · rw [if_neg c18] at H
                          have c18b0 : (a0 == 187) = false := beq_eq_false_iff_ne.mpr c18
                          have c18b1 : (a0 != 187) = true := bne_iff_ne.mpr c18
                          by_cases c19 : a0 = 189
                          · rw [if_pos c19] at H
                            have c19b0 : (a0 == 189) = true := beq_iff_eq.mpr c19
                            have c19b1 : (a0 != 189) = false := bne_eq_false_iff_eq.mpr c19
                            clear c19
                            obtain rfl := Option.some.inj H
                            go_wp2
                            go_ret
                            exact ⟨by first | rfl | (simp [errW_none, errW_some] <;> rfl) | (simp [*, errW_none, errW_some] <;> rfl), by repeat (first | (with_reducible first | exact HB.out | apply below_alloc | apply pw_below_drewN | apply below_drew1) | exact HB.out)⟩
                          · rw [if_neg c19] at H
                            have c19b0 : (a0 == 189) = false := beq_eq_false_iff_ne.mpr c19
                            have c19b1 : (a0 != 189) = true := bne_iff_ne.mpr c19
                            by_cases c20 : a0 = 192
                            · rw [if_pos c20] at H
                              have c20b0 : (a0 == 192) = true := beq_iff_eq.mpr c20
                              have c20b1 : (a0 != 192) = false := bne_eq_false_iff_eq.mpr c20
                              clear c20
                              obtain rfl := Option.some.inj H
                              go_wp2
                              go_ret
                              exact ⟨by first | rfl | (simp [errW_none, errW_some] <;> rfl) | (simp [*, errW_none, errW_some] <;> rfl), by repeat (first | (with_reducible first | exact HB.out | apply below_alloc | apply pw_below_drewN | apply below_drew1) | exact HB.out)⟩
                            · rw [if_neg c20] at H
                              have c20b0 : (a0 == 192) = false := beq_eq_false_iff_ne.mpr c20
                              have c20b1 : (a0 != 192) = true := bne_iff_ne.mpr c20
                              by_cases c21 : a0 = 193
                              · rw [if_pos c21] at H
                                have c21b0 : (a0 == 193) = true := beq_iff_eq.mpr c21
                                have c21b1 : (a0 != 193) = false := bne_eq_false_iff_eq.mpr c21
                                clear c21
                                obtain rfl := Option.some.inj H
                                go_wp2
                                go_ret
                                exact ⟨by first | rfl | (simp [errW_none, errW_some] <;> rfl) | (simp [*, errW_none, errW_some] <;> rfl), by repeat (first | (with_reducible first | exact HB.out | apply below_alloc | apply pw_below_drewN | apply below_drew1) | exact HB.out)⟩
                              · rw [if_neg c21] at H
                                have c21b0 : (a0 == 193) = false := beq_eq_false_iff_ne.mpr c21
                                have c21b1 : (a0 != 193) = true := bne_iff_ne.mpr c21
                                replace H := Option.bind_eq_some_iff.mp H
                                obtain ⟨t101, A220, H⟩ := H
                                replace H : (if t101 = true then (some 3) else ((caraferef5_Name.f a0).bind fun t102 => (if t102.toList = ([] : List UInt8) then (some 0) else (some 1)))) = some r := H
                                have A22 := Aside0.mk A220
                                clear A220
                                by_cases c23 : t101 = true
                                · subst c23
                                  have H1 : (some 3) = some r := by rw [if_pos rfl] at H; exact H
                                  clear H
                                  have H := H1
                                  clear H1
                                  obtain rfl := Option.some.inj H
                                  go_wp2_with (first | ((with_reducible refine gate_callee (f := 30) rfl ?_); refine goesL_ (some 26) rfl rfl Try.func30 (by kernel_rfl) rfl #[.int .i64 a0] rfl (by (try simp only [List.map_toArray, List.map_cons, List.map_nil]); first | done | rfl | (simp only [List.length_drop, List.length_take]; rfl)) ?_; (with_reducible refine (caraferef5_Branch.calls a0 true _ A22.out).mono ?_); rintro e w' ⟨rfl, ⟨nd, rfl⟩⟩; refine ⟨_, rfl, ?_⟩))
                                  go_ret
                                  exact ⟨by first | rfl | (simp [errW_none, errW_some] <;> rfl) | (simp [*, errW_none, errW_some] <;> rfl), by repeat (first | (with_reducible first | exact HB.out | apply below_alloc | apply pw_below_drewN | apply below_drew1) | exact HB.out)⟩
                                · replace c23 := Bool.eq_false_iff.mpr c23
                                  subst c23
                                  have H1 : ((caraferef5_Name.f a0).bind fun t102 => (if t102.toList = ([] : List UInt8) then (some 0) else (some 1))) = some r := by rw [if_neg (show ¬ (false = true) by decide)] at H; exact H
                                  clear H
                                  have H := H1
                                  clear H1
                                  replace H := Option.bind_eq_some_iff.mp H
                                  obtain ⟨t102, A240, H⟩ := H
                                  replace H : (if t102.toList = ([] : List UInt8) then (some 0) else (some 1)) = some r := H
                                  have A24 := Aside0.mk A240
                                  clear A240
                                  by_cases c25 : t102.toList = ([] : List UInt8)
                                  · rw [if_pos c25] at H
                                    have c25b0 : (t102.toList == ([] : List UInt8)) = true := beq_iff_eq.mpr c25
                                    have c25b1 : (t102.toList != ([] : List UInt8)) = false := bne_eq_false_iff_eq.mpr c25
                                    clear c25
                                    obtain rfl := Option.some.inj H
                                    go_wp2_with (first | ((with_reducible refine gate_callee (f := 30) rfl ?_); refine goesL_ (some 26) rfl rfl Try.func30 (by kernel_rfl) rfl #[.int .i64 a0] rfl (by (try simp only [List.map_toArray, List.map_cons, List.map_nil]); first | done | rfl | (simp only [List.length_drop, List.length_take]; rfl)) ?_; (with_reducible refine (caraferef5_Branch.calls a0 false _ A22.out).mono ?_); rintro e w' ⟨rfl, ⟨nd, rfl⟩⟩; refine ⟨_, rfl, ?_⟩) | ((with_reducible refine gate_callee (f := 29) rfl ?_); refine goesL_ (some 28) rfl rfl Try.func29 (by kernel_rfl) rfl #[.int .i64 a0] rfl (by (try simp only [List.map_toArray, List.map_cons, List.map_nil]); first | done | rfl | (simp only [List.length_drop, List.length_take]; rfl)) ?_; (with_reducible refine (caraferef5_Name.calls a0 t102 _ A24.out).mono ?_); rintro e w26 ⟨rfl, hb⟩; refine ⟨_, rfl, ?_⟩; have n0_ := Aside0.mk (below_step (by repeat (first | (with_reducible first | exact HB.out | apply below_alloc | apply pw_below_drewN | apply below_drew1) | exact HB.out)) hb); clear HB; have HB := n0_; clear n0_; (try clear hb); (try clear hb2); (try clear hk); (try clear hi)))
                                    go_ret
                                    exact ⟨by first | rfl | (simp [errW_none, errW_some] <;> rfl) | (simp [*, errW_none, errW_some] <;> rfl), by repeat (first | (with_reducible first | exact HB.out | apply below_alloc | apply pw_below_drewN | apply below_drew1) | exact HB.out)⟩
                                  · rw [if_neg c25] at H
                                    have c25b0 : (t102.toList == ([] : List UInt8)) = false := beq_eq_false_iff_ne.mpr c25
                                    have c25b1 : (t102.toList != ([] : List UInt8)) = true := bne_iff_ne.mpr c25
                                    obtain rfl := Option.some.inj H
                                    go_wp2_with (first | ((with_reducible refine gate_callee (f := 30) rfl ?_); refine goesL_ (some 26) rfl rfl Try.func30 (by kernel_rfl) rfl #[.int .i64 a0] rfl (by (try simp only [List.map_toArray, List.map_cons, List.map_nil]); first | done | rfl | (simp only [List.length_drop, List.length_take]; rfl)) ?_; (with_reducible refine (caraferef5_Branch.calls a0 false _ A22.out).mono ?_); rintro e w' ⟨rfl, ⟨nd, rfl⟩⟩; refine ⟨_, rfl, ?_⟩) | ((with_reducible refine gate_callee (f := 29) rfl ?_); refine goesL_ (some 28) rfl rfl Try.func29 (by kernel_rfl) rfl #[.int .i64 a0] rfl (by (try simp only [List.map_toArray, List.map_cons, List.map_nil]); first | done | rfl | (simp only [List.length_drop, List.length_take]; rfl)) ?_; (with_reducible refine (caraferef5_Name.calls a0 t102 _ A24.out).mono ?_); rintro e w27 ⟨rfl, hb⟩; refine ⟨_, rfl, ?_⟩; have n0_ := Aside0.mk (below_step (by repeat (first | (with_reducible first | exact HB.out | apply below_alloc | apply pw_below_drewN | apply below_drew1) | exact HB.out)) hb); clear HB; have HB := n0_; clear n0_; (try clear hb); (try clear hb2); (try clear hk); (try clear hi)))
                                    go_ret
                                    exact ⟨by first | rfl | (simp [errW_none, errW_some] <;> rfl) | (simp [*, errW_none, errW_some] <;> rfl), by repeat (first | (with_reducible first | exact HB.out | apply below_alloc | apply pw_below_drewN | apply below_drew1) | exact HB.out)⟩

end Go.Proofs.Ytcjhhlbhfkcboaa.PA
