-- Written for this claim by a program of our own (myprint).
import Derived.Test.YtiapkipcngnnmaaPArithReckonsx0
import Derived.Test.YtiapkipcngnnmaaPArithReckonsx1
namespace Go.Proofs.Ytiapkipcngnnmaa.PArithReckons
open Go.RowKit Go.Proofs.YtiapkipcngnnmaaW.PrintWords Go.Proofs.YtiapkipcngnnmaaW.PrintLast Go.Proofs.YtiapkipcngnnmaaW.PrintMore
attribute [local go_sem] max2_int min2_int max_two min_two max_three min_three max_four min_four   -- for this text's walks alone
set_option linter.unusedVariables false
set_option linter.unusedSimpArgs false

/-! ### arith_Two: function 11 -/
def arith_Two.j0 : Nat → Int → Int → Int → Int → Bool → Option (Int × Int)
  | 0, _, _, _, _, _ => none
  | k + 1, x0, x1, x2, x8, x24 => if x24 = true then ((arith_divided.f x0 (wrap64 (x1)) (wrap64 (x2))).bind fun bt101 => (some (bt101.1, bt101.2))) else (if x8 = 120 then (if 0 ≤ (Go.bits .and .i32 x2 31) then (some (shl .i32 x1 (Go.bits .and .i32 x2 31), 0)) else (none)) else (if x8 = 122 then (if 0 ≤ (Go.bits .and .i32 x2 31) then (some (shr .i32 x1 (Go.bits .and .i32 x2 31), 0)) else (none)) else (if x8 = 124 then (if 0 ≤ (Go.bits .and .i32 x2 31) then (some (wrap32 (shr .u32 ((x1) % 4294967296) (Go.bits .and .i32 x2 31)), 0)) else (none)) else (if x8 = 126 then (some (Go.bits .and .i32 x1 x2, 0)) else (if x8 = 128 then (some (Go.bits .or .i32 x1 x2, 0)) else (if x8 = 130 then (some (Go.bits .xor .i32 x1 x2, 0)) else (some (0, 15))))))))
def arith_Two.f (k : Nat) (a0 : Int) (a1 : Int) (a2 : Int) : Option (Int × Int) := if a0 = 96 then (some (wrap32 (a1 + a2), 0)) else (if a0 = 100 then (some (wrap32 (a1 - a2), 0)) else (if a0 = 104 then (some (wrap32 (a1 * a2), 0)) else (if a0 = 108 then (arith_Two.j0 k a0 a1 a2 a0 (a0 == 108)) else (arith_Two.j0 k a0 a1 a2 a0 (a0 == 112)))))
theorem arith_Two.mono_l : ∀ k, (∀ y0 y1 y2 y3 y4, LeO (arith_Two.j0 k y0 y1 y2 y3 y4) (arith_Two.j0 (k + 1) y0 y1 y2 y3 y4))
  | 0 => fun _ _ _ _ _ r h => by simp [arith_Two.j0] at h
  | k + 1 => by
    have ih0 := arith_Two.mono_l k
    · intro y0 y1 y2 y3 y4
      unfold arith_Two.j0
      repeat' first
      | (with_reducible exact ih0 _ _ _ _ _)
      | (with_reducible exact LeO.refl _)
      | (with_reducible exact LeO.none _)
      | (with_reducible refine LeO.ite ?_ ?_)
      | (with_reducible refine LeO.bind ?_ (fun _ => ?_))
      | exact ih0 _ _ _ _ _
      | exact LeO.none _
      | refine LeO.ite ?_ ?_
      | refine LeO.bind ?_ (fun _ => ?_)
theorem arith_Two.mono : ∀ a0 a1 a2 k, LeO (arith_Two.f k a0 a1 a2) (arith_Two.f (k + 1) a0 a1 a2) := by
  intro a0 a1 a2 k
  have ih0 := arith_Two.mono_l k
  unfold arith_Two.f
  repeat' first
      | (with_reducible exact ih0 _ _ _ _ _)
      | (with_reducible exact LeO.refl _)
      | (with_reducible exact LeO.none _)
      | (with_reducible refine LeO.ite ?_ ?_)
      | (with_reducible refine LeO.bind ?_ (fun _ => ?_))
      | exact ih0 _ _ _ _ _
      | exact LeO.none _
      | refine LeO.ite ?_ ?_
      | refine LeO.bind ?_ (fun _ => ?_)
set_option maxHeartbeats 8000000 in
set_option maxRecDepth 100000 in
theorem arith_Two.calls (k : Nat) (a0 : Int) (a1 : Int) (a2 : Int) (r1 : Int) (r2 : Int) (w : World) (h : arith_Two.f k a0 a1 a2 = some (r1, r2)) :
    Calls Try.prog 11 #[.int .i64 a0, .int .i32 a1, .int .i32 a2] w fun e w' => e = .returned (.tuple #[.int .i32 r1, .int .i64 r2]) ∧ Drawn0 w w' := by
  have H : (if a0 = 96 then (some (wrap32 (a1 + a2), 0)) else (if a0 = 100 then (some (wrap32 (a1 - a2), 0)) else (if a0 = 104 then (some (wrap32 (a1 * a2), 0)) else (if a0 = 108 then (arith_Two.j0 k a0 a1 a2 a0 (a0 == 108)) else (arith_Two.j0 k a0 a1 a2 a0 (a0 == 112)))))) = some (r1, r2) := h
  clear h
  by_cases c4 : a0 = 96
  · rw [if_pos c4] at H
    have c4b0 : (a0 == 96) = true := beq_iff_eq.mpr c4
    have c4b1 : (a0 != 96) = false := bne_eq_false_iff_eq.mpr c4
    clear c4
    simp only [Option.some.injEq, Prod.mk.injEq] at H
    obtain ⟨rfl, rfl⟩ := H
    go_enter Try.func11, Try.ntmps11
    go_wp2
    go_ret2
    exact ⟨by first | rfl | (simp; done) | (simp [*]; done), by repeat (first | exact Drawn0.refl _ | apply Drawn0.step)⟩
  · rw [if_neg c4] at H
    have c4b0 : (a0 == 96) = false := beq_eq_false_iff_ne.mpr c4
    have c4b1 : (a0 != 96) = true := bne_iff_ne.mpr c4
    by_cases c5 : a0 = 100
    · rw [if_pos c5] at H
      have c5b0 : (a0 == 100) = true := beq_iff_eq.mpr c5
      have c5b1 : (a0 != 100) = false := bne_eq_false_iff_eq.mpr c5
      clear c5
      simp only [Option.some.injEq, Prod.mk.injEq] at H
      obtain ⟨rfl, rfl⟩ := H
      go_enter Try.func11, Try.ntmps11
      go_wp2
      go_ret2
      exact ⟨by first | rfl | (simp; done) | (simp [*]; done), by repeat (first | exact Drawn0.refl _ | apply Drawn0.step)⟩
    · rw [if_neg c5] at H
      have c5b0 : (a0 == 100) = false := beq_eq_false_iff_ne.mpr c5
      have c5b1 : (a0 != 100) = true := bne_iff_ne.mpr c5
      by_cases c6 : a0 = 104
      · rw [if_pos c6] at H
        have c6b0 : (a0 == 104) = true := beq_iff_eq.mpr c6
        have c6b1 : (a0 != 104) = false := bne_eq_false_iff_eq.mpr c6
        clear c6
        simp only [Option.some.injEq, Prod.mk.injEq] at H
        obtain ⟨rfl, rfl⟩ := H
        go_enter Try.func11, Try.ntmps11
        go_wp2
        go_ret2
        exact ⟨by first | rfl | (simp; done) | (simp [*]; done), by repeat (first | exact Drawn0.refl _ | apply Drawn0.step)⟩
      · rw [if_neg c6] at H
        have c6b0 : (a0 == 104) = false := beq_eq_false_iff_ne.mpr c6
        have c6b1 : (a0 != 104) = true := bne_iff_ne.mpr c6
        have HC7 := Aside0.mk H
        clear H
        go_enter Try.func11, Try.ntmps11
        go_upto_if 24 with (fail)
        go_cut [24] (fun v24 wc => ∃ (kq : Nat) (x24_6 : Bool), v24 = .bool x24_6 ∧ Aside0 (arith_Two.j0 kq a0 a1 a2 a0 x24_6 = some (r1, r2)) ∧ Aside0 (kq ≤ k) ∧ Drawn0 w wc)
        case first =>
          have H := HC7.out
          clear HC7
          by_cases c8 : a0 = 108
          · rw [if_pos c8] at H
            have c8b0 : (a0 == 108) = true := beq_iff_eq.mpr c8
            have c8b1 : (a0 != 108) = false := bne_eq_false_iff_eq.mpr c8
            clear c8
            (first | rw [c8b0] | (simp only [i64_w, i32_w]; rw [c8b0]) | skip)
            have H' := Aside0.mk H
            clear H
            go_wp2
            go_meet
            case rel => exact ⟨_, ((a0 == 108)), (by first | rfl | (simp; done) | (simp [*]; done)), H', ⟨by first | omega | exact Nat.le_refl _⟩, by repeat (first | exact Drawn0.refl _ | apply Drawn0.step)⟩
          · rw [if_neg c8] at H
            have c8b0 : (a0 == 108) = false := beq_eq_false_iff_ne.mpr c8
            have c8b1 : (a0 != 108) = true := bne_iff_ne.mpr c8
            (first | rw [c8b0] | (simp only [i64_w, i32_w]; rw [c8b0]) | skip)
            have H' := Aside0.mk H
            clear H
            go_wp2
            go_meet
            case rel => exact ⟨_, ((a0 == 112)), (by first | rfl | (simp; done) | (simp [*]; done)), H', ⟨by first | omega | exact Nat.le_refl _⟩, by repeat (first | exact Drawn0.refl _ | apply Drawn0.step)⟩
        case rest =>
          clear HC7
          try clear c1
          try clear p2
          try clear p3
          try clear c4
          try clear c4b0
          try clear c4b1
          try clear c5
          try clear c5b0
          try clear c5b1
          try clear c6
          try clear c6b0
          try clear c6b1
          try clear c8
          try clear c8b0
          try clear c8b1
          obtain ⟨kq, x24_6, rfl, HA, HJ6, ⟨mc6, rfl⟩⟩ := hcut
          cases kq with
          | zero => exact absurd HA.out (by simp [arith_Two.j0])
          | succ kj6 =>
            have H := HA.out
            clear HA
            simp only [arith_Two.j0] at H
            by_cases c9 : x24_6 = true
            · subst c9
              have H1 : ((arith_divided.f a0 (wrap64 (a1)) (wrap64 (a2))).bind fun bt101 => (some (bt101.1, bt101.2))) = some (r1, r2) := by rw [if_pos rfl] at H; exact H
              clear H
              have H := H1
              clear H1
              replace H := Option.bind_eq_some_iff.mp H
              obtain ⟨⟨t101, t102⟩, A100, H⟩ := H
              replace H : (some (t101, t102)) = some (r1, r2) := H
              have A10 := Aside0.mk A100
              clear A100
              simp only [Option.some.injEq, Prod.mk.injEq] at H
              obtain ⟨rfl, rfl⟩ := H
              go_wp2_with (first | ((with_reducible refine gate_callee (f := 17) rfl ?_); refine goesL_ (some 32) rfl rfl Try.func17 (by kernel_rfl) rfl #[.int .i64 a0, .int .i64 (wrap64 (a1)), .int .i64 (wrap64 (a2))] rfl (by (try simp only [List.map_toArray, List.map_cons, List.map_nil]); first | done | rfl | (simp only [List.length_drop, List.length_take]; rfl)) ?_; (with_reducible refine (arith_divided.calls a0 (wrap64 (a1)) (wrap64 (a2)) t101 t102 _ A10.out).mono ?_); rintro e w' ⟨rfl, ⟨nd, rfl⟩⟩; refine ⟨_, rfl, ?_⟩))
              go_ret2
              exact ⟨by first | rfl | (simp; done) | (simp [*]; done), by repeat (first | exact Drawn0.refl _ | apply Drawn0.step)⟩
            · replace c9 := Bool.eq_false_iff.mpr c9
              subst c9
              have H1 : (if a0 = 120 then (if 0 ≤ (Go.bits .and .i32 a2 31) then (some (shl .i32 a1 (Go.bits .and .i32 a2 31), 0)) else (none)) else (if a0 = 122 then (if 0 ≤ (Go.bits .and .i32 a2 31) then (some (shr .i32 a1 (Go.bits .and .i32 a2 31), 0)) else (none)) else (if a0 = 124 then (if 0 ≤ (Go.bits .and .i32 a2 31) then (some (wrap32 (shr .u32 ((a1) % 4294967296) (Go.bits .and .i32 a2 31)), 0)) else (none)) else (if a0 = 126 then (some (Go.bits .and .i32 a1 a2, 0)) else (if a0 = 128 then (some (Go.bits .or .i32 a1 a2, 0)) else (if a0 = 130 then (some (Go.bits .xor .i32 a1 a2, 0)) else (some (0, 15)))))))) = some (r1, r2) := by rw [if_neg (show ¬ (false = true) by decide)] at H; exact H
              clear H
              have H := H1
              clear H1
              by_cases c11 : a0 = 120
              · rw [if_pos c11] at H
                have c11b0 : (a0 == 120) = true := beq_iff_eq.mpr c11
                have c11b1 : (a0 != 120) = false := bne_eq_false_iff_eq.mpr c11
                clear c11
                by_cases c12 : 0 ≤ (Go.bits .and .i32 a2 31)
                · rw [if_pos c12] at H
                  have c12b0 := eq_true c12
                  have c12b1 : decide (0 ≤ (Go.bits .and .i32 a2 31)) = true := decide_eq_true c12
                  clear c12
                  obtain ⟨ji13, hji13⟩ : ∃ j_ : Int, (shl .i32 a1 (Go.bits .and .i32 a2 31)) = j_ := ⟨_, rfl⟩
                  replace H : (some (ji13, 0)) = some (r1, r2) := by first | (rw [hji13] at H; exact H) | (simp only [hji13] at H ⊢; exact H)
                  have hji13_ : (IntKind.i32.wrap (a1 * 2 ^ min (Go.bits .and .i32 a2 31).toNat 32)) = ji13 := hji13
                  have hji13z : (Go.bits .and .i32 a2 31) ≤ 32 → (IntKind.i32.wrap (a1 * 2 ^ (Go.bits .and .i32 a2 31).toNat)) = ji13 := shl_small hji13
                  have hji13y : (wrap32 (a1 * 2 ^ min (Go.bits .and .i32 a2 31).toNat 32)) = ji13 := (i32_w _).symm.trans hji13_
                  have hji13x : (Go.bits .and .i32 a2 31) ≤ 32 → (wrap32 (a1 * 2 ^ (Go.bits .and .i32 a2 31).toNat)) = ji13 := fun h_ => (i32_w _).symm.trans (hji13z h_)
                  simp only [Option.some.injEq, Prod.mk.injEq] at H
                  obtain ⟨rfl, rfl⟩ := H
                  go_wp2
                  go_ret2
                  exact ⟨by first | rfl | (simp; done) | (simp only [← hji13] <;> (first | rfl | simp)) | (simp [*]; done), by repeat (first | exact Drawn0.refl _ | apply Drawn0.step)⟩
                · rw [if_neg c12] at H
                  exact absurd H (by simp)
              · rw [if_neg c11] at H
                have c11b0 : (a0 == 120) = false := beq_eq_false_iff_ne.mpr c11
                have c11b1 : (a0 != 120) = true := bne_iff_ne.mpr c11
                by_cases c14 : a0 = 122
                · rw [if_pos c14] at H
                  have c14b0 : (a0 == 122) = true := beq_iff_eq.mpr c14
                  have c14b1 : (a0 != 122) = false := bne_eq_false_iff_eq.mpr c14
                  clear c14
                  by_cases c15 : 0 ≤ (Go.bits .and .i32 a2 31)
                  · rw [if_pos c15] at H
                    have c15b0 := eq_true c15
                    have c15b1 : decide (0 ≤ (Go.bits .and .i32 a2 31)) = true := decide_eq_true c15
                    clear c15
                    obtain ⟨ji16, hji16⟩ : ∃ j_ : Int, (shr .i32 a1 (Go.bits .and .i32 a2 31)) = j_ := ⟨_, rfl⟩
                    replace H : (some (ji16, 0)) = some (r1, r2) := by first | (rw [hji16] at H; exact H) | (simp only [hji16] at H ⊢; exact H)
                    have hji16_ : (a1 / 2 ^ min (Go.bits .and .i32 a2 31).toNat 32) = ji16 := hji16
                    have hji16z : (Go.bits .and .i32 a2 31) ≤ 32 → (a1 / 2 ^ (Go.bits .and .i32 a2 31).toNat) = ji16 := shr_small hji16
                    simp only [Option.some.injEq, Prod.mk.injEq] at H
                    obtain ⟨rfl, rfl⟩ := H
                    go_wp2
                    go_ret2
                    exact ⟨by first | rfl | (simp; done) | (simp only [← hji16] <;> (first | rfl | simp)) | (simp [*]; done), by repeat (first | exact Drawn0.refl _ | apply Drawn0.step)⟩
                  · rw [if_neg c15] at H
                    exact absurd H (by simp)
                · rw [if_neg c14] at H
                  have c14b0 : (a0 == 122) = false := beq_eq_false_iff_ne.mpr c14
                  have c14b1 : (a0 != 122) = true := bne_iff_ne.mpr c14
                  by_cases c17 : a0 = 124
                  · rw [if_pos c17] at H
                    have c17b0 : (a0 == 124) = true := beq_iff_eq.mpr c17
                    have c17b1 : (a0 != 124) = false := bne_eq_false_iff_eq.mpr c17
                    clear c17
                    by_cases c18 : 0 ≤ (Go.bits .and .i32 a2 31)
                    · rw [if_pos c18] at H
                      have c18b0 := eq_true c18
                      have c18b1 : decide (0 ≤ (Go.bits .and .i32 a2 31)) = true := decide_eq_true c18
                      clear c18
                      obtain ⟨ji19, hji19⟩ : ∃ j_ : Int, (shr .u32 ((a1) % 4294967296) (Go.bits .and .i32 a2 31)) = j_ := ⟨_, rfl⟩
                      replace H : (some (wrap32 (ji19), 0)) = some (r1, r2) := by first | (rw [hji19] at H; exact H) | (simp only [hji19] at H ⊢; exact H)
                      have hji19_ : (((a1) % 4294967296) / 2 ^ min (Go.bits .and .i32 a2 31).toNat 32) = ji19 := hji19
                      have hji19z : (Go.bits .and .i32 a2 31) ≤ 32 → (((a1) % 4294967296) / 2 ^ (Go.bits .and .i32 a2 31).toNat) = ji19 := shr_small hji19
                      simp only [Option.some.injEq, Prod.mk.injEq] at H
                      obtain ⟨rfl, rfl⟩ := H
                      go_wp2
                      go_ret2
                      exact ⟨by first | rfl | (simp; done) | (simp only [← hji19] <;> (first | rfl | simp)) | (simp [*]; done), by repeat (first | exact Drawn0.refl _ | apply Drawn0.step)⟩
                    · rw [if_neg c18] at H
                      exact absurd H (by simp)
                  · rw [if_neg c17] at H
                    have c17b0 : (a0 == 124) = false := beq_eq_false_iff_ne.mpr c17
                    have c17b1 : (a0 != 124) = true := bne_iff_ne.mpr c17
                    by_cases c20 : a0 = 126
                    · rw [if_pos c20] at H
                      have c20b0 : (a0 == 126) = true := beq_iff_eq.mpr c20
                      have c20b1 : (a0 != 126) = false := bne_eq_false_iff_eq.mpr c20
                      clear c20
                      simp only [Option.some.injEq, Prod.mk.injEq] at H
                      obtain ⟨rfl, rfl⟩ := H
                      go_wp2
                      go_ret2
                      exact ⟨by first | rfl | (simp; done) | (simp [*]; done), by repeat (first | exact Drawn0.refl _ | apply Drawn0.step)⟩
                    · rw [if_neg c20] at H
                      have c20b0 : (a0 == 126) = false := beq_eq_false_iff_ne.mpr c20
                      have c20b1 : (a0 != 126) = true := bne_iff_ne.mpr c20
                      by_cases c21 : a0 = 128
                      · rw [if_pos c21] at H
                        have c21b0 : (a0 == 128) = true := beq_iff_eq.mpr c21
                        have c21b1 : (a0 != 128) = false := bne_eq_false_iff_eq.mpr c21
                        clear c21
                        simp only [Option.some.injEq, Prod.mk.injEq] at H
                        obtain ⟨rfl, rfl⟩ := H
                        go_wp2
                        go_ret2
                        exact ⟨by first | rfl | (simp; done) | (simp [*]; done), by repeat (first | exact Drawn0.refl _ | apply Drawn0.step)⟩
                      · rw [if_neg c21] at H
                        have c21b0 : (a0 == 128) = false := beq_eq_false_iff_ne.mpr c21
                        have c21b1 : (a0 != 128) = true := bne_iff_ne.mpr c21
                        by_cases c22 : a0 = 130
                        · rw [if_pos c22] at H
                          have c22b0 : (a0 == 130) = true := beq_iff_eq.mpr c22
                          have c22b1 : (a0 != 130) = false := bne_eq_false_iff_eq.mpr c22
                          clear c22
                          simp only [Option.some.injEq, Prod.mk.injEq] at H
                          obtain ⟨rfl, rfl⟩ := H
                          go_wp2
                          go_ret2
                          exact ⟨by first | rfl | (simp; done) | (simp [*]; done), by repeat (first | exact Drawn0.refl _ | apply Drawn0.step)⟩
                        · rw [if_neg c22] at H
                          have c22b0 : (a0 == 130) = false := beq_eq_false_iff_ne.mpr c22
                          have c22b1 : (a0 != 130) = true := bne_iff_ne.mpr c22
                          simp only [Option.some.injEq, Prod.mk.injEq] at H
                          obtain ⟨rfl, rfl⟩ := H
                          go_wp2
                          go_ret2
                          exact ⟨by first | rfl | (simp; done) | (simp [*]; done), by repeat (first | exact Drawn0.refl _ | apply Drawn0.step)⟩

/-! ### carafelaw12_known: function 8 -/
def carafelaw12_known.f (k : Nat)  : Option (Bool) := (arith_Two.f k 108 (-7) 2).bind fun bt103 => ((arith_Two.f k 124 (-1) 33).bind fun bt105 => ((arith_Test.f 155 (-1) 9).bind fun bt107 => (if bt103.1 = (-3) then (if bt103.2 = 0 then (if bt105.1 = 2147483647 then (if bt105.2 = 0 then (if bt107.1 = true then (some (bt107.2 == 0)) else (some false)) else (some false)) else (some false)) else (some false)) else (some false))))
theorem carafelaw12_known.mono : ∀ k, LeO (carafelaw12_known.f k ) (carafelaw12_known.f (k + 1) ) := by
  intro  k
  unfold carafelaw12_known.f
  repeat' first
      | (with_reducible exact arith_Two.mono _ _ _ _)
      | (with_reducible exact LeO.refl _)
      | (with_reducible exact LeO.none _)
      | (with_reducible refine LeO.ite ?_ ?_)
      | (with_reducible refine LeO.bind ?_ (fun _ => ?_))
      | exact arith_Two.mono _ _ _ _
      | exact LeO.none _
      | refine LeO.ite ?_ ?_
      | refine LeO.bind ?_ (fun _ => ?_)
set_option maxHeartbeats 8000000 in
set_option maxRecDepth 100000 in
theorem carafelaw12_known.calls (k : Nat)  (r : Bool) (w : World) (h : carafelaw12_known.f k  = some r) :
    Calls Try.prog 8 #[] w fun e w' => e = .returned (.bool r) ∧ Drawn0 w w' := by
  have H : ((arith_Two.f k 108 (-7) 2).bind fun bt103 => ((arith_Two.f k 124 (-1) 33).bind fun bt105 => ((arith_Test.f 155 (-1) 9).bind fun bt107 => (if bt103.1 = (-3) then (if bt103.2 = 0 then (if bt105.1 = 2147483647 then (if bt105.2 = 0 then (if bt107.1 = true then (some (bt107.2 == 0)) else (some false)) else (some false)) else (some false)) else (some false)) else (some false))))) = some r := h
  clear h
  replace H := Option.bind_eq_some_iff.mp H
  obtain ⟨⟨t103, t104⟩, A10, H⟩ := H
  replace H : ((arith_Two.f k 124 (-1) 33).bind fun bt105 => ((arith_Test.f 155 (-1) 9).bind fun bt107 => (if t103 = (-3) then (if t104 = 0 then (if bt105.1 = 2147483647 then (if bt105.2 = 0 then (if bt107.1 = true then (some (bt107.2 == 0)) else (some false)) else (some false)) else (some false)) else (some false)) else (some false)))) = some r := H
  have A1 := Aside0.mk A10
  clear A10
  replace H := Option.bind_eq_some_iff.mp H
  obtain ⟨⟨t105, t106⟩, A20, H⟩ := H
  replace H : ((arith_Test.f 155 (-1) 9).bind fun bt107 => (if t103 = (-3) then (if t104 = 0 then (if t105 = 2147483647 then (if t106 = 0 then (if bt107.1 = true then (some (bt107.2 == 0)) else (some false)) else (some false)) else (some false)) else (some false)) else (some false))) = some r := H
  have A2 := Aside0.mk A20
  clear A20
  replace H := Option.bind_eq_some_iff.mp H
  obtain ⟨⟨t107, t108⟩, A30, H⟩ := H
  replace H : (if t103 = (-3) then (if t104 = 0 then (if t105 = 2147483647 then (if t106 = 0 then (if t107 = true then (some (t108 == 0)) else (some false)) else (some false)) else (some false)) else (some false)) else (some false)) = some r := H
  have A3 := Aside0.mk A30
  clear A30
  by_cases c4 : t103 = (-3)
  · rw [if_pos c4] at H
    have c4b0 : (t103 == (-3)) = true := beq_iff_eq.mpr c4
    have c4b1 : (t103 != (-3)) = false := bne_eq_false_iff_eq.mpr c4
    clear c4
    by_cases c5 : t104 = 0
    · rw [if_pos c5] at H
      have c5b0 : (t104 == 0) = true := beq_iff_eq.mpr c5
      have c5b1 : (t104 != 0) = false := bne_eq_false_iff_eq.mpr c5
      clear c5
      by_cases c6 : t105 = 2147483647
      · rw [if_pos c6] at H
        have c6b0 : (t105 == 2147483647) = true := beq_iff_eq.mpr c6
        have c6b1 : (t105 != 2147483647) = false := bne_eq_false_iff_eq.mpr c6
        clear c6
        by_cases c7 : t106 = 0
        · rw [if_pos c7] at H
          have c7b0 : (t106 == 0) = true := beq_iff_eq.mpr c7
          have c7b1 : (t106 != 0) = false := bne_eq_false_iff_eq.mpr c7
          clear c7
          by_cases c8 : t107 = true
          · subst c8
            have H1 : (some (t108 == 0)) = some r := by rw [if_pos rfl] at H; exact H
            clear H
            have H := H1
            clear H1
            obtain rfl := Option.some.inj H
            go_enter Try.func8, Try.ntmps8
            go_wp2_with (first | ((with_reducible refine gate_callee (f := 11) rfl ?_); refine goesL_ (some 8) rfl rfl Try.func11 (by kernel_rfl) rfl #[.int .i64 108, .int .i32 (-7), .int .i32 2] rfl (by (try simp only [List.map_toArray, List.map_cons, List.map_nil]); first | done | rfl | (simp only [List.length_drop, List.length_take]; rfl)) ?_; (with_reducible refine (arith_Two.calls k 108 (-7) 2 t103 t104 _ A1.out).mono ?_); rintro e w' ⟨rfl, ⟨nd, rfl⟩⟩; refine ⟨_, rfl, ?_⟩) | ((with_reducible refine gate_callee (f := 11) rfl ?_); refine goesL_ (some 12) rfl rfl Try.func11 (by kernel_rfl) rfl #[.int .i64 124, .int .i32 (-1), .int .i32 33] rfl (by (try simp only [List.map_toArray, List.map_cons, List.map_nil]); first | done | rfl | (simp only [List.length_drop, List.length_take]; rfl)) ?_; (with_reducible refine (arith_Two.calls k 124 (-1) 33 t105 t106 _ A2.out).mono ?_); rintro e w' ⟨rfl, ⟨nd, rfl⟩⟩; refine ⟨_, rfl, ?_⟩) | ((with_reducible refine gate_callee (f := 10) rfl ?_); refine goesL_ (some 16) rfl rfl Try.func10 (by kernel_rfl) rfl #[.int .i64 155, .int .i32 (-1), .int .i32 9] rfl (by (try simp only [List.map_toArray, List.map_cons, List.map_nil]); first | done | rfl | (simp only [List.length_drop, List.length_take]; rfl)) ?_; (with_reducible refine (arith_Test.calls 155 (-1) 9 true t108 _ A3.out).mono ?_); rintro e w' ⟨rfl, ⟨nd, rfl⟩⟩; refine ⟨_, rfl, ?_⟩))
            go_ret
            exact ⟨by first | rfl | (simp; done) | (simp [*]; done), by repeat (first | exact Drawn0.refl _ | apply Drawn0.step)⟩
          · replace c8 := Bool.eq_false_iff.mpr c8
            subst c8
            have H1 : (some false) = some r := by rw [if_neg (show ¬ (false = true) by decide)] at H; exact H
            clear H
            have H := H1
            clear H1
            obtain rfl := Option.some.inj H
            go_enter Try.func8, Try.ntmps8
            go_wp2_with (first | ((with_reducible refine gate_callee (f := 11) rfl ?_); refine goesL_ (some 8) rfl rfl Try.func11 (by kernel_rfl) rfl #[.int .i64 108, .int .i32 (-7), .int .i32 2] rfl (by (try simp only [List.map_toArray, List.map_cons, List.map_nil]); first | done | rfl | (simp only [List.length_drop, List.length_take]; rfl)) ?_; (with_reducible refine (arith_Two.calls k 108 (-7) 2 t103 t104 _ A1.out).mono ?_); rintro e w' ⟨rfl, ⟨nd, rfl⟩⟩; refine ⟨_, rfl, ?_⟩) | ((with_reducible refine gate_callee (f := 11) rfl ?_); refine goesL_ (some 12) rfl rfl Try.func11 (by kernel_rfl) rfl #[.int .i64 124, .int .i32 (-1), .int .i32 33] rfl (by (try simp only [List.map_toArray, List.map_cons, List.map_nil]); first | done | rfl | (simp only [List.length_drop, List.length_take]; rfl)) ?_; (with_reducible refine (arith_Two.calls k 124 (-1) 33 t105 t106 _ A2.out).mono ?_); rintro e w' ⟨rfl, ⟨nd, rfl⟩⟩; refine ⟨_, rfl, ?_⟩) | ((with_reducible refine gate_callee (f := 10) rfl ?_); refine goesL_ (some 16) rfl rfl Try.func10 (by kernel_rfl) rfl #[.int .i64 155, .int .i32 (-1), .int .i32 9] rfl (by (try simp only [List.map_toArray, List.map_cons, List.map_nil]); first | done | rfl | (simp only [List.length_drop, List.length_take]; rfl)) ?_; (with_reducible refine (arith_Test.calls 155 (-1) 9 false t108 _ A3.out).mono ?_); rintro e w' ⟨rfl, ⟨nd, rfl⟩⟩; refine ⟨_, rfl, ?_⟩))
            go_ret
            exact ⟨by first | rfl | (simp; done) | (simp [*]; done), by repeat (first | exact Drawn0.refl _ | apply Drawn0.step)⟩
        · rw [if_neg c7] at H
          have c7b0 : (t106 == 0) = false := beq_eq_false_iff_ne.mpr c7
          have c7b1 : (t106 != 0) = true := bne_iff_ne.mpr c7
          obtain rfl := Option.some.inj H
          go_enter Try.func8, Try.ntmps8
          go_wp2_with (first | ((with_reducible refine gate_callee (f := 11) rfl ?_); refine goesL_ (some 8) rfl rfl Try.func11 (by kernel_rfl) rfl #[.int .i64 108, .int .i32 (-7), .int .i32 2] rfl (by (try simp only [List.map_toArray, List.map_cons, List.map_nil]); first | done | rfl | (simp only [List.length_drop, List.length_take]; rfl)) ?_; (with_reducible refine (arith_Two.calls k 108 (-7) 2 t103 t104 _ A1.out).mono ?_); rintro e w' ⟨rfl, ⟨nd, rfl⟩⟩; refine ⟨_, rfl, ?_⟩) | ((with_reducible refine gate_callee (f := 11) rfl ?_); refine goesL_ (some 12) rfl rfl Try.func11 (by kernel_rfl) rfl #[.int .i64 124, .int .i32 (-1), .int .i32 33] rfl (by (try simp only [List.map_toArray, List.map_cons, List.map_nil]); first | done | rfl | (simp only [List.length_drop, List.length_take]; rfl)) ?_; (with_reducible refine (arith_Two.calls k 124 (-1) 33 t105 t106 _ A2.out).mono ?_); rintro e w' ⟨rfl, ⟨nd, rfl⟩⟩; refine ⟨_, rfl, ?_⟩) | ((with_reducible refine gate_callee (f := 10) rfl ?_); refine goesL_ (some 16) rfl rfl Try.func10 (by kernel_rfl) rfl #[.int .i64 155, .int .i32 (-1), .int .i32 9] rfl (by (try simp only [List.map_toArray, List.map_cons, List.map_nil]); first | done | rfl | (simp only [List.length_drop, List.length_take]; rfl)) ?_; (with_reducible refine (arith_Test.calls 155 (-1) 9 t107 t108 _ A3.out).mono ?_); rintro e w' ⟨rfl, ⟨nd, rfl⟩⟩; refine ⟨_, rfl, ?_⟩))
          go_ret
          exact ⟨by first | rfl | (simp; done) | (simp [*]; done), by repeat (first | exact Drawn0.refl _ | apply Drawn0.step)⟩
      · rw [if_neg c6] at H
        have c6b0 : (t105 == 2147483647) = false := beq_eq_false_iff_ne.mpr c6
        have c6b1 : (t105 != 2147483647) = true := bne_iff_ne.mpr c6
        obtain rfl := Option.some.inj H
        go_enter Try.func8, Try.ntmps8
        go_wp2_with (first | ((with_reducible refine gate_callee (f := 11) rfl ?_); refine goesL_ (some 8) rfl rfl Try.func11 (by kernel_rfl) rfl #[.int .i64 108, .int .i32 (-7), .int .i32 2] rfl (by (try simp only [List.map_toArray, List.map_cons, List.map_nil]); first | done | rfl | (simp only [List.length_drop, List.length_take]; rfl)) ?_; (with_reducible refine (arith_Two.calls k 108 (-7) 2 t103 t104 _ A1.out).mono ?_); rintro e w' ⟨rfl, ⟨nd, rfl⟩⟩; refine ⟨_, rfl, ?_⟩) | ((with_reducible refine gate_callee (f := 11) rfl ?_); refine goesL_ (some 12) rfl rfl Try.func11 (by kernel_rfl) rfl #[.int .i64 124, .int .i32 (-1), .int .i32 33] rfl (by (try simp only [List.map_toArray, List.map_cons, List.map_nil]); first | done | rfl | (simp only [List.length_drop, List.length_take]; rfl)) ?_; (with_reducible refine (arith_Two.calls k 124 (-1) 33 t105 t106 _ A2.out).mono ?_); rintro e w' ⟨rfl, ⟨nd, rfl⟩⟩; refine ⟨_, rfl, ?_⟩) | ((with_reducible refine gate_callee (f := 10) rfl ?_); refine goesL_ (some 16) rfl rfl Try.func10 (by kernel_rfl) rfl #[.int .i64 155, .int .i32 (-1), .int .i32 9] rfl (by (try simp only [List.map_toArray, List.map_cons, List.map_nil]); first | done | rfl | (simp only [List.length_drop, List.length_take]; rfl)) ?_; (with_reducible refine (arith_Test.calls 155 (-1) 9 t107 t108 _ A3.out).mono ?_); rintro e w' ⟨rfl, ⟨nd, rfl⟩⟩; refine ⟨_, rfl, ?_⟩))
        go_ret
        exact ⟨by first | rfl | (simp; done) | (simp [*]; done), by repeat (first | exact Drawn0.refl _ | apply Drawn0.step)⟩
    · rw [if_neg c5] at H
      have c5b0 : (t104 == 0) = false := beq_eq_false_iff_ne.mpr c5
      have c5b1 : (t104 != 0) = true := bne_iff_ne.mpr c5
      obtain rfl := Option.some.inj H
      go_enter Try.func8, Try.ntmps8
      go_wp2_with (first | ((with_reducible refine gate_callee (f := 11) rfl ?_); refine goesL_ (some 8) rfl rfl Try.func11 (by kernel_rfl) rfl #[.int .i64 108, .int .i32 (-7), .int .i32 2] rfl (by (try simp only [List.map_toArray, List.map_cons, List.map_nil]); first | done | rfl | (simp only [List.length_drop, List.length_take]; rfl)) ?_; (with_reducible refine (arith_Two.calls k 108 (-7) 2 t103 t104 _ A1.out).mono ?_); rintro e w' ⟨rfl, ⟨nd, rfl⟩⟩; refine ⟨_, rfl, ?_⟩) | ((with_reducible refine gate_callee (f := 11) rfl ?_); refine goesL_ (some 12) rfl rfl Try.func11 (by kernel_rfl) rfl #[.int .i64 124, .int .i32 (-1), .int .i32 33] rfl (by (try simp only [List.map_toArray, List.map_cons, List.map_nil]); first | done | rfl | (simp only [List.length_drop, List.length_take]; rfl)) ?_; (with_reducible refine (arith_Two.calls k 124 (-1) 33 t105 t106 _ A2.out).mono ?_); rintro e w' ⟨rfl, ⟨nd, rfl⟩⟩; refine ⟨_, rfl, ?_⟩) | ((with_reducible refine gate_callee (f := 10) rfl ?_); refine goesL_ (some 16) rfl rfl Try.func10 (by kernel_rfl) rfl #[.int .i64 155, .int .i32 (-1), .int .i32 9] rfl (by (try simp only [List.map_toArray, List.map_cons, List.map_nil]); first | done | rfl | (simp only [List.length_drop, List.length_take]; rfl)) ?_; (with_reducible refine (arith_Test.calls 155 (-1) 9 t107 t108 _ A3.out).mono ?_); rintro e w' ⟨rfl, ⟨nd, rfl⟩⟩; refine ⟨_, rfl, ?_⟩))
      go_ret
      exact ⟨by first | rfl | (simp; done) | (simp [*]; done), by repeat (first | exact Drawn0.refl _ | apply Drawn0.step)⟩
  · rw [if_neg c4] at H
    have c4b0 : (t103 == (-3)) = false := beq_eq_false_iff_ne.mpr c4
    have c4b1 : (t103 != (-3)) = true := bne_iff_ne.mpr c4
    obtain rfl := Option.some.inj H
    go_enter Try.func8, Try.ntmps8
    go_wp2_with (first | ((with_reducible refine gate_callee (f := 11) rfl ?_); refine goesL_ (some 8) rfl rfl Try.func11 (by kernel_rfl) rfl #[.int .i64 108, .int .i32 (-7), .int .i32 2] rfl (by (try simp only [List.map_toArray, List.map_cons, List.map_nil]); first | done | rfl | (simp only [List.length_drop, List.length_take]; rfl)) ?_; (with_reducible refine (arith_Two.calls k 108 (-7) 2 t103 t104 _ A1.out).mono ?_); rintro e w' ⟨rfl, ⟨nd, rfl⟩⟩; refine ⟨_, rfl, ?_⟩) | ((with_reducible refine gate_callee (f := 11) rfl ?_); refine goesL_ (some 12) rfl rfl Try.func11 (by kernel_rfl) rfl #[.int .i64 124, .int .i32 (-1), .int .i32 33] rfl (by (try simp only [List.map_toArray, List.map_cons, List.map_nil]); first | done | rfl | (simp only [List.length_drop, List.length_take]; rfl)) ?_; (with_reducible refine (arith_Two.calls k 124 (-1) 33 t105 t106 _ A2.out).mono ?_); rintro e w' ⟨rfl, ⟨nd, rfl⟩⟩; refine ⟨_, rfl, ?_⟩) | ((with_reducible refine gate_callee (f := 10) rfl ?_); refine goesL_ (some 16) rfl rfl Try.func10 (by kernel_rfl) rfl #[.int .i64 155, .int .i32 (-1), .int .i32 9] rfl (by (try simp only [List.map_toArray, List.map_cons, List.map_nil]); first | done | rfl | (simp only [List.length_drop, List.length_take]; rfl)) ?_; (with_reducible refine (arith_Test.calls 155 (-1) 9 t107 t108 _ A3.out).mono ?_); rintro e w' ⟨rfl, ⟨nd, rfl⟩⟩; refine ⟨_, rfl, ?_⟩))
    go_ret
    exact ⟨by first | rfl | (simp; done) | (simp [*]; done), by repeat (first | exact Drawn0.refl _ | apply Drawn0.step)⟩

/-! ### arith_One: function 9 -/
def arith_One.f (a0 : Int) (a1 : Int) : Option (Int × Int) := if a0 = 116 then (some (wrap32 (-a1), 0)) else (some (0, 15))
set_option maxHeartbeats 8000000 in
set_option maxRecDepth 100000 in
theorem arith_One.calls (a0 : Int) (a1 : Int) (r1 : Int) (r2 : Int) (w : World) (h : arith_One.f a0 a1 = some (r1, r2)) :
    Calls Try.prog 9 #[.int .i64 a0, .int .i32 a1] w fun e w' => e = .returned (.tuple #[.int .i32 r1, .int .i64 r2]) ∧ Drawn0 w w' := by
  have H : (if a0 = 116 then (some (wrap32 (-a1), 0)) else (some (0, 15))) = some (r1, r2) := h
  clear h
  by_cases c3 : a0 = 116
  · rw [if_pos c3] at H
    have c3b0 : (a0 == 116) = true := beq_iff_eq.mpr c3
    have c3b1 : (a0 != 116) = false := bne_eq_false_iff_eq.mpr c3
    clear c3
    simp only [Option.some.injEq, Prod.mk.injEq] at H
    obtain ⟨rfl, rfl⟩ := H
    go_enter Try.func9, Try.ntmps9
    go_wp2
    go_ret2
    exact ⟨by first | rfl | (simp; done) | (simp [*]; done), by repeat (first | exact Drawn0.refl _ | apply Drawn0.step)⟩
  · rw [if_neg c3] at H
    have c3b0 : (a0 == 116) = false := beq_eq_false_iff_ne.mpr c3
    have c3b1 : (a0 != 116) = true := bne_iff_ne.mpr c3
    simp only [Option.some.injEq, Prod.mk.injEq] at H
    obtain ⟨rfl, rfl⟩ := H
    go_enter Try.func9, Try.ntmps9
    go_wp2
    go_ret2
    exact ⟨by first | rfl | (simp; done) | (simp [*]; done), by repeat (first | exact Drawn0.refl _ | apply Drawn0.step)⟩

/-! ### caraferef12_Two: function 12 -/
def caraferef12_Two.j0 : Nat → Int → Int → Int → Int → Int → Int → Int → Bool → Option (Int × Int)
  | 0, _, _, _, _, _, _, _, _ => none
  | k + 1, x0, x1, x2, x8, x9, x10, x18, x37 => if x37 = true then (if x9 = 0 then (some (0, 22)) else (if x0 = 108 then (some (wrap32 (wrap64 (Int.tdiv x8 x9)), 0)) else (some (wrap32 (Int.tmod x8 x9), 0)))) else (if x18 = 120 then (if 0 ≤ x10 then (some (wrap32 (shl .i64 x8 x10), 0)) else (none)) else (if x18 = 122 then (if 0 ≤ x10 then (some (wrap32 (shr .i64 x8 x10), 0)) else (none)) else (if x18 = 124 then (if 0 ≤ x10 then (some (wrap32 (shr .i64 (Go.bits .and .i64 x8 4294967295) x10), 0)) else (none)) else (if x18 = 126 then (some (Go.bits .and .i32 x1 x2, 0)) else (if x18 = 128 then (some (Go.bits .or .i32 x1 x2, 0)) else (if x18 = 130 then (some (Go.bits .xor .i32 x1 x2, 0)) else (some (0, 15))))))))
def caraferef12_Two.f (k : Nat) (a0 : Int) (a1 : Int) (a2 : Int) : Option (Int × Int) := if a0 = 96 then (some (wrap32 (wrap64 ((wrap64 (a1)) + (wrap64 (a2)))), 0)) else (if a0 = 100 then (some (wrap32 (wrap64 ((wrap64 (a1)) - (wrap64 (a2)))), 0)) else (if a0 = 104 then (some (wrap32 (wrap64 ((wrap64 (a1)) * (wrap64 (a2)))), 0)) else (if a0 = 108 then (caraferef12_Two.j0 k a0 a1 a2 (wrap64 (a1)) (wrap64 (a2)) (Go.bits .and .u64 (IntKind.u64.wrap (a2)) 31) a0 (a0 == 108)) else (caraferef12_Two.j0 k a0 a1 a2 (wrap64 (a1)) (wrap64 (a2)) (Go.bits .and .u64 (IntKind.u64.wrap (a2)) 31) a0 (a0 == 112)))))
theorem caraferef12_Two.mono_l : ∀ k, (∀ y0 y1 y2 y3 y4 y5 y6 y7, LeO (caraferef12_Two.j0 k y0 y1 y2 y3 y4 y5 y6 y7) (caraferef12_Two.j0 (k + 1) y0 y1 y2 y3 y4 y5 y6 y7))
  | 0 => fun _ _ _ _ _ _ _ _ r h => by simp [caraferef12_Two.j0] at h
  | k + 1 => by
    have ih0 := caraferef12_Two.mono_l k
    · intro y0 y1 y2 y3 y4 y5 y6 y7
      unfold caraferef12_Two.j0
      repeat' first
      | (with_reducible exact ih0 _ _ _ _ _ _ _ _)
      | (with_reducible exact LeO.refl _)
      | (with_reducible exact LeO.none _)
      | (with_reducible refine LeO.ite ?_ ?_)
      | (with_reducible refine LeO.bind ?_ (fun _ => ?_))
      | exact ih0 _ _ _ _ _ _ _ _
      | exact LeO.none _
      | refine LeO.ite ?_ ?_
      | refine LeO.bind ?_ (fun _ => ?_)
theorem caraferef12_Two.mono : ∀ a0 a1 a2 k, LeO (caraferef12_Two.f k a0 a1 a2) (caraferef12_Two.f (k + 1) a0 a1 a2) := by
  intro a0 a1 a2 k
  have ih0 := caraferef12_Two.mono_l k
  unfold caraferef12_Two.f
  repeat' first
      | (with_reducible exact ih0 _ _ _ _ _ _ _ _)
      | (with_reducible exact LeO.refl _)
      | (with_reducible exact LeO.none _)
      | (with_reducible refine LeO.ite ?_ ?_)
      | (with_reducible refine LeO.bind ?_ (fun _ => ?_))
      | exact ih0 _ _ _ _ _ _ _ _
      | exact LeO.none _
      | refine LeO.ite ?_ ?_
      | refine LeO.bind ?_ (fun _ => ?_)
set_option maxHeartbeats 8000000 in
set_option maxRecDepth 100000 in
theorem caraferef12_Two.calls (k : Nat) (a0 : Int) (a1 : Int) (a2 : Int) (r1 : Int) (r2 : Int) (w : World) (h : caraferef12_Two.f k a0 a1 a2 = some (r1, r2)) :
    Calls Try.prog 12 #[.int .i64 a0, .int .i32 a1, .int .i32 a2] w fun e w' => e = .returned (.tuple #[.int .i32 r1, .int .i64 r2]) ∧ Drawn0 w w' := by
  have H : (if a0 = 96 then (some (wrap32 (wrap64 ((wrap64 (a1)) + (wrap64 (a2)))), 0)) else (if a0 = 100 then (some (wrap32 (wrap64 ((wrap64 (a1)) - (wrap64 (a2)))), 0)) else (if a0 = 104 then (some (wrap32 (wrap64 ((wrap64 (a1)) * (wrap64 (a2)))), 0)) else (if a0 = 108 then (caraferef12_Two.j0 k a0 a1 a2 (wrap64 (a1)) (wrap64 (a2)) (Go.bits .and .u64 (IntKind.u64.wrap (a2)) 31) a0 (a0 == 108)) else (caraferef12_Two.j0 k a0 a1 a2 (wrap64 (a1)) (wrap64 (a2)) (Go.bits .and .u64 (IntKind.u64.wrap (a2)) 31) a0 (a0 == 112)))))) = some (r1, r2) := h
  clear h
  by_cases c4 : a0 = 96
  · rw [if_pos c4] at H
    have c4b0 : (a0 == 96) = true := beq_iff_eq.mpr c4
    have c4b1 : (a0 != 96) = false := bne_eq_false_iff_eq.mpr c4
    clear c4
    simp only [Option.some.injEq, Prod.mk.injEq] at H
    obtain ⟨rfl, rfl⟩ := H
    go_enter Try.func12, Try.ntmps12
    go_wp2
    go_ret2
    exact ⟨by first | rfl | (simp; done) | (simp [*]; done), by repeat (first | exact Drawn0.refl _ | apply Drawn0.step)⟩
  · rw [if_neg c4] at H
    have c4b0 : (a0 == 96) = false := beq_eq_false_iff_ne.mpr c4
    have c4b1 : (a0 != 96) = true := bne_iff_ne.mpr c4
    by_cases c5 : a0 = 100
    · rw [if_pos c5] at H
      have c5b0 : (a0 == 100) = true := beq_iff_eq.mpr c5
      have c5b1 : (a0 != 100) = false := bne_eq_false_iff_eq.mpr c5
      clear c5
      simp only [Option.some.injEq, Prod.mk.injEq] at H
      obtain ⟨rfl, rfl⟩ := H
      go_enter Try.func12, Try.ntmps12
      go_wp2
      go_ret2
      exact ⟨by first | rfl | (simp; done) | (simp [*]; done), by repeat (first | exact Drawn0.refl _ | apply Drawn0.step)⟩
    · rw [if_neg c5] at H
      have c5b0 : (a0 == 100) = false := beq_eq_false_iff_ne.mpr c5
      have c5b1 : (a0 != 100) = true := bne_iff_ne.mpr c5
      by_cases c6 : a0 = 104
      · rw [if_pos c6] at H
        have c6b0 : (a0 == 104) = true := beq_iff_eq.mpr c6
        have c6b1 : (a0 != 104) = false := bne_eq_false_iff_eq.mpr c6
        clear c6
        simp only [Option.some.injEq, Prod.mk.injEq] at H
        obtain ⟨rfl, rfl⟩ := H
        go_enter Try.func12, Try.ntmps12
        go_wp2
        go_ret2
        exact ⟨by first | rfl | (simp; done) | (simp [*]; done), by repeat (first | exact Drawn0.refl _ | apply Drawn0.step)⟩
      · rw [if_neg c6] at H
        have c6b0 : (a0 == 104) = false := beq_eq_false_iff_ne.mpr c6
        have c6b1 : (a0 != 104) = true := bne_iff_ne.mpr c6
        have HC7 := Aside0.mk H
        clear H
        go_enter Try.func12, Try.ntmps12
        go_upto_if 37 with (fail)
        go_cut [37] (fun v37 wc => ∃ (kq : Nat) (x37_6 : Bool), v37 = .bool x37_6 ∧ Aside0 (caraferef12_Two.j0 kq a0 a1 a2 (wrap64 (a1)) (wrap64 (a2)) (Go.bits .and .u64 (IntKind.u64.wrap (a2)) 31) a0 x37_6 = some (r1, r2)) ∧ Aside0 (kq ≤ k) ∧ Drawn0 w wc)
        case first =>
          have H := HC7.out
          clear HC7
          by_cases c8 : a0 = 108
          · rw [if_pos c8] at H
            have c8b0 : (a0 == 108) = true := beq_iff_eq.mpr c8
            have c8b1 : (a0 != 108) = false := bne_eq_false_iff_eq.mpr c8
            clear c8
            (first | rw [c8b0] | (simp only [i64_w, i32_w]; rw [c8b0]) | skip)
            have H' := Aside0.mk H
            clear H
            go_wp2
            go_meet
            case rel => exact ⟨_, ((a0 == 108)), (by first | rfl | (simp; done) | (simp [*]; done)), H', ⟨by first | omega | exact Nat.le_refl _⟩, by repeat (first | exact Drawn0.refl _ | apply Drawn0.step)⟩
          · rw [if_neg c8] at H
            have c8b0 : (a0 == 108) = false := beq_eq_false_iff_ne.mpr c8
            have c8b1 : (a0 != 108) = true := bne_iff_ne.mpr c8
            (first | rw [c8b0] | (simp only [i64_w, i32_w]; rw [c8b0]) | skip)
            have H' := Aside0.mk H
            clear H
            go_wp2
            go_meet
            case rel => exact ⟨_, ((a0 == 112)), (by first | rfl | (simp; done) | (simp [*]; done)), H', ⟨by first | omega | exact Nat.le_refl _⟩, by repeat (first | exact Drawn0.refl _ | apply Drawn0.step)⟩
        case rest =>
          clear HC7
          try clear c1
          try clear p2
          try clear p3
          try clear c4
          try clear c4b0
          try clear c4b1
          try clear c5
          try clear c5b0
          try clear c5b1
          try clear c6
          try clear c6b0
          try clear c6b1
          try clear p6
          try clear c8
          try clear c8b0
          try clear c8b1
          obtain ⟨kq, x37_6, rfl, HA, HJ6, ⟨mc6, rfl⟩⟩ := hcut
          cases kq with
          | zero => exact absurd HA.out (by simp [caraferef12_Two.j0])
          | succ kj6 =>
            have H := HA.out
            clear HA
            simp only [caraferef12_Two.j0] at H
            by_cases c9 : x37_6 = true
            · subst c9
              have H1 : (if (wrap64 (a2)) = 0 then (some (0, 22)) else (if a0 = 108 then (some (wrap32 (wrap64 (Int.tdiv (wrap64 (a1)) (wrap64 (a2)))), 0)) else (some (wrap32 (Int.tmod (wrap64 (a1)) (wrap64 (a2))), 0)))) = some (r1, r2) := by rw [if_pos rfl] at H; exact H
              clear H
              have H := H1
              clear H1
              by_cases c10 : (wrap64 (a2)) = 0
              · rw [if_pos c10] at H
                have c10b0 : ((wrap64 (a2)) == 0) = true := beq_iff_eq.mpr c10
                have c10b1 : ((wrap64 (a2)) != 0) = false := bne_eq_false_iff_eq.mpr c10
                clear c10
                simp only [Option.some.injEq, Prod.mk.injEq] at H
                obtain ⟨rfl, rfl⟩ := H
                go_wp2
                go_ret2
                exact ⟨by first | rfl | (simp; done) | (simp [*]; done), by repeat (first | exact Drawn0.refl _ | apply Drawn0.step)⟩
              · rw [if_neg c10] at H
                have c10b0 : ((wrap64 (a2)) == 0) = false := beq_eq_false_iff_ne.mpr c10
                have c10b1 : ((wrap64 (a2)) != 0) = true := bne_iff_ne.mpr c10
                by_cases c11 : a0 = 108
                · rw [if_pos c11] at H
                  have c11b0 : (a0 == 108) = true := beq_iff_eq.mpr c11
                  have c11b1 : (a0 != 108) = false := bne_eq_false_iff_eq.mpr c11
                  clear c11
                  simp only [Option.some.injEq, Prod.mk.injEq] at H
                  obtain ⟨rfl, rfl⟩ := H
                  go_wp2
                  go_ret2
                  exact ⟨by first | rfl | (simp; done) | (simp [*]; done), by repeat (first | exact Drawn0.refl _ | apply Drawn0.step)⟩
                · rw [if_neg c11] at H
                  have c11b0 : (a0 == 108) = false := beq_eq_false_iff_ne.mpr c11
                  have c11b1 : (a0 != 108) = true := bne_iff_ne.mpr c11
                  simp only [Option.some.injEq, Prod.mk.injEq] at H
                  obtain ⟨rfl, rfl⟩ := H
                  go_wp2
                  go_ret2
                  exact ⟨by first | rfl | (simp; done) | (simp [*]; done), by repeat (first | exact Drawn0.refl _ | apply Drawn0.step)⟩
            · replace c9 := Bool.eq_false_iff.mpr c9
              subst c9
              have H1 : (if a0 = 120 then (if 0 ≤ (Go.bits .and .u64 (IntKind.u64.wrap (a2)) 31) then (some (wrap32 (shl .i64 (wrap64 (a1)) (Go.bits .and .u64 (IntKind.u64.wrap (a2)) 31)), 0)) else (none)) else (if a0 = 122 then (if 0 ≤ (Go.bits .and .u64 (IntKind.u64.wrap (a2)) 31) then (some (wrap32 (shr .i64 (wrap64 (a1)) (Go.bits .and .u64 (IntKind.u64.wrap (a2)) 31)), 0)) else (none)) else (if a0 = 124 then (if 0 ≤ (Go.bits .and .u64 (IntKind.u64.wrap (a2)) 31) then (some (wrap32 (shr .i64 (Go.bits .and .i64 (wrap64 (a1)) 4294967295) (Go.bits .and .u64 (IntKind.u64.wrap (a2)) 31)), 0)) else (none)) else (if a0 = 126 then (some (Go.bits .and .i32 a1 a2, 0)) else (if a0 = 128 then (some (Go.bits .or .i32 a1 a2, 0)) else (if a0 = 130 then (some (Go.bits .xor .i32 a1 a2, 0)) else (some (0, 15)))))))) = some (r1, r2) := by rw [if_neg (show ¬ (false = true) by decide)] at H; exact H
              clear H
              have H := H1
              clear H1
              by_cases c12 : a0 = 120
              · rw [if_pos c12] at H
                have c12b0 : (a0 == 120) = true := beq_iff_eq.mpr c12
                have c12b1 : (a0 != 120) = false := bne_eq_false_iff_eq.mpr c12
                clear c12
                obtain ⟨ji13, hji13⟩ : ∃ j_ : Int, (Go.bits .and .u64 (IntKind.u64.wrap (a2)) 31) = j_ := ⟨_, rfl⟩
                replace H : (if 0 ≤ (ji13) then (some (wrap32 (shl .i64 (wrap64 (a1)) (ji13)), 0)) else (none)) = some (r1, r2) := by first | (rw [hji13] at H; exact H) | (simp only [hji13] at H ⊢; exact H)
                by_cases c14 : 0 ≤ (ji13)
                · rw [if_pos c14] at H
                  have c14b0 := eq_true c14
                  have c14b1 : decide (0 ≤ (ji13)) = true := decide_eq_true c14
                  clear c14
                  obtain ⟨ji15, hji15⟩ : ∃ j_ : Int, (shl .i64 (wrap64 (a1)) (ji13)) = j_ := ⟨_, rfl⟩
                  replace H : (some (wrap32 (ji15), 0)) = some (r1, r2) := by first | (rw [hji15] at H; exact H) | (simp only [hji15] at H ⊢; exact H)
                  have hji15_ : (IntKind.i64.wrap ((wrap64 (a1)) * 2 ^ min (ji13).toNat 64)) = ji15 := hji15
                  have hji15z : (ji13) ≤ 64 → (IntKind.i64.wrap ((wrap64 (a1)) * 2 ^ (ji13).toNat)) = ji15 := shl_small hji15
                  have hji15y : (wrap64 ((wrap64 (a1)) * 2 ^ min (ji13).toNat 64)) = ji15 := (i64_w _).symm.trans hji15_
                  have hji15x : (ji13) ≤ 64 → (wrap64 ((wrap64 (a1)) * 2 ^ (ji13).toNat)) = ji15 := fun h_ => (i64_w _).symm.trans (hji15z h_)
                  simp only [Option.some.injEq, Prod.mk.injEq] at H
                  obtain ⟨rfl, rfl⟩ := H
                  go_wp2
                  go_ret2
                  exact ⟨by first | rfl | (simp; done) | (simp only [← hji13, ← hji15] <;> (first | rfl | simp)) | (simp [*]; done), by repeat (first | exact Drawn0.refl _ | apply Drawn0.step)⟩
                · rw [if_neg c14] at H
                  exact absurd H (by simp)
              · rw [if_neg c12] at H
                have c12b0 : (a0 == 120) = false := beq_eq_false_iff_ne.mpr c12
                have c12b1 : (a0 != 120) = true := bne_iff_ne.mpr c12
                by_cases c16 : a0 = 122
                · rw [if_pos c16] at H
                  have c16b0 : (a0 == 122) = true := beq_iff_eq.mpr c16
                  have c16b1 : (a0 != 122) = false := bne_eq_false_iff_eq.mpr c16
                  clear c16
                  obtain ⟨ji17, hji17⟩ : ∃ j_ : Int, (Go.bits .and .u64 (IntKind.u64.wrap (a2)) 31) = j_ := ⟨_, rfl⟩
                  replace H : (if 0 ≤ (ji17) then (some (wrap32 (shr .i64 (wrap64 (a1)) (ji17)), 0)) else (none)) = some (r1, r2) := by first | (rw [hji17] at H; exact H) | (simp only [hji17] at H ⊢; exact H)
                  by_cases c18 : 0 ≤ (ji17)
                  · rw [if_pos c18] at H
                    have c18b0 := eq_true c18
                    have c18b1 : decide (0 ≤ (ji17)) = true := decide_eq_true c18
                    clear c18
                    obtain ⟨ji19, hji19⟩ : ∃ j_ : Int, (shr .i64 (wrap64 (a1)) (ji17)) = j_ := ⟨_, rfl⟩
                    replace H : (some (wrap32 (ji19), 0)) = some (r1, r2) := by first | (rw [hji19] at H; exact H) | (simp only [hji19] at H ⊢; exact H)
                    have hji19_ : ((wrap64 (a1)) / 2 ^ min (ji17).toNat 64) = ji19 := hji19
                    have hji19z : (ji17) ≤ 64 → ((wrap64 (a1)) / 2 ^ (ji17).toNat) = ji19 := shr_small hji19
                    simp only [Option.some.injEq, Prod.mk.injEq] at H
                    obtain ⟨rfl, rfl⟩ := H
                    go_wp2
                    go_ret2
                    exact ⟨by first | rfl | (simp; done) | (simp only [← hji17, ← hji19] <;> (first | rfl | simp)) | (simp [*]; done), by repeat (first | exact Drawn0.refl _ | apply Drawn0.step)⟩
                  · rw [if_neg c18] at H
                    exact absurd H (by simp)
                · rw [if_neg c16] at H
                  have c16b0 : (a0 == 122) = false := beq_eq_false_iff_ne.mpr c16
                  have c16b1 : (a0 != 122) = true := bne_iff_ne.mpr c16
                  by_cases c20 : a0 = 124
                  · rw [if_pos c20] at H
                    have c20b0 : (a0 == 124) = true := beq_iff_eq.mpr c20
                    have c20b1 : (a0 != 124) = false := bne_eq_false_iff_eq.mpr c20
                    clear c20
                    obtain ⟨ji21, hji21⟩ : ∃ j_ : Int, (Go.bits .and .u64 (IntKind.u64.wrap (a2)) 31) = j_ := ⟨_, rfl⟩
                    replace H : (if 0 ≤ (ji21) then (some (wrap32 (shr .i64 (Go.bits .and .i64 (wrap64 (a1)) 4294967295) (ji21)), 0)) else (none)) = some (r1, r2) := by first | (rw [hji21] at H; exact H) | (simp only [hji21] at H ⊢; exact H)
                    by_cases c22 : 0 ≤ (ji21)
                    · rw [if_pos c22] at H
                      have c22b0 := eq_true c22
                      have c22b1 : decide (0 ≤ (ji21)) = true := decide_eq_true c22
                      clear c22
                      obtain ⟨ji23, hji23⟩ : ∃ j_ : Int, (shr .i64 (Go.bits .and .i64 (wrap64 (a1)) 4294967295) (ji21)) = j_ := ⟨_, rfl⟩
                      replace H : (some (wrap32 (ji23), 0)) = some (r1, r2) := by first | (rw [hji23] at H; exact H) | (simp only [hji23] at H ⊢; exact H)
                      have hji23_ : ((Go.bits .and .i64 (wrap64 (a1)) 4294967295) / 2 ^ min (ji21).toNat 64) = ji23 := hji23
                      have hji23z : (ji21) ≤ 64 → ((Go.bits .and .i64 (wrap64 (a1)) 4294967295) / 2 ^ (ji21).toNat) = ji23 := shr_small hji23
                      simp only [Option.some.injEq, Prod.mk.injEq] at H
                      obtain ⟨rfl, rfl⟩ := H
                      go_wp2
                      go_ret2
                      exact ⟨by first | rfl | (simp; done) | (simp only [← hji21, ← hji23] <;> (first | rfl | simp)) | (simp [*]; done), by repeat (first | exact Drawn0.refl _ | apply Drawn0.step)⟩
                    · rw [if_neg c22] at H
                      exact absurd H (by simp)
                  · rw [if_neg c20] at H
                    have c20b0 : (a0 == 124) = false := beq_eq_false_iff_ne.mpr c20
                    have c20b1 : (a0 != 124) = true := bne_iff_ne.mpr c20
                    by_cases c24 : a0 = 126
                    · rw [if_pos c24] at H
                      have c24b0 : (a0 == 126) = true := beq_iff_eq.mpr c24
                      have c24b1 : (a0 != 126) = false := bne_eq_false_iff_eq.mpr c24
                      clear c24
                      simp only [Option.some.injEq, Prod.mk.injEq] at H
                      obtain ⟨rfl, rfl⟩ := H
                      go_wp2
                      go_ret2
                      exact ⟨by first | rfl | (simp; done) | (simp [*]; done), by repeat (first | exact Drawn0.refl _ | apply Drawn0.step)⟩
                    · rw [if_neg c24] at H
                      have c24b0 : (a0 == 126) = false := beq_eq_false_iff_ne.mpr c24
                      have c24b1 : (a0 != 126) = true := bne_iff_ne.mpr c24
                      by_cases c25 : a0 = 128
                      · rw [if_pos c25] at H
                        have c25b0 : (a0 == 128) = true := beq_iff_eq.mpr c25
                        have c25b1 : (a0 != 128) = false := bne_eq_false_iff_eq.mpr c25
                        clear c25
                        simp only [Option.some.injEq, Prod.mk.injEq] at H
                        obtain ⟨rfl, rfl⟩ := H
                        go_wp2
                        go_ret2
                        exact ⟨by first | rfl | (simp; done) | (simp [*]; done), by repeat (first | exact Drawn0.refl _ | apply Drawn0.step)⟩
                      · rw [if_neg c25] at H
                        have c25b0 : (a0 == 128) = false := beq_eq_false_iff_ne.mpr c25
                        have c25b1 : (a0 != 128) = true := bne_iff_ne.mpr c25
                        by_cases c26 : a0 = 130
                        · rw [if_pos c26] at H
                          have c26b0 : (a0 == 130) = true := beq_iff_eq.mpr c26
                          have c26b1 : (a0 != 130) = false := bne_eq_false_iff_eq.mpr c26
                          clear c26
                          simp only [Option.some.injEq, Prod.mk.injEq] at H
                          obtain ⟨rfl, rfl⟩ := H
                          go_wp2
                          go_ret2
                          exact ⟨by first | rfl | (simp; done) | (simp [*]; done), by repeat (first | exact Drawn0.refl _ | apply Drawn0.step)⟩
                        · rw [if_neg c26] at H
                          have c26b0 : (a0 == 130) = false := beq_eq_false_iff_ne.mpr c26
                          have c26b1 : (a0 != 130) = true := bne_iff_ne.mpr c26
                          simp only [Option.some.injEq, Prod.mk.injEq] at H
                          obtain ⟨rfl, rfl⟩ := H
                          go_wp2
                          go_ret2
                          exact ⟨by first | rfl | (simp; done) | (simp [*]; done), by repeat (first | exact Drawn0.refl _ | apply Drawn0.step)⟩

/-! ### caraferef12_One: function 13 -/
def caraferef12_One.f (a0 : Int) (a1 : Int) : Option (Int × Int) := if a0 = 116 then (some (wrap32 (wrap64 (-(wrap64 (a1)))), 0)) else (some (0, 15))
set_option maxHeartbeats 8000000 in
set_option maxRecDepth 100000 in
theorem caraferef12_One.calls (a0 : Int) (a1 : Int) (r1 : Int) (r2 : Int) (w : World) (h : caraferef12_One.f a0 a1 = some (r1, r2)) :
    Calls Try.prog 13 #[.int .i64 a0, .int .i32 a1] w fun e w' => e = .returned (.tuple #[.int .i32 r1, .int .i64 r2]) ∧ Drawn0 w w' := by
  have H : (if a0 = 116 then (some (wrap32 (wrap64 (-(wrap64 (a1)))), 0)) else (some (0, 15))) = some (r1, r2) := h
  clear h
  by_cases c3 : a0 = 116
  · rw [if_pos c3] at H
    have c3b0 : (a0 == 116) = true := beq_iff_eq.mpr c3
    have c3b1 : (a0 != 116) = false := bne_eq_false_iff_eq.mpr c3
    clear c3
    simp only [Option.some.injEq, Prod.mk.injEq] at H
    obtain ⟨rfl, rfl⟩ := H
    go_enter Try.func13, Try.ntmps13
    go_wp2
    go_ret2
    exact ⟨by first | rfl | (simp; done) | (simp [*]; done), by repeat (first | exact Drawn0.refl _ | apply Drawn0.step)⟩
  · rw [if_neg c3] at H
    have c3b0 : (a0 == 116) = false := beq_eq_false_iff_ne.mpr c3
    have c3b1 : (a0 != 116) = true := bne_iff_ne.mpr c3
    simp only [Option.some.injEq, Prod.mk.injEq] at H
    obtain ⟨rfl, rfl⟩ := H
    go_enter Try.func13, Try.ntmps13
    go_wp2
    go_ret2
    exact ⟨by first | rfl | (simp; done) | (simp [*]; done), by repeat (first | exact Drawn0.refl _ | apply Drawn0.step)⟩

end Go.Proofs.Ytiapkipcngnnmaa.PArithReckons
