-- Written for this claim by a program of our own (myprint).
import Derived.Test.YtiapkipcngnnmaaPArithLawsx0
namespace Go.Proofs.Ytiapkipcngnnmaa.PArithLaws
open Go.RowKit Go.Proofs.YtiapkipcngnnmaaW.PrintWords Go.Proofs.YtiapkipcngnnmaaW.PrintLast Go.Proofs.YtiapkipcngnnmaaW.PrintMore
attribute [local go_sem] max2_int min2_int max_two min_two max_three min_three max_four min_four   -- for this text's walks alone
set_option linter.unusedVariables false
set_option linter.unusedSimpArgs false

/-! ### arith_divided: function 17 -/
def arith_divided.f (a0 : Int) (a1 : Int) (a2 : Int) : Option (Int × Int) := if a2 = 0 then (some (0, 22)) else (if a0 = 112 then (some (wrap32 (Int.tmod a1 a2), 0)) else (some (wrap32 (wrap64 (Int.tdiv a1 a2)), 0)))
set_option maxHeartbeats 8000000 in
set_option maxRecDepth 100000 in
theorem arith_divided.calls (a0 : Int) (a1 : Int) (a2 : Int) (r1 : Int) (r2 : Int) (w : World) (h : arith_divided.f a0 a1 a2 = some (r1, r2)) :
    Calls Try.prog 17 #[.int .i64 a0, .int .i64 a1, .int .i64 a2] w fun e w' => e = .returned (.tuple #[.int .i32 r1, .int .i64 r2]) ∧ Drawn0 w w' := by
  have H : (if a2 = 0 then (some (0, 22)) else (if a0 = 112 then (some (wrap32 (Int.tmod a1 a2), 0)) else (some (wrap32 (wrap64 (Int.tdiv a1 a2)), 0)))) = some (r1, r2) := h
  clear h
  by_cases c4 : a2 = 0
  · rw [if_pos c4] at H
    have c4b0 : (a2 == 0) = true := beq_iff_eq.mpr c4
    have c4b1 : (a2 != 0) = false := bne_eq_false_iff_eq.mpr c4
    clear c4
    simp only [Option.some.injEq, Prod.mk.injEq] at H
    obtain ⟨rfl, rfl⟩ := H
    go_enter Try.func17, Try.ntmps17
    go_wp2
    go_ret2
    exact ⟨by first | rfl | (simp; done) | (simp [*]; done), by repeat (first | exact Drawn0.refl _ | apply Drawn0.step)⟩
  · rw [if_neg c4] at H
    have c4b0 : (a2 == 0) = false := beq_eq_false_iff_ne.mpr c4
    have c4b1 : (a2 != 0) = true := bne_iff_ne.mpr c4
    by_cases c5 : a0 = 112
    · rw [if_pos c5] at H
      have c5b0 : (a0 == 112) = true := beq_iff_eq.mpr c5
      have c5b1 : (a0 != 112) = false := bne_eq_false_iff_eq.mpr c5
      clear c5
      simp only [Option.some.injEq, Prod.mk.injEq] at H
      obtain ⟨rfl, rfl⟩ := H
      go_enter Try.func17, Try.ntmps17
      go_wp2
      go_ret2
      exact ⟨by first | rfl | (simp; done) | (simp [*]; done), by repeat (first | exact Drawn0.refl _ | apply Drawn0.step)⟩
    · rw [if_neg c5] at H
      have c5b0 : (a0 == 112) = false := beq_eq_false_iff_ne.mpr c5
      have c5b1 : (a0 != 112) = true := bne_iff_ne.mpr c5
      simp only [Option.some.injEq, Prod.mk.injEq] at H
      obtain ⟨rfl, rfl⟩ := H
      go_enter Try.func17, Try.ntmps17
      go_wp2
      go_ret2
      exact ⟨by first | rfl | (simp; done) | (simp [*]; done), by repeat (first | exact Drawn0.refl _ | apply Drawn0.step)⟩

/-! ### arith_Two: function 11 -/
def arith_Two.j0 : Nat → Int → Int → Int → Int → Bool → Option (Int × Int)
  | 0, _, _, _, _, _ => none
  | k + 1, x0, x1, x2, x8, x24 => if x24 = true then ((arith_divided.f x0 (wrap64 (x1)) (wrap64 (x2))).bind fun bt101 => (some (bt101.1, bt101.2))) else (if x8 = 120 then (if 0 ≤ (Go.bits .and .i32 x2 31) then (some (shl .i32 x1 (Go.bits .and .i32 x2 31), 0)) else (none)) else (if x8 = 122 then (if 0 ≤ (Go.bits .and .i32 x2 31) then (some (shr .i32 x1 (Go.bits .and .i32 x2 31), 0)) else (none)) else (if x8 = 124 then (if 0 ≤ (Go.bits .and .i32 x2 31) then (some (wrap32 (shr .u32 ((x1) % 4294967296) (Go.bits .and .i32 x2 31)), 0)) else (none)) else (if x8 = 126 then (some (Go.bits .and .i32 x1 x2, 0)) else (if x8 = 128 then (some (Go.bits .or .i32 x1 x2, 0)) else (if x8 = 130 then (some (Go.bits .xor .i32 x1 x2, 0)) else (some (0, 15))))))))
def arith_Two.f (k : Nat) (a0 : Int) (a1 : Int) (a2 : Int) : Option (Int × Int) := if a0 = 96 then (some (wrap32 (a1 + a2), 0)) else (if a0 = 100 then (some (wrap32 (a1 - a2), 0)) else (if a0 = 104 then (some (wrap32 (a1 * a2), 0)) else (if a0 = 108 then (arith_Two.j0 k a0 a1 a2 a0 (a0 == 108)) else (arith_Two.j0 k a0 a1 a2 a0 (a0 == 112)))))
theorem arith_Two.mono_l : ∀ k, (∀ y0 y1 y2 y3 y4, LeO (arith_Two.j0 k y0 y1 y2 y3 y4) (arith_Two.j0 (k + 1) y0 y1 y2 y3 y4))
  | 0 => fun _ _ _ _ _ r h => by simp [arith_Two.j0] at h
  | k + 1 => by
    have ih0 := arith_Two.mono_l k
    · intro y0 y1 y2 y3 y4
      unfold arith_Two.j0
      repeat' first
      | (with_reducible exact ih0 _ _ _ _ _)
      | (with_reducible exact LeO.refl _)
      | (with_reducible exact LeO.none _)
      | (with_reducible refine LeO.ite ?_ ?_)
      | (with_reducible refine LeO.bind ?_ (fun _ => ?_))
      | exact ih0 _ _ _ _ _
      | exact LeO.none _
      | refine LeO.ite ?_ ?_
      | refine LeO.bind ?_ (fun _ => ?_)
theorem arith_Two.mono : ∀ a0 a1 a2 k, LeO (arith_Two.f k a0 a1 a2) (arith_Two.f (k + 1) a0 a1 a2) := by
  intro a0 a1 a2 k
  have ih0 := arith_Two.mono_l k
  unfold arith_Two.f
  repeat' first
      | (with_reducible exact ih0 _ _ _ _ _)
      | (with_reducible exact LeO.refl _)
      | (with_reducible exact LeO.none _)
      | (with_reducible refine LeO.ite ?_ ?_)
      | (with_reducible refine LeO.bind ?_ (fun _ => ?_))
      | exact ih0 _ _ _ _ _
      | exact LeO.none _
      | refine LeO.ite ?_ ?_
      | refine LeO.bind ?_ (fun _ => ?_)
set_option maxHeartbeats 8000000 in
set_option maxRecDepth 100000 in
theorem arith_Two.calls (k : Nat) (a0 : Int) (a1 : Int) (a2 : Int) (r1 : Int) (r2 : Int) (w : World) (h : arith_Two.f k a0 a1 a2 = some (r1, r2)) :
    Calls Try.prog 11 #[.int .i64 a0, .int .i32 a1, .int .i32 a2] w fun e w' => e = .returned (.tuple #[.int .i32 r1, .int .i64 r2]) ∧ Drawn0 w w' := by
  have H : (if a0 = 96 then (some (wrap32 (a1 + a2), 0)) else (if a0 = 100 then (some (wrap32 (a1 - a2), 0)) else (if a0 = 104 then (some (wrap32 (a1 * a2), 0)) else (if a0 = 108 then (arith_Two.j0 k a0 a1 a2 a0 (a0 == 108)) else (arith_Two.j0 k a0 a1 a2 a0 (a0 == 112)))))) = some (r1, r2) := h
  clear h
  by_cases c4 : a0 = 96
  · rw [if_pos c4] at H
    have c4b0 : (a0 == 96) = true := beq_iff_eq.mpr c4
    have c4b1 : (a0 != 96) = false := bne_eq_false_iff_eq.mpr c4
    clear c4
    simp only [Option.some.injEq, Prod.mk.injEq] at H
    obtain ⟨rfl, rfl⟩ := H
    go_enter Try.func11, Try.ntmps11
    go_wp2
    go_ret2
    exact ⟨by first | rfl | (simp; done) | (simp [*]; done), by repeat (first | exact Drawn0.refl _ | apply Drawn0.step)⟩
  · rw [if_neg c4] at H
    have c4b0 : (a0 == 96) = false := beq_eq_false_iff_ne.mpr c4
    have c4b1 : (a0 != 96) = true := bne_iff_ne.mpr c4
    by_cases c5 : a0 = 100
    · rw [if_pos c5] at H
      have c5b0 : (a0 == 100) = true := beq_iff_eq.mpr c5
      have c5b1 : (a0 != 100) = false := bne_eq_false_iff_eq.mpr c5
      clear c5
      simp only [Option.some.injEq, Prod.mk.injEq] at H
      obtain ⟨rfl, rfl⟩ := H
      go_enter Try.func11, Try.ntmps11
      go_wp2
      go_ret2
      exact ⟨by first | rfl | (simp; done) | (simp [*]; done), by repeat (first | exact Drawn0.refl _ | apply Drawn0.step)⟩
    · rw [if_neg c5] at H
      have c5b0 : (a0 == 100) = false := beq_eq_false_iff_ne.mpr c5
      have c5b1 : (a0 != 100) = true := bne_iff_ne.mpr c5
      by_cases c6 : a0 = 104
      · rw [if_pos c6] at H
        have c6b0 : (a0 == 104) = true := beq_iff_eq.mpr c6
        have c6b1 : (a0 != 104) = false := bne_eq_false_iff_eq.mpr c6
        clear c6
        simp only [Option.some.injEq, Prod.mk.injEq] at H
        obtain ⟨rfl, rfl⟩ := H
        go_enter Try.func11, Try.ntmps11
        go_wp2
        go_ret2
        exact ⟨by first | rfl | (simp; done) | (simp [*]; done), by repeat (first | exact Drawn0.refl _ | apply Drawn0.step)⟩
      · rw [if_neg c6] at H
        have c6b0 : (a0 == 104) = false := beq_eq_false_iff_ne.mpr c6
        have c6b1 : (a0 != 104) = true := bne_iff_ne.mpr c6
        have HC7 := Aside0.mk H
        clear H
        go_enter Try.func11, Try.ntmps11
        go_upto_if 24 with (fail)
        go_cut [24] (fun v24 wc => ∃ (kq : Nat) (x24_6 : Bool), v24 = .bool x24_6 ∧ Aside0 (arith_Two.j0 kq a0 a1 a2 a0 x24_6 = some (r1, r2)) ∧ Aside0 (kq ≤ k) ∧ Drawn0 w wc)
        case first =>
          have H := HC7.out
          clear HC7
          by_cases c8 : a0 = 108
          · rw [if_pos c8] at H
            have c8b0 : (a0 == 108) = true := beq_iff_eq.mpr c8
            have c8b1 : (a0 != 108) = false := bne_eq_false_iff_eq.mpr c8
            clear c8
            (first | rw [c8b0] | (simp only [i64_w, i32_w]; rw [c8b0]) | skip)
            have H' := Aside0.mk H
            clear H
            go_wp2
            go_meet
            case rel => exact ⟨_, ((a0 == 108)), (by first | rfl | (simp; done) | (simp [*]; done)), H', ⟨by first | omega | exact Nat.le_refl _⟩, by repeat (first | exact Drawn0.refl _ | apply Drawn0.step)⟩
          · rw [if_neg c8] at H
            have c8b0 : (a0 == 108) = false := beq_eq_false_iff_ne.mpr c8
            have c8b1 : (a0 != 108) = true := bne_iff_ne.mpr c8
            (first | rw [c8b0] | (simp only [i64_w, i32_w]; rw [c8b0]) | skip)
            have H' := Aside0.mk H
            clear H
            go_wp2
            go_meet
            case rel => exact ⟨_, ((a0 == 112)), (by first | rfl | (simp; done) | (simp [*]; done)), H', ⟨by first | omega | exact Nat.le_refl _⟩, by repeat (first | exact Drawn0.refl _ | apply Drawn0.step)⟩
        case rest =>
          clear HC7
          try clear c1
          try clear p2
          try clear p3
          try clear c4
          try clear c4b0
          try clear c4b1
          try clear c5
          try clear c5b0
          try clear c5b1
          try clear c6
          try clear c6b0
          try clear c6b1
          try clear c8
          try clear c8b0
          try clear c8b1
          obtain ⟨kq, x24_6, rfl, HA, HJ6, ⟨mc6, rfl⟩⟩ := hcut
          cases kq with
          | zero => exact absurd HA.out (by simp [arith_Two.j0])
          | succ kj6 =>
            have H := HA.out
            clear HA
            simp only [arith_Two.j0] at H
            by_cases c9 : x24_6 = true
            · subst c9
              have H1 : ((arith_divided.f a0 (wrap64 (a1)) (wrap64 (a2))).bind fun bt101 => (some (bt101.1, bt101.2))) = some (r1, r2) := by rw [if_pos rfl] at H; exact H
              clear H
              have H := H1
              clear H1
              replace H := Option.bind_eq_some_iff.mp H
              obtain ⟨⟨t101, t102⟩, A100, H⟩ := H
              replace H : (some (t101, t102)) = some (r1, r2) := H
              have A10 := Aside0.mk A100
              clear A100
              simp only [Option.some.injEq, Prod.mk.injEq] at H
              obtain ⟨rfl, rfl⟩ := H
              go_wp2_with (first | ((with_reducible refine gate_callee (f := 17) rfl ?_); refine goesL_ (some 32) rfl rfl Try.func17 (by kernel_rfl) rfl #[.int .i64 a0, .int .i64 (wrap64 (a1)), .int .i64 (wrap64 (a2))] rfl (by (try simp only [List.map_toArray, List.map_cons, List.map_nil]); first | done | rfl | (simp only [List.length_drop, List.length_take]; rfl)) ?_; (with_reducible refine (arith_divided.calls a0 (wrap64 (a1)) (wrap64 (a2)) t101 t102 _ A10.out).mono ?_); rintro e w' ⟨rfl, ⟨nd, rfl⟩⟩; refine ⟨_, rfl, ?_⟩))
              go_ret2
              exact ⟨by first | rfl | (simp; done) | (simp [*]; done), by repeat (first | exact Drawn0.refl _ | apply Drawn0.step)⟩
            · replace c9 := Bool.eq_false_iff.mpr c9
              subst c9
              have H1 : (if a0 = 120 then (if 0 ≤ (Go.bits .and .i32 a2 31) then (some (shl .i32 a1 (Go.bits .and .i32 a2 31), 0)) else (none)) else (if a0 = 122 then (if 0 ≤ (Go.bits .and .i32 a2 31) then (some (shr .i32 a1 (Go.bits .and .i32 a2 31), 0)) else (none)) else (if a0 = 124 then (if 0 ≤ (Go.bits .and .i32 a2 31) then (some (wrap32 (shr .u32 ((a1) % 4294967296) (Go.bits .and .i32 a2 31)), 0)) else (none)) else (if a0 = 126 then (some (Go.bits .and .i32 a1 a2, 0)) else (if a0 = 128 then (some (Go.bits .or .i32 a1 a2, 0)) else (if a0 = 130 then (some (Go.bits .xor .i32 a1 a2, 0)) else (some (0, 15)))))))) = some (r1, r2) := by rw [if_neg (show ¬ (false = true) by decide)] at H; exact H
              clear H
              have H := H1
              clear H1
              by_cases c11 : a0 = 120
              · rw [if_pos c11] at H
                have c11b0 : (a0 == 120) = true := beq_iff_eq.mpr c11
                have c11b1 : (a0 != 120) = false := bne_eq_false_iff_eq.mpr c11
                clear c11
                by_cases c12 : 0 ≤ (Go.bits .and .i32 a2 31)
                · rw [if_pos c12] at H
                  have c12b0 := eq_true c12
                  have c12b1 : decide (0 ≤ (Go.bits .and .i32 a2 31)) = true := decide_eq_true c12
                  clear c12
                  obtain ⟨ji13, hji13⟩ : ∃ j_ : Int, (shl .i32 a1 (Go.bits .and .i32 a2 31)) = j_ := ⟨_, rfl⟩
                  replace H : (some (ji13, 0)) = some (r1, r2) := by first | (rw [hji13] at H; exact H) | (simp only [hji13] at H ⊢; exact H)
                  have hji13_ : (IntKind.i32.wrap (a1 * 2 ^ min (Go.bits .and .i32 a2 31).toNat 32)) = ji13 := hji13
                  have hji13z : (Go.bits .and .i32 a2 31) ≤ 32 → (IntKind.i32.wrap (a1 * 2 ^ (Go.bits .and .i32 a2 31).toNat)) = ji13 := shl_small hji13
                  have hji13y : (wrap32 (a1 * 2 ^ min (Go.bits .and .i32 a2 31).toNat 32)) = ji13 := (i32_w _).symm.trans hji13_
                  have hji13x : (Go.bits .and .i32 a2 31) ≤ 32 → (wrap32 (a1 * 2 ^ (Go.bits .and .i32 a2 31).toNat)) = ji13 := fun h_ => (i32_w _).symm.trans (hji13z h_)
                  simp only [Option.some.injEq, Prod.mk.injEq] at H
                  obtain ⟨rfl, rfl⟩ := H
                  go_wp2
                  go_ret2
                  exact ⟨by first | rfl | (simp; done) | (simp only [← hji13] <;> (first | rfl | simp)) | (simp [*]; done), by repeat (first | exact Drawn0.refl _ | apply Drawn0.step)⟩
                · rw [if_neg c12] at H
                  exact absurd H (by simp)
              · rw [if_neg c11] at H
                have c11b0 : (a0 == 120) = false := beq_eq_false_iff_ne.mpr c11
                have c11b1 : (a0 != 120) = true := bne_iff_ne.mpr c11
                by_cases c14 : a0 = 122
                · rw [if_pos c14] at H
                  have c14b0 : (a0 == 122) = true := beq_iff_eq.mpr c14
                  have c14b1 : (a0 != 122) = false := bne_eq_false_iff_eq.mpr c14
                  clear c14
                  by_cases c15 : 0 ≤ (Go.bits .and .i32 a2 31)
                  · rw [if_pos c15] at H
                    have c15b0 := eq_true c15
                    have c15b1 : decide (0 ≤ (Go.bits .and .i32 a2 31)) = true := decide_eq_true c15
                    clear c15
                    obtain ⟨ji16, hji16⟩ : ∃ j_ : Int, (shr .i32 a1 (Go.bits .and .i32 a2 31)) = j_ := ⟨_, rfl⟩
                    replace H : (some (ji16, 0)) = some (r1, r2) := by first | (rw [hji16] at H; exact H) | (simp only [hji16] at H ⊢; exact H)
                    have hji16_ : (a1 / 2 ^ min (Go.bits .and .i32 a2 31).toNat 32) = ji16 := hji16
                    have hji16z : (Go.bits .and .i32 a2 31) ≤ 32 → (a1 / 2 ^ (Go.bits .and .i32 a2 31).toNat) = ji16 := shr_small hji16
                    simp only [Option.some.injEq, Prod.mk.injEq] at H
                    obtain ⟨rfl, rfl⟩ := H
                    go_wp2
                    go_ret2
                    exact ⟨by first | rfl | (simp; done) | (simp only [← hji16] <;> (first | rfl | simp)) | (simp [*]; done), by repeat (first | exact Drawn0.refl _ | apply Drawn0.step)⟩
                  · rw [if_neg c15] at H
                    exact absurd H (by simp)
                · rw [if_neg c14] at H
                  have c14b0 : (a0 == 122) = false := beq_eq_false_iff_ne.mpr c14
                  have c14b1 : (a0 != 122) = true := bne_iff_ne.mpr c14
                  by_cases c17 : a0 = 124
                  · rw [if_pos c17] at H
                    have c17b0 : (a0 == 124) = true := beq_iff_eq.mpr c17
                    have c17b1 : (a0 != 124) = false := bne_eq_false_iff_eq.mpr c17
                    clear c17
                    by_cases c18 : 0 ≤ (Go.bits .and .i32 a2 31)
                    · rw [if_pos c18] at H
                      have c18b0 := eq_true c18
                      have c18b1 : decide (0 ≤ (Go.bits .and .i32 a2 31)) = true := decide_eq_true c18
                      clear c18
                      obtain ⟨ji19, hji19⟩ : ∃ j_ : Int, (shr .u32 ((a1) % 4294967296) (Go.bits .and .i32 a2 31)) = j_ := ⟨_, rfl⟩
                      replace H : (some (wrap32 (ji19), 0)) = some (r1, r2) := by first | (rw [hji19] at H; exact H) | (simp only [hji19] at H ⊢; exact H)
                      have hji19_ : (((a1) % 4294967296) / 2 ^ min (Go.bits .and .i32 a2 31).toNat 32) = ji19 := hji19
                      have hji19z : (Go.bits .and .i32 a2 31) ≤ 32 → (((a1) % 4294967296) / 2 ^ (Go.bits .and .i32 a2 31).toNat) = ji19 := shr_small hji19
                      simp only [Option.some.injEq, Prod.mk.injEq] at H
                      obtain ⟨rfl, rfl⟩ := H
                      go_wp2
                      go_ret2
                      exact ⟨by first | rfl | (simp; done) | (simp only [← hji19] <;> (first | rfl | simp)) | (simp [*]; done), by repeat (first | exact Drawn0.refl _ | apply Drawn0.step)⟩
                    · rw [if_neg c18] at H
                      exact absurd H (by simp)
                  · rw [if_neg c17] at H
                    have c17b0 : (a0 == 124) = false := beq_eq_false_iff_ne.mpr c17
                    have c17b1 : (a0 != 124) = true := bne_iff_ne.mpr c17
                    by_cases c20 : a0 = 126
                    · rw [if_pos c20] at H
                      have c20b0 : (a0 == 126) = true := beq_iff_eq.mpr c20
                      have c20b1 : (a0 != 126) = false := bne_eq_false_iff_eq.mpr c20
                      clear c20
                      simp only [Option.some.injEq, Prod.mk.injEq] at H
                      obtain ⟨rfl, rfl⟩ := H
                      go_wp2
                      go_ret2
                      exact ⟨by first | rfl | (simp; done) | (simp [*]; done), by repeat (first | exact Drawn0.refl _ | apply Drawn0.step)⟩
                    · rw [if_neg c20] at H
                      have c20b0 : (a0 == 126) = false := beq_eq_false_iff_ne.mpr c20
                      have c20b1 : (a0 != 126) = true := bne_iff_ne.mpr c20
                      by_cases c21 : a0 = 128
                      · rw [if_pos c21] at H
                        have c21b0 : (a0 == 128) = true := beq_iff_eq.mpr c21
                        have c21b1 : (a0 != 128) = false := bne_eq_false_iff_eq.mpr c21
                        clear c21
                        simp only [Option.some.injEq, Prod.mk.injEq] at H
                        obtain ⟨rfl, rfl⟩ := H
                        go_wp2
                        go_ret2
                        exact ⟨by first | rfl | (simp; done) | (simp [*]; done), by repeat (first | exact Drawn0.refl _ | apply Drawn0.step)⟩
                      · rw [if_neg c21] at H
                        have c21b0 : (a0 == 128) = false := beq_eq_false_iff_ne.mpr c21
                        have c21b1 : (a0 != 128) = true := bne_iff_ne.mpr c21
                        by_cases c22 : a0 = 130
                        · rw [if_pos c22] at H
                          have c22b0 : (a0 == 130) = true := beq_iff_eq.mpr c22
                          have c22b1 : (a0 != 130) = false := bne_eq_false_iff_eq.mpr c22
                          clear c22
                          simp only [Option.some.injEq, Prod.mk.injEq] at H
                          obtain ⟨rfl, rfl⟩ := H
                          go_wp2
                          go_ret2
                          exact ⟨by first | rfl | (simp; done) | (simp [*]; done), by repeat (first | exact Drawn0.refl _ | apply Drawn0.step)⟩
                        · rw [if_neg c22] at H
                          have c22b0 : (a0 == 130) = false := beq_eq_false_iff_ne.mpr c22
                          have c22b1 : (a0 != 130) = true := bne_iff_ne.mpr c22
                          simp only [Option.some.injEq, Prod.mk.injEq] at H
                          obtain ⟨rfl, rfl⟩ := H
                          go_wp2
                          go_ret2
                          exact ⟨by first | rfl | (simp; done) | (simp [*]; done), by repeat (first | exact Drawn0.refl _ | apply Drawn0.step)⟩

/-! ### carafelaw12_two: function 7 -/
def carafelaw12_two.f (k : Nat) (a0 : Int) (a1 : Int) (a2 : Int) : Option (Int) := (arith_Two.f k a0 a1 a2).bind fun bt103 => (some bt103.1)
theorem carafelaw12_two.mono : ∀ a0 a1 a2 k, LeO (carafelaw12_two.f k a0 a1 a2) (carafelaw12_two.f (k + 1) a0 a1 a2) := by
  intro a0 a1 a2 k
  unfold carafelaw12_two.f
  repeat' first
      | (with_reducible exact arith_Two.mono _ _ _ _)
      | (with_reducible exact LeO.refl _)
      | (with_reducible exact LeO.none _)
      | (with_reducible refine LeO.ite ?_ ?_)
      | (with_reducible refine LeO.bind ?_ (fun _ => ?_))
      | exact arith_Two.mono _ _ _ _
      | exact LeO.none _
      | refine LeO.ite ?_ ?_
      | refine LeO.bind ?_ (fun _ => ?_)
set_option maxHeartbeats 8000000 in
set_option maxRecDepth 100000 in
theorem carafelaw12_two.calls (k : Nat) (a0 : Int) (a1 : Int) (a2 : Int) (r : Int) (w : World) (h : carafelaw12_two.f k a0 a1 a2 = some r) :
    Calls Try.prog 7 #[.int .i64 a0, .int .i32 a1, .int .i32 a2] w fun e w' => e = .returned (.int .i32 r) ∧ Drawn0 w w' := by
  have H : ((arith_Two.f k a0 a1 a2).bind fun bt103 => (some bt103.1)) = some r := h
  clear h
  replace H := Option.bind_eq_some_iff.mp H
  obtain ⟨⟨t103, t104⟩, A40, H⟩ := H
  replace H : (some t103) = some r := H
  have A4 := Aside0.mk A40
  clear A40
  obtain rfl := Option.some.inj H
  go_enter Try.func7, Try.ntmps7
  go_wp2_with (first | ((with_reducible refine gate_callee (f := 11) rfl ?_); refine goesL_ (some 13) rfl rfl Try.func11 (by kernel_rfl) rfl #[.int .i64 a0, .int .i32 a1, .int .i32 a2] rfl (by (try simp only [List.map_toArray, List.map_cons, List.map_nil]); first | done | rfl | (simp only [List.length_drop, List.length_take]; rfl)) ?_; (with_reducible refine (arith_Two.calls k a0 a1 a2 t103 t104 _ A4.out).mono ?_); rintro e w' ⟨rfl, ⟨nd, rfl⟩⟩; refine ⟨_, rfl, ?_⟩))
  go_ret
  exact ⟨by first | rfl | (simp; done) | (simp [*]; done), by repeat (first | exact Drawn0.refl _ | apply Drawn0.step)⟩

end Go.Proofs.Ytiapkipcngnnmaa.PArithLaws
