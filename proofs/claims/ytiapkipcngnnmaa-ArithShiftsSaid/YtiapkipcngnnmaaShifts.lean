/- The walk of the law ArithShifts and its arithmetic: for every pair of 32-bit numbers the call returns true. No condition. -/
import Derived.Test.YtiapkipcngnnmaaPArithShiftsx2
namespace Go.Proofs.Ytiapkipcngnnmaa.Shifts
open Go.RowKit Go.Proofs.YtiapkipcngnnmaaW.PrintWords Go.Proofs.YtiapkipcngnnmaaW.PrintLast Go.Proofs.YtiapkipcngnnmaaW.PrintMore
open Go.Proofs.Ytiapkipcngnnmaa.PArithShifts
set_option linter.unusedVariables false
set_option linter.unusedSimpArgs false

def Two (op a b r : Int) : Prop := ∀ w, Calls Try.prog 7 #[.int .i64 op, .int .i32 a, .int .i32 b] w fun e w' => e = .returned (.int .i32 r) ∧ Drawn0 w w'
def Known : Prop := ∀ w, Calls Try.prog 8 #[] w fun e w' => e = .returned (.bool true) ∧ Drawn0 w w'

theorem two_of {op a b r : Int} (k : Nat) (h : carafelaw12_two.f k op a b = some r) : Two op a b r := fun w => carafelaw12_two.calls k op a b r w h
theorem known_holds : Known := fun w => carafelaw12_known.calls 1 true w (by decide +kernel)

theorem and31 (b : Int) : Go.bits .and .i32 b 31 = b % 32 := by
  have h2 : (BitVec.ofInt IntKind.i32.bits b).toNat = (b % 4294967296).toNat := by rw [BitVec.toNat_ofInt]; rfl
  have h4 : (BitVec.ofInt IntKind.i32.bits 31).toNat = 31 := by rw [BitVec.toNat_ofInt]; rfl
  have h3 : (b % 4294967296).toNat &&& 31 = (b % 4294967296).toNat % 32 := by
    have := Nat.and_two_pow_sub_one_eq_mod (b % 4294967296).toNat 5
    simpa using this
  unfold Go.bits
  simp only [BitVec.toNat_and, h2, h4, h3]
  rw [IntKind.wrap_i32]
  omega

theorem walk0 (a b j p q m d s t : Int) (w : World) (hk : Go.bits .and .i32 b 31 = j) (h0 : 0 ≤ j) (h31 : j ≤ 31)
   (ha0 : -2147483648 ≤ a) (ha1 : a ≤ 2147483647) (hu : IntKind.u64.wrap j = j)
   (hp : IntKind.i64.wrap (2 ^ j.toNat) = p) (hp0 : 1 ≤ p) (hq : Int.tdiv a p = q) (hm : Int.tmod a p = m) (hq0 : -2147483648 ≤ q) (hq1 : q ≤ 2147483648)
   (hd0 : -2147483648 ≤ d) (hd1 : d ≤ 2147483647) (hs : (s == wrap32 (a % 4294967296 / 2 ^ j.toNat)) = true) (ht : (t == wrap32 (a % 4294967296 * 2 ^ j.toNat % 4294967296)) = true)
   (hcase : (a < 0 ∧ m ≠ 0 ∧ d = q - 1) ∨ (a < 0 ∧ m = 0 ∧ d = q) ∨ (0 ≤ a ∧ d = q))
   (T1 : Two 122 a b d) (T2 : Two 124 a b s) (T3 : Two 120 a b t) (T4 : Two 120 a 0 a) (T5 : Two 122 a 0 a) (TK : Known):
    Calls Try.prog 3 #[.int .i32 a, .int .i32 b] w fun e w' => e = .returned (.bool true) ∧ Drawn0 w w' := by
  have T1' := Aside0.mk T1
  have T2' := Aside0.mk T2
  have T3' := Aside0.mk T3
  have T4' := Aside0.mk T4
  have T5' := Aside0.mk T5
  have TK' := Aside0.mk TK
  clear T1 T2 T3 T4 T5 TK
  rcases hcase with ⟨c1, c2, c3⟩ | ⟨c1, c2, c3⟩ | ⟨c1, c3⟩
  · have hc2 : (m != 0) = true := bne_iff_ne.mpr c2
    have hc1 : decide (a < 0) = true := by simpa using c1
    have hc3 : (d == q - 1) = true := beq_iff_eq.mpr c3
    clear c2 c3
    go_enter Try.func3, Try.ntmps3
    go_wp2_with fail
    refine (T1'.out _).mono ?_
    rintro e w' ⟨rfl, ⟨nd, rfl⟩⟩
    go_wp2_with fail
    refine (T2'.out _).mono ?_
    rintro e w' ⟨rfl, ⟨nd, rfl⟩⟩
    go_wp2_with fail
    refine (T3'.out _).mono ?_
    rintro e w' ⟨rfl, ⟨nd, rfl⟩⟩
    go_wp2_with fail
    refine (T4'.out _).mono ?_
    rintro e w' ⟨rfl, ⟨nd, rfl⟩⟩
    go_wp2_with fail
    refine (T5'.out _).mono ?_
    rintro e w' ⟨rfl, ⟨nd, rfl⟩⟩
    go_wp2_with fail
    refine (TK'.out _).mono ?_
    rintro e w' ⟨rfl, ⟨nd, rfl⟩⟩
    go_wp2
    go_ret
    exact ⟨rfl, ⟨_, rfl⟩⟩
  · have hc2 : (m != 0) = false := bne_eq_false_iff_eq.mpr c2
    have hc1 : decide (a < 0) = true := by simpa using c1
    have hc3 : (d == q) = true := beq_iff_eq.mpr c3
    clear c2 c3
    go_enter Try.func3, Try.ntmps3
    go_wp2_with fail
    refine (T1'.out _).mono ?_
    rintro e w' ⟨rfl, ⟨nd, rfl⟩⟩
    go_wp2_with fail
    refine (T2'.out _).mono ?_
    rintro e w' ⟨rfl, ⟨nd, rfl⟩⟩
    go_wp2_with fail
    refine (T3'.out _).mono ?_
    rintro e w' ⟨rfl, ⟨nd, rfl⟩⟩
    go_wp2_with fail
    refine (T4'.out _).mono ?_
    rintro e w' ⟨rfl, ⟨nd, rfl⟩⟩
    go_wp2_with fail
    refine (T5'.out _).mono ?_
    rintro e w' ⟨rfl, ⟨nd, rfl⟩⟩
    go_wp2_with fail
    refine (TK'.out _).mono ?_
    rintro e w' ⟨rfl, ⟨nd, rfl⟩⟩
    go_wp2
    go_ret
    exact ⟨rfl, ⟨_, rfl⟩⟩
  · rw [show a % 4294967296 = a from by omega] at hs ht
    have hc1 : decide (a < 0) = false := by simp; omega
    have hc3 : (d == q) = true := beq_iff_eq.mpr c3
    clear c3
    go_enter Try.func3, Try.ntmps3
    go_wp2_with fail
    refine (T1'.out _).mono ?_
    rintro e w' ⟨rfl, ⟨nd, rfl⟩⟩
    go_wp2_with fail
    refine (T2'.out _).mono ?_
    rintro e w' ⟨rfl, ⟨nd, rfl⟩⟩
    go_wp2_with fail
    refine (T3'.out _).mono ?_
    rintro e w' ⟨rfl, ⟨nd, rfl⟩⟩
    go_wp2_with fail
    refine (T4'.out _).mono ?_
    rintro e w' ⟨rfl, ⟨nd, rfl⟩⟩
    go_wp2_with fail
    refine (T5'.out _).mono ?_
    rintro e w' ⟨rfl, ⟨nd, rfl⟩⟩
    go_wp2_with fail
    refine (TK'.out _).mono ?_
    rintro e w' ⟨rfl, ⟨nd, rfl⟩⟩
    go_wp2
    go_ret
    exact ⟨rfl, ⟨_, rfl⟩⟩

theorem pow_cases (j : Int) (h0 : 0 ≤ j) (h31 : j ≤ 31) : (1 : Int) ≤ 2 ^ j.toNat ∧ (2 : Int) ^ j.toNat ≤ 2147483648 := by
  have hn : j.toNat ≤ 31 := by omega
  have h1 : (2 : Nat) ^ j.toNat ≤ 2147483648 := Nat.le_trans (Nat.pow_le_pow_right (by decide) hn) (Nat.le_of_eq (by rfl : 2 ^ 31 = 2147483648))
  have h2 : 0 < (2 : Nat) ^ j.toNat := Nat.two_pow_pos _
  have h3 : ((2 ^ j.toNat : Nat) : Int) = (2 : Int) ^ j.toNat := by push_cast; rfl
  rw [← h3]
  generalize (2 : Nat) ^ j.toNat = x at h1 h2
  exact ⟨by omega, by omega⟩

theorem two_shr (a b : Int) (n : Nat) (hk : Go.bits .and .i32 b 31 = (n : Int)) (hn : n ≤ 31) : carafelaw12_two.f 1 122 a b = some (a / 2 ^ n) := by
  simp [carafelaw12_two.f, arith_Two.f, arith_Two.j0, hk, shr, IntKind.bits, Nat.min_eq_left (Nat.le_trans hn (by decide : 31 ≤ 32))]
theorem two_ushr (a b : Int) (n : Nat) (hk : Go.bits .and .i32 b 31 = (n : Int)) (hn : n ≤ 31) : carafelaw12_two.f 1 124 a b = some (wrap32 (a % 4294967296 / 2 ^ n)) := by
  simp [carafelaw12_two.f, arith_Two.f, arith_Two.j0, hk, shr, IntKind.bits, Nat.min_eq_left (Nat.le_trans hn (by decide : 31 ≤ 32))]
theorem two_shl (a b : Int) (n : Nat) (hk : Go.bits .and .i32 b 31 = (n : Int)) (hn : n ≤ 31) : carafelaw12_two.f 1 120 a b = some (wrap32 (a * 2 ^ n)) := by
  simp [carafelaw12_two.f, arith_Two.f, arith_Two.j0, hk, shl, IntKind.bits, Nat.min_eq_left (Nat.le_trans hn (by decide : 31 ≤ 32)), wrap32, IntKind.wrap_i32]

theorem wrap_mul (a P : Int) : wrap32 (a * P) = wrap32 (a % 4294967296 * P % 4294967296) := by
  have h : (a * P) % 4294967296 = a % 4294967296 * P % 4294967296 := by
    rw [Int.mul_emod, Int.mul_emod (a % 4294967296) P, Int.emod_emod_of_dvd _ (Int.dvd_refl _)]
  rw [← h]; unfold wrap32; omega

theorem divs (a P : Int) (hP : 1 ≤ P) (ha0 : -2147483648 ≤ a) (ha1 : a ≤ 2147483647) :
    (-2147483648 ≤ Int.tdiv a P ∧ Int.tdiv a P ≤ 2147483648) ∧ (-2147483648 ≤ a / P ∧ a / P ≤ 2147483647) ∧
    ((a < 0 ∧ Int.tmod a P ≠ 0 ∧ a / P = Int.tdiv a P - 1) ∨ (a < 0 ∧ Int.tmod a P = 0 ∧ a / P = Int.tdiv a P) ∨ (0 ≤ a ∧ a / P = Int.tdiv a P)) := by
  have e1 := Int.mul_ediv_add_emod a P
  have e2 := Int.emod_nonneg a (show P ≠ 0 by omega)
  have e3 := Int.emod_lt_of_pos a (show 0 < P by omega)
  have e4 := Int.mul_tdiv_add_tmod a P
  have hbound : ∀ x : Int, (∃ r, P * x + r = a ∧ -P < r ∧ r < P) → -2147483648 ≤ x ∧ x ≤ 2147483648 := by
    rintro x ⟨r, h1, h2, h3⟩
    constructor
    · apply Int.not_lt.mp; intro hx
      have : P * x ≤ P * (-2147483649) := Int.mul_le_mul_of_nonneg_left (by omega) (by omega)
      have : (P - 1) * 2147483648 ≥ 0 := Int.mul_nonneg (by omega) (by omega)
      omega
    · apply Int.not_lt.mp; intro hx
      have : P * 2147483649 ≤ P * x := Int.mul_le_mul_of_nonneg_left (by omega) (by omega)
      omega
  rcases Int.lt_or_le a 0 with hneg | hpos
  · have t1 : Int.tmod a P ≤ 0 := by
      have := Int.tmod_nonneg P (show 0 ≤ -a by omega)
      rw [Int.neg_tmod] at this; omega
    have t2 : -P < Int.tmod a P := by
      have := Int.tmod_lt_of_pos (-a) (show 0 < P by omega)
      rw [Int.neg_tmod] at this; omega
    have b1 := hbound (Int.tdiv a P) ⟨_, e4, by omega, by omega⟩
    have b2 := hbound (a / P) ⟨_, e1, by omega, by omega⟩
    by_cases hm : Int.tmod a P = 0
    · have : a / P = Int.tdiv a P := by
        have h : P * (a / P - Int.tdiv a P) + a % P = 0 := by rw [Int.mul_sub]; omega
        have h5 : a / P - Int.tdiv a P = 0 := by
          rcases Int.lt_trichotomy (a / P - Int.tdiv a P) 0 with hh | hh | hh
          · have : P * (a / P - Int.tdiv a P) ≤ P * (-1) := Int.mul_le_mul_of_nonneg_left (by omega) (by omega)
            omega
          · exact hh
          · have : P * 1 ≤ P * (a / P - Int.tdiv a P) := Int.mul_le_mul_of_nonneg_left (by omega) (by omega)
            omega
        omega
      have h6 : a / P < 0 := by
        apply Int.not_le.mp; intro h7
        have : P * 0 ≤ P * (a / P) := Int.mul_le_mul_of_nonneg_left h7 (by omega)
        omega
      exact ⟨b1, ⟨b2.1, by omega⟩, Or.inr (Or.inl ⟨hneg, hm, this⟩)⟩
    · have : a / P = Int.tdiv a P - 1 := by
        have h : P * (a / P - Int.tdiv a P) = Int.tmod a P - a % P := by rw [Int.mul_sub]; omega
        have h5 : a / P - Int.tdiv a P = -1 := by
          rcases Int.lt_trichotomy (a / P - Int.tdiv a P) (-1) with hh | hh | hh
          · have : P * (a / P - Int.tdiv a P) ≤ P * (-2) := Int.mul_le_mul_of_nonneg_left (by omega) (by omega)
            omega
          · exact hh
          · have : P * 0 ≤ P * (a / P - Int.tdiv a P) := Int.mul_le_mul_of_nonneg_left (by omega) (by omega)
            omega
        omega
      exact ⟨b1, ⟨b2.1, by omega⟩, Or.inl ⟨hneg, hm, this⟩⟩
  · have : a / P = Int.tdiv a P := (Int.tdiv_eq_ediv_of_nonneg hpos).symm
    have t1 := Int.tmod_nonneg P hpos
    have t2 := Int.tmod_lt_of_pos a (show 0 < P by omega)
    have b1 := hbound (Int.tdiv a P) ⟨_, e4, by omega, by omega⟩
    have h7 : a / P ≤ 2147483647 := by
      apply Int.not_lt.mp; intro hx
      have : P * 2147483648 ≤ P * (a / P) := Int.mul_le_mul_of_nonneg_left (by omega) (by omega)
      omega
    exact ⟨b1, ⟨by omega, h7⟩, Or.inr (Or.inr ⟨hpos, this⟩)⟩

theorem walk (a b : Int) (w : World) (wa : (Lit.int .i32 a).wf = true) (wb : (Lit.int .i32 b).wf = true) :
    Calls Try.prog 3 #[.int .i32 a, .int .i32 b] w fun e w' => e = .returned (.bool true) ∧ Below w.heap.size w w' := by
  have ha : -2147483648 ≤ a ∧ a ≤ 2147483647 := by
    simp only [Lit.wf, IntKind.min, IntKind.max, IntKind.signed, IntKind.bits, Bool.and_eq_true, decide_eq_true_eq, if_true] at wa; omega
  have hk := and31 b
  have h0 : 0 ≤ b % 32 := by omega
  have h31 : b % 32 ≤ 31 := by omega
  obtain ⟨n, hn⟩ := Int.eq_ofNat_of_zero_le h0
  rw [hn] at hk h0 h31
  have hn31 : n ≤ 31 := by omega
  have hP := pow_cases n h0 h31
  rw [Int.toNat_natCast] at hP
  have D := divs a (2 ^ n) hP.1 ha.1 ha.2
  refine (walk0 a b n (2 ^ n) (Int.tdiv a (2 ^ n)) (Int.tmod a (2 ^ n)) (a / 2 ^ n) (wrap32 (a % 4294967296 / 2 ^ n)) (wrap32 (a * 2 ^ n)) w hk h0 h31 ha.1 ha.2
    ?_ ?_ hP.1 rfl rfl D.1.1 D.1.2 D.2.1.1 D.2.1.2 ?_ ?_ D.2.2 (two_of 1 (two_shr a b n hk hn31)) (two_of 1 (two_ushr a b n hk hn31)) (two_of 1 (two_shl a b n hk hn31))
    (two_of 1 ?_) (two_of 1 ?_) known_holds).mono fun e w' ⟨he, hd⟩ => ⟨he, hd.below⟩
  · simp [IntKind.wrap, IntKind.bits, IntKind.signed]; omega
  · rw [Int.toNat_natCast, IntKind.wrap_i64]; omega
  · simp
  · rw [Int.toNat_natCast]; exact beq_iff_eq.mpr (wrap_mul a _)
  · have := two_shl a 0 0 (by rw [and31]; rfl) (by decide)
    rw [this]; simp [wrap32]; omega
  · have := two_shr a 0 0 (by rw [and31]; rfl) (by decide)
    rw [this]; simp
end Go.Proofs.Ytiapkipcngnnmaa.Shifts
