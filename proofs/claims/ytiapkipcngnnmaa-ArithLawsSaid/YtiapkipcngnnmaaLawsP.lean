/- The law ArithLaws: the answers that its calls give, and the law itself: for all three 32-bit numbers the call returns true. No condition. -/
import Derived.Test.YtiapkipcngnnmaaLawsW
namespace Go.Proofs.Ytiapkipcngnnmaa.LawsW
open Go.RowKit Go.Proofs.YtiapkipcngnnmaaW.PrintWords Go.Proofs.YtiapkipcngnnmaaW.PrintLast Go.Proofs.YtiapkipcngnnmaaW.PrintMore
open Go.Proofs.Ytiapkipcngnnmaa.PArithLaws
set_option linter.unusedVariables false
set_option linter.unusedSimpArgs false

theorem two_of {op a b r : Int} (k : Nat) (h : carafelaw12_two.f k op a b = some r) : Two op a b r := fun w => carafelaw12_two.calls k op a b r w h
theorem known_holds : Known := fun w => carafelaw12_known.calls 1 true w (by decide +kernel)

theorem and31 (b : Int) : Go.bits .and .i32 b 31 = b % 32 := by
  have h2 : (BitVec.ofInt IntKind.i32.bits b).toNat = (b % 4294967296).toNat := by rw [BitVec.toNat_ofInt]; rfl
  have h4 : (BitVec.ofInt IntKind.i32.bits 31).toNat = 31 := by rw [BitVec.toNat_ofInt]; rfl
  have h3 : (b % 4294967296).toNat &&& 31 = (b % 4294967296).toNat % 32 := by
    have := Nat.and_two_pow_sub_one_eq_mod (b % 4294967296).toNat 5
    simpa using this
  unfold Go.bits
  simp only [BitVec.toNat_and, h2, h4, h3]
  rw [IntKind.wrap_i32]
  omega

theorem wrap32_mod (x y : Int) (h : x % 4294967296 = y % 4294967296) : wrap32 x = wrap32 y := by unfold wrap32; omega
theorem mod_wrap32 (x : Int) : wrap32 x % 4294967296 = x % 4294967296 := by unfold wrap32; omega

theorem add_t (a b : Int) : Two 96 a b (wrap32 (a + b)) := two_of 1 (by simp [carafelaw12_two.f, arith_Two.f])
theorem sub_t (a b : Int) : Two 100 a b (wrap32 (a - b)) := two_of 1 (by simp [carafelaw12_two.f, arith_Two.f])
theorem mul_t (a b : Int) : Two 104 a b (wrap32 (a * b)) := two_of 1 (by simp [carafelaw12_two.f, arith_Two.f])
theorem div_t (a b : Int) (h : b ≠ 0) (ha : wrap64 a = a) (hb : wrap64 b = b) : Two 108 a b (wrap32 (wrap64 (Int.tdiv a b))) :=
  two_of 1 (by simp [carafelaw12_two.f, arith_Two.f, arith_Two.j0, arith_divided.f, ha, hb, h])
theorem rem_t (a b : Int) (h : b ≠ 0) (ha : wrap64 a = a) (hb : wrap64 b = b) : Two 112 a b (wrap32 (Int.tmod a b)) :=
  two_of 1 (by simp [carafelaw12_two.f, arith_Two.f, arith_Two.j0, arith_divided.f, ha, hb, h])
theorem xor_t (a b : Int) : Two 130 a b (Go.bits .xor .i32 a b) := two_of 1 (by simp [carafelaw12_two.f, arith_Two.f, arith_Two.j0])
theorem or_t (a b : Int) : Two 128 a b (Go.bits .or .i32 a b) := two_of 1 (by simp [carafelaw12_two.f, arith_Two.f, arith_Two.j0])
theorem and_t (a b : Int) : Two 126 a b (Go.bits .and .i32 a b) := two_of 1 (by simp [carafelaw12_two.f, arith_Two.f, arith_Two.j0])
theorem shl_t (a b : Int) : Two 120 a b (wrap32 (a * 2 ^ (b % 32).toNat)) := two_of 1 (by
  have h0 : 0 ≤ b % 32 := by omega
  have h1 : min (b % 32).toNat 32 = (b % 32).toNat := Nat.min_eq_left (by omega)
  simp [carafelaw12_two.f, arith_Two.f, arith_Two.j0, and31, shl, IntKind.bits, wrap32, IntKind.wrap_i32, h0, h1])
theorem ushr_t (a b : Int) : Two 124 a b (wrap32 (a % 4294967296 / 2 ^ (b % 32).toNat)) := two_of 1 (by
  have h0 : 0 ≤ b % 32 := by omega
  have h1 : min (b % 32).toNat 32 = (b % 32).toNat := Nat.min_eq_left (by omega)
  simp [carafelaw12_two.f, arith_Two.f, arith_Two.j0, and31, shr, IntKind.bits, h0, h1])

theorem wrap_back (a : Int) (ha : -2147483648 ≤ a ∧ a ≤ 2147483647) (x : BitVec 32) (hx : x.toNat = (a % 4294967296).toNat) : IntKind.i32.wrap x.toNat = a := by
  rw [hx, IntKind.wrap_i32]; omega
theorem toNat32 (a : Int) : (BitVec.ofInt 32 a).toNat = (a % 4294967296).toNat := by rw [BitVec.toNat_ofInt]; rfl
theorem ofInt_bits (y : BitVec 32) : BitVec.ofInt 32 (IntKind.i32.wrap (y.toNat : Int)) = y := by
  apply BitVec.eq_of_toNat_eq
  rw [toNat32, IntKind.wrap_i32]
  have : y.toNat < 4294967296 := y.isLt
  omega

theorem xor_back (a b : Int) (ha : -2147483648 ≤ a ∧ a ≤ 2147483647) : Go.bits .xor .i32 (Go.bits .xor .i32 a b) b = a := by
  change IntKind.i32.wrap (BitVec.ofInt 32 (IntKind.i32.wrap ((BitVec.ofInt 32 a ^^^ BitVec.ofInt 32 b).toNat : Int)) ^^^ BitVec.ofInt 32 b).toNat = a
  rw [ofInt_bits, BitVec.xor_assoc, BitVec.xor_self, BitVec.xor_zero]
  exact wrap_back a ha _ (toNat32 a)
theorem and_or_back (a b : Int) (ha : -2147483648 ≤ a ∧ a ≤ 2147483647) : Go.bits .and .i32 a (Go.bits .or .i32 a b) = a := by
  change IntKind.i32.wrap (BitVec.ofInt 32 a &&& BitVec.ofInt 32 (IntKind.i32.wrap ((BitVec.ofInt 32 a ||| BitVec.ofInt 32 b).toNat : Int))).toNat = a
  rw [ofInt_bits]
  have h : BitVec.ofInt 32 a &&& (BitVec.ofInt 32 a ||| BitVec.ofInt 32 b) = BitVec.ofInt 32 a := by
    apply BitVec.eq_of_getLsbD_eq
    intro i hi
    simp only [BitVec.getLsbD_and, BitVec.getLsbD_or]
    cases (BitVec.ofInt 32 a).getLsbD i <;> simp
  rw [h]
  exact wrap_back a ha _ (toNat32 a)

theorem tst_of {op a b : Int} {x : Bool} (h : arith_Test.f op a b = some (x, 0)) : Tst op a b x := fun w => arith_Test.calls op a b x 0 w h
theorem tests (a b : Int) : ∀ o : Int, o = 159 ∨ o = 161 ∨ o = 163 → ∃ x y : Bool, (x == y) = false ∧ ∃ p : Bool, Tst o a b x ∧ Tst (o + 1) a b y ∧ Tst (o - 6) a b p ∧ Tst o a 0 p := by
  rintro o (rfl | rfl | rfl)
  · exact ⟨decide (a = b), decide (¬ a = b), by simp, decide (a = 0), tst_of (by simp [arith_Test.f]), tst_of (by simp [arith_Test.f]), tst_of (by simp [arith_Test.f]), tst_of (by simp [arith_Test.f])⟩
  · exact ⟨decide (a < b), decide (¬ a < b), by simp; omega, decide (a < 0), tst_of (by simp [arith_Test.f]), tst_of (by simp [arith_Test.f]), tst_of (by simp [arith_Test.f]), tst_of (by simp [arith_Test.f])⟩
  · exact ⟨decide (a > b), decide (¬ a > b), by simp; omega, decide (a > 0), tst_of (by simp [arith_Test.f]), tst_of (by simp [arith_Test.f]), tst_of (by simp [arith_Test.f]), tst_of (by simp [arith_Test.f])⟩

theorem mul_dist (a b c : Int) : wrap32 (wrap32 (a * b) + wrap32 (a * c)) = wrap32 (a * wrap32 (b + c)) := by
  apply wrap32_mod
  rw [Int.add_emod, mod_wrap32, mod_wrap32, ← Int.add_emod, Int.mul_emod a (wrap32 (b + c)), mod_wrap32, ← Int.mul_emod, Int.mul_add]
theorem div_rem (a b : Int) (ha : -2147483648 ≤ a ∧ a ≤ 2147483647) (hb : -2147483648 ≤ b ∧ b ≤ 2147483647) (h : b ≠ 0) :
    wrap32 (wrap32 (wrap32 (wrap64 (Int.tdiv a b)) * b) + wrap32 (Int.tmod a b)) = a := by
  have e := Int.mul_tdiv_add_tmod a b
  have hw : wrap64 (Int.tdiv a b) = Int.tdiv a b := by
    have h1 : (Int.tdiv a b).natAbs ≤ a.natAbs := by
      rw [Int.natAbs_tdiv]; exact Nat.div_le_self _ _
    unfold wrap64; omega
  have h2 : wrap32 (wrap32 (wrap32 (wrap64 (Int.tdiv a b)) * b) + wrap32 (Int.tmod a b)) = wrap32 a := by
    apply wrap32_mod
    rw [hw, Int.add_emod, mod_wrap32, mod_wrap32, Int.mul_emod, mod_wrap32, ← Int.mul_emod, ← Int.add_emod, Int.mul_comm, e]
  rw [h2]; unfold wrap32; omega

theorem walk (a b c : Int) (w : World) (wa : (Lit.int .i32 a).wf = true) (wb : (Lit.int .i32 b).wf = true) (wc : (Lit.int .i32 c).wf = true) :
    Calls Try.prog 4 #[.int .i32 a, .int .i32 b, .int .i32 c] w fun e w' => e = .returned (.bool true) ∧ Below w.heap.size w w' := by
  have ha : -2147483648 ≤ a ∧ a ≤ 2147483647 := by
    simp only [Lit.wf, IntKind.min, IntKind.max, IntKind.signed, IntKind.bits, Bool.and_eq_true, decide_eq_true_eq, if_true] at wa; omega
  have hb : -2147483648 ≤ b ∧ b ≤ 2147483647 := by
    simp only [Lit.wf, IntKind.min, IntKind.max, IntKind.signed, IntKind.bits, Bool.and_eq_true, decide_eq_true_eq, if_true] at wb; omega
  have ha64 : wrap64 a = a := by unfold wrap64; omega
  have hb64 : wrap64 b = b := by unfold wrap64; omega
  have A5 : Two 100 (wrap32 (a + b)) b a := by
    have := sub_t (wrap32 (a + b)) b
    rwa [show wrap32 (wrap32 (a + b) - b) = a from by unfold wrap32; omega] at this
  have A2 : Two 96 b a (wrap32 (a + b)) := by have := add_t b a; rwa [Int.add_comm] at this
  have A4 : Two 104 b a (wrap32 (a * b)) := by have := mul_t b a; rwa [Int.mul_comm] at this
  have A9 : Two 96 (wrap32 (a * b)) (wrap32 (a * c)) (wrap32 (a * wrap32 (b + c))) := by have := add_t (wrap32 (a * b)) (wrap32 (a * c)); rwa [mul_dist] at this
  have D : b = 0 ∨ (b ≠ 0 ∧ Two 108 a b (wrap32 (wrap64 (Int.tdiv a b))) ∧ Two 104 (wrap32 (wrap64 (Int.tdiv a b))) b (wrap32 (wrap32 (wrap64 (Int.tdiv a b)) * b)) ∧ Two 112 a b (wrap32 (Int.tmod a b)) ∧ Two 96 (wrap32 (wrap32 (wrap64 (Int.tdiv a b)) * b)) (wrap32 (Int.tmod a b)) a) := by
    by_cases h : b = 0
    · exact .inl h
    · refine .inr ⟨h, div_t a b h ha64 hb64, mul_t _ _, rem_t a b h ha64 hb64, ?_⟩
      have := add_t (wrap32 (wrap32 (wrap64 (Int.tdiv a b)) * b)) (wrap32 (Int.tmod a b))
      rwa [div_rem a b ha hb h] at this
  have E1 : Two 120 a 1 (wrap32 (a + a)) := by
    have := shl_t a 1
    rwa [show a * 2 ^ ((1 : Int) % 32).toNat = a + a from by rw [show ((1 : Int) % 32).toNat = 1 from rfl]; omega] at this
  have E4 : Two 130 (Go.bits .xor .i32 a b) b a := by have := xor_t (Go.bits .xor .i32 a b) b; rwa [xor_back a b ha] at this
  have E6 : Two 126 a (Go.bits .or .i32 a b) a := by have := and_t a (Go.bits .or .i32 a b); rwa [and_or_back a b ha] at this
  have E8 : Two 120 a (b % 32) (wrap32 (a * 2 ^ (b % 32).toNat)) := by have := shl_t a (b % 32); rwa [Int.emod_emod_of_dvd b (Int.dvd_refl 32)] at this
  have E9 : Two 124 a 0 a := by
    have := ushr_t a 0
    rwa [show wrap32 (a % 4294967296 / 2 ^ ((0 : Int) % 32).toNat) = a from by rw [show ((0 : Int) % 32).toNat = 0 from rfl]; unfold wrap32; omega] at this
  have G : One a (wrap32 (-a)) := fun w => arith_One.calls 116 a _ _ w (by simp [arith_One.f])
  have F : Two 96 a (wrap32 (-a)) 0 := by
    have := add_t a (wrap32 (-a))
    rwa [show wrap32 (a + wrap32 (-a)) = 0 from by unfold wrap32; omega] at this
  exact (walk0 a b c (b % 32) _ _ _ _ _ _ _ _ _ _ _ _ _ w (and31 b) (add_t a b) A2 (mul_t a b) A4 A5 (add_t b c) (mul_t a _) (mul_t a c) A9 D E1 (add_t a a) (xor_t a b) E4 (or_t a b) E6 (shl_t a b) E8 E9 G F known_holds (tests a b)).mono
    fun e w' ⟨he, hd⟩ => ⟨he, hd.below⟩
end Go.Proofs.Ytiapkipcngnnmaa.LawsW
