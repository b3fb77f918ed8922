/- The law ArithReckons, its arithmetic: for every operation, all 32-bit numbers and every instruction the program's answers are the document's. No condition. -/
import Derived.Test.YtiapkipcngnnmaaPArithReckonsx3
namespace Go.Proofs.Ytiapkipcngnnmaa.Reckons
open Go.RowKit Go.Proofs.YtiapkipcngnnmaaW.PrintWords Go.Proofs.YtiapkipcngnnmaaW.PrintLast Go.Proofs.YtiapkipcngnnmaaW.PrintMore
open Go.Proofs.Ytiapkipcngnnmaa.PArithReckons
set_option linter.unusedVariables false
set_option linter.unusedSimpArgs false

theorem and31 (b : Int) : Go.bits .and .i32 b 31 = b % 32 := by
  have h2 : (BitVec.ofInt IntKind.i32.bits b).toNat = (b % 4294967296).toNat := by rw [BitVec.toNat_ofInt]; rfl
  have h4 : (BitVec.ofInt IntKind.i32.bits 31).toNat = 31 := by rw [BitVec.toNat_ofInt]; rfl
  have h3 : (b % 4294967296).toNat &&& 31 = (b % 4294967296).toNat % 32 := by
    have := Nat.and_two_pow_sub_one_eq_mod (b % 4294967296).toNat 5
    simpa using this
  unfold Go.bits
  simp only [BitVec.toNat_and, h2, h4, h3]
  rw [IntKind.wrap_i32]
  omega

theorem wrap_u64 (n : Int) : IntKind.u64.wrap n = n % 18446744073709551616 := by simp [IntKind.wrap, IntKind.bits, IntKind.signed]
theorem uand31 (b : Int) : Go.bits .and .u64 (IntKind.u64.wrap b) 31 = b % 32 := by
  have h2 : (BitVec.ofInt IntKind.u64.bits (IntKind.u64.wrap b)).toNat = (b % 18446744073709551616).toNat := by
    rw [BitVec.toNat_ofInt, wrap_u64]
    have : ((2 ^ IntKind.u64.bits : Nat) : Int) = 18446744073709551616 := by rfl
    rw [this]; omega
  have h4 : (BitVec.ofInt IntKind.u64.bits 31).toNat = 31 := by rw [BitVec.toNat_ofInt]; rfl
  have h3 : (b % 18446744073709551616).toNat &&& 31 = (b % 18446744073709551616).toNat % 32 := by
    have := Nat.and_two_pow_sub_one_eq_mod (b % 18446744073709551616).toNat 5
    simpa using this
  unfold Go.bits
  simp only [BitVec.toNat_and, h2, h4, h3]
  rw [wrap_u64]
  omega
theorem iand (a : Int) : Go.bits .and .i64 (wrap64 a) 4294967295 = a % 4294967296 := by
  have h2 : (BitVec.ofInt IntKind.i64.bits (wrap64 a)).toNat = (a % 18446744073709551616).toNat := by
    rw [BitVec.toNat_ofInt]
    have : ((2 ^ IntKind.i64.bits : Nat) : Int) = 18446744073709551616 := by rfl
    rw [this]; unfold wrap64; omega
  have h4 : (BitVec.ofInt IntKind.i64.bits 4294967295).toNat = 4294967295 := by rw [BitVec.toNat_ofInt]; rfl
  have h3 : (a % 18446744073709551616).toNat &&& 4294967295 = (a % 18446744073709551616).toNat % 4294967296 := by
    have := Nat.and_two_pow_sub_one_eq_mod (a % 18446744073709551616).toNat 32
    simpa using this
  unfold Go.bits
  simp only [BitVec.toNat_and, h2, h4, h3]
  rw [IntKind.wrap_i64]
  omega

theorem w32_64 (x : Int) : wrap32 (wrap64 x) = wrap32 x := by unfold wrap32 wrap64; omega
theorem shr_in (a : Int) (n : Nat) (ha : -2147483648 ≤ a ∧ a ≤ 2147483647) : wrap32 (a / 2 ^ n) = a / 2 ^ n := by
  have h : -2147483648 ≤ a / 2 ^ n ∧ a / 2 ^ n ≤ 2147483647 := by
    have hp : (1 : Int) ≤ 2 ^ n := by
      have : 0 < (2 : Nat) ^ n := Nat.two_pow_pos n
      have h3 : ((2 ^ n : Nat) : Int) = (2 : Int) ^ n := by push_cast; rfl
      rw [← h3]; omega
    generalize (2 : Int) ^ n = P at hp
    constructor
    · have := Int.ediv_le_ediv (show 0 < P by omega) ha.1
      have h2 : -2147483648 ≤ -2147483648 / P := by
        rw [Int.le_ediv_iff_mul_le (by omega)]
        have := Int.mul_le_mul_of_nonneg_left hp (show (0 : Int) ≤ 2147483648 by omega)
        omega
      omega
    · have := Int.ediv_le_ediv (show 0 < P by omega) ha.2
      have h2 : 2147483647 / P ≤ 2147483647 := Int.ediv_le_self _ (by omega)
      omega
  unfold wrap32; omega

theorem some_ite {α : Type} {c : Prop} [Decidable c] {x y : Option α} (hx : ∃ r, x = some r) (hy : ∃ r, y = some r) : ∃ r, (if c then x else y) = some r := by
  by_cases h : c
  · rw [if_pos h]; exact hx
  · rw [if_neg h]; exact hy
theorem some_bind {α β : Type} {x : Option α} {f : α → Option β} (hx : ∃ r, x = some r) (hf : ∀ r, ∃ s, f r = some s) : ∃ s, x.bind f = some s := by
  obtain ⟨r, rfl⟩ := hx; exact hf r

theorem two_same (op a b : Int) (ha : -2147483648 ≤ a ∧ a ≤ 2147483647) (hb : -2147483648 ≤ b ∧ b ≤ 2147483647) :
    ∃ r, arith_Two.f 2 op a b = some r ∧ caraferef12_Two.f 2 op a b = some r := by
  have ea : wrap64 a = a := by unfold wrap64; omega
  have eb : wrap64 b = b := by unfold wrap64; omega
  have h0 : 0 ≤ b % 32 := by omega
  have h1 : min (b % 32).toNat 32 = (b % 32).toNat := Nat.min_eq_left (by omega)
  have h2 : min (b % 32).toNat 64 = (b % 32).toNat := Nat.min_eq_left (by omega)
  have ei := iand a
  rw [ea] at ei
  have key : arith_Two.f 2 op a b = caraferef12_Two.f 2 op a b := by
    unfold arith_Two.f caraferef12_Two.f arith_Two.j0 caraferef12_Two.j0
    simp only [uand31, and31, ei, w32_64, h0, if_true, ea, eb, shl, shr, IntKind.bits, h1, h2, shr_in _ _ ha]
    by_cases c1 : op = 96
    · subst c1; rfl
    by_cases c2 : op = 100
    · subst c2; rfl
    by_cases c3 : op = 104
    · subst c3; rfl
    by_cases c4 : op = 108
    · subst c4
      unfold arith_divided.f
      by_cases cb : b = 0 <;> simp [cb, w32_64]
    by_cases c5 : op = 112
    · subst c5
      unfold arith_divided.f
      by_cases cb : b = 0 <;> simp [cb]
    have c5' : (op == 112) = false := beq_eq_false_iff_ne.mpr c5
    have c4' : (op == 108) = false := beq_eq_false_iff_ne.mpr c4
    rw [if_neg c1, if_neg c2, if_neg c3, if_neg c4, if_neg c1, if_neg c2, if_neg c3, if_neg c4, c5']
    simp only [Bool.false_eq_true, if_false]
    have e1 : ∀ x, IntKind.i32.wrap x = wrap32 x := fun x => by rw [IntKind.wrap_i32]; unfold wrap32; rfl
    have e2 : ∀ x, IntKind.i64.wrap x = wrap64 x := fun x => by rw [IntKind.wrap_i64]; unfold wrap64; rfl
    rw [e1, e2, w32_64]
  rw [← key]
  have : ∃ r, arith_Two.f 2 op a b = some r := by
    unfold arith_Two.f arith_Two.j0 arith_divided.f
    simp only [and31, h0, if_true]
    repeat' (first | exact ⟨_, rfl⟩ | refine some_ite ?_ ?_ | refine some_bind ?_ (fun _ => ?_))
  obtain ⟨r, hr⟩ := this
  exact ⟨r, hr, hr⟩

theorem one_same (op a : Int) : ∃ r, arith_One.f op a = some r ∧ caraferef12_One.f op a = some r := by
  unfold arith_One.f caraferef12_One.f
  by_cases h : op = 116
  · rw [if_pos h, if_pos h]; exact ⟨_, rfl, by rw [w32_64]; simp only [Option.some.injEq, Prod.mk.injEq, and_true]; unfold wrap32 wrap64; omega⟩
  · rw [if_neg h, if_neg h]; exact ⟨_, rfl, rfl⟩

theorem test_same (op a b : Int) : ∃ r, arith_Test.f op a b = some r ∧ caraferef12_Test.f 2 op a b = some r := by
  have key : caraferef12_Test.f 2 op a b = arith_Test.f op a b := by
    unfold caraferef12_Test.f caraferef12_Test.j0
    by_cases h : 153 ≤ op ∧ op ≤ 158
    · have : op = 153 ∨ op = 154 ∨ op = 155 ∨ op = 156 ∨ op = 157 ∨ op = 158 := by omega
      rcases this with rfl | rfl | rfl | rfl | rfl | rfl
      · simp [arith_Test.f, caraferef12_Test.j1, wrap64]; rfl
      · simp [arith_Test.f, caraferef12_Test.j1, wrap64]; rfl
      · simp [arith_Test.f, caraferef12_Test.j1, wrap64]
      · simp [arith_Test.f, caraferef12_Test.j1, wrap64]
      · simp [arith_Test.f, caraferef12_Test.j1, wrap64]
      · simp [arith_Test.f, caraferef12_Test.j1, wrap64]
    · have e : (if op ≥ 153 then (if decide (op ≤ 158) = true then caraferef12_Test.j1 1 (wrap64 ((wrap64 (op - 153)) + 159)) a 0 else caraferef12_Test.j1 1 op a b)
          else (if false = true then caraferef12_Test.j1 1 (wrap64 ((wrap64 (op - 153)) + 159)) a 0 else caraferef12_Test.j1 1 op a b)) = caraferef12_Test.j1 1 op a b := by
        by_cases h1 : op ≥ 153
        · rw [if_pos h1, if_neg (by simp; omega)]
        · rw [if_neg h1, if_neg (by simp)]
      rw [e]
      unfold arith_Test.f caraferef12_Test.j1
      rw [if_neg (by omega : ¬ op = 153), if_neg (by omega : ¬ op = 154), if_neg (by omega : ¬ op = 155), if_neg (by omega : ¬ op = 156), if_neg (by omega : ¬ op = 157), if_neg (by omega : ¬ op = 158)]
      by_cases d1 : op = 159
      · subst d1; simp; rfl
      by_cases d2 : op = 160
      · subst d2; simp; rfl
      by_cases d3 : op = 161
      · subst d3; simp
      by_cases d4 : op = 162
      · subst d4; simp
      by_cases d5 : op = 163
      · subst d5; simp
      by_cases d6 : op = 164
      · subst d6; simp
      simp only [d1, d2, d3, d4, d5, d6, if_false]
  rw [key]
  have : ∃ r, arith_Test.f op a b = some r := by
    unfold arith_Test.f
    repeat' (first | exact ⟨_, rfl⟩ | refine some_ite ?_ ?_ | refine some_bind ?_ (fun _ => ?_))
  obtain ⟨r, hr⟩ := this
  exact ⟨r, hr, hr⟩

theorem const_same (x y z t : Int) : ∃ r, arith_Const.f 1 x y z t = some r ∧ caraferef12_Const.f 1 x y z t = some r := by
  have key : caraferef12_Const.f 1 x y z t = arith_Const.f 1 x y z t := by
    unfold caraferef12_Const.f arith_Const.f caraferef12_Const.j0 arith_Const.j0
    by_cases h : 2 ≤ y ∧ y ≤ 8
    · have : y = 2 ∨ y = 3 ∨ y = 4 ∨ y = 5 ∨ y = 6 ∨ y = 7 ∨ y = 8 := by omega
      rcases this with rfl | rfl | rfl | rfl | rfl | rfl | rfl <;> simp
    · have e1 : ¬ y = 2 := by omega
      have e2 : ¬ y = 3 := by omega
      have e3 : ¬ y = 4 := by omega
      have e4 : ¬ y = 5 := by omega
      have e5 : ¬ y = 6 := by omega
      have e6 : ¬ y = 7 := by omega
      have e7 : ¬ y = 8 := by omega
      by_cases h1 : y ≥ 2
      · have h2 : ¬ y ≤ 8 := by omega
        simp [h1, h2, e1, e2, e3, e4, e5, e6, e7]
      · simp [h1, e1, e2, e3, e4, e5, e6, e7]
  rw [key]
  have : ∃ r, arith_Const.f 1 x y z t = some r := by
    unfold arith_Const.f arith_Const.j0
    repeat' (first | exact ⟨_, rfl⟩ | refine some_ite ?_ ?_ | refine some_bind ?_ (fun _ => ?_))
  obtain ⟨r, hr⟩ := this
  exact ⟨r, hr, hr⟩

theorem pure (op a b x y z t : Int) (ha : -2147483648 ≤ a ∧ a ≤ 2147483647) (hb : -2147483648 ≤ b ∧ b ≤ 2147483647) :
    carafelaw12_ArithReckons.f 2 op a b x y z t = some true := by
  unfold carafelaw12_ArithReckons.f
  obtain ⟨r1, h1, h2⟩ := two_same op a b ha hb
  obtain ⟨r2, h3, h4⟩ := one_same op a
  obtain ⟨r3, h5, h6⟩ := test_same op a b
  obtain ⟨r4, h7, h8⟩ := const_same x y z t
  have h7' := arith_Const.mono x y z t 1 _ h7
  have h8' := caraferef12_Const.mono x y z t 1 _ h8
  have hk : carafelaw12_known.f 2 = some true := by decide +kernel
  rw [h1, h2, h3, h4, h5, h6, h7', h8', hk]
  simp
theorem rng {a : Int} (wa : (Lit.int .i32 a).wf = true) : -2147483648 ≤ a ∧ a ≤ 2147483647 := by
  simp only [Lit.wf, IntKind.min, IntKind.max, IntKind.signed, IntKind.bits, Bool.and_eq_true, decide_eq_true_eq, if_true] at wa; omega
end Go.Proofs.Ytiapkipcngnnmaa.Reckons
