-- Written for this claim by a program of our own (myprint).
import Derived.Test.YtcjhhlbhfkcboaaPA0
import Derived.Test.YtcjhhlbhfkcboaaPAf30
import Derived.Test.YtcjhhlbhfkcboaaPAf27
import Derived.Test.YtcjhhlbhfkcboaaPAf34
import Derived.Test.YtcjhhlbhfkcboaaPAf11
import Derived.Test.YtcjhhlbhfkcboaaPAf44
import Derived.Test.YtcjhhlbhfkcboaaRefOne
import Derived.Test.YtcjhhlbhfkcboaaPAf11
namespace Go.Proofs.Ytcjhhlbhfkcboaa.PA
open Go.RowKit Go.Proofs.YtcjhhlbhfkcboaaW.PrintWords Go.Proofs.YtcjhhlbhfkcboaaW.PrintLast Go.Proofs.YtcjhhlbhfkcboaaW.PrintMore
attribute [local go_sem] max2_int min2_int max_two min_two max_three min_three max_four min_four   -- for this text's walks alone
set_option linter.unusedVariables false
set_option linter.unusedSimpArgs false

/-! ### caraferef5_one: function 37 -/
def caraferef5_one.f (a0 a1 a2 a3 : Int) : Option (List Int × Bool) :=
  if a1 = 132 then some ([132, a2 % 256, a3 % 256], decide ((0 ≤ a2 ∧ a2 ≤ 255) ∧ -128 ≤ a3 ∧ a3 ≤ 127)) else
  if caraferef5_Decode.br a1 = true then
    (if -1048576 ≤ a2 ∧ a2 ≤ 1048576 then some ([a1 % 256, wrap64 (a2 - a0) / 256 % 256, wrap64 (a2 - a0) % 256], decide (a3 = 0 ∧ -32768 ≤ wrap64 (a2 - a0) ∧ wrap64 (a2 - a0) ≤ 32767)) else some ([], false)) else
  if caraferef5_Decode.sz a1 = 1 then some ([a1 % 256], decide (a3 = 0 ∧ a2 = 0)) else
  if caraferef5_Decode.sz a1 = 2 then some ([a1 % 256, a2 % 256], if caraferef5_Decode.sg a1 = true then decide (a3 = 0 ∧ -128 ≤ a2 ∧ a2 ≤ 127) else decide (a3 = 0 ∧ 0 ≤ a2 ∧ a2 ≤ 255)) else
  if caraferef5_Decode.sz a1 = 3 then some ([a1 % 256, a2 / 256 % 256, a2 % 256], if caraferef5_Decode.sg a1 = true then decide (a3 = 0 ∧ -32768 ≤ a2 ∧ a2 ≤ 32767) else decide (a3 = 0 ∧ 0 ≤ a2 ∧ a2 ≤ 65535)) else none
theorem caraferef5_one.wr (n : Int) : IntKind.i64.wrap n = wrap64 n := by rw [IntKind.wrap_i64]; unfold wrap64; omega
theorem caraferef5_one.ins (n lo hi : Int) : Go.Proofs.Ytcjhhlbhfkcboaa.Aid.InIs n lo hi (decide (lo ≤ n ∧ n ≤ hi)) := fun w => caraferef5_in.calls n lo hi _ w (by
  unfold caraferef5_in.f
  by_cases h : n ≥ lo
  · rw [if_pos h]; congr 1; simp; intro; exact h
  · rw [if_neg h]; congr 1; simp; omega)
theorem caraferef5_one.inT {n lo hi : Int} (h : lo ≤ n ∧ n ≤ hi) : Go.Proofs.Ytcjhhlbhfkcboaa.Aid.InIs n lo hi true := by have := caraferef5_one.ins n lo hi; rwa [decide_eq_true h] at this
theorem caraferef5_one.inF {n lo hi : Int} (h : ¬(lo ≤ n ∧ n ≤ hi)) : Go.Proofs.Ytcjhhlbhfkcboaa.Aid.InIs n lo hi false := by have := caraferef5_one.ins n lo hi; rwa [decide_eq_false h] at this
theorem caraferef5_one.calls (a0_0 : Int) (a0_1 : Int) (a0_2 : Int) (a0_3 : Int) (r1 : List Int) (r2 : Bool) (w : World) (h : caraferef5_one.f a0_0 a0_1 a0_2 a0_3 = some (r1, r2)) :
    Calls Try.prog 37 #[.agg #[.int .i64 a0_0, .int .i64 a0_1, .int .i64 a0_2, .int .i64 a0_3]] w fun e w' => ∃ v0_ : Value, e = .returned (.tuple #[v0_, .bool r2]) ∧ Kd.R (Kd.int .u8) 5 w' w.heap.size (fun _ => True) v0_ r1 ∧ Below w.heap.size w w' := by
  have S : ∀ n, caraferef5_Decode.sz a0_1 = n → Go.Proofs.Ytcjhhlbhfkcboaa.Aid.SizeIs a0_1 n := fun n hn w => caraferef5_Size.calls 2 a0_1 n w (by rw [(caraferef5_Decode.size_some a0_1).1, hn])
  have BR : ∀ b, caraferef5_Decode.br a0_1 = b → Go.Proofs.Ytcjhhlbhfkcboaa.Aid.BrIs a0_1 b := fun b hb w => caraferef5_Branch.calls a0_1 _ w (by rw [caraferef5_Decode.br_some, hb])
  have SG : ∀ b, caraferef5_Decode.sg a0_1 = b → Go.Proofs.Ytcjhhlbhfkcboaa.Aid.SgIs a0_1 b := fun b hb w => caraferef5_signed.calls a0_1 _ w (by rw [caraferef5_Decode.sg_some, hb])
  unfold caraferef5_one.f at h
  by_cases c1 : a0_1 = 132
  · rw [if_pos c1] at h
    simp only [Option.some.injEq, Prod.mk.injEq] at h
    obtain ⟨rfl, rfl⟩ := h
    subst c1
    have S3 := S 3 (by decide +kernel)
    by_cases d1 : 0 ≤ a0_2 ∧ a0_2 ≤ 255
    · by_cases d2 : -128 ≤ a0_3 ∧ a0_3 ≤ 127
      · rw [decide_eq_true ⟨d1, d2⟩]; exact Go.Proofs.Ytcjhhlbhfkcboaa.RefOne.inc_tt a0_0 132 a0_2 a0_3 w S3 (caraferef5_one.inT d1) (caraferef5_one.inT d2)
      · rw [decide_eq_false (fun h => d2 h.2)]; exact Go.Proofs.Ytcjhhlbhfkcboaa.RefOne.inc_tf a0_0 132 a0_2 a0_3 w S3 (caraferef5_one.inT d1) (caraferef5_one.inF d2)
    · rw [decide_eq_false (fun h => d1 h.1)]; exact Go.Proofs.Ytcjhhlbhfkcboaa.RefOne.inc_f a0_0 132 a0_2 a0_3 w S3 (caraferef5_one.inF d1)
  rw [if_neg c1] at h
  have o1 : (a0_1 == 132) = false := beq_eq_false_iff_ne.mpr c1
  by_cases c2 : caraferef5_Decode.br a0_1 = true
  · rw [if_pos c2] at h
    have S3 := S 3 (caraferef5_Decode.br_true a0_1 c2).1
    have SGt := SG true (caraferef5_Decode.br_true a0_1 c2).2
    have BRt := BR true c2
    by_cases d0 : -1048576 ≤ a0_2 ∧ a0_2 ≤ 1048576
    · rw [if_pos d0] at h
      simp only [Option.some.injEq, Prod.mk.injEq] at h
      obtain ⟨rfl, rfl⟩ := h
      generalize hn : wrap64 (a0_2 - a0_0) = n
      rw [← caraferef5_one.wr] at hn
      by_cases d1 : a0_3 = 0
      · have z : (a0_3 == 0) = true := beq_iff_eq.mpr d1
        by_cases d2 : -32768 ≤ n ∧ n ≤ 32767
        · rw [decide_eq_true ⟨d1, d2⟩]; exact Go.Proofs.Ytcjhhlbhfkcboaa.RefOne.br_in_tt a0_0 a0_1 a0_2 a0_3 n w o1 S3 BRt (caraferef5_one.inT d0) hn SGt z (caraferef5_one.inT d2)
        · rw [decide_eq_false (fun h => d2 h.2)]; exact Go.Proofs.Ytcjhhlbhfkcboaa.RefOne.br_in_tf a0_0 a0_1 a0_2 a0_3 n w o1 S3 BRt (caraferef5_one.inT d0) hn SGt z (caraferef5_one.inF d2)
      · have z : (a0_3 == 0) = false := beq_eq_false_iff_ne.mpr d1
        rw [decide_eq_false (fun h => d1 h.1)]; exact Go.Proofs.Ytcjhhlbhfkcboaa.RefOne.br_in_f a0_0 a0_1 a0_2 a0_3 n w o1 S3 BRt (caraferef5_one.inT d0) hn SGt z
    · rw [if_neg d0] at h
      simp only [Option.some.injEq, Prod.mk.injEq] at h
      obtain ⟨rfl, rfl⟩ := h
      exact Go.Proofs.Ytcjhhlbhfkcboaa.RefOne.br_out a0_0 a0_1 a0_2 a0_3 w o1 S3 BRt (caraferef5_one.inF d0)
  rw [if_neg c2] at h
  have BRf := BR false (Bool.eq_false_iff.mpr c2)
  by_cases c3 : caraferef5_Decode.sz a0_1 = 1
  · rw [if_pos c3] at h
    simp only [Option.some.injEq, Prod.mk.injEq] at h
    obtain ⟨rfl, rfl⟩ := h
    have S1 := S 1 c3
    by_cases d0 : a0_2 = 0
    · have y : (a0_2 == 0) = true := beq_iff_eq.mpr d0
      by_cases d1 : a0_3 = 0
      · have z : (a0_3 == 0) = true := beq_iff_eq.mpr d1
        rw [decide_eq_true ⟨d1, d0⟩]; exact Go.Proofs.Ytcjhhlbhfkcboaa.RefOne.one_tt a0_0 a0_1 a0_2 a0_3 w o1 S1 BRf y z
      · have z : (a0_3 == 0) = false := beq_eq_false_iff_ne.mpr d1
        rw [decide_eq_false (fun h => d1 h.1)]; exact Go.Proofs.Ytcjhhlbhfkcboaa.RefOne.one_tf a0_0 a0_1 a0_2 a0_3 w o1 S1 BRf y z
    · have y : (a0_2 == 0) = false := beq_eq_false_iff_ne.mpr d0
      rw [decide_eq_false (fun h => d0 h.2)]; exact Go.Proofs.Ytcjhhlbhfkcboaa.RefOne.one_f a0_0 a0_1 a0_2 a0_3 w o1 S1 BRf y
  rw [if_neg c3] at h
  by_cases c4 : caraferef5_Decode.sz a0_1 = 2
  · rw [if_pos c4] at h
    simp only [Option.some.injEq, Prod.mk.injEq] at h
    obtain ⟨rfl, rfl⟩ := h
    have Sn := S 2 c4
    cases g : caraferef5_Decode.sg a0_1 with
    | true =>
      have G := SG true g
      rw [if_pos rfl]
      by_cases d1 : a0_3 = 0
      · have z : (a0_3 == 0) = true := beq_iff_eq.mpr d1
        by_cases d2 : -128 ≤ a0_2 ∧ a0_2 ≤ 127
        · rw [decide_eq_true ⟨d1, d2⟩]; exact Go.Proofs.Ytcjhhlbhfkcboaa.RefOne.two_s_tt a0_0 a0_1 a0_2 a0_3 w o1 Sn BRf G z (caraferef5_one.inT d2)
        · rw [decide_eq_false (fun h => d2 h.2)]; exact Go.Proofs.Ytcjhhlbhfkcboaa.RefOne.two_s_tf a0_0 a0_1 a0_2 a0_3 w o1 Sn BRf G z (caraferef5_one.inF d2)
      · have z : (a0_3 == 0) = false := beq_eq_false_iff_ne.mpr d1
        rw [decide_eq_false (fun h => d1 h.1)]; exact Go.Proofs.Ytcjhhlbhfkcboaa.RefOne.two_s_f a0_0 a0_1 a0_2 a0_3 w o1 Sn BRf G z
    | false =>
      have G := SG false g
      rw [if_neg (by decide)]
      by_cases d1 : a0_3 = 0
      · have z : (a0_3 == 0) = true := beq_iff_eq.mpr d1
        by_cases d2 : 0 ≤ a0_2 ∧ a0_2 ≤ 255
        · rw [decide_eq_true ⟨d1, d2⟩]; exact Go.Proofs.Ytcjhhlbhfkcboaa.RefOne.two_u_tt a0_0 a0_1 a0_2 a0_3 w o1 Sn BRf G z (caraferef5_one.inT d2)
        · rw [decide_eq_false (fun h => d2 h.2)]; exact Go.Proofs.Ytcjhhlbhfkcboaa.RefOne.two_u_tf a0_0 a0_1 a0_2 a0_3 w o1 Sn BRf G z (caraferef5_one.inF d2)
      · have z : (a0_3 == 0) = false := beq_eq_false_iff_ne.mpr d1
        rw [decide_eq_false (fun h => d1 h.1)]; exact Go.Proofs.Ytcjhhlbhfkcboaa.RefOne.two_u_f a0_0 a0_1 a0_2 a0_3 w o1 Sn BRf G z
  rw [if_neg c4] at h
  by_cases c5 : caraferef5_Decode.sz a0_1 = 3
  · rw [if_pos c5] at h
    simp only [Option.some.injEq, Prod.mk.injEq] at h
    obtain ⟨rfl, rfl⟩ := h
    have Sn := S 3 c5
    cases g : caraferef5_Decode.sg a0_1 with
    | true =>
      have G := SG true g
      rw [if_pos rfl]
      by_cases d1 : a0_3 = 0
      · have z : (a0_3 == 0) = true := beq_iff_eq.mpr d1
        by_cases d2 : -32768 ≤ a0_2 ∧ a0_2 ≤ 32767
        · rw [decide_eq_true ⟨d1, d2⟩]; exact Go.Proofs.Ytcjhhlbhfkcboaa.RefOne.three_s_tt a0_0 a0_1 a0_2 a0_3 w o1 Sn BRf G z (caraferef5_one.inT d2)
        · rw [decide_eq_false (fun h => d2 h.2)]; exact Go.Proofs.Ytcjhhlbhfkcboaa.RefOne.three_s_tf a0_0 a0_1 a0_2 a0_3 w o1 Sn BRf G z (caraferef5_one.inF d2)
      · have z : (a0_3 == 0) = false := beq_eq_false_iff_ne.mpr d1
        rw [decide_eq_false (fun h => d1 h.1)]; exact Go.Proofs.Ytcjhhlbhfkcboaa.RefOne.three_s_f a0_0 a0_1 a0_2 a0_3 w o1 Sn BRf G z
    | false =>
      have G := SG false g
      rw [if_neg (by decide)]
      by_cases d1 : a0_3 = 0
      · have z : (a0_3 == 0) = true := beq_iff_eq.mpr d1
        by_cases d2 : 0 ≤ a0_2 ∧ a0_2 ≤ 65535
        · rw [decide_eq_true ⟨d1, d2⟩]; exact Go.Proofs.Ytcjhhlbhfkcboaa.RefOne.three_u_tt a0_0 a0_1 a0_2 a0_3 w o1 Sn BRf G z (caraferef5_one.inT d2)
        · rw [decide_eq_false (fun h => d2 h.2)]; exact Go.Proofs.Ytcjhhlbhfkcboaa.RefOne.three_u_tf a0_0 a0_1 a0_2 a0_3 w o1 Sn BRf G z (caraferef5_one.inF d2)
      · have z : (a0_3 == 0) = false := beq_eq_false_iff_ne.mpr d1
        rw [decide_eq_false (fun h => d1 h.1)]; exact Go.Proofs.Ytcjhhlbhfkcboaa.RefOne.three_u_f a0_0 a0_1 a0_2 a0_3 w o1 Sn BRf G z
  rw [if_neg c5] at h
  cases h

end Go.Proofs.Ytcjhhlbhfkcboaa.PA
