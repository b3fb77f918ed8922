/- CodeBack: what is read is written as its bytes, what is written is read. -/
import Derived.Test.YtcjhhlbhfkcboaaRows
import Derived.Test.YtcjhhlbhfkcboaaInstRow
import Derived.Test.YtcjhhlbhfkcboaaPureCodeBack
import Derived.Test.YtcjhhlbhfkcboaaPAf5
import Derived.WalkKit
import Derived.ProofKit
import Derived.OpenShut
import Derived.ShutString
import Derived.ChangeOld
import Derived.Below
import Derived.SizedLaws
import Derived.Lib.SmallJoins
import Derived.Deep.Slices
import Derived.Test.YtcjhhlbhfkcboaaWSized
namespace Go.Proofs.Ytcjhhlbhfkcboaa.codeBack
open Go.ChangeShapes Go.WideShapes Go.ChangeAt Go.RowKit
open Go.ChangeMaps (open_string shut_string)
open Go.Proofs.Ytcjhhlbhfkcboaa.PA Go.Proofs.YtcjhhlbhfkcboaaW
set_option linter.unusedVariables false
theorem own : ownKnob Try.prog.godebug = none := by kernel_rfl
theorem laidOut : laidOutB Try.prog = true := by kernel_rfl
theorem Pure.CodeBack.walk (l0 : List Int) (A0 : Option Addr) (c0 : Nat) (l : List S32) (A : Option Addr) (c : Nat) (w : World) (hr0 : Go.Proofs.YtcjhhlbhfkcboaaW.PrintWords.Kd.C (Go.Proofs.YtcjhhlbhfkcboaaW.PrintWords.Kd.int .u8) w A0 l0.length l0) (hc0 : l0.length ≤ c0) (hw0 : ∀ x ∈ l0, 0 ≤ x ∧ x < 256) (hr : Go.Proofs.YtcjhhlbhfkcboaaW.PrintWords.Kd.C k32 w A l.length l) (hc : l.length ≤ c) (hy : l.length * 32 ≤ 140737488351232) :
    Calls Try.prog 5 #[.slice A0 l0.length c0, .slice A l.length c] w fun e w' => e = .returned (.bool true) ∧ Below w.heap.size w w' := by
  obtain ⟨k, h⟩ := Go.Proofs.Ytcjhhlbhfkcboaa.Pure.CodeBack l0 l hw0 (by omega)
  exact carafelaw5_CodeBack.calls k A0 c0 l0 A c l true w hr0 hc0 hr hc h
set_option maxRecDepth 100000 in
theorem lifted (os : Os) (started : os.Started) (H : Type) (enc : TypeId × Value → H) :
    ReturnsInHanded {} Try.checked os 5 .any (Rows.codeBackSpec.pre6 enc Try.prog Try.f5 Rows.codeBackRow.domain false) (Rows.codeBackSpec.post enc Try.prog Try.f5 false true false false) := by
  refine returnsInHanded_of_change_sized (C := Try.checked) own started (by kernel_rfl) Try.func5
    (ChangeSpec.witness6 (enc := enc) (C := Try.checked) false ⟨#[], #[.slice none 0 0, .slice none 0 0], []⟩ 8 (by kernel_rfl) (by kernel_rfl) (by kernel_rfl) (by kernel_rfl)) ?_
  intro W base args ds gs before hval0 hW hcnd hsz0 _
  have hsz : (DataW.weightsEach Try.prog (Try.f5.params.toList ++ Rows.codeBackSpec.plain.varTypes Try.prog) (ds ++ gs)).all (· ≤ reachBytes) = true := hsz0
  have hval : ∀ (j : Nat) t v, Try.f5.params[j]? = some t → args[j]? = some v → Value.okWide Try.prog W .any base t v := hval0
  have hW' := hW
  obtain ⟨p, q, hA0, hV, rfl, hfz, hnd⟩ := hW
  have hA : DataW.TrodAll enc Try.prog W 0 (fun _ => true) true Try.f5.params.toList args.toList ds p := hA0
  rw [Try.params5] at hA hval hsz
  obtain ⟨v0, vs0, d0, ds0, p0, q0, hargs, rfl, rfl, h0, r0⟩ := trodAll_cons hA
  obtain ⟨v1, vs1, d1, ds1, p1, q1, rfl, rfl, rfl, h1, r1⟩ := trodAll_cons r0
  obtain ⟨rfl, rfl, rfl⟩ := trodAll_nil r1
  obtain rfl : args = #[v0, v1] := by cases args; simp_all
  obtain ⟨rfl, rfl⟩ := trodVars_none hV
  have k0 := h0
  have lt0 : ∀ x ∈ p0, x.block < W.heap.size := by obtain ⟨m, hm⟩ := k0; exact DataW.trod_lt m _ _ _ hm
  obtain ⟨a0, len0, cap0, rfl⟩ := okWide_slice Try.underlying22 (hval 0 22 v0 rfl rfl)
  obtain ⟨l0, hl0, hc0, hr0, hw0⟩ := InstRow.open_bytes h0
  have y0 := PrintWords.sized_ints hsz (j := 0) (t := 22) rfl rfl Try.underlying22 Try.underlying5 (by kernel_rfl) (B := 1) (by kernel_rfl) h0
  subst hl0
  have k1 := h1
  have lt1 : ∀ x ∈ p1, x.block < W.heap.size := by obtain ⟨m, hm⟩ := k1; exact DataW.trod_lt m _ _ _ hm
  obtain ⟨a1, len1, cap1, rfl⟩ := okWide_slice Try.underlying24 (hval 1 24 v1 rfl rfl)
  obtain ⟨l1, hl1, hc1, hr1, hw1⟩ := InstRow.open_insts h1
  have y1 := InstRow.sized_insts hsz (j := 1) rfl rfl h1
  subst hl1
  clear hA0 hval0 hsz0
  refine (Pure.CodeBack.walk l0 a0 cap0 l1 a1 cap1 W hr0 hc0 hw0 hr1 hc1 y1).mono fun e W' ⟨he, bel⟩ => ?_
  subst he
  exact ⟨_, rfl, _, _, _, [], _, [], hW', trodAll_mk1 (shut_bool Try.underlying4 _), (trodAll_cons_mk (Below.trod laidOut (by kernel_rfl) (of_decide_eq_true (by kernel_rfl)) k0 bel lt0) (trodAll_cons_mk (Below.trod laidOut (by kernel_rfl) (of_decide_eq_true (by kernel_rfl)) k1 bel lt1) trodAll_mk0)), rfl, bel.frame _, fun h => by cases h⟩
theorem over : Rows.codeBackRow.holds Try.pinned (OpenSpec.ofChange Rows.codeBackSpec) :=
  OpenClaim.holds_of_wide 5 Try.f5 rfl rfl rfl rfl rfl rfl rfl ⟨rfl, rfl, rfl, rfl, rfl⟩ rfl rfl rfl rfl rfl (by kernel_rfl) Try.func5 (by kernel_rfl)
    (of_decide_eq_true (by kernel_rfl)) (by unfold Func.isWrapper; first | (rw [if_pos (by decide +kernel)]; kernel_rfl) | (rw [if_neg (by decide +kernel)]; exact ⟨rfl, rfl⟩))
    (fun os started H enc _ => lifted os started H enc)
theorem proved : Rows.CodeBackSaid := over
#print axioms proved
end Go.Proofs.Ytcjhhlbhfkcboaa.codeBack
namespace Go.Proofs.Ytcjhhlbhfkcboaa
/-- The row, under a short name, for the claim. -/
theorem codeBack_holds : Rows.CodeBackSaid := codeBack.proved
end Go.Proofs.Ytcjhhlbhfkcboaa
