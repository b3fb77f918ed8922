/- CodeWrites: instructions are written as the document says. -/
import Derived.Test.YtcjhhlbhfkcboaaRows
import Derived.Test.YtcjhhlbhfkcboaaInstRow
import Derived.Test.YtcjhhlbhfkcboaaPureCodeWrites
import Derived.Test.YtcjhhlbhfkcboaaPAf4
import Derived.WalkKit
import Derived.ProofKit
import Derived.OpenShut
import Derived.ShutString
import Derived.ChangeOld
import Derived.Below
import Derived.SizedLaws
import Derived.Lib.SmallJoins
import Derived.Deep.Slices
import Derived.Test.YtcjhhlbhfkcboaaWSized
namespace Go.Proofs.Ytcjhhlbhfkcboaa.codeWrites
open Go.ChangeShapes Go.WideShapes Go.ChangeAt Go.RowKit
open Go.ChangeMaps (open_string shut_string)
open Go.Proofs.Ytcjhhlbhfkcboaa.PA Go.Proofs.YtcjhhlbhfkcboaaW
set_option linter.unusedVariables false
theorem own : ownKnob Try.prog.godebug = none := by kernel_rfl
theorem laidOut : laidOutB Try.prog = true := by kernel_rfl
theorem Pure.CodeWrites.walk (l : List S32) (A : Option Addr) (c : Nat) (w : World) (hr : Go.Proofs.YtcjhhlbhfkcboaaW.PrintWords.Kd.C k32 w A l.length l) (hc : l.length ≤ c) (hw : ∀ x ∈ l, InstRow.Wf x) :
    Calls Try.prog 4 #[.slice A l.length c] w fun e w' => e = .returned (.bool true) ∧ Below w.heap.size w w' := by
  obtain ⟨k, h⟩ := Go.Proofs.Ytcjhhlbhfkcboaa.Pure.CodeWrites l (fun x hx => (hw x hx).2.2.1)
  exact carafelaw5_CodeWrites.calls k A c l true w hr hc h
set_option maxRecDepth 100000 in
theorem lifted (os : Os) (started : os.Started) (H : Type) (enc : TypeId × Value → H) :
    ReturnsInHanded {} Try.checked os 4 .any (Rows.codeWritesSpec.pre6 enc Try.prog Try.f4 Rows.codeWritesRow.domain false) (Rows.codeWritesSpec.post enc Try.prog Try.f4 false true false false) := by
  refine returnsInHanded_of_change_sized (C := Try.checked) own started (by kernel_rfl) Try.func4
    (ChangeSpec.witness6 (enc := enc) (C := Try.checked) false ⟨#[], #[.slice none 0 0], []⟩ 8 (by kernel_rfl) (by kernel_rfl) (by kernel_rfl) (by kernel_rfl)) ?_
  intro W base args ds gs before hval0 hW hcnd hsz0 _
  have hsz : (DataW.weightsEach Try.prog (Try.f4.params.toList ++ Rows.codeWritesSpec.plain.varTypes Try.prog) (ds ++ gs)).all (· ≤ reachBytes) = true := hsz0
  have hval : ∀ (j : Nat) t v, Try.f4.params[j]? = some t → args[j]? = some v → Value.okWide Try.prog W .any base t v := hval0
  have hW' := hW
  obtain ⟨p, q, hA0, hV, rfl, hfz, hnd⟩ := hW
  have hA : DataW.TrodAll enc Try.prog W 0 (fun _ => true) true Try.f4.params.toList args.toList ds p := hA0
  rw [Try.params4] at hA hval hsz
  obtain ⟨v0, vs0, d0, ds0, p0, q0, hargs, rfl, rfl, h0, r0⟩ := trodAll_cons hA
  obtain ⟨rfl, rfl, rfl⟩ := trodAll_nil r0
  obtain rfl : args = #[v0] := by cases args; simp_all
  obtain ⟨rfl, rfl⟩ := trodVars_none hV
  have k0 := h0
  have lt0 : ∀ x ∈ p0, x.block < W.heap.size := by obtain ⟨m, hm⟩ := k0; exact DataW.trod_lt m _ _ _ hm
  obtain ⟨a0, len0, cap0, rfl⟩ := okWide_slice Try.underlying24 (hval 0 24 v0 rfl rfl)
  obtain ⟨l0, hl0, hc0, hr0, hw0⟩ := InstRow.open_insts h0
  have y0 := InstRow.sized_insts hsz (j := 0) rfl rfl h0
  subst hl0
  clear hA0 hval0 hsz0
  refine (Pure.CodeWrites.walk l0 a0 cap0 W hr0 hc0 hw0).mono fun e W' ⟨he, bel⟩ => ?_
  subst he
  exact ⟨_, rfl, _, _, _, [], _, [], hW', trodAll_mk1 (shut_bool Try.underlying4 _), (trodAll_cons_mk (Below.trod laidOut (by kernel_rfl) (of_decide_eq_true (by kernel_rfl)) k0 bel lt0) trodAll_mk0), rfl, bel.frame _, fun h => by cases h⟩
theorem over : Rows.codeWritesRow.holds Try.pinned (OpenSpec.ofChange Rows.codeWritesSpec) :=
  OpenClaim.holds_of_wide 4 Try.f4 rfl rfl rfl rfl rfl rfl rfl ⟨rfl, rfl, rfl, rfl, rfl⟩ rfl rfl rfl rfl rfl (by kernel_rfl) Try.func4 (by kernel_rfl)
    (of_decide_eq_true (by kernel_rfl)) (by unfold Func.isWrapper; first | (rw [if_pos (by decide +kernel)]; kernel_rfl) | (rw [if_neg (by decide +kernel)]; exact ⟨rfl, rfl⟩))
    (fun os started H enc _ => lifted os started H enc)
theorem proved : Rows.CodeWritesSaid := over
#print axioms proved
end Go.Proofs.Ytcjhhlbhfkcboaa.codeWrites
namespace Go.Proofs.Ytcjhhlbhfkcboaa
/-- The row, under a short name, for the claim. -/
theorem codeWrites_holds : Rows.CodeWritesSaid := codeWrites.proved
end Go.Proofs.Ytcjhhlbhfkcboaa
