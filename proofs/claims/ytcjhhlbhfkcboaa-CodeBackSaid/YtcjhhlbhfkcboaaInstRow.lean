/- A slice of instructions among a law's arguments, opened as one list. -/
import Derived.WalkKit
import Derived.ProofKit
import Derived.OpenShut
import Derived.SizedLaws
import Derived.Deep.Slices
import Derived.Test.YtcjhhlbhfkcboaaWSized
import Derived.Test.YtcjhhlbhfkcboaaPA0
namespace Go.Proofs.Ytcjhhlbhfkcboaa.InstRow
open Go.Deep Go.ChangeShapes Go.WideShapes Go.ChangeAt Go.RowKit Go.Proofs.YtcjhhlbhfkcboaaW.PrintWords Go.Proofs.YtcjhhlbhfkcboaaW.PrintLast Go.Proofs.YtcjhhlbhfkcboaaW.PrintMore
open Go.Proofs.Ytcjhhlbhfkcboaa.PA
set_option linter.unusedVariables false
def wf64 (n : Int) : Prop := -9223372036854775808 ≤ n ∧ n ≤ 9223372036854775807
def Wf (x : S32) : Prop := wf64 x.f0 ∧ wf64 x.f1 ∧ wf64 x.f2 ∧ wf64 x.f3
theorem wf64_of {n : Int} (h : (Lit.int .i64 n).wf = true) : wf64 n := by
  simp [Lit.wf, IntKind.min, IntKind.max, IntKind.bits, IntKind.signed] at h
  exact ⟨by omega, by omega⟩
variable {H : Type} {enc : TypeId × Value → H} {W : World} {base : Nat} {spare : Nat → Bool} {held : Bool}
theorem open_inst {fuel : Nat} {cs : List Value} {x : DataW H × List MemPlace} (h : DataW.trod enc Try.prog W base spare held fuel 32 cs = some x) :
    ∃ y : S32, cs = [.int .i64 y.f0, .int .i64 y.f1, .int .i64 y.f2, .int .i64 y.f3] ∧ Wf y := by
  obtain ⟨xs, n, _, rfl, hl, hlen, hf⟩ := DataW.trod_struct Try.underlying32 h
  obtain ⟨c0, c1, c2, c3, rfl⟩ : ∃ c0 c1 c2 c3, cs = [c0, c1, c2, c3] := by
    have h4 : cs.length = 4 := by rw [hl]; kernel_rfl
    match cs, h4 with
    | [c0, c1, c2, c3], _ => exact ⟨c0, c1, c2, c3, rfl⟩
  have e3 : Try.prog.cellsOf 3 = 1 := by kernel_rfl
  match xs, hlen with
  | [y0, y1, y2, y3], _ =>
    have k0 : DataW.trod enc Try.prog W base spare held n 3 (([c0, c1, c2, c3].drop 0).take (Try.prog.cellsOf 3)) = some y0 := hf 0 _ rfl
    rw [e3] at k0
    have k1 : DataW.trod enc Try.prog W base spare held n 3 (([c0, c1, c2, c3].drop 1).take (Try.prog.cellsOf 3)) = some y1 := hf 1 _ rfl
    rw [e3] at k1
    have k2 : DataW.trod enc Try.prog W base spare held n 3 (([c0, c1, c2, c3].drop 2).take (Try.prog.cellsOf 3)) = some y2 := hf 2 _ rfl
    rw [e3] at k2
    have k3 : DataW.trod enc Try.prog W base spare held n 3 (([c0, c1, c2, c3].drop 3).take (Try.prog.cellsOf 3)) = some y3 := hf 3 _ rfl
    rw [e3] at k3
    obtain ⟨a, h0, _, w0⟩ := DataW.trod_int Try.underlying3 k0
    obtain ⟨b, h1, _, w1⟩ := DataW.trod_int Try.underlying3 k1
    obtain ⟨c, h2, _, w2⟩ := DataW.trod_int Try.underlying3 k2
    obtain ⟨d, h3, _, w3⟩ := DataW.trod_int Try.underlying3 k3
    simp at h0 h1 h2 h3
    subst h0; subst h1; subst h2; subst h3
    exact ⟨⟨a, b, c, d⟩, rfl, wf64_of w0, wf64_of w1, wf64_of w2, wf64_of w3⟩
theorem open_insts {a : Option Addr} {len cap : Nat} {d : DataW H} {ps : List MemPlace} (h : DataW.Trod enc Try.prog W base spare held 24 (.slice a len cap) d ps) :
    ∃ l : List S32, l.length = len ∧ len ≤ cap ∧ Kd.C k32 W a len l ∧ ∀ x ∈ l, Wf x := by
  obtain ⟨fuel, hf⟩ := h
  rcases open_slice Try.underlying24 hf with ⟨hcs, _⟩ | ⟨x, l, c, m, n, D, Pl, hcs, hb, hl, hm, hmm, hx, hel⟩
  · simp [Value.cells] at hcs
    obtain ⟨rfl, rfl, rfl⟩ := hcs
    exact ⟨[], rfl, Nat.le_refl _, ⟨rfl, by omega, fun h => absurd h (by omega)⟩, fun x hx => by cases hx⟩
  · simp [Value.cells] at hcs
    obtain ⟨rfl, rfl, rfl⟩ := hcs
    have e32 : Try.prog.cellsOf 32 = 4 := by kernel_rfl
    have H1 : ∀ i, i < len → ∃ y : S32, Wf y ∧ ∀ j u, ([.int .i64 y.f0, .int .i64 y.f1, .int .i64 y.f2, .int .i64 y.f3] : List Value)[j]? = some u → W.cell? (x.add (i * 4 + j)) = some u := by
      intro i hi
      obtain ⟨cs', h1, h2⟩ := hel i (by rw [hmm]; split <;> omega)
      rw [e32] at h1
      obtain ⟨y, rfl, hw⟩ := open_inst h2
      obtain ⟨_, _, h3⟩ := World.cells?_some h1
      refine ⟨y, hw, fun j u hj => ?_⟩
      have hj4 : j < 4 := (List.getElem?_eq_some_iff.1 hj).1
      have := h3 j hj4
      rw [Deep.add_add] at this
      rw [this]; exact hj
    let f : Nat → S32 := fun i => if h : i < len then Classical.choose (H1 i h) else z32
    have hfi : ∀ i, i < len → Wf (f i) ∧ ∀ j u, ([.int .i64 (f i).f0, .int .i64 (f i).f1, .int .i64 (f i).f2, .int .i64 (f i).f3] : List Value)[j]? = some u → W.cell? (x.add (i * 4 + j)) = some u := by
      intro i hi
      show Wf (dite _ _ _) ∧ _
      have := Classical.choose_spec (H1 i hi)
      simp only [f, dif_pos hi]
      exact this
    refine ⟨(List.range len).map f, by simp, hl, ⟨by simp, by have : maxLen ≤ 9223372036854775807 := by decide +kernel
                                                              omega, fun _ => ⟨x, rfl, fun j p hj => ?_⟩⟩, ?_⟩
    · obtain ⟨hj1, hj2⟩ := List.getElem?_eq_some_iff.1 hj
      simp at hj1 hj2
      subst hj2
      exact ⟨_, rfl, k32_mk W (f j), (hfi j hj1).2⟩
    · intro y hy
      simp at hy
      obtain ⟨i, hi, rfl⟩ := hy
      exact (hfi i hi).1
theorem open_bytes {a : Option Addr} {len cap : Nat} {d : DataW H} {ps : List MemPlace} (h : DataW.Trod enc Try.prog W base spare held 22 (.slice a len cap) d ps) :
    ∃ l : List Int, l.length = len ∧ len ≤ cap ∧ Kd.C (Kd.int .u8) W a l.length l ∧ ∀ x ∈ l, 0 ≤ x ∧ x < 256 := by
  obtain ⟨fuel, hf⟩ := h
  rcases open_ints Try.underlying22 Try.underlying5 (by kernel_rfl) hf with ⟨hcs, _⟩ | ⟨x, l, c, zs, hcs, _, hl, hm, hz, _, hcell, hwz⟩
  · simp [Value.cells] at hcs
    obtain ⟨rfl, rfl, rfl⟩ := hcs
    exact ⟨[], rfl, Nat.le_refl _, ⟨rfl, by simp, fun h => absurd h (by simp)⟩, fun x hx => by cases hx⟩
  · simp [Value.cells] at hcs
    obtain ⟨rfl, rfl, rfl⟩ := hcs
    have hmx : maxLen ≤ 9223372036854775807 := by decide +kernel
    have hzl : len ≤ zs.length := by rw [hz]; split <;> omega
    refine ⟨zs.take len, by rw [List.length_take]; omega, hl, ⟨rfl, by rw [List.length_take]; omega, fun _ => ⟨x, rfl, fun j p hj => ?_⟩⟩, fun y hy => ?_⟩
    · obtain ⟨hj1, hj2⟩ := List.getElem?_eq_some_iff.1 hj
      rw [List.length_take] at hj1
      refine ⟨[.int .u8 p], rfl, rfl, fun i u hi => ?_⟩
      obtain ⟨hi1, hi2⟩ := List.getElem?_eq_some_iff.1 hi
      simp at hi1
      subst hi1
      simp at hi2 hj2
      subst hi2; subst hj2
      have := hcell j (by omega)
      rw [List.getD_eq_getElem?_getD, List.getElem?_eq_getElem (by omega)] at this
      show W.cell? (x.add (j * 1 + 0)) = _
      simpa using this
    · have := hwz y (List.mem_of_mem_take hy)
      simp [Lit.wf, IntKind.min, IntKind.max, IntKind.bits, IntKind.signed] at this
      omega
theorem sized_insts {ts : List TypeId} {ds : List (DataW H)} {j : Nat} {a : Option Addr} {len cap : Nat} {d : DataW H} {ps : List MemPlace} (hsz : (DataW.weightsEach Try.prog ts ds).all (· ≤ reachBytes) = true) (ht : ts[j]? = some 24) (hd : ds[j]? = some d)
    (h : DataW.Trod enc Try.prog W base spare held 24 (.slice a len cap) d ps) : len * 32 ≤ 140737488351232 := by
  obtain ⟨fuel, hf⟩ := h
  rcases open_slice Try.underlying24 hf with ⟨hcs, _⟩ | ⟨x, l, c, m, n, D, Pl, hcs, hb, hl, hm, hmm, hx, hel⟩
  · simp [Value.cells] at hcs
    obtain ⟨rfl, rfl, rfl⟩ := hcs
    omega
  · simp [Value.cells] at hcs
    obtain ⟨rfl, rfl, rfl⟩ := hcs
    obtain ⟨hx, _⟩ := Prod.mk.inj hx
    subst hx
    have z := sized_slice hsz ht hd Try.underlying24
    rw [show Try.prog.bytesOf 32 = 32 from by kernel_rfl] at z
    simp only [List.length_map, List.length_range] at z
    exact Nat.le_trans (Nat.mul_le_mul_right _ (Nat.le_add_right _ _)) z
end Go.Proofs.Ytcjhhlbhfkcboaa.InstRow
