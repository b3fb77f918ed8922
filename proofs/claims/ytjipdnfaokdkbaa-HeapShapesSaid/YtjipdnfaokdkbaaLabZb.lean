/- The lab: a law's arguments as ours. No condition on the program. -/
import Derived.Test.YtjipdnfaokdkbaaLabZa
namespace Go.Proofs.YtjipdnfaokdkbaaLab
open Go Go.WideShapes Go.ChangeShapes
set_option linter.all false
noncomputable section
section
variable {H : Type} {enc : TypeId × Value → H} {P : Program} {W : World} {base b0 : Nat} {r : Reach} {spare : Nat → Bool} {held : Bool}
theorem ok_slice_blk {t e : TypeId} {a : Addr} {len cap : Nat} (ht : P.underlying t = some (.slice e)) (h : Value.okWide P W r base t (.slice (some a) len cap)) : a.spot = none ∧ len ≤ cap ∧ ∃ c el fz, W.heap[a.block]? = some (.cells c el fz) := by
  simp only [Value.okWide, ht, Cell.okWide, Cell.ok] at h
  obtain ⟨h1, _, h2, h3, row, cells, h4, _⟩ := h
  refine ⟨h3, h1, ?_⟩
  unfold World.shape? at h4
  split at h4
  · exact ⟨_, _, _, by assumption⟩
  · cases h4
/-- A slice of ints. -/
theorem arg_ints {t e : TypeId} {v : Value} {d : DataW H} {ps : List MemPlace} (ht : P.underlying t = some (.slice e)) (he : P.underlying e = some (.int .i64)) (hc : P.cellsOf e = 1)
    (hval : Value.okWide P W r b0 t v) (h : DataW.Trod enc P W base (fun _ => true) held t v d ps) :
    ∃ (x : V) (l : List Int), VR (impG W) x v ∧ SL (impS W 1) x (l.map V.i) ∧ (∀ b ∈ blkV x, b < W.heap.size) ∧ l.length ≤ maxLen ∧ ∀ n ∈ l, -9223372036854775808 ≤ n ∧ n < 9223372036854775808 := by
  obtain ⟨fuel, hf⟩ := h
  obtain ⟨a, len, cap, rfl⟩ := okWide_slice ht hval
  rcases open_ints ht he hc hf with ⟨hcs, _⟩ | ⟨a', len', cap', zs, hcs, hb, hl, hm, hzl, hx, hcell, hwf⟩
  · simp [Value.cells] at hcs
    obtain ⟨rfl, rfl, rfl⟩ := hcs
    exact ⟨.nils, [], .nils, .inl ⟨rfl, .inl rfl⟩, fun b hb => by simp [blkV] at hb, by simp, fun n hn => by cases hn⟩
  · simp [Value.cells] at hcs
    obtain ⟨rfl, rfl, rfl⟩ := hcs
    simp only [if_true] at hzl
    obtain ⟨hsp, _, c, el, fz, hblk⟩ := ok_slice_blk ht hval
    have hg : impG W a'.block = some ⟨a'.block, 0, c.size⟩ := by unfold impG; rw [hblk]
    have hlt : a'.block < W.heap.size := (Array.getElem?_eq_some_iff.1 hblk).1
    obtain ⟨ab, ao, as⟩ := a'
    simp only at hsp hblk hg hlt
    subst hsp
    have hcl : ∀ i, i < cap → c[ao + i]? = some (.int .i64 (zs.getD i 0)) := fun i hi => by
      have := hcell i (by omega)
      rw [add_at] at this
      unfold World.cell? at this
      simp only [hblk] at this
      simpa using this
    have htot : cap = 0 ∨ ao + cap ≤ c.size := by
      by_cases h0 : cap = 0
      · exact .inl h0
      · have := (Array.getElem?_eq_some_iff.1 (hcl (cap - 1) (by omega))).1
        exact .inr (by omega)
    refine ⟨.slice ab ao len none 1, zs.take len, .slice _ _ _ _ _ _ ⟨ab, 0, c.size⟩ _ hg hl (fun k h => by cases h) (.inr (by simp)) (by simpa using htot), ?_, fun b hb => by simp [blkV] at hb; subst hb; exact hlt, by simp; omega, fun n hn => ?_⟩
    · by_cases h0 : len = 0
      · subst h0; exact .inl ⟨by simp, .inr ⟨_, _, _, rfl⟩⟩
      · refine .inr ⟨ab, ao, none, _, _, by simp; omega, impS_rd hblk, by simp; omega, fun i hi => ?_⟩
        simp at hi
        simp only [hcl i (by omega), imp]
        rw [List.getElem?_map, List.getElem?_take, if_pos (by omega), List.getElem?_eq_getElem (by omega)]
        simp [List.getD_eq_getElem?_getD, show i < zs.length by omega]
    · have := hwf n (List.mem_of_mem_take hn)
      simp [Lit.wf, IntKind.min, IntKind.max, IntKind.bits, IntKind.signed] at this
      exact ⟨by omega, by omega⟩
theorem ok_i64 {n : Int} (h : (Lit.int .i64 n).wf = true) : -9223372036854775808 ≤ n ∧ n < 9223372036854775808 := by
  simp [Lit.wf, IntKind.min, IntKind.max, IntKind.bits, IntKind.signed] at h
  exact ⟨by omega, by omega⟩
end
end
end Go.Proofs.YtjipdnfaokdkbaaLab
