/- The law HeapPlays: its questions as they come in; its walk. No condition on the program. -/
import Derived.Test.YtjipdnfaokdkbaaHZ
namespace Go.Proofs.YtjipdnfaokdkbaaLab
open Go Go.WideShapes Go.ChangeShapes
set_option linter.all false
set_option maxRecDepth 10000
noncomputable section
section
variable {H : Type} {enc : TypeId × Value → H} {W : World} {base b0 : Nat} {r : Go.Reach} {held : Bool}
theorem cells3 : Try.prog.cellsOf 3 = 1 := by kernel_rfl
theorem cells2 : Try.prog.cellsOf 2 = 1 := by kernel_rfl
theorem cells40 : Try.prog.cellsOf 40 = 1 := by kernel_rfl
theorem cells4 : Try.prog.cellsOf 4 = 1 := by kernel_rfl
theorem cells54 : Try.prog.cellsOf 54 = 7 := by kernel_rfl
theorem one_int3 {n : Nat} {u : Value} {y : DataW H × List MemPlace} (h : DataW.trod enc Try.prog W base (fun _ => true) held n 3 [u] = some y) : ∃ z : Int, u = .int .i64 z ∧ -9223372036854775808 ≤ z ∧ z < 9223372036854775808 := by
  obtain ⟨z, h1, _, h3⟩ := DataW.trod_int Try.underlying3 h
  cases h1
  exact ⟨z, rfl, ok_i64 h3⟩
theorem one_int2 {n : Nat} {u : Value} {y : DataW H × List MemPlace} (h : DataW.trod enc Try.prog W base (fun _ => true) held n 2 [u] = some y) : ∃ z : Int, u = .int .i64 z ∧ -9223372036854775808 ≤ z ∧ z < 9223372036854775808 := by
  obtain ⟨z, h1, _, h3⟩ := DataW.trod_int Try.underlying2 h
  cases h1
  exact ⟨z, rfl, ok_i64 h3⟩
theorem one_bools {n k : Nat} {u : Value} {y : DataW H × List MemPlace} (h : DataW.trod enc Try.prog W base (fun _ => true) held n 40 [u] = some y) (hk : ∃ l, impG W k = some l) : ∃ z, imp W 1 k u = some z ∧ IsBs W z :=
  el_bools Try.underlying40 cells4 Try.underlying4 n u y k h hk
theorem one_ask {n k : Nat} {cs : List Value} {y : DataW H × List MemPlace} (hl : cs.length = 7) (h : DataW.trod enc Try.prog W base (fun _ => true) held n 54 cs = some y) (hk : ∃ l, impG W k = some l) :
    ∃ a : Ask, AskOk (impS W 1) a ∧ ∀ (j : Nat) (u : Value), cs[j]? = some u → ∃ z, imp W 1 k u = some z ∧ a.cells[j]? = some z := by
  obtain ⟨xs, m, _, _, _, hxl, hf⟩ := DataW.trod_struct Try.underlying54 h
  match cs, hl with
  | [c0, c1, c2, c3, c4, c5, c6], _ =>
    have f0 : DataW.trod enc Try.prog W base (fun _ => true) held m 3 (([c0, c1, c2, c3, c4, c5, c6].drop 0).take (Try.prog.cellsOf 3)) = xs[0]? := hf 0 _ rfl
    rw [cells3] at f0
    replace f0 : DataW.trod enc Try.prog W base (fun _ => true) held m 3 [c0] = xs[0]? := f0
    have f1 : DataW.trod enc Try.prog W base (fun _ => true) held m 3 (([c0, c1, c2, c3, c4, c5, c6].drop 1).take (Try.prog.cellsOf 3)) = xs[1]? := hf 1 _ rfl
    rw [cells3] at f1
    replace f1 : DataW.trod enc Try.prog W base (fun _ => true) held m 3 [c1] = xs[1]? := f1
    have f2 : DataW.trod enc Try.prog W base (fun _ => true) held m 3 (([c0, c1, c2, c3, c4, c5, c6].drop 2).take (Try.prog.cellsOf 3)) = xs[2]? := hf 2 _ rfl
    rw [cells3] at f2
    replace f2 : DataW.trod enc Try.prog W base (fun _ => true) held m 3 [c2] = xs[2]? := f2
    have f3 : DataW.trod enc Try.prog W base (fun _ => true) held m 3 (([c0, c1, c2, c3, c4, c5, c6].drop 3).take (Try.prog.cellsOf 3)) = xs[3]? := hf 3 _ rfl
    rw [cells3] at f3
    replace f3 : DataW.trod enc Try.prog W base (fun _ => true) held m 3 [c3] = xs[3]? := f3
    have f4 : DataW.trod enc Try.prog W base (fun _ => true) held m 40 (([c0, c1, c2, c3, c4, c5, c6].drop 4).take (Try.prog.cellsOf 40)) = xs[4]? := hf 4 _ rfl
    rw [cells40] at f4
    replace f4 : DataW.trod enc Try.prog W base (fun _ => true) held m 40 [c4] = xs[4]? := f4
    have f5 : DataW.trod enc Try.prog W base (fun _ => true) held m 2 (([c0, c1, c2, c3, c4, c5, c6].drop 5).take (Try.prog.cellsOf 2)) = xs[5]? := hf 5 _ rfl
    rw [cells2] at f5
    replace f5 : DataW.trod enc Try.prog W base (fun _ => true) held m 2 [c5] = xs[5]? := f5
    have f6 : DataW.trod enc Try.prog W base (fun _ => true) held m 40 (([c0, c1, c2, c3, c4, c5, c6].drop 6).take (Try.prog.cellsOf 40)) = xs[6]? := hf 6 _ rfl
    rw [cells40] at f6
    replace f6 : DataW.trod enc Try.prog W base (fun _ => true) held m 40 [c6] = xs[6]? := f6
    have hxl : xs.length = 7 := hxl
    rw [List.getElem?_eq_getElem (by omega)] at f0 f1 f2 f3 f4 f5 f6
    obtain ⟨z0, rfl, b0⟩ := one_int3 f0
    obtain ⟨z1, rfl, b1⟩ := one_int3 f1
    obtain ⟨z2, rfl, b2⟩ := one_int3 f2
    obtain ⟨z3, rfl, b3⟩ := one_int3 f3
    obtain ⟨z4, e4, l4, s4, k4⟩ := one_bools f4 hk
    obtain ⟨z5, rfl, b5⟩ := one_int2 f5
    obtain ⟨z6, e6, l6, s6, k6⟩ := one_bools f6 hk
    refine ⟨⟨z0, z1, z2, z3, z4, z5, z6⟩, ⟨b1, b2, b3, b5, ⟨l4, s4, k4⟩, ⟨l6, s6, k6⟩⟩, fun j u hj => ?_⟩
    match j with
    | 0 => simp at hj; subst hj; exact ⟨_, rfl, rfl⟩
    | 1 => simp at hj; subst hj; exact ⟨_, rfl, rfl⟩
    | 2 => simp at hj; subst hj; exact ⟨_, rfl, rfl⟩
    | 3 => simp at hj; subst hj; exact ⟨_, rfl, rfl⟩
    | 4 => simp at hj; subst hj; exact ⟨_, e4, rfl⟩
    | 5 => simp at hj; subst hj; exact ⟨_, rfl, rfl⟩
    | 6 => simp at hj; subst hj; exact ⟨_, e6, rfl⟩
    | j + 7 => simp at hj
theorem arg_asks {v : Value} {d : DataW H} {ps : List MemPlace} (hval : Value.okWide Try.prog W r b0 50 v) (h : DataW.Trod enc Try.prog W base (fun _ => true) held 50 v d ps) :
    ∃ (x : V) (l : List Ask), VR (impG W) x v ∧ SA (impS W 1) x l ∧ (∀ b ∈ blkV x, b < W.heap.size) ∧ ∀ a ∈ l, AskOk (impS W 1) a := by
  obtain ⟨fuel, hf⟩ := h
  obtain ⟨a, len, cap, rfl⟩ := okWide_slice Try.underlying50 hval
  have hf : DataW.trod enc Try.prog W base (fun _ => true) held fuel 50 [.slice a len cap] = some (d, ps) := hf
  rcases slice_elems Try.underlying50 cells54 hf with h0 | ⟨a', len', cap', h1, hl, hm, hcell⟩
  · cases h0
    exact ⟨.nils, [], .nils, .inl ⟨rfl, .inl rfl⟩, by simp [blkV], by simp⟩
  · cases h1
    obtain ⟨hsp, _, c, el, fz, hblk⟩ := ok_slice_blk Try.underlying50 hval
    have hg : impG W a'.block = some ⟨a'.block, 0, c.size⟩ := by unfold impG; rw [hblk]
    have hlt : a'.block < W.heap.size := (Array.getElem?_eq_some_iff.1 hblk).1
    obtain ⟨ab, ao, asp⟩ := a'
    simp only at hsp hblk hg hlt
    subst hsp
    have each : ∀ i, i < cap → ∃ a : Ask, AskOk (impS W 1) a ∧ ∀ j, j < 7 → ∃ u z, c[ao + i * 7 + j]? = some u ∧ imp W 1 ab u = some z ∧ a.cells[j]? = some z := fun i hi => by
      obtain ⟨cs, y, n', q1, q2, q3⟩ := hcell i hi
      obtain ⟨a, ha, hj⟩ := one_ask (k := ab) q1 q3 ⟨_, hg⟩
      refine ⟨a, ha, fun j hj7 => ?_⟩
      have hc := q2 j hj7
      have hu : cs[j]? = some cs[j] := List.getElem?_eq_getElem (by omega)
      rw [hu] at hc
      obtain ⟨z, z1, z2⟩ := hj j _ hu
      rw [add_at] at hc
      unfold World.cell? at hc
      simp only [hblk] at hc
      exact ⟨cs[j], z, by rw [Nat.add_assoc]; simpa using hc, z1, z2⟩
    have htot : cap = 0 ∨ ao + cap * 7 ≤ c.size := by
      by_cases h0 : cap = 0
      · exact .inl h0
      · obtain ⟨a, _, hj⟩ := each (cap - 1) (by omega)
        obtain ⟨u, z, hu, _⟩ := hj 6 (by omega)
        have := (Array.getElem?_eq_some_iff.1 hu).1
        exact .inr (by omega)
    have hch : ∃ g : Nat → Ask, ∀ i, i < cap → AskOk (impS W 1) (g i) ∧ ∀ j, j < 7 → ∃ u z, c[ao + i * 7 + j]? = some u ∧ imp W 1 ab u = some z ∧ (g i).cells[j]? = some z := by
      refine ⟨fun i => if h : i < cap then (each i h).choose else ⟨0, 0, 0, 0, .nils, 0, .nils⟩, fun i hi => ?_⟩
      simp only [dif_pos hi]
      exact (each i hi).choose_spec
    obtain ⟨g, hgs⟩ := hch
    refine ⟨.slice ab ao len none 7, (List.range len).map g, .slice _ _ _ _ _ _ ⟨ab, 0, c.size⟩ _ hg hl (fun k h => by cases h) (.inr (by simp)) (by simpa using htot), ?_, fun b hb => by simp [blkV] at hb; subst hb; exact hlt, fun a ha => ?_⟩
    · by_cases h0 : len = 0
      · subst h0; exact .inl ⟨by simp, .inr ⟨_, _, _, rfl⟩⟩
      · refine .inr ⟨ab, ao, none, _, _, by simp, impS_rd hblk, by simp; omega, fun i a hi j hj => ?_⟩
        have hil := (List.getElem?_eq_some_iff.1 hi).1
        simp at hil
        simp [hil] at hi
        subst hi
        obtain ⟨_, h2⟩ := hgs i (by omega)
        obtain ⟨u, z, u1, u2, u3⟩ := h2 j hj
        simp only [u1, u2, u3]
    · obtain ⟨i, hi, rfl⟩ := List.mem_map.1 ha
      simp at hi
      exact (hgs i (by omega)).1
end
theorem heapPlays_walk {W : World} (a0 : Int) {v1 : Value} {x1 : V} {l1 : List Ask} (vr : VR (impG W) x1 v1) (sa : SA (impS W 1) x1 l1) (bk : ∀ b ∈ blkV x1, b < W.heap.size) (ok : ∀ a ∈ l1, AskOk (impS W 1) a) :
    Calls Try.prog 6 #[.int .i64 a0, v1] W (fun e w' => e = .returned (.bool true) ∧ RowKit.Below W.heap.size W w') := by
  exact law_ro (fuel := 1000000) (n := 7) tblOk ((heapPlays_run (impS_wf W 1) sa bk ok a0 0).mono fun v s' h => h.1) (.cons _ _ _ _ (.i _) (.cons _ _ _ _ vr .nil))
end
end Go.Proofs.YtjipdnfaokdkbaaLab
