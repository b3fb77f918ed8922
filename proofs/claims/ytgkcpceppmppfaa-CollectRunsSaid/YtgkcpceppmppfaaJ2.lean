/- Parts of the proof: contracts of functions, joined. No condition on the program. -/
import Derived.Test.YtgkcpceppmppfaaJ1
namespace Go.Proofs.YtgkcpceppmppfaaLab
open Go Go.WideShapes Go.ChangeShapes
set_option linter.all false
set_option maxRecDepth 10000
noncomputable section
section
variable {H : Type} {enc : TypeId × Value → H} {W : World} {base b0 : Nat} {r : Go.Reach} {held : Bool}
theorem cells3 : Try.prog.cellsOf 3 = 1 := by kernel_rfl
theorem cells23 : Try.prog.cellsOf 23 = 1 := by kernel_rfl
theorem cells60 : Try.prog.cellsOf 60 = 3 := by kernel_rfl
theorem one_int3 {n : Nat} {u : Value} {y : DataW H × List MemPlace} (h : DataW.trod enc Try.prog W base (fun _ => true) held n 3 [u] = some y) : ∃ z : Int, u = .int .i64 z ∧ -9223372036854775808 ≤ z ∧ z < 9223372036854775808 := by
 obtain ⟨z, h1, _, h3⟩ := DataW.trod_int Try.underlying3 h
 cases h1
 exact ⟨z, rfl, ok_i64 h3⟩
def IsI (z : V) : Prop := ∃ n : Int, z = .i n ∧ -9223372036854775808 ≤ n ∧ n < 9223372036854775808
theorem el_int : ∀ n u y k', DataW.trod enc Try.prog W base (fun _ => true) held n 3 [u] = some y → (∃ l, impG W k' = some l) → ∃ z, imp W 1 k' u = some z ∧ IsI z := fun n u y k' h _ => by
 obtain ⟨z, rfl, h1⟩ := one_int3 h
 exact ⟨.i z, rfl, z, rfl, h1⟩
theorem ints_of : ∀ {l : List V}, (∀ z ∈ l, IsI z) → ∃ l' : List Int, l = l'.map V.i ∧ ∀ x ∈ l', -9223372036854775808 ≤ x ∧ x < 9223372036854775808
 | [], _ => ⟨[], rfl, by simp⟩
 | z :: l, h => by
   obtain ⟨n, rfl, hn⟩ := h z (by simp)
   obtain ⟨l', rfl, hl⟩ := ints_of (l := l) fun y hy => h y (by simp [hy])
   exact ⟨n :: l', rfl, fun x hx => by
    rcases List.mem_cons.1 hx with rfl | hx
    · exact hn
    · exact hl x hx⟩
theorem one_ints {n k : Nat} {u : Value} {y : DataW H × List MemPlace} (h : DataW.trod enc Try.prog W base (fun _ => true) held n 23 [u] = some y) (hk : ∃ l, impG W k = some l) : ∃ z, imp W 1 k u = some z ∧ ∃ l : List Int, SN (impS W 1) z (l.map .i) ∧ (∀ b ∈ blkV z, b < W.heap.size) ∧ ∀ x ∈ l, -9223372036854775808 ≤ x ∧ x < 9223372036854775808 := by
 obtain ⟨x, zs, h1, h2, h3, h4⟩ := in_slice1 Try.underlying23 cells3 hk _ el_int h
 obtain ⟨l, rfl, hl⟩ := ints_of h3
 exact ⟨x, h1, l, h2, h4, hl⟩
theorem one_node {n k : Nat} {cs : List Value} {y : DataW H × List MemPlace} (hl : cs.length = 3) (h : DataW.trod enc Try.prog W base (fun _ => true) held n 60 cs = some y) (hk : ∃ l, impG W k = some l) :
 ∃ a : Nd, NdOk (impS W 1) W.heap.size a ∧ ∀ (j : Nat) (u : Value), cs[j]? = some u → ∃ z, imp W 1 k u = some z ∧ a.cells[j]? = some z := by
 obtain ⟨xs, m, _, _, _, hxl, hf⟩ := DataW.trod_struct Try.underlying60 h
 match cs, hl with
 | [c0, c1, c2], _ =>
   have f0 : DataW.trod enc Try.prog W base (fun _ => true) held m 3 (([c0, c1, c2].drop 0).take (Try.prog.cellsOf 3)) = xs[0]? := hf 0 _ rfl
   rw [cells3] at f0
   replace f0 : DataW.trod enc Try.prog W base (fun _ => true) held m 3 [c0] = xs[0]? := f0
   have f1 : DataW.trod enc Try.prog W base (fun _ => true) held m 3 (([c0, c1, c2].drop 1).take (Try.prog.cellsOf 3)) = xs[1]? := hf 1 _ rfl
   rw [cells3] at f1
   replace f1 : DataW.trod enc Try.prog W base (fun _ => true) held m 3 [c1] = xs[1]? := f1
   have f2 : DataW.trod enc Try.prog W base (fun _ => true) held m 23 (([c0, c1, c2].drop 2).take (Try.prog.cellsOf 23)) = xs[2]? := hf 2 _ rfl
   rw [cells23] at f2
   replace f2 : DataW.trod enc Try.prog W base (fun _ => true) held m 23 [c2] = xs[2]? := f2
   have hxl : xs.length = 3 := hxl
   rw [List.getElem?_eq_getElem (by omega)] at f0 f1 f2
   obtain ⟨z0, rfl, b0⟩ := one_int3 f0
   obtain ⟨z1, rfl, b1⟩ := one_int3 f1
   obtain ⟨z2, e2, l2, s2, k2, w2⟩ := one_ints f2 hk
   refine ⟨⟨z0, z1, z2, l2⟩, ⟨s2.sl, k2, w2⟩, fun j u hj => ?_⟩
   match j with
   | 0 => simp at hj; subst hj; exact ⟨_, rfl, rfl⟩
   | 1 => simp at hj; subst hj; exact ⟨_, rfl, rfl⟩
   | 2 => simp at hj; subst hj; exact ⟨_, e2, rfl⟩
   | j + 3 => simp at hj
theorem arg_nodes {v : Value} {d : DataW H} {ps : List MemPlace} (hval : Value.okWide Try.prog W r b0 22 v) (h : DataW.Trod enc Try.prog W base (fun _ => true) held 22 v d ps) :
 ∃ (x : V) (l : List Nd), VR (impG W) x v ∧ NA (impS W 1) x l ∧ (∀ b ∈ blkV x, b < W.heap.size) ∧ ∀ a ∈ l, NdOk (impS W 1) W.heap.size a := by
 obtain ⟨fuel, hf⟩ := h
 obtain ⟨a, len, cap, rfl⟩ := okWide_slice Try.underlying22 hval
 have hf : DataW.trod enc Try.prog W base (fun _ => true) held fuel 22 [.slice a len cap] = some (d, ps) := hf
 rcases slice_elems Try.underlying22 cells60 hf with h0 | ⟨a', len', cap', h1, hl, hm, hcell⟩
 · cases h0
   exact ⟨.nils, [], .nils, .inl ⟨rfl, .inl rfl⟩, by simp [blkV], by simp⟩
 · cases h1
   obtain ⟨hsp, _, c, el, fz, hblk⟩ := ok_slice_blk Try.underlying22 hval
   have hg : impG W a'.block = some ⟨a'.block, 0, c.size⟩ := by unfold impG; rw [hblk]
   have hlt : a'.block < W.heap.size := (Array.getElem?_eq_some_iff.1 hblk).1
   obtain ⟨ab, ao, asp⟩ := a'
   simp only at hsp hblk hg hlt
   subst hsp
   have each : ∀ i, i < cap → ∃ a : Nd, NdOk (impS W 1) W.heap.size a ∧ ∀ j, j < 3 → ∃ u z, c[ao + i * 3 + j]? = some u ∧ imp W 1 ab u = some z ∧ a.cells[j]? = some z := fun i hi => by
    obtain ⟨cs, y, n', q1, q2, q3⟩ := hcell i hi
    obtain ⟨a, ha, hj⟩ := one_node (k := ab) q1 q3 ⟨_, hg⟩
    refine ⟨a, ha, fun j hj7 => ?_⟩
    have hc := q2 j hj7
    have hu : cs[j]? = some cs[j] := List.getElem?_eq_getElem (by omega)
    rw [hu] at hc
    obtain ⟨z, z1, z2⟩ := hj j _ hu
    rw [add_at] at hc
    unfold World.cell? at hc
    simp only [hblk] at hc
    exact ⟨cs[j], z, by rw [Nat.add_assoc]; simpa using hc, z1, z2⟩
   have htot : cap = 0 ∨ ao + cap * 3 ≤ c.size := by
    by_cases h0 : cap = 0
    · exact .inl h0
    · obtain ⟨a, _, hj⟩ := each (cap - 1) (by omega)
      obtain ⟨u, z, hu, _⟩ := hj 2 (by omega)
      have := (Array.getElem?_eq_some_iff.1 hu).1
      exact .inr (by omega)
   have hch : ∃ g : Nat → Nd, ∀ i, i < cap → NdOk (impS W 1) W.heap.size (g i) ∧ ∀ j, j < 3 → ∃ u z, c[ao + i * 3 + j]? = some u ∧ imp W 1 ab u = some z ∧ (g i).cells[j]? = some z := by
    refine ⟨fun i => if h : i < cap then (each i h).choose else ⟨0, 0, .nils, []⟩, fun i hi => ?_⟩
    simp only [dif_pos hi]
    exact (each i hi).choose_spec
   obtain ⟨g, hgs⟩ := hch
   refine ⟨.slice ab ao len none 3, (List.range len).map g, .slice _ _ _ _ _ _ ⟨ab, 0, c.size⟩ _ hg hl (fun k h => by cases h) (.inr (by simp)) (by simpa using htot), ?_, fun b hb => by simp [blkV] at hb; subst hb; exact hlt, fun a ha => ?_⟩
   · by_cases h0 : len = 0
     · subst h0; exact .inl ⟨by simp, .inr ⟨_, _, _, rfl⟩⟩
     · refine .inr ⟨ab, ao, none, _, _, by simp, impS_rd hblk, by simp; omega, fun i a hi j hj => ?_⟩
       have hil := (List.getElem?_eq_some_iff.1 hi).1
       simp at hil
       simp [hil] at hi
       subst hi
       obtain ⟨_, h2⟩ := hgs i (by omega)
       obtain ⟨u, z, u1, u2, u3⟩ := h2 j hj
       simp only [u1, u2, u3]
   · obtain ⟨i, hi, rfl⟩ := List.mem_map.1 ha
     simp at hi
     exact (hgs i (by omega)).1
end
theorem collectRuns_walk {W : World} {v0 v1 : Value} {x0 x1 : V} {l0 : List Nd} {l1 : List Int} (vr0 : VR (impG W) x0 v0) (na : NA (impS W 1) x0 l0) (bk0 : ∀ b ∈ blkV x0, b < W.heap.size) (ok : ∀ a ∈ l0, NdOk (impS W 1) W.heap.size a) (vr1 : VR (impG W) x1 v1) (sl1 : SL (impS W 1) x1 (l1.map V.i)) (bk1 : ∀ b ∈ blkV x1, b < W.heap.size) :
 Calls Try.prog 4 #[v0, v1] W (fun e w' => e = .returned (.bool true) ∧ RowKit.Below W.heap.size W w') := by
 exact law_ro (fuel := 1000000) (n := 10) tblOk ((collectRuns_run (impS_wf W 1) na ok bk0 sl1 bk1 0).mono fun v s' h => h) (.cons _ _ _ _ vr0 (.cons _ _ _ _ vr1 .nil))
end
end Go.Proofs.YtgkcpceppmppfaaLab
