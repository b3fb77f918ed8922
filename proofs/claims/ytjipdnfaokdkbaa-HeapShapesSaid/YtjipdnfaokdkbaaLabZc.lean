/- The lab: slices among a law's arguments, one in the other. No condition on the program. -/
import Derived.Test.YtjipdnfaokdkbaaLabZb
namespace Go.Proofs.YtjipdnfaokdkbaaLab
open Go Go.WideShapes Go.ChangeShapes
set_option linter.all false
noncomputable section
/-- A slice that came in: its room isn't known. -/
def SN (s : St) (v : V) (l : List V) : Prop := (l = [] ∧ (v = .nils ∨ ∃ b o, v = .slice b o 0 none 1)) ∨ ∃ b o n f, v = .slice b o l.length none 1 ∧ rdOf s b = some (n, f) ∧ o + l.length ≤ n ∧ ∀ i, i < l.length → f (o + i) = l[i]?
section
variable {s : St} {v : V} {l : List V}
theorem SN.sl (h : SN s v l) : SL s v l := by
  rcases h with ⟨h1, h2 | ⟨b, o, h2⟩⟩ | ⟨b, o, n, f, h⟩
  · exact .inl ⟨h1, .inl h2⟩
  · exact .inl ⟨h1, .inr ⟨b, o, none, h2⟩⟩
  · exact .inr ⟨b, o, none, n, f, h⟩
theorem SN.fr {s' : St} {L : List Nat} (h : SN s v l) (hw : Wf s) (f : Fr s s' L) (hd : ∀ b, b ∈ blkV v → b ∉ L) : SN s' v l := by
  rcases h with h | ⟨b, o, n, g, h1, h2, h3⟩
  · exact .inl h
  · subst h1; exact .inr ⟨b, o, n, g, rfl, (rd_same (f.same b (rd_lt hw h2) (hd b (by simp [blkV])))).trans h2, h3⟩
/-- Its first ones. -/
theorem SN.cut (h : SN s v l) {m : Int} (hm0 : 0 ≤ m) (hm : m < (l.length : Nat)) : ∃ v', slV 1 v none (some (.i m)) none = some v' ∧ SN s v' (l.take m.toNat) ∧ blkV v' = blkV v := by
  rcases h with ⟨rfl, _⟩ | ⟨b, o, n, g, rfl, h2, h3, h4⟩
  · simp at hm; omega
  · refine ⟨_, pSl_hN hm0 (by omega), .inr ⟨b, o, n, g, ?_, h2, by simp; omega, fun i hi => ?_⟩, rfl⟩
    · congr 1; simp; omega
    · simp at hi
      rw [h4 i (by omega), List.getElem?_take, if_pos (by omega)]
end
section
variable {H : Type} {enc : TypeId × Value → H} {P : Program} {W : World} {base b0 : Nat} {r : Reach} {held : Bool}
/-- What a slice's elements are. -/
theorem slice_elems {t e : TypeId} {m fuel : Nat} {cs : List Value} {x : DataW H × List MemPlace} (ht : P.underlying t = some (.slice e)) (hc : P.cellsOf e = m) (h : DataW.trod enc P W base (fun _ => true) held fuel t cs = some x) :
    cs = [.slice none 0 0] ∨ ∃ (a : Addr) (len cap : Nat), cs = [.slice (some a) len cap] ∧ len ≤ cap ∧ cap ≤ maxLen ∧
      ∀ i, i < cap → ∃ cs' y n', cs'.length = m ∧ (∀ j, j < m → W.cell? (a.add (i * m + j)) = cs'[j]?) ∧ DataW.trod enc P W base (fun _ => true) held n' e cs' = some y := by
  rcases DataW.trod_slice ht h with ⟨h0, _⟩ | ⟨a, len, cap, elems, rest, n, _, h1, _, _, hl, hm, hlen, hel, hsp, _⟩
  · exact .inl h0
  · refine .inr ⟨a, len, cap, h1, hl, hm, fun i hi => ?_⟩
    obtain ⟨hrl, hr⟩ := hsp rfl
    have key : ∃ y, (W.cells? base (a.add (i * P.cellsOf e)) (P.cellsOf e)).bind (DataW.trod enc P W base (fun _ => true) held n e) = some y := by
      by_cases h : i < len
      · exact ⟨elems[i], (hel i h).trans (List.getElem?_eq_getElem (by omega))⟩
      · refine ⟨rest[i - len], ?_⟩
        have := hr (i - len) (by omega)
        rw [show len + (i - len) = i by omega] at this
        exact this.trans (List.getElem?_eq_getElem (by omega))
    obtain ⟨y, hy⟩ := key
    rw [hc] at hy
    cases hq : W.cells? base (a.add (i * m)) m with
    | none => rw [hq] at hy; cases hy
    | some cs' =>
      rw [hq] at hy
      obtain ⟨_, q1, q2⟩ := World.cells?_some hq
      exact ⟨cs', y, n, q1, fun j hj => by rw [← Addr.add_add]; exact q2 j hj, hy⟩
/-- Where a cell is, a row is. -/
theorem cell_row {a : Addr} {i : Nat} {x : Value} (h : W.cell? (a.add i) = some x) : ∃ c el fz, W.heap[a.block]? = some (.cells c el fz) ∧ (i = 0 → a.spot = none) ∧ (a.spot = none → c[a.off + i]? = some x) := by
  unfold World.cell? at h
  rw [block_add] at h
  split at h
  · rename_i c el fz hc
    split at h
    · cases h
    · rename_i hs
      refine ⟨c, el, fz, hc, fun h0 => ?_, fun hsp => ?_⟩
      · subst h0; simpa [Addr.add] using hs
      · obtain ⟨ab, ao, as⟩ := a
        simp only at hsp
        subst hsp
        rw [add_at] at h
        exact h
  · cases h
theorem list_of {α β : Type} (f : β → α) {Q : α → Prop} (hQ : ∀ z, Q z → ∃ b, z = f b) : ∀ {l : List α}, (∀ z ∈ l, Q z) → ∃ l' : List β, l = l'.map f
  | [], _ => ⟨[], rfl⟩
  | z :: l, h => by
    obtain ⟨b, rfl⟩ := hQ z (h z (by simp))
    obtain ⟨l', rfl⟩ := list_of f hQ (l := l) fun y hy => h y (by simp [hy])
    exact ⟨b :: l', rfl⟩
/-- A slice of one-cell elements, as ours. -/
theorem in_slice1 {t e : TypeId} {fuel k : Nat} {u : Value} {x : DataW H × List MemPlace} (ht : P.underlying t = some (.slice e)) (hc : P.cellsOf e = 1) (hk : ∃ l, impG W k = some l) (Q : V → Prop)
    (hel : ∀ n u y k', DataW.trod enc P W base (fun _ => true) held n e [u] = some y → (∃ l, impG W k' = some l) → ∃ z, imp W 1 k' u = some z ∧ Q z)
    (h : DataW.trod enc P W base (fun _ => true) held fuel t [u] = some x) :
    ∃ v zs, imp W 1 k u = some v ∧ SN (impS W 1) v zs ∧ (∀ z ∈ zs, Q z) ∧ (∀ b ∈ blkV v, b < W.heap.size) := by
  have hkl : k < W.heap.size := by
    obtain ⟨l, hk⟩ := hk
    unfold impG at hk
    split at hk
    · rename_i hq; exact (Array.getElem?_eq_some_iff.1 hq).1
    · cases hk
  rcases slice_elems ht hc h with h0 | ⟨a, len, cap, h1, hl, hm, hcell⟩
  · cases h0
    exact ⟨.nils, [], rfl, .inl ⟨rfl, .inl rfl⟩, by simp, by simp [blkV]⟩
  · cases h1
    by_cases hz : cap = 0
    · subst hz
      have : len = 0 := by omega
      subst this
      exact ⟨.slice k 0 0 none 1, [], by simp [imp], .inl ⟨rfl, .inr ⟨_, _, rfl⟩⟩, by simp, fun b hb => by simp [blkV] at hb; subst hb; exact hkl⟩
    · obtain ⟨cs0, y0, n0, q1, q2, _⟩ := hcell 0 (by omega)
      have q2 := q2 0 (by omega)
      rw [List.getElem?_eq_getElem (show 0 < cs0.length by omega)] at q2
      obtain ⟨c, el, fz, hrow, hs0, _⟩ := cell_row q2
      have hsp := hs0 (by simp)
      have each : ∀ i, i < cap → ∃ u' z, c[a.off + i]? = some u' ∧ imp W 1 a.block u' = some z ∧ Q z := fun i hi => by
        obtain ⟨cs', y, n', r1, r2, r3⟩ := hcell i hi
        obtain ⟨u', rfl⟩ : ∃ u', cs' = [u'] := by
          match cs', r1 with
          | [u'], _ => exact ⟨u', rfl⟩
        have r2 := r2 0 (by omega)
        rw [show i * 1 + 0 = i by omega] at r2
        obtain ⟨c', el', fz', hrow', _, hcc⟩ := cell_row r2
        rw [hrow] at hrow'; cases hrow'
        obtain ⟨z, z1, z2⟩ := hel n' u' y a.block r3 ⟨⟨a.block, 0, c.size⟩, by unfold impG; rw [hrow]⟩
        exact ⟨u', z, hcc hsp, z1, z2⟩
      have hsz : a.off + cap ≤ c.size := by
        obtain ⟨u', z, z1, _⟩ := each (cap - 1) (by omega)
        have := (Array.getElem?_eq_some_iff.1 z1).1
        omega
      have hblk : a.block < W.heap.size := (Array.getElem?_eq_some_iff.1 hrow).1
      let zs : List V := (List.range len).map fun i => match c[a.off + i]? with | some u' => (imp W 1 a.block u').getD .undef | none => .undef
      have hzs : ∀ i, i < len → ∃ u' z, c[a.off + i]? = some u' ∧ imp W 1 a.block u' = some z ∧ Q z ∧ zs[i]? = some z := fun i hi => by
        obtain ⟨u', z, z1, z2, z3⟩ := each i (by omega)
        exact ⟨u', z, z1, z2, z3, by simp [zs, hi, z1, z2]⟩
      have hzl : zs.length = len := by simp [zs]
      refine ⟨.slice a.block a.off len none 1, zs, ?_, .inr ⟨a.block, a.off, _, _, by rw [hzl], impS_rd hrow, by rw [hzl]; omega, fun i hi => ?_⟩, fun z hzm => ?_, fun b hb => by simp [blkV] at hb; subst hb; exact hblk⟩
      · simp only [imp, if_pos hl, if_neg hz, hrow]
        rw [if_pos ⟨hsp, by omega⟩]
      · rw [hzl] at hi
        obtain ⟨u', z, z1, z2, z3, z4⟩ := hzs i hi
        rw [z4]; simp only [z1]; exact z2
      · obtain ⟨i, hi⟩ := List.getElem?_of_mem hzm
        have hil := (List.getElem?_eq_some_iff.1 hi).1
        obtain ⟨u', z', z1, z2, z3, z4⟩ := hzs i (by omega)
        rw [z4] at hi; cases hi; exact z3
/-- An argument that is a slice: nil, or its row is there. -/
theorem arg_row {t e : TypeId} {v : Value} (ht : P.underlying t = some (.slice e)) (hval : Value.okWide P W r b0 t v) : v = .slice none 0 0 ∨ ∃ k, ∃ l, impG W k = some l := by
  obtain ⟨a, len, cap, rfl⟩ := okWide_slice ht hval
  cases a with
  | none =>
    simp only [Value.okWide, ht, Cell.okWide] at hval
    cases len <;> cases cap <;> simp_all [Cell.ok]
  | some a =>
    obtain ⟨_, _, c, el, fz, hc⟩ := ok_slice_blk ht hval
    exact .inr ⟨a.block, ⟨a.block, 0, c.size⟩, by unfold impG; rw [hc]⟩
theorem arg_slice1 {t e : TypeId} {v : Value} {d : DataW H} {ps : List MemPlace} (ht : P.underlying t = some (.slice e)) (hc : P.cellsOf e = 1) (Q : V → Prop)
    (hel : ∀ n u y k', DataW.trod enc P W base (fun _ => true) held n e [u] = some y → (∃ l, impG W k' = some l) → ∃ z, imp W 1 k' u = some z ∧ Q z)
    (hval : Value.okWide P W r b0 t v) (h : DataW.Trod enc P W base (fun _ => true) held t v d ps) :
    ∃ (x : V) (zs : List V), VR (impG W) x v ∧ SN (impS W 1) x zs ∧ (∀ z ∈ zs, Q z) ∧ (∀ b ∈ blkV x, b < W.heap.size) := by
  obtain ⟨fuel, hf⟩ := h
  rcases arg_row ht hval with rfl | ⟨k, hk⟩
  · exact ⟨.nils, [], .nils, .inl ⟨rfl, .inl rfl⟩, by simp, by simp [blkV]⟩
  · obtain ⟨a, len, cap, rfl⟩ := okWide_slice ht hval
    have hf : DataW.trod enc P W base (fun _ => true) held fuel t [.slice a len cap] = some (d, ps) := hf
    obtain ⟨x, zs, h1, h2, h3, h4⟩ := in_slice1 ht hc hk Q hel hf
    exact ⟨x, zs, (imp_ok hk h1).1, h2, h3, h4⟩
theorem el_bool {e : TypeId} (he : P.underlying e = some .bool) : ∀ n u y k', DataW.trod enc P W base (fun _ => true) held n e [u] = some y → (∃ l, impG W k' = some l) → ∃ z, imp W 1 k' u = some z ∧ ∃ b, z = .bool b := fun n u y k' h _ => by
  obtain ⟨b, hb, _⟩ := DataW.trod_bool he h
  cases hb
  exact ⟨.bool b, rfl, b, rfl⟩
/-- A list of truths among the cells. -/
def IsBs (W : World) (z : V) : Prop := ∃ l : List Bool, SN (impS W 1) z (l.map .bool) ∧ ∀ b ∈ blkV z, b < W.heap.size
theorem el_bools {t e : TypeId} (ht : P.underlying t = some (.slice e)) (hc : P.cellsOf e = 1) (he : P.underlying e = some .bool) : ∀ n u y k', DataW.trod enc P W base (fun _ => true) held n t [u] = some y → (∃ l, impG W k' = some l) → ∃ z, imp W 1 k' u = some z ∧ IsBs W z := fun n u y k' h hk => by
  obtain ⟨x, zs, h1, h2, h3, h4⟩ := in_slice1 ht hc hk _ (el_bool he) h
  obtain ⟨l, rfl⟩ := list_of V.bool (fun z hz => hz) h3
  exact ⟨x, h1, l, h2, h4⟩
end
end
end Go.Proofs.YtjipdnfaokdkbaaLab
