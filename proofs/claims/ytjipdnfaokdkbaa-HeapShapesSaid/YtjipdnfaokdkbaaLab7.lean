/- The lab: memory: what a new block, a turned block and a block that is given up do to how our memory stands for the world's. No condition on the program. -/
import Derived.Test.YtjipdnfaokdkbaaLab6
namespace Go.Proofs.YtjipdnfaokdkbaaLab
open Go
set_option linter.unusedVariables false
noncomputable section

/-- But for one block (and what was drawn) a world is as it was. -/
structure Touch (k : Nat) (w w' : World) : Prop where
  os : w'.os = w.os
  tape : w'.tape = w.tape
  output : w'.output = w.output
  size : w'.heap.size = w.heap.size
  same : ∀ j, j ≠ k → w'.heap[j]? = w.heap[j]?
  row : Rows w w'

/-- A world with one more block (and what was drawn). -/
structure Grew (o : Obj) (w w' : World) : Prop where
  os : w'.os = w.os
  tape : w'.tape = w.tape
  output : w'.output = w.output
  size : w'.heap.size = w.heap.size + 1
  new : w'.heap[w.heap.size]? = some o
  same : ∀ j, j < w.heap.size → w'.heap[j]? = w.heap[j]?

theorem Touch.setRow {w : World} {k : Nat} {c : Array Value} : Touch k w (w.setRow k c) := by
  refine ⟨rfl, rfl, rfl, by simp [World.setRow], fun j hj => ?_, fun j d el fz hd => ?_⟩
  · simp only [World.setRow, Array.getElem?_modify]
    rw [if_neg (Ne.symm hj)]
  · simp only [World.setRow, Array.getElem?_modify]
    by_cases e : k = j
    · rw [if_pos e, hd]; exact ⟨c, rfl⟩
    · rw [if_neg e, hd]; exact ⟨d, rfl⟩
theorem Touch.setObj {w : World} {k : Nat} {o o0 : Obj} (h0 : w.heap[k]? = some o0) (hc : ∀ c el fz, o0 ≠ .cells c el fz) : Touch k w { w with heap := w.heap.setIfInBounds k o } := by
  refine ⟨rfl, rfl, rfl, by simp, fun j hj => ?_, fun j d el fz hd => ?_⟩
  · simp [Array.getElem?_setIfInBounds_ne (Ne.symm hj)]
  · have hj : j ≠ k := fun e => by subst e; rw [h0] at hd; exact hc _ _ _ (Option.some.inj hd)
    refine ⟨d, ?_⟩
    simp [Array.getElem?_setIfInBounds_ne (Ne.symm hj), hd]
theorem Grew.alloc (w : World) (o : Obj) : Grew o w (w.alloc o) := by
  refine ⟨rfl, rfl, rfl, by simp, ?_, fun j hj => RowKit.Below.heap_alloc w o j hj⟩
  show (w.heap.push o)[w.heap.size]? = _
  simp
theorem Grew.drawn {o : Obj} {w w' : World} {n : Nat} (h : Grew o { w with drawn := n } w') : Grew o w w' := ⟨h.os, h.tape, h.output, h.size, h.new, h.same⟩

def Pl.add (G : Pl) (b : Nat) (l : Loc) : Pl := fun k => if k = b then some l else G k
theorem Pl.le_add {G : Pl} {b : Nat} {l : Loc} (h : G b = none) : G.le (G.add b l) := by
  intro k l' hk
  unfold Pl.add
  rw [if_neg (fun e => by rw [e, h] at hk; cases hk)]
  exact hk
theorem Pl.add_at (G : Pl) (b : Nat) (l : Loc) : G.add b l b = some l := by simp [Pl.add]

def upd (h : Nat → Option Ob) (b : Nat) (o : Ob) : Nat → Option Ob := fun k => if k = b then some o else h k

/-- A block that lies elsewhere stands as it did. -/
theorem ObR.other {G G' : Pl} {w w' : World} {b : Nat} {o : Ob} (hG : G.le G') (h : ObR G w b o) (hs : ∀ l, G b = some l → o.live = true → w'.heap[l.blk]? = w.heap[l.blk]?) : ObR G' w' b o := by
  cases o with
  | dead => trivial
  | cells n xs =>
    obtain ⟨l, c, el, fz, h1, h2, h3, h4, h5, h6⟩ := h
    exact ⟨l, c, el, fz, hG b l h1, by rw [hs l h1 rfl]; exact h2, h3, h4, h5, fun i x hi hx => let ⟨x', a1, a2, a3⟩ := h6 i x hi hx; ⟨x', a1, a2.mono hG, a3⟩⟩
  | map es bs cl =>
    obtain ⟨l, en, h1, h2, h3, h4, h5⟩ := h
    exact ⟨l, en, hG b l h1, by rw [hs l h1 rfl]; exact h2, h3.mono hG, h4.mono hG, h5⟩
  | iter m since seen last pref =>
    obtain ⟨l, mo, h1, h0, h2, h3⟩ := h
    refine ⟨l, mo, hG b l h1, h0, by rw [hs l h1 rfl]; exact h2, ?_⟩
    cases m with
    | none => exact h3
    | some mb => obtain ⟨lm, a1, a2⟩ := h3; exact ⟨lm, hG _ _ a1, a2⟩
  | ro n xs =>
    obtain ⟨l, c, el, fz, h1, h2, h4, h5, h6⟩ := h
    exact ⟨l, c, el, fz, hG b l h1, by rw [hs l h1 rfl]; exact h2, h4, h5, fun i x hi hx => let ⟨x', a1, a2, a3⟩ := h6 i x hi hx; ⟨x', a1, a2.mono hG, a3⟩⟩

theorem ObR.loc {G : Pl} {w : World} {b : Nat} {o : Ob} (h : ObR G w b o) (hl : o.live = true) : ∃ l, G b = some l ∧ l.blk < w.heap.size := by
  cases o with
  | dead => cases hl
  | cells n xs => obtain ⟨l, c, el, fz, h1, h2, _⟩ := h; exact ⟨l, h1, (Array.getElem?_eq_some_iff.1 h2).1⟩
  | map es bs cl => obtain ⟨l, en, h1, h2, _⟩ := h; exact ⟨l, h1, (Array.getElem?_eq_some_iff.1 h2).1⟩
  | iter m since seen last pref => obtain ⟨l, mo, h1, _, h2, _⟩ := h; exact ⟨l, h1, (Array.getElem?_eq_some_iff.1 h2).1⟩
  | ro n xs => obtain ⟨l, c, el, fz, h1, h2, _⟩ := h; exact ⟨l, h1, (Array.getElem?_eq_some_iff.1 h2).1⟩

/-- A finding that finds less. -/
theorem R.sub {G : Pl} {h h' : Nat → Option Ob} {w : World} (hr : R G h w) (hh : ∀ b o, h' b = some o → h b = some o) : R G h' w :=
  ⟨fun b o hb => hr.ob b o (hh b o hb), fun b b' o o' l l' hb hb' => hr.inj b b' o o' l l' (hh b o hb) (hh b' o' hb')⟩
theorem Go_.sub {G G' : Pl} {h h' h'' : Nat → Option Ob} {w w' : World} (hg : Go_ G h w G' h' w') (hh : ∀ b o, h'' b = some o → h' b = some o) : Go_ G h w G' h'' w' :=
  ⟨hg.le, hg.os, hg.tape, hg.output, hg.size, fun m k ⟨b, o, l, h1, h2, h3, h4⟩ => hg.new m k ⟨b, o, l, hh b o h1, h2, h3, h4⟩, hg.same, hg.row⟩

/-- A new block. -/
theorem R.grew {G : Pl} {h : Nat → Option Ob} {w w' : World} {obj : Obj} (hr : R G h w) (hw : Grew obj w w') (hd : ∀ b l, G b = some l → l.blk < w.heap.size) {id : Nat} (hid : G id = none) {tot : Nat} {o : Ob}
    (ho : ObR (G.add id ⟨w.heap.size, 0, tot⟩) w' id o) : R (G.add id ⟨w.heap.size, 0, tot⟩) (upd h id o) w' ∧ Go_ G h w (G.add id ⟨w.heap.size, 0, tot⟩) (upd h id o) w' := by
  have hle : G.le (G.add id ⟨w.heap.size, 0, tot⟩) := Pl.le_add hid
  refine ⟨⟨fun b p hb => ?_, fun b b' p p' l l' hb hb' lp lp' hl hl' he => ?_⟩, ⟨hle, hw.os, hw.tape, hw.output, by rw [hw.size]; omega, fun mm k hk => ?_, fun k hk _ => hw.same k hk, Rows.of hw.same⟩⟩
  · unfold upd at hb
    by_cases e : b = id
    · rw [if_pos e] at hb; cases hb; subst e; exact ho
    · rw [if_neg e] at hb
      exact (hr.ob b p hb).other hle (fun l hl _ => hw.same _ (hd b l hl))
  · unfold upd at hb hb'
    unfold Pl.add at hl hl'
    by_cases e : b = id
    · by_cases e' : b' = id
      · rw [e, e']
      · rw [if_neg e'] at hl'; rw [if_pos e] at hl
        have := hd b' l' hl'
        cases hl
        simp only at he; omega
    · by_cases e' : b' = id
      · rw [if_neg e] at hl; rw [if_pos e'] at hl'
        have := hd b l hl
        cases hl'
        simp only at he; omega
      · rw [if_neg e] at hb hl; rw [if_neg e'] at hb' hl'
        exact hr.inj b b' p p' l l' hb hb' lp lp' hl hl' he
  · obtain ⟨b, p, l, h1, h2, h3, h4⟩ := hk
    unfold upd at h1
    unfold Pl.add at h3
    by_cases e : b = id
    · rw [if_pos e] at h3; cases h3; right; simp only at h4; omega
    · rw [if_neg e] at h1 h3; exact .inl ⟨b, p, l, h1, h2, h3, h4⟩

/-- A block that is turned in place. -/
theorem R.turn {G : Pl} {h : Nat → Option Ob} {w w' : World} (hr : R G h w) {id : Nat} {o o' : Ob} {l : Loc} (hid : h id = some o) (hmine : o.mine = true) (hl : G id = some l) (hw : Touch l.blk w w') (ho : ObR G w' id o') :
    R G (upd h id o') w' ∧ Go_ G h w G (upd h id o') w' := by
  have hlive := Ob.mine_live hmine
  refine ⟨⟨fun b p hb => ?_, fun b b' p p' m m' hb hb' lp lp' hm hm' he => ?_⟩, ⟨Pl.le_refl G, hw.os, hw.tape, hw.output, by rw [hw.size]; exact Nat.le_refl _, fun mm k hk => ?_, fun k hk hn => ?_, hw.row⟩⟩
  · unfold upd at hb
    by_cases e : b = id
    · rw [if_pos e] at hb; cases hb; subst e; exact ho
    · rw [if_neg e] at hb
      exact (hr.ob b p hb).other (Pl.le_refl G) (fun m hm lp => hw.same _ (fun eq => e (hr.inj b id p o m l hb hid lp hlive hm hl eq)))
  · unfold upd at hb hb'
    by_cases e : b = id
    · subst e
      by_cases e' : b' = b
      · exact e'.symm
      · rw [if_neg e'] at hb'
        exact hr.inj b b' o p' m m' hid hb' hlive lp' hm hm' he
    · rw [if_neg e] at hb
      by_cases e' : b' = id
      · subst e'
        exact hr.inj b b' p o m m' hb hid lp hlive hm hm' he
      · rw [if_neg e'] at hb'
        exact hr.inj b b' p p' m m' hb hb' lp lp' hm hm' he
  · obtain ⟨b, p, m, h1, h2, h3, h4⟩ := hk
    unfold upd at h1
    by_cases e : b = id
    · subst e; exact .inl ⟨b, o, m, hid, Ob.lv_of hmine, h3, h4⟩
    · rw [if_neg e] at h1; exact .inl ⟨b, p, m, h1, h2, h3, h4⟩
  · refine hw.same k (fun e => hn ⟨id, o, l, hid, hmine, hl, e.symm⟩)

/-- A block that is given up. -/
theorem R.kill {G : Pl} {h : Nat → Option Ob} {w : World} (hr : R G h w) (id : Nat) : R G (upd h id .dead) w ∧ Go_ G h w G (upd h id .dead) w := by
  refine ⟨⟨fun b p hb => ?_, fun b b' p p' m m' hb hb' lp lp' hm hm' he => ?_⟩, ⟨Pl.le_refl G, rfl, rfl, rfl, Nat.le_refl _, fun mm k hk => ?_, fun _ _ _ => rfl, Rows.refl _⟩⟩
  · unfold upd at hb
    by_cases e : b = id
    · rw [if_pos e] at hb; cases hb; trivial
    · rw [if_neg e] at hb; exact hr.ob b p hb
  · unfold upd at hb hb'
    by_cases e : b = id
    · rw [if_pos e] at hb; cases hb; cases lp
    · by_cases e' : b' = id
      · rw [if_pos e'] at hb'; cases hb'; cases lp'
      · rw [if_neg e] at hb; rw [if_neg e'] at hb'; exact hr.inj b b' p p' m m' hb hb' lp lp' hm hm' he
  · obtain ⟨b, p, m, h1, h2, h3, h4⟩ := hk
    unfold upd at h1
    by_cases e : b = id
    · rw [if_pos e] at h1; cases h1; exact (Ob.lv_dead h2).elim
    · rw [if_neg e] at h1; exact .inl ⟨b, p, m, h1, h2, h3, h4⟩

/-- Another name for the same row of the world: the old one is given up. -/
theorem R.move {G : Pl} {h : Nat → Option Ob} {w w' : World} (hr : R G h w) {old new : Nat} {o o' : Ob} {l l' : Loc} (hold : h old = some o) (hmine : o.mine = true) (hl : G old = some l) (hblk : l'.blk = l.blk) (hw : Touch l.blk w w') (hn : G new = none) (hne : new ≠ old)
    (ho : ObR (G.add new l') w' new o') : R (G.add new l') (upd (upd h old .dead) new o') w' ∧ Go_ G h w (G.add new l') (upd (upd h old .dead) new o') w' := by
  have hle : G.le (G.add new l') := Pl.le_add hn
  have hlive := Ob.mine_live hmine
  refine ⟨⟨fun b p hb => ?_, fun b b' p p' m m' hb hb' lp lp' hm hm' he => ?_⟩, ⟨hle, hw.os, hw.tape, hw.output, by rw [hw.size]; exact Nat.le_refl _, fun mm k hk => ?_, fun k hk hnn => ?_, hw.row⟩⟩
  · unfold upd at hb
    by_cases e : b = new
    · rw [if_pos e] at hb; cases hb; subst e; exact ho
    · rw [if_neg e] at hb
      by_cases e2 : b = old
      · rw [if_pos e2] at hb; cases hb; trivial
      · rw [if_neg e2] at hb
        exact (hr.ob b p hb).other hle (fun m hm lp => hw.same _ (fun eq => e2 (hr.inj b old p o m l hb hold lp hlive hm hl eq)))
  · unfold upd at hb hb'
    unfold Pl.add at hm hm'
    by_cases e : b = new
    · by_cases e' : b' = new
      · rw [e, e']
      · rw [if_neg e'] at hb' hm'; rw [if_pos e] at hm
        cases hm
        by_cases e2 : b' = old
        · rw [if_pos e2] at hb'; cases hb'; cases lp'
        · rw [if_neg e2] at hb'
          exact absurd (hr.inj b' old p' o m' l hb' hold lp' hlive hm' hl (by rw [← he, hblk])) e2
    · rw [if_neg e] at hb hm
      by_cases e2 : b = old
      · rw [if_pos e2] at hb; cases hb; cases lp
      · rw [if_neg e2] at hb
        by_cases e' : b' = new
        · rw [if_pos e'] at hm'
          cases hm'
          exact absurd (hr.inj b old p o m l hb hold lp hlive hm hl (by rw [he, hblk])) e2
        · rw [if_neg e'] at hb' hm'
          by_cases e3 : b' = old
          · rw [if_pos e3] at hb'; cases hb'; cases lp'
          · rw [if_neg e3] at hb'
            exact hr.inj b b' p p' m m' hb hb' lp lp' hm hm' he
  · obtain ⟨b, p, m, h1, h2, h3, h4⟩ := hk
    unfold upd at h1
    unfold Pl.add at h3
    by_cases e : b = new
    · rw [if_pos e] at h3; cases h3
      exact .inl ⟨old, o, l, hold, Ob.lv_of hmine, hl, by rw [← hblk]; exact h4⟩
    · rw [if_neg e] at h1 h3
      by_cases e2 : b = old
      · rw [if_pos e2] at h1; cases h1; exact (Ob.lv_dead h2).elim
      · rw [if_neg e2] at h1; exact .inl ⟨b, p, m, h1, h2, h3, h4⟩
  · exact hw.same k (fun e => hnn ⟨old, o, l, hold, hmine, hl, e.symm⟩)

/-! ### States -/
theorem get_upd {t : T Ob} {i : Nat} {x : Ob} : ∀ b o, (t.set i x).get b = some o → upd t.get i x b = some o := by
  intro b o h
  unfold upd
  rcases T.get_set h with ⟨rfl, rfl⟩ | ⟨hne, h⟩
  · rw [if_pos rfl]
  · rw [if_neg (fun e => hne e.symm)]; exact h

def St.new (s : St) (o : Ob) : St := ⟨s.heap.set s.next o, Nat.succ s.next⟩
def St.put (s : St) (b : Nat) (o : Ob) : St := ⟨s.heap.set b o, s.next⟩

/-- From one state to another: as Go_; numbers rise; what had a number and no place has none still. -/
structure GoS (G : Pl) (s : St) (w : World) (G' : Pl) (s' : St) (w' : World) : Prop where
  go : Go_ G s.heap.get w G' s'.heap.get w'
  nx : s.next ≤ s'.next
  kp : ∀ b, b < s.next → G b = none → G' b = none
theorem GoS.refl (G : Pl) (s : St) (w : World) : GoS G s w G s w := ⟨Go_.refl _ _ _, Nat.le_refl _, fun _ _ h => h⟩
theorem GoS.trans {G G' G'' : Pl} {s s' s'' : St} {w w' w'' : World} (a : GoS G s w G' s' w') (b : GoS G' s' w' G'' s'' w'') : GoS G s w G'' s'' w'' := ⟨a.go.trans b.go, Nat.le_trans a.nx b.nx, fun x hx h => b.kp x (Nat.lt_of_lt_of_le hx a.nx) (a.kp x hx h)⟩
theorem GoS.le {G G' : Pl} {s s' : St} {w w' : World} (a : GoS G s w G' s' w') : G.le G' := a.go.le
theorem GoS.size {G G' : Pl} {s s' : St} {w w' : World} (a : GoS G s w G' s' w') : w.heap.size ≤ w'.heap.size := a.go.size

theorem SR.grew {G : Pl} {s : St} {w w' : World} {obj : Obj} (hs : SR G s w) (hw : Grew obj w w') {tot : Nat} {o : Ob} (ho : ObR (G.add s.next ⟨w.heap.size, 0, tot⟩) w' s.next o) :
    SR (G.add s.next ⟨w.heap.size, 0, tot⟩) (s.new o) w' ∧ GoS G s w (G.add s.next ⟨w.heap.size, 0, tot⟩) (s.new o) w' := by
  have hid : G s.next = none := by
    cases h : G s.next with
    | none => rfl
    | some l => exact absurd (hs.dom _ _ h).1 (Nat.lt_irrefl _)
  obtain ⟨h1, h2⟩ := hs.r.grew hw (fun b l h => (hs.dom b l h).2) hid ho
  refine ⟨⟨h1.sub get_upd, fun b hb => ?_, fun b l hb => ?_⟩, ⟨h2.sub get_upd, Nat.le_succ _, fun b hb h => by unfold Pl.add; rw [if_neg (by omega)]; exact h⟩⟩
  · cases h : (s.new o).heap.get b with
    | none => rfl
    | some p =>
      have := get_upd b p h
      unfold upd at this
      simp only [St.new] at hb
      rw [if_neg (by omega), hs.fresh b (by omega)] at this
      cases this
  · unfold Pl.add at hb
    simp only [St.new]
    rw [hw.size]
    by_cases e : b = s.next
    · rw [if_pos e] at hb; cases hb; simp only; omega
    · rw [if_neg e] at hb; have := hs.dom b l hb; omega

theorem SR.turn {G : Pl} {s : St} {w w' : World} (hs : SR G s w) {id : Nat} {o o' : Ob} {l : Loc} (hid : s.heap.get id = some o) (hlive : o.mine = true) (hl : G id = some l) (hw : Touch l.blk w w') (ho : ObR G w' id o') :
    SR G (s.put id o') w' ∧ GoS G s w G (s.put id o') w' := by
  obtain ⟨h1, h2⟩ := hs.r.turn hid hlive hl hw ho
  refine ⟨⟨h1.sub get_upd, fun b hb => ?_, fun b m hb => ?_⟩, ⟨h2.sub get_upd, Nat.le_refl _, fun _ _ h => h⟩⟩
  · cases h : (s.put id o').heap.get b with
    | none => rfl
    | some p =>
      have := get_upd b p h
      unfold upd at this
      simp only [St.put] at hb
      have hlt := (hs.dom id l hl).1
      rw [if_neg (by omega), hs.fresh b hb] at this
      cases this
  · rw [hw.size]; exact hs.dom b m hb

theorem SR.move {G : Pl} {s : St} {w w' : World} (hs : SR G s w) {old : Nat} {o o' : Ob} {l l' : Loc} (hold : s.heap.get old = some o) (hlive : o.mine = true) (hl : G old = some l) (hblk : l'.blk = l.blk) (hw : Touch l.blk w w') (ho : ObR (G.add s.next l') w' s.next o') :
    SR (G.add s.next l') ((s.put old .dead).new o') w' ∧ GoS G s w (G.add s.next l') ((s.put old .dead).new o') w' := by
  have hid : G s.next = none := by
    cases h : G s.next with
    | none => rfl
    | some l => exact absurd (hs.dom _ _ h).1 (Nat.lt_irrefl _)
  have hlt := (hs.dom old l hl)
  obtain ⟨h1, h2⟩ := hs.r.move hold hlive hl hblk hw hid (by omega) ho
  have hsub : ∀ b p, ((s.put old .dead).new o').heap.get b = some p → upd (upd s.heap.get old .dead) s.next o' b = some p := by
    intro b p hb
    have := get_upd b p hb
    simp only [St.put] at this
    unfold upd at this ⊢
    by_cases e : b = s.next
    · rw [if_pos e] at this ⊢; exact this
    · rw [if_neg e] at this ⊢
      have := get_upd b p this
      unfold upd at this; exact this
  refine ⟨⟨h1.sub hsub, fun b hb => ?_, fun b m hb => ?_⟩, ⟨h2.sub hsub, Nat.le_succ _, fun b hb h => by unfold Pl.add; rw [if_neg (by omega)]; exact h⟩⟩
  · cases h : ((s.put old .dead).new o').heap.get b with
    | none => rfl
    | some p =>
      have := hsub b p h
      unfold upd at this
      simp only [St.put, St.new] at hb
      rw [if_neg (by omega), if_neg (by omega), hs.fresh b (by omega)] at this
      cases this
  · unfold Pl.add at hb
    simp only [St.put, St.new]
    rw [hw.size]
    by_cases e : b = s.next
    · rw [if_pos e] at hb; cases hb; rw [hblk]; omega
    · rw [if_neg e] at hb; have := hs.dom b m hb; omega
theorem SR.kill {G : Pl} {s : St} {w : World} (hs : SR G s w) {id : Nat} (hid : id < s.next) : SR G (s.put id .dead) w ∧ GoS G s w G (s.put id .dead) w := by
  obtain ⟨h1, h2⟩ := hs.r.kill id
  refine ⟨⟨h1.sub get_upd, fun b hb => ?_, hs.dom⟩, ⟨h2.sub get_upd, Nat.le_refl _, fun _ _ h => h⟩⟩
  cases h : (s.put id .dead).heap.get b with
  | none => rfl
  | some p =>
    have := get_upd b p h
    unfold upd at this
    simp only [St.put] at hb
    rw [if_neg (by omega), hs.fresh b hb] at this
    cases this
/-- What was drawn is of no weight. -/
theorem ObR.drew {G : Pl} {w : World} {n b : Nat} {o : Ob} (h : ObR G w b o) : ObR G { w with drawn := n } b o := by
  cases o <;> exact h
theorem SR.drew {G : Pl} {s : St} {w : World} {n : Nat} (h : SR G s w) : SR G s { w with drawn := n } := ⟨⟨fun b o hb => (h.r.ob b o hb).drew, h.r.inj⟩, h.fresh, h.dom⟩
theorem Go_.drew {G G' : Pl} {h h' : Nat → Option Ob} {w w' : World} {n : Nat} (g : Go_ G h { w with drawn := n } G' h' w') : Go_ G h w G' h' w' := ⟨g.le, g.os, g.tape, g.output, g.size, g.new, g.same, g.row⟩
theorem GoS.drew {G G' : Pl} {s s' : St} {w w' : World} {n : Nat} (g : GoS G s { w with drawn := n } G' s' w') : GoS G s w G' s' w' := ⟨g.go.drew, g.nx, g.kp⟩
theorem Go_.drawn (G : Pl) (h : Nat → Option Ob) (w : World) (n : Nat) : Go_ G h w G h { w with drawn := n } := ⟨Pl.le_refl G, rfl, rfl, rfl, Nat.le_refl _, fun _ _ h => .inl h, fun _ _ _ => rfl, fun k c el fz h => ⟨c, h⟩⟩
theorem GoS.drawn (G : Pl) (s : St) (w : World) (n : Nat) : GoS G s w G s { w with drawn := n } := ⟨Go_.drawn _ _ _ _, Nat.le_refl _, fun _ _ h => h⟩
end
end Go.Proofs.YtjipdnfaokdkbaaLab
