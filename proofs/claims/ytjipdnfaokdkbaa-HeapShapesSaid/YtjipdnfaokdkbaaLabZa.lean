/- The lab: a world taken in whole: its rows are looked at, and never turned; a law's run over them. No condition on the program. -/
import Derived.Test.YtjipdnfaokdkbaaLabRc
import Derived.ChangeSlices
import Derived.WideShapes
namespace Go.Proofs.YtjipdnfaokdkbaaLab
open Go
set_option linter.all false
noncomputable section

/-! ### Trees out of lists -/
section
variable {α : Type}
def T.fill (t : T α) (o : Nat) : List α → T α | [] => t | x :: l => (t.set o x).fill (o + 1) l
theorem T.fill_get : ∀ (l : List α) {t : T α} {o : Nat}, t.Full o → (∀ i, o ≤ i → t.get i = none) → (∀ i, (t.fill o l).get i = if i < o then t.get i else l[i - o]?) ∧ (t.fill o l).Full (o + l.length)
  | [], t, o, h, hn => ⟨fun i => by
      show t.get i = _
      by_cases hi : i < o
      · rw [if_pos hi]
      · rw [if_neg hi, hn i (by omega)]; simp, h⟩
  | x :: l, t, o, h, hn => by
    obtain ⟨h1, h2⟩ := T.fill_get l (t := t.set o x) (o := o + 1) (h.next x) (fun i hi => by rw [T.get_set_ne x (by omega)]; exact hn i (by omega))
    refine ⟨fun i => ?_, ?_⟩
    · show ((t.set o x).fill (o + 1) l).get i = _
      rw [h1 i]
      by_cases hi : i < o
      · rw [if_pos (by omega), if_pos hi, T.get_set_ne x (by omega)]
      · by_cases e : i = o
        · subst e; rw [if_pos (by omega), if_neg hi, T.set_next x h]; simp
        · rw [if_neg (by omega), if_neg hi, show i - o = (i - (o + 1)) + 1 by omega]; simp
    · show ((t.set o x).fill (o + 1) l).Full _
      intro i hi
      exact h2 i (by simp at hi; omega)
end

/-! ### A world's rows -/
/-- A cell's value as ours; slices in cells have elements of so many cells. -/
def imp (W : World) (es k : Nat) : Value → Option V
  | .bool b => some (.bool b)
  | .int .i64 n => some (.i n)
  | .int k n => some (.int k n)
  | .string s => some (.str (nats s))
  | .pointer none => some .nilp
  | .slice none 0 0 => some .nils
  | .slice (some a) len cap =>
    if len ≤ cap then
      (if cap = 0 then some (.slice k 0 0 none es) else
        match W.heap[a.block]? with
        | some (.cells c _ _) => if a.spot = none ∧ a.off + cap * es ≤ c.size then some (.slice a.block a.off len none es) else none
        | _ => none)
    else none
  | _ => none
def impG (W : World) : Pl := fun b => match W.heap[b]? with | some (.cells c _ _) => some ⟨b, 0, c.size⟩ | _ => none
def impOb (W : World) (es k : Nat) : Obj → Ob
  | .cells c _ _ => .ro c.size fun i => match c[i]? with | some x => imp W es k x | none => none
  | _ => .dead
def impS (W : World) (es : Nat) : St := ⟨T.fill .nil 0 ((List.range W.heap.size).map fun k => match W.heap[k]? with | some o => impOb W es k o | none => .dead), W.heap.size⟩
theorem impS_get (W : World) (es b : Nat) : (impS W es).heap.get b = (W.heap[b]?).map (impOb W es b) := by
  have := (T.fill_get ((List.range W.heap.size).map fun k => match W.heap[k]? with | some o => impOb W es k o | none => .dead) (t := .nil) (o := 0) (Full0 _) (fun i _ => T.get_nil i)).1 b
  show (T.fill .nil 0 _).get b = _
  rw [this, if_neg (by omega)]
  by_cases h : b < W.heap.size
  · simp [h]
  · simp [h]
theorem imp_ok {W : World} {es k : Nat} {x : Value} {v : V} (hk : ∃ l, impG W k = some l) (h : imp W es k x = some v) : VR (impG W) v x ∧ x.oneCell' = true := by
  obtain ⟨lk, hk⟩ := hk
  unfold imp at h
  split at h
  · cases h; exact ⟨.bool _, rfl⟩
  · cases h; exact ⟨.i _, rfl⟩
  · cases h; exact ⟨.int _ _, rfl⟩
  · cases h; exact ⟨.str _, rfl⟩
  · cases h; exact ⟨.nilp, rfl⟩
  · cases h; exact ⟨.nils, rfl⟩
  · rename_i a len cap
    split at h
    · rename_i hle
      split at h
      · rename_i h0; subst h0
        cases h
        have : len = 0 := by omega
        subst this
        exact ⟨.slice _ _ _ _ _ _ lk _ hk (Nat.le_refl _) (fun k h => by cases h) (.inl rfl) (.inl rfl), rfl⟩
      · split at h
        · rename_i c el fz hc
          split at h
          · rename_i hh
            cases h
            have hg : impG W a.block = some ⟨a.block, 0, c.size⟩ := by unfold impG; rw [hc]
            obtain ⟨ab, ao, as⟩ := a
            obtain ⟨h1, h2⟩ := hh
            simp only at h1 h2 hg hc
            subst h1
            exact ⟨.slice _ _ _ _ _ _ ⟨ab, 0, c.size⟩ _ hg hle (fun k h => by cases h) (.inr (by simp)) (.inr (by simpa using h2)), rfl⟩
          · cases h
        · cases h
    · cases h
  · cases h
theorem impS_ok (W : World) (es : Nat) : SR (impG W) (impS W es) W := by
  refine ⟨⟨fun b o hb => ?_, fun b b' o o' l l' _ _ _ _ hl hl' he => ?_⟩, fun b hb => ?_, fun b l hb => ?_⟩
  · rw [impS_get] at hb
    cases hq : W.heap[b]? with
    | none => rw [hq] at hb; cases hb
    | some ob =>
      rw [hq] at hb
      cases hb
      unfold impOb
      split
      · rename_i c el fz
        have hg : impG W b = some ⟨b, 0, c.size⟩ := by unfold impG; rw [hq]
        refine ⟨⟨b, 0, c.size⟩, c, el, fz, hg, hq, rfl, by simp, fun i x hi hx => ?_⟩
        simp only at hx
        split at hx
        · rename_i y hy
          obtain ⟨h1, h2⟩ := imp_ok ⟨_, hg⟩ hx
          exact ⟨y, by simpa using hy, h1, h2⟩
        · cases hx
      · trivial
  · unfold impG at hl hl'
    split at hl <;> cases hl
    split at hl' <;> cases hl'
    exact he
  · rw [impS_get, Array.getElem?_eq_none (by exact hb)]; rfl
  · unfold impG at hb
    split at hb
    · rename_i hq
      cases hb
      have := (Array.getElem?_eq_some_iff.1 hq).1
      exact ⟨this, this⟩
    · cases hb
theorem impS_wf (W : World) (es : Nat) : Wf (impS W es) := by
  refine ⟨fun b hb => ?_, fun b hb => ?_, fun b o hb => ?_⟩
  · have hb : b < W.heap.size := hb
    rw [impS_get]; simp [hb]
  · have hb : W.heap.size ≤ b := hb
    rw [impS_get, Array.getElem?_eq_none hb]; rfl
  · rw [impS_get] at hb
    cases hq : W.heap[b]? with
    | none => rw [hq] at hb; cases hb
    | some ob =>
      rw [hq] at hb
      cases hb
      unfold impOb
      split <;> trivial
theorem impS_rd {W : World} {es b : Nat} {c : Array Value} {el : TypeId} {fz : Nat × Nat} (h : W.heap[b]? = some (.cells c el fz)) : rdOf (impS W es) b = some (c.size, fun i => match c[i]? with | some x => imp W es b x | none => none) :=
  rdOf_ro (by rw [impS_get, h]; rfl)
/-- What the world holds at an address, our memory holds. -/
theorem impS_cell {W : World} {es : Nat} {a : Addr} {x : Value} (h : W.cell? a = some x) : ∃ n f, rdOf (impS W es) a.block = some (n, f) ∧ a.off < n ∧ f a.off = imp W es a.block x ∧ a.spot = none ∧ (∃ c el fz, W.heap[a.block]? = some (.cells c el fz) ∧ c.size = n) := by
  unfold World.cell? at h
  split at h
  · rename_i c el fz hc
    split at h
    · cases h
    · rename_i hs
      refine ⟨_, _, impS_rd hc, (Array.getElem?_eq_some_iff.1 h).1, by simp only [h], by simpa using hs, c, el, fz, hc, rfl⟩
  · cases h
/-- A run of ours over the whole world: a law that answers true, and leaves alone what was there. -/
theorem law_ro {P : Program} {tbl : T FDen} (ht : T.All (FRun P []) tbl) {fuel n f es : Nat} {args : List V} {args' : List Value} {W : World} (h : Ret ((kc tbl fuel n).call f args (impS W es)) (fun v _ => v = .bool true)) (hargs : VRs (impG W) args args') :
    Calls P f ⟨args'⟩ W (fun e w' => e = .returned (.bool true) ∧ RowKit.Below W.heap.size W w') := by
  obtain ⟨v, s', hr, rfl⟩ := h
  refine (kc_run ht fuel n f args _ _ _ hr _ W args' (fun g hg => by cases hg) hargs (impS_ok W es)).mono ?_
  intro e w' he
  match e, he with
  | .returned v', ⟨G', g1, g2, g3⟩ =>
    refine ⟨by rw [g3.bool_inv], g1.go.os, g1.go.tape, g1.go.output, g1.go.size, fun k hk => g1.go.same k hk ?_⟩
    rintro ⟨b, o, l, hb, hm, _⟩
    rw [impS_get] at hb
    cases hq : W.heap[b]? with
    | none => rw [hq] at hb; cases hb
    | some ob =>
      rw [hq] at hb; cases hb
      unfold impOb at hm
      split at hm <;> cases hm
end
end Go.Proofs.YtjipdnfaokdkbaaLab
