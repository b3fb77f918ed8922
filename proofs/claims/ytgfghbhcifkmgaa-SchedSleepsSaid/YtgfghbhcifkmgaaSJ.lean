/- The library's heap: down keeps it. Plain facts. No condition on the program. -/
import Derived.Test.YtgfghbhcifkmgaaSI
namespace Go.Proofs.YtgfghbhcifkmgaaLab
open Go
set_option linter.all false
noncomputable section
/-- The lesser child. -/
def kidL (l : List Sl) (i : Nat) : Option (Nat × Sl) := match l[2 * i + 1]? with
  | none => none
  | some a => match l[2 * i + 2]? with
    | none => some (2 * i + 1, a)
    | some b => if lessS b a then some (2 * i + 2, b) else some (2 * i + 1, a)
def downL : Nat → List Sl → Nat → List Sl
  | 0, l, _ => l
  | f + 1, l, i => match kidL l i, l[i]? with
    | some (j, z), some x => if lessS z x then downL f ((l.set i z).set j x) j else l
    | _, _ => l
theorem lessS_refl (a : Sl) : lessS a a = false := by rw [← Bool.not_eq_true, lessS_iff]; omega
theorem kidL_some {l : List Sl} {i j : Nat} {z : Sl} (h : kidL l i = some (j, z)) : l[j]? = some z ∧ i < j ∧ 0 < j ∧ (j - 1) / 2 = i ∧ ∀ (c : Nat) x, 0 < c → (c - 1) / 2 = i → l[c]? = some x → lessS x z = false := by
  unfold kidL at h
  cases ha : l[2 * i + 1]? with
  | none => rw [ha] at h; cases h
  | some a =>
    rw [ha] at h
    simp only at h
    have two : ∀ c : Nat, 0 < c → (c - 1) / 2 = i → c = 2 * i + 1 ∨ c = 2 * i + 2 := fun c h0 h1 => by omega
    cases hb : l[2 * i + 2]? with
    | none =>
      rw [hb] at h
      simp only [Option.some.injEq, Prod.mk.injEq] at h
      obtain ⟨rfl, rfl⟩ := h
      refine ⟨ha, by omega, by omega, by omega, fun c x h0 h1 hx => ?_⟩
      rcases two c h0 h1 with rfl | rfl
      · rw [ha] at hx; cases hx; exact lessS_refl _
      · rw [hb] at hx; cases hx
    | some b =>
      rw [hb] at h
      simp only at h
      cases hl : lessS b a with
      | true =>
        rw [hl, if_pos rfl] at h
        simp only [Option.some.injEq, Prod.mk.injEq] at h
        obtain ⟨rfl, rfl⟩ := h
        refine ⟨hb, by omega, by omega, by omega, fun c x h0 h1 hx => ?_⟩
        rcases two c h0 h1 with rfl | rfl
        · rw [ha] at hx; cases hx; exact lessS_asymm hl
        · rw [hb] at hx; cases hx; exact lessS_refl _
      | false =>
        rw [hl] at h
        simp only [Bool.false_eq_true, if_false, Option.some.injEq, Prod.mk.injEq] at h
        obtain ⟨rfl, rfl⟩ := h
        refine ⟨ha, by omega, by omega, by omega, fun c x h0 h1 hx => ?_⟩
        rcases two c h0 h1 with rfl | rfl
        · rw [ha] at hx; cases hx; exact lessS_refl _
        · rw [hb] at hx; cases hx; exact hl
theorem kidL_none {l : List Sl} {i : Nat} (h : kidL l i = none) : ∀ (c : Nat) x, 0 < c → (c - 1) / 2 = i → l[c]? = some x → False := fun c x h0 h1 hx => by
  have hl := (List.getElem?_eq_some_iff.1 hx).1
  have ha : l[2 * i + 1]? = some l[2 * i + 1] := List.getElem?_eq_getElem (by omega)
  unfold kidL at h
  rw [ha] at h
  simp only at h
  split at h
  · cases h
  · split at h <;> cases h
theorem downL_perm : ∀ (f : Nat) (l : List Sl) (i : Nat), (downL f l i).Perm l
  | 0, l, i => List.Perm.refl _
  | f + 1, l, i => by
    unfold downL
    split
    · rename_i j z x hk hx
      split
      · refine (downL_perm f _ _).trans ?_
        obtain ⟨hz, _⟩ := kidL_some hk
        obtain ⟨h1, rfl⟩ := List.getElem?_eq_some_iff.1 hx
        obtain ⟨h2, rfl⟩ := List.getElem?_eq_some_iff.1 hz
        exact List.set_set_perm h1 h2
      · exact List.Perm.refl _
    · exact List.Perm.refl _
/-- A heap but for the children of one place. -/
structure HeapD (l : List Sl) (i : Nat) : Prop where
  a : ∀ (k : Nat) x y, 0 < k → (k - 1) / 2 ≠ i → l[k]? = some x → l[(k - 1) / 2]? = some y → lessS x y = false
  b : ∀ (c : Nat) x y, 0 < i → 0 < c → (c - 1) / 2 = i → l[c]? = some x → l[(i - 1) / 2]? = some y → lessS x y = false
theorem downL_heap : ∀ (f : Nat) (l : List Sl) (i : Nat), l.length < f + i → i < l.length → HeapD l i → isHeap (downL f l i)
  | 0, l, i, h1, h2, _ => by omega
  | f + 1, l, i, h1, h2, H => by
    obtain ⟨x, hx⟩ : ∃ x, l[i]? = some x := ⟨_, List.getElem?_eq_getElem h2⟩
    unfold downL
    rw [hx]
    cases hk : kidL l i with
    | none =>
      simp only
      intro k x' y' hk0 hx' hy'
      by_cases e : (k - 1) / 2 = i
      · exact (kidL_none hk k x' hk0 e hx').elim
      · exact H.a k x' y' hk0 e hx' hy'
    | some p =>
      obtain ⟨j, z⟩ := p
      obtain ⟨hz, hij, hj0, hpj, hmin⟩ := kidL_some hk
      have hjl := (List.getElem?_eq_some_iff.1 hz).1
      simp only
      cases hzx : lessS z x with
      | false =>
        simp only [Bool.false_eq_true, if_false]
        intro k x' y' hk0 hx' hy'
        by_cases e : (k - 1) / 2 = i
        · rw [e, hx] at hy'; cases hy'
          exact lessS_trans hzx (hmin k x' hk0 e hx')
        · exact H.a k x' y' hk0 e hx' hy'
      | true =>
        simp only [if_true]
        have hget : ∀ k : Nat, ((l.set i z).set j x)[k]? = if k = j then some x else if k = i then some z else l[k]? := fun k => by
          by_cases e : k = j
          · subst e; rw [if_pos rfl, List.getElem?_set_self (by rw [List.length_set]; exact hjl)]
          · rw [if_neg e, List.getElem?_set_ne (fun h => e h.symm)]
            by_cases e2 : k = i
            · subst e2; rw [if_pos rfl, List.getElem?_set_self (by omega)]
            · rw [if_neg e2, List.getElem?_set_ne (fun h => e2 h.symm)]
        refine downL_heap f _ j (by simp; omega) (by simp; exact hjl) ⟨fun k x' y' hk0 hkp hx' hy' => ?_, fun c x' y' _ hc hcj hx' hy' => ?_⟩
        · rw [hget] at hx' hy'
          rw [if_neg hkp] at hy'
          by_cases e : k = j
          · rw [if_pos e] at hx'; cases hx'
            rw [e, hpj, if_pos rfl] at hy'; cases hy'
            exact lessS_asymm hzx
          · rw [if_neg e] at hx'
            by_cases e2 : k = i
            · rw [if_pos e2] at hx'; cases hx'
              rw [if_neg (by omega)] at hy'
              exact H.b j z y' (by omega) hj0 hpj hz (by rw [← e2]; exact hy')
            · rw [if_neg e2] at hx'
              by_cases e3 : (k - 1) / 2 = i
              · rw [if_pos e3] at hy'; cases hy'
                exact hmin k x' hk0 e3 hx'
              · rw [if_neg e3] at hy'
                exact H.a k x' y' hk0 e3 hx' hy'
        · rw [hget] at hx' hy'
          rw [if_neg (by omega), if_neg (by omega)] at hx'
          rw [hpj, if_neg (by omega), if_pos rfl] at hy'; cases hy'
          exact H.a c x' z hc (by omega) hx' (by rw [hcj]; exact hz)
theorem downL_fuel : ∀ (f g : Nat) (l : List Sl) (i : Nat), l.length ≤ f + i → l.length ≤ g + i → downL f l i = downL g l i
  | 0, 0, l, i, _, _ => rfl
  | 0, g + 1, l, i, h, _ => by
    have hx : l[i]? = none := List.getElem?_eq_none (by omega)
    unfold downL
    rw [hx]
    cases kidL l i <;> rfl
  | f + 1, 0, l, i, _, h => by
    have hx : l[i]? = none := List.getElem?_eq_none (by omega)
    unfold downL
    rw [hx]
    cases kidL l i <;> rfl
  | f + 1, g + 1, l, i, h1, h2 => by
    unfold downL
    cases hk : kidL l i with
    | none => rfl
    | some p =>
      obtain ⟨j, z⟩ := p
      obtain ⟨_, hij, _⟩ := kidL_some hk
      cases l[i]? with
      | none => rfl
      | some x =>
        simp only
        rw [downL_fuel f g ((l.set i z).set j x) j (by simp; omega) (by simp; omega)]
end
end Go.Proofs.YtgfghbhcifkmgaaLab
