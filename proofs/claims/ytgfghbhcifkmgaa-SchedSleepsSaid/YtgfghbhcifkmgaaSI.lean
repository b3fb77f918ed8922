/- The library's heap: the first one is the least. Plain facts. No condition on the program. -/
import Derived.Test.YtgfghbhcifkmgaaSD
namespace Go.Proofs.YtgfghbhcifkmgaaLab
open Go
set_option linter.all false
noncomputable section
theorem lessS_iff (a b : Sl) : lessS a b = true ↔ a.w < b.w ∨ (a.w = b.w ∧ a.o < b.o) := by
  unfold lessS; simp
theorem lessS_trans {a b c : Sl} (h1 : lessS b a = false) (h2 : lessS c b = false) : lessS c a = false := by
  rw [← Bool.not_eq_true, lessS_iff] at *
  omega
/-- No child comes before its parent. -/
def isHeap (l : List Sl) : Prop := ∀ (j : Nat) x y, 0 < j → l[j]? = some x → l[(j - 1) / 2]? = some y → lessS x y = false
theorem isHeap.least {l : List Sl} (h : isHeap l) {r : Sl} (hr : l[0]? = some r) : ∀ (n j : Nat) x, j ≤ n → l[j]? = some x → lessS x r = false
  | 0, j, x, hj, hx => by
    have : j = 0 := by omega
    subst this
    rw [hr] at hx; cases hx
    rw [← Bool.not_eq_true, lessS_iff]; omega
  | n + 1, j, x, hj, hx => by
    by_cases h0 : j = 0
    · subst h0
      rw [hr] at hx; cases hx
      rw [← Bool.not_eq_true, lessS_iff]; omega
    · have hjl := (List.getElem?_eq_some_iff.1 hx).1
      obtain ⟨y, hy⟩ : ∃ y, l[(j - 1) / 2]? = some y := ⟨_, List.getElem?_eq_getElem (by omega)⟩
      exact lessS_trans (h.least hr n _ y (by omega) hy) (h j x y (by omega) hx hy)
theorem lessS_asymm {a b : Sl} (h : lessS a b = true) : lessS b a = false := by
  rw [lessS_iff] at h
  rw [← Bool.not_eq_true, lessS_iff]; omega
/-- A heap but for one place. -/
structure HeapX (l : List Sl) (j : Nat) : Prop where
  a : ∀ (k : Nat) x y, 0 < k → k ≠ j → l[k]? = some x → l[(k - 1) / 2]? = some y → lessS x y = false
  b : ∀ (c : Nat) x y, 0 < j → 0 < c → (c - 1) / 2 = j → l[c]? = some x → l[(j - 1) / 2]? = some y → lessS x y = false
theorem upL_heap : ∀ (n : Nat) (l : List Sl) (j : Nat), j < n → j < l.length → HeapX l j → isHeap (upL n l j)
  | 0, l, j, h, _, _ => by omega
  | n + 1, l, j, hn, hj, H => by
    unfold upL
    by_cases h0 : j = 0
    · rw [if_pos h0]
      exact fun k x y hk hx hy => H.a k x y hk (by omega) hx hy
    · rw [if_neg h0]
      obtain ⟨x, hx⟩ : ∃ x, l[j]? = some x := ⟨_, List.getElem?_eq_getElem hj⟩
      obtain ⟨y, hy⟩ : ∃ y, l[(j - 1) / 2]? = some y := ⟨_, List.getElem?_eq_getElem (by omega)⟩
      rw [hx, hy]
      simp only
      cases hxy : lessS x y with
      | false =>
        simp only [Bool.false_eq_true, if_false]
        intro k x' y' hk hx' hy'
        by_cases e : k = j
        · subst e
          rw [hx] at hx'; cases hx'
          rw [hy] at hy'; cases hy'
          exact hxy
        · exact H.a k x' y' hk e hx' hy'
      | true =>
        simp only [if_true]
        have hij : (j - 1) / 2 < j := by omega
        generalize hi : (j - 1) / 2 = i at *
        have hget : ∀ k : Nat, ((l.set i x).set j y)[k]? = if k = j then some y else if k = i then some x else l[k]? := fun k => by
          by_cases e : k = j
          · subst e; rw [if_pos rfl, List.getElem?_set_self (by rw [List.length_set]; exact hj)]
          · rw [if_neg e, List.getElem?_set_ne (fun h => e h.symm)]
            by_cases e2 : k = i
            · subst e2; rw [if_pos rfl, List.getElem?_set_self (by omega)]
            · rw [if_neg e2, List.getElem?_set_ne (fun h => e2 h.symm)]
        refine upL_heap n _ i (by omega) (by simp; omega) ⟨fun k x' y' hk hki hx' hy' => ?_, fun c x' y' hi0 hc hci hx' hy' => ?_⟩
        · rw [hget] at hx' hy'
          by_cases e : k = j
          · subst e
            rw [if_pos rfl] at hx'; cases hx'
            rw [hi, if_neg (by omega), if_pos rfl] at hy'; cases hy'
            exact lessS_asymm hxy
          · rw [if_neg e, if_neg hki] at hx'
            by_cases e2 : (k - 1) / 2 = j
            · rw [if_pos e2] at hy'; cases hy'
              exact H.b k x' y (by omega) hk e2 hx' (by rw [hi]; exact hy)
            · rw [if_neg e2] at hy'
              by_cases e3 : (k - 1) / 2 = i
              · rw [if_pos e3] at hy'; cases hy'
                exact lessS_trans (lessS_asymm hxy) (H.a k x' y hk e hx' (by rw [e3]; exact hy))
              · rw [if_neg e3] at hy'
                exact H.a k x' y' hk e hx' hy'
        · rw [hget] at hx' hy'
          rw [if_neg (by omega), if_neg (by omega)] at hy'
          have hyi : lessS y y' = false := H.a i y y' hi0 (by omega) hy hy'
          by_cases e : c = j
          · rw [if_pos e] at hx'; cases hx'
            exact hyi
          · rw [if_neg e, if_neg (by omega)] at hx'
            exact lessS_trans hyi (H.a c x' y hc e hx' (by rw [hci]; exact hy))
theorem push_heap {l : List Sl} {x : Sl} (h : isHeap l) : isHeap (upL (l.length + 1) (l ++ [x]) l.length) := by
  refine upL_heap _ _ _ (by omega) (by simp) ⟨fun k x' y' hk hkj hx' hy' => ?_, fun c x' y' _ hc hcj hx' _ => ?_⟩
  · have hl := (List.getElem?_eq_some_iff.1 hx').1
    simp at hl
    rw [List.getElem?_append_left (by omega)] at hx' hy'
    exact h k x' y' hk hx' hy'
  · have hl := (List.getElem?_eq_some_iff.1 hx').1
    simp at hl
    omega
end
end Go.Proofs.YtgfghbhcifkmgaaLab
