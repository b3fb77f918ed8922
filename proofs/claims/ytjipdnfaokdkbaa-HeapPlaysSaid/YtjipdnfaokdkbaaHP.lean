/- A heap of objects as plain data: objects one behind the other in a row of words. Plain facts. No condition on the program. -/
import Derived.Test.YtjipdnfaokdkbaaLm5
namespace Go.Proofs.YtjipdnfaokdkbaaLab
open Go
set_option linter.all false
noncomputable section
/-- An object. -/
structure O where
  shape : Int
  tag : Int
  f : List Int
def O.n (o : O) : Nat := 3 + o.f.length
def O.ws (o : O) : List Int := o.shape :: (o.f.length : Int) :: o.tag :: o.f
def O.bs (o : O) : List Bool := true :: List.replicate (2 + o.f.length) false
def lay : List O → List Int | [] => [] | o :: os => o.ws ++ lay os
def layB : List O → List Bool | [] => [] | o :: os => o.bs ++ layB os
/-- The object that begins at a place. -/
def look : List O → Int → Option O
  | [], _ => none
  | o :: os, r => if r = 0 then some o else look os (r - (o.n : Nat))
def at? (os : List O) (r : Int) : Option O := look os (r - 1)
def turn (g : O → O) : List O → Int → List O
  | [], _ => []
  | o :: os, r => if r = 0 then g o :: os else o :: turn g os (r - (o.n : Nat))
theorem O.ws_len (o : O) : o.ws.length = o.n := by simp [O.ws, O.n]; omega
theorem O.bs_len (o : O) : o.bs.length = o.n := by simp [O.bs, O.n]; omega
theorem O.n_pos (o : O) : 3 ≤ o.n := by simp [O.n]
theorem lay_len : ∀ os, (layB os).length = (lay os).length
  | [] => rfl
  | o :: os => by simp [lay, layB, O.ws_len, O.bs_len, lay_len os]
theorem lay_append : ∀ (a b : List O), lay (a ++ b) = lay a ++ lay b
  | [], b => rfl
  | o :: a, b => by simp [lay, lay_append a b]
theorem layB_append : ∀ (a b : List O), layB (a ++ b) = layB a ++ layB b
  | [], b => rfl
  | o :: a, b => by simp [layB, layB_append a b]
theorem look_neg : ∀ (os : List O) (r : Int), r < 0 → look os r = none
  | [], r, _ => rfl
  | o :: os, r, h => by unfold look; rw [if_neg (by omega)]; exact look_neg os _ (by omega)
theorem look_split : ∀ {os : List O} {r : Int} {o : O}, look os r = some o → ∃ pre post, os = pre ++ o :: post ∧ r = ((lay pre).length : Nat)
  | [], r, o, h => by cases h
  | x :: os, r, o, h => by
    unfold look at h
    split at h
    · cases h; exact ⟨[], os, rfl, by simpa [lay] using ‹r = 0›⟩
    · obtain ⟨pre, post, h1, h2⟩ := look_split h
      exact ⟨x :: pre, post, by rw [h1]; rfl, by simp [lay, O.ws_len]; omega⟩
theorem look_of : ∀ (pre : List O) (o : O) (post : List O), look (pre ++ o :: post) ((lay pre).length : Nat) = some o
  | [], o, post => by simp [look, lay]
  | x :: pre, o, post => by
    have := x.n_pos
    simp only [List.cons_append, look, lay, List.length_append, O.ws_len]
    rw [if_neg (by omega), show ((x.n + (lay pre).length : Nat) : Int) - (x.n : Nat) = ((lay pre).length : Nat) by omega]
    exact look_of pre o post
theorem turn_of (g : O → O) : ∀ (pre : List O) (o : O) (post : List O), turn g (pre ++ o :: post) ((lay pre).length : Nat) = pre ++ g o :: post
  | [], o, post => by simp [turn, lay]
  | x :: pre, o, post => by
    have := x.n_pos
    simp only [List.cons_append, turn, lay, List.length_append, O.ws_len]
    rw [if_neg (by omega), show ((x.n + (lay pre).length : Nat) : Int) - (x.n : Nat) = ((lay pre).length : Nat) by omega, turn_of g pre o post]
theorem layB_get : ∀ (os : List O) (z i : Nat), ((layB os ++ List.replicate z false)[i]?).getD false = (look os i).isSome
  | [], z, i => by
    simp only [layB, List.nil_append, look, Option.isSome_none, List.getElem?_replicate]
    split <;> rfl
  | o :: os, z, i => by
    have hn := o.bs_len
    simp only [layB, look, List.append_assoc]
    by_cases h0 : i = 0
    · subst h0; simp [O.bs]
    · rw [if_neg (by omega)]
      by_cases h1 : i < o.n
      · rw [List.getElem?_append_left (by omega), look_neg _ _ (by omega)]
        obtain ⟨j, rfl⟩ : ∃ j, i = j + 1 := ⟨i - 1, by omega⟩
        simp only [O.bs, List.getElem?_cons_succ, List.getElem?_replicate]
        split <;> rfl
      · rw [List.getElem?_append_right (by omega), hn, layB_get os z (i - o.n)]
        rw [show ((i - o.n : Nat) : Int) = (i : Int) - (o.n : Nat) by omega]
/-- What lies at a place of an object. -/
theorem lay_at {os : List O} {r : Int} {o : O} (h : at? os r = some o) (z : List Int) : 1 ≤ r ∧ r.toNat + o.n ≤ 1 + (lay os).length ∧ ∀ j, j < o.n → (0 :: (lay os ++ z))[r.toNat + j]? = o.ws[j]? := by
  obtain ⟨pre, post, rfl, hr⟩ := look_split h
  have e : r.toNat = (lay pre).length + 1 := by omega
  refine ⟨by omega, ?_, fun j hj => ?_⟩
  · rw [lay_append, List.length_append, lay, List.length_append, O.ws_len]; omega
  · rw [e, show (lay pre).length + 1 + j = ((lay pre).length + j) + 1 by omega, List.getElem?_cons_succ, lay_append, List.append_assoc, List.getElem?_append_right (by omega), lay, List.append_assoc, List.getElem?_append_left (by rw [O.ws_len]; omega)]
    congr 1; omega
theorem lay_lt {os : List O} {r : Int} {o : O} (h : at? os r = some o) : 1 ≤ r ∧ r.toNat + o.n ≤ 1 + (lay os).length := ⟨(lay_at h []).1, (lay_at h []).2.1⟩
/-- A place of an object turned. -/
theorem lay_set {os : List O} {r : Int} {o : O} (h : at? os r = some o) (z : List Int) (g : O → O) (j : Nat) (v : Int) (hj : j < o.n) (hg : (g o).ws = o.ws.set j v) : (0 :: (lay os ++ z)).set (r.toNat + j) v = 0 :: (lay (turn g os (r - 1)) ++ z) := by
  obtain ⟨pre, post, rfl, hr⟩ := look_split h
  have e : r.toNat = (lay pre).length + 1 := by omega
  rw [hr, turn_of, e, show (lay pre).length + 1 + j = ((lay pre).length + j) + 1 by omega, List.set_cons_succ, lay_append, lay_append, lay, lay, hg]
  congr 1
  simp only [List.append_assoc]
  rw [List.set_append_right _ _ (by omega), List.set_append_left _ _ (by rw [O.ws_len]; omega)]
  congr 3; omega
theorem turn_len {os : List O} {r : Int} {o : O} (h : look os r = some o) (g : O → O) (hg : (g o).f.length = o.f.length) : (lay (turn g os r)).length = (lay os).length ∧ layB (turn g os r) = layB os := by
  obtain ⟨pre, post, rfl, hr⟩ := look_split h
  rw [hr, turn_of]
  constructor
  · simp [lay_append, lay, O.ws_len, O.n, hg]
  · rw [layB_append, layB_append, layB, layB]; simp [O.bs, hg]
end
end Go.Proofs.YtjipdnfaokdkbaaLab
