/- The program's heap and the document's, side by side. No condition on the program. -/
import Derived.Test.YtjipdnfaokdkbaaRL
namespace Go.Proofs.YtjipdnfaokdkbaaLab
open Go
set_option linter.all false
set_option maxRecDepth 10000
noncomputable section
/-! ### References stay so -/
theorem look_more : ∀ {os : List O} {l : List O} {r : Int} {o : O}, look os r = some o → look (os ++ l) r = some o
  | [], l, r, o, h => by cases h
  | x :: os, l, r, o, h => by
    unfold look at h ⊢
    simp only [List.cons_append]
    split at h
    · rename_i c; rw [if_pos c]; exact h
    · rename_i c; rw [if_neg c]; exact look_more h
theorem look_last : ∀ {os : List O} {x : O} {r : Int} {o : O}, look (os ++ [x]) r = some o → look os r = some o ∨ o = x
  | [], x, r, o, h => by
    simp only [List.nil_append, look] at h
    split at h
    · cases h; exact .inr rfl
    · cases h
  | y :: os, x, r, o, h => by
    simp only [List.cons_append, look] at h ⊢
    split at h
    · rename_i c; rw [if_pos c]; exact .inl h
    · rename_i c; rw [if_neg c]; exact look_last h
theorem RefOk.snoc {os : List O} {shapes : List (List Bool)} (h : RefOk os shapes) (sh : Int) (m : Nat) : RefOk (os ++ [newO sh m]) shapes := fun r o ho k x hx hb => by
  rcases look_last ho with ho | rfl
  · rcases h r o ho k x hx hb with h | h
    · exact .inl h
    · obtain ⟨o', ho'⟩ := Option.isSome_iff_exists.1 h
      exact .inr (by unfold at?; rw [look_more ho']; rfl)
  · left
    simp only [newO, List.getElem?_replicate] at hx
    split at hx
    · cases hx; rfl
    · cases hx
theorem refB_more {os : List O} {shapes : List (List Bool)} {l : List Bool} (ok : ShOk os shapes) {o : O} (ho : o ∈ os) (k : Nat) : refB (shapes ++ [l]) o k = refB shapes o k := by
  unfold refB
  rcases ok o ho with h | h | ⟨h, x, hx, _⟩
  · rw [h]; simp
  · rw [h]; simp
  · rw [List.getElem?_append_left (List.getElem?_eq_some_iff.1 hx).1]
theorem RefOk.more {os : List O} {shapes : List (List Bool)} (h : RefOk os shapes) (ok : ShOk os shapes) (l : List Bool) : RefOk os (shapes ++ [l]) := fun r o ho k x hx hb => by
  rw [refB_more ok (at_mem ho)] at hb
  exact h r o ho k x hx hb
theorem at_turn {g : O → O} (hg : ∀ o, (g o).f.length = o.f.length) {os : List O} {r : Int} {o : O} (ho : at? os r = some o) (r' : Int) : at? (turn g os (r - 1)) r' = (at? os r').map fun y => if r' = r then g y else y := by
  have h := turn_mapAt (φ := fun _ o => o) g (fun _ _ => rfl) os 1 (r - 1) o ho
  rw [mapAt_id] at h
  rw [h, at_mapAt (fun x y => by split <;> simp [hg])]
  congr 1
  funext y
  by_cases c : r' = r
  · rw [if_pos c, if_pos (by omega)]
  · rw [if_neg c, if_neg (by omega)]
theorem RefOk.setTag {os : List O} {shapes : List (List Bool)} (h : RefOk os shapes) {r v : Int} {o : O} (ho : at? os r = some o) : RefOk (turn (O.setTag v) os (r - 1)) shapes := fun r' o' ho' k x hx hb => by
  rw [at_turn (g := O.setTag v) (fun o => rfl) ho] at ho' ⊢
  cases hq : at? os r' with
  | none => rw [hq] at ho'; cases ho'
  | some y =>
    rw [hq] at ho'
    simp only [Option.map_some, Option.some.injEq] at ho'
    have hy : y.f[k]? = some x ∧ refB shapes y k = true := by
      split at ho' <;> subst ho' <;> exact ⟨hx, hb⟩
    rcases h r' y hq k x hy.1 hy.2 with h | h
    · exact .inl h
    · right
      obtain ⟨o2, ho2⟩ := Option.isSome_iff_exists.1 h
      rw [ho2]; rfl
theorem RefOk.set {os : List O} {shapes : List (List Bool)} (h : RefOk os shapes) {r k0 v y : Int} (hg : getO os r k0 = some y) (hc : (refO os shapes r k0 && !(decide (v = 0) || (at? os v).isSome)) = false) : RefOk (turn (O.setF k0 v) os (r - 1)) shapes := by
  obtain ⟨o, ho, h0, h1, h2⟩ := getO_some hg
  have hls : ∀ o : O, (O.setF k0 v o).f.length = o.f.length := fun o => by simp [O.setF]
  have hsome : ∀ x : Int, (at? os x).isSome → (at? (turn (O.setF k0 v) os (r - 1)) x).isSome := fun x hx => by
    obtain ⟨o2, ho2⟩ := Option.isSome_iff_exists.1 hx
    rw [at_turn hls ho, ho2]; rfl
  intro r' o' ho' k x hx hb
  rw [at_turn hls ho] at ho'
  cases hq : at? os r' with
  | none => rw [hq] at ho'; cases ho'
  | some w =>
    rw [hq] at ho'
    simp only [Option.map_some, Option.some.injEq] at ho'
    by_cases c : r' = r
    · rw [if_pos c] at ho'
      subst ho'; subst c
      rw [ho] at hq; cases hq
      have hb : refB shapes o k = true := hb
      simp only [O.setF] at hx
      by_cases e : k0.toNat = k
      · subst e
        rw [List.getElem?_set_self (by omega)] at hx
        cases hx
        have hr := refO_at (shapes := shapes) ho (k := k0.toNat) (by omega)
        rw [show ((k0.toNat : Nat) : Int) = k0 by omega] at hr
        rw [hr, hb, Bool.true_and, Bool.not_eq_false', Bool.or_eq_true] at hc
        rcases hc with hc | hc
        · exact .inl (of_decide_eq_true hc)
        · exact .inr (hsome _ hc)
      · rw [List.getElem?_set_ne e] at hx
        rcases h r' o ho k x hx hb with h | h
        · exact .inl h
        · exact .inr (hsome _ h)
    · rw [if_neg c] at ho'
      subst ho'
      rcases h r' w hq k x hx hb with h | h
      · exact .inl h
      · exact .inr (hsome _ h)
theorem at_starts {l : List O} {i : Nat} {o : O} (h : l[i]? = some o) : at? l ((1 + (lay (l.take i)).length : Nat) : Int) = some o := by
  obtain ⟨h1, rfl⟩ := List.getElem?_eq_some_iff.1 h
  have e : l = l.take i ++ l[i] :: l.drop (i + 1) := by rw [← List.drop_eq_getElem_cons h1, List.take_append_drop]
  have := look_of (l.take i) l[i] (l.drop (i + 1))
  rw [← e] at this
  unfold at?
  rw [show ((1 + (lay (l.take i)).length : Nat) : Int) - 1 = ((lay (l.take i)).length : Nat) by omega, this]
theorem RefOk.slide {os : List O} {shapes : List (List Bool)} {keep : List Int} (hK : Kept os keep) (hC : Clo os shapes keep keep) : RefOk (slid os shapes keep) shapes := by
  intro r o ho k x hx hb
  have hm := at_mem ho
  obtain ⟨y, hy, rfl⟩ := List.mem_map.1 hm
  obtain ⟨r0, hr0, ha⟩ := List.mem_filterMap.1 hy
  have hb : refB shapes y k = true := hb
  simp only [mvO, List.getElem?_mapIdx] at hx
  cases hq : y.f[k]? with
  | none => rw [hq] at hx; cases hx
  | some x0 =>
    rw [hq] at hx
    simp only [Option.map_some, Option.some.injEq] at hx
    unfold mvF at hx
    rw [hb, if_pos rfl] at hx
    unfold mv at hx
    by_cases c : x0 = 0
    · rw [if_pos c] at hx; exact .inl hx.symm
    · rw [if_neg c] at hx
      obtain ⟨i, hi⟩ := idxI_mem ((hC r0 hr0 y ha k x0 hq hb).resolve_left c)
      rw [hi] at hx
      have hil := (List.getElem?_eq_some_iff.1 (idxI_get hi)).1
      have ht := tos_get hK.inn hil
      simp only at hx
      rw [ht] at hx
      right
      obtain ⟨o2, ho2⟩ := Option.isSome_iff_exists.1 (hK.inn _ (List.mem_of_getElem? (idxI_get hi)))
      have h1 : (objs os keep)[i]? = some o2 := by rw [objs_get hK.inn (idxI_get hi), ho2]
      have h2 : (slid os shapes keep)[i]? = some (mvO os shapes keep o2) := by unfold slid; rw [List.getElem?_map, h1]; rfl
      have h3 := at_starts h2
      rw [slid_take hK.inn, lay_map_len] at h3
      simp only [Option.getD_some] at hx
      rw [← hx, h3]; rfl
end
end Go.Proofs.YtjipdnfaokdkbaaLab
