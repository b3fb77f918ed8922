/- The heap slid: its fields turned, object by object; maps of numbers. Plain facts. No condition on the program. -/
import Derived.Test.YtjipdnfaokdkbaaHN
namespace Go.Proofs.YtjipdnfaokdkbaaLab
open Go
set_option linter.all false
set_option maxRecDepth 10000
noncomputable section
def mapAt (φ : Int → O → O) : Nat → List O → List O
  | _, [] => []
  | a, o :: os => φ a o :: mapAt φ (a + o.n) os
section
variable {φ ψ : Int → O → O}
theorem look_mapAt (hφ : ∀ r o, (φ r o).f.length = o.f.length) : ∀ (os : List O) (a : Nat) (r : Int), look (mapAt φ a os) r = (look os r).map (φ (r + a))
  | [], a, r => rfl
  | o :: os, a, r => by
    have hn : (φ a o).n = o.n := by simp [O.n, hφ]
    simp only [mapAt, look, hn]
    by_cases h : r = 0
    · subst h; simp
    · rw [if_neg h, if_neg h, look_mapAt hφ os (a + o.n)]
      congr 2; omega
theorem at_mapAt (hφ : ∀ r o, (φ r o).f.length = o.f.length) (os : List O) (r : Int) : at? (mapAt φ 1 os) r = (at? os r).map (φ r) := by
  unfold at?
  rw [look_mapAt hφ]
  congr 2; omega
theorem mapAt_congr : ∀ (os : List O) (a : Nat), (∀ r o, look os r = some o → φ (r + a) o = ψ (r + a) o) → mapAt φ a os = mapAt ψ a os
  | [], a, _ => rfl
  | o :: os, a, h => by
    have h0 := h 0 o (by simp [look])
    rw [Int.zero_add] at h0
    simp only [mapAt, h0]
    congr 1
    refine mapAt_congr os _ fun r x hx => ?_
    have hr : ¬ r < 0 := fun hr => by rw [look_neg os r hr] at hx; cases hx
    have hp := o.n_pos
    have := h (r + (o.n : Nat)) x (by unfold look; rw [if_neg (by omega), show r + (o.n : Nat) - (o.n : Nat) = r by omega]; exact hx)
    rw [show r + ((a + o.n : Nat) : Int) = r + (o.n : Nat) + a by omega]
    exact this
theorem mapAt_id : ∀ (os : List O) (a : Nat), mapAt (fun _ o => o) a os = os
  | [], a => rfl
  | o :: os, a => by simp only [mapAt]; rw [mapAt_id os]
theorem turn_mapAt (g : O → O) (hφ : ∀ r o, (φ r o).f.length = o.f.length) : ∀ (os : List O) (a : Nat) (r : Int) (o : O), look os r = some o → turn g (mapAt φ a os) r = mapAt (fun x y => if x = r + a then g (φ x y) else φ x y) a os
  | [], a, r, o, h => by cases h
  | x :: os, a, r, o, h => by
    have hn : (φ a x).n = x.n := by simp [O.n, hφ]
    have hp := x.n_pos
    simp only [mapAt, turn, hn]
    by_cases hr : r = 0
    · subst hr
      simp only [if_true, Int.zero_add]
      congr 1
      refine mapAt_congr os _ fun r y hy => ?_
      have hr : ¬ r < 0 := fun hr => by rw [look_neg os r hr] at hy; cases hy
      rw [if_neg (by omega)]
    · unfold look at h
      rw [if_neg hr] at h
      rw [if_neg hr, if_neg (by omega), turn_mapAt g hφ os _ _ o h]
      congr 1
      refine mapAt_congr os _ fun r' y hy => ?_
      by_cases e : r' = r - (x.n : Nat)
      · rw [if_pos (by omega), if_pos (by omega)]
      · rw [if_neg (by omega), if_neg (by omega)]
theorem mapAt_len (hφ : ∀ r o, (φ r o).f.length = o.f.length) : ∀ (os : List O) (a : Nat), (lay (mapAt φ a os)).length = (lay os).length
  | [], a => rfl
  | o :: os, a => by
    have hn : (φ a o).n = o.n := by simp [O.n, hφ]
    simp only [mapAt, lay, List.length_append, O.ws_len, hn, mapAt_len hφ os]
theorem mapAt_mem : ∀ {os : List O} {a : Nat} {o : O}, o ∈ mapAt φ a os → ∃ r x, x ∈ os ∧ o = φ r x
  | [], a, o, h => by simp [mapAt] at h
  | x :: os, a, o, h => by
    simp only [mapAt, List.mem_cons] at h
    rcases h with rfl | h
    · exact ⟨_, x, by simp, rfl⟩
    · obtain ⟨r, y, h1, h2⟩ := mapAt_mem h
      exact ⟨r, y, by simp [h1], h2⟩
end
/-- Fields turned, up to a place. -/
def phi (os : List O) (shapes : List (List Bool)) (keep : List Int) (i k : Nat) (r : Int) (o : O) : O :=
  if r ∈ keep.take i then mvO os shapes keep o else if keep[i]? = some r then ⟨o.shape, o.tag, part os shapes keep o k⟩ else o
section
variable {os : List O} {shapes : List (List Bool)} {keep : List Int} {i k : Nat}
theorem phi_len (r : Int) (o : O) : (phi os shapes keep i k r o).f.length = o.f.length := by
  unfold phi
  split
  · exact mvO_len
  · split
    · exact part_len
    · rfl
theorem phi_shape (r : Int) (o : O) : (phi os shapes keep i k r o).shape = o.shape := by
  unfold phi
  split
  · rfl
  · split <;> rfl
theorem phi_zero : mapAt (phi os shapes keep 0 0) 1 os = os := by
  have : mapAt (phi os shapes keep 0 0) 1 os = mapAt (fun _ o => o) 1 os := mapAt_congr os 1 fun r o _ => by
    unfold phi
    rw [List.take_zero, if_neg (by simp), part_zero]
    split <;> rfl
  rw [this, mapAt_id]
theorem phi_ok (ok : ShOk os shapes) : ShOk (mapAt (phi os shapes keep i k) 1 os) shapes := fun o ho => by
  obtain ⟨r, x, h1, rfl⟩ := mapAt_mem ho
  rw [phi_shape, phi_len]
  exact ok x h1
theorem phi_at (r : Int) : at? (mapAt (phi os shapes keep i k) 1 os) r = (at? os r).map (phi os shapes keep i k r) := at_mapAt phi_len os r
theorem phi_ref (r j : Int) : refO (mapAt (phi os shapes keep i k) 1 os) shapes r j = refO os shapes r j := by
  unfold refO
  rw [phi_at]
  cases at? os r with
  | none => rfl
  | some o => simp only [Option.map_some, phi_len, phi_shape]
theorem phi_lenO (r : Int) : lenO (mapAt (phi os shapes keep i k) 1 os) r = lenO os r := by
  unfold lenO
  rw [phi_at]
  cases at? os r with
  | none => rfl
  | some o => simp only [Option.map_some, phi_len]
theorem Kept.notin (h : Kept os keep) {r : Int} (hi : keep[i]? = some r) : r ∉ keep.take i := fun hm => by
  obtain ⟨j, hj, e⟩ := List.getElem_of_mem hm
  rw [List.length_take] at hj
  rw [List.getElem_take] at e
  have := h.get (List.getElem?_eq_some_iff.2 ⟨by omega, e⟩) hi (by omega)
  omega
theorem phi_get (h : Kept os keep) {r : Int} {o : O} {x : Int} (hi : keep[i]? = some r) (ho : at? os r = some o) (hx : o.f[k]? = some x) : getO (mapAt (phi os shapes keep i k) 1 os) r (k : Int) = some x := by
  unfold getO
  rw [phi_at, ho]
  simp only [Option.map_some]
  rw [if_pos (by omega)]
  unfold phi
  rw [if_neg (h.notin hi), if_pos hi, Int.toNat_natCast]
  exact part_at hx
/-- A field that stays. -/
theorem phi_same (h : Kept os keep) {r : Int} {o : O} {x : Int} (hi : keep[i]? = some r) (ho : at? os r = some o) (hx : o.f[k]? = some x) (he : mvF os shapes keep o k x = x) : mapAt (phi os shapes keep i (k + 1)) 1 os = mapAt (phi os shapes keep i k) 1 os := by
  refine mapAt_congr os 1 fun r' o' h' => ?_
  by_cases e : r' + ((1 : Nat) : Int) = r
  · have : o' = o := by
      unfold at? at ho
      rw [show r - 1 = r' by omega, h'] at ho; cases ho; rfl
    subst this
    unfold phi
    rw [e, if_neg (h.notin hi), if_neg (h.notin hi), if_pos hi, if_pos hi, part_same hx he]
  · unfold phi
    rw [if_neg (show ¬ keep[i]? = some (r' + ((1 : Nat) : Int)) by rw [hi]; simp; omega), if_neg (show ¬ keep[i]? = some (r' + ((1 : Nat) : Int)) by rw [hi]; simp; omega)]
/-- A field that is turned. -/
theorem phi_turn (h : Kept os keep) {r : Int} {o : O} {x : Int} (hi : keep[i]? = some r) (ho : at? os r = some o) (hx : o.f[k]? = some x) : turn (O.setF (k : Int) (mvF os shapes keep o k x)) (mapAt (phi os shapes keep i k) 1 os) (r - 1) = mapAt (phi os shapes keep i (k + 1)) 1 os := by
  rw [turn_mapAt _ phi_len os 1 (r - 1) o ho]
  refine mapAt_congr os 1 fun r' o' h' => ?_
  by_cases e : r' + ((1 : Nat) : Int) = r
  · have : o' = o := by
      unfold at? at ho
      rw [show r - 1 = r' by omega, h'] at ho; cases ho; rfl
    subst this
    rw [if_pos (by omega), e]
    unfold phi
    rw [if_neg (h.notin hi), if_neg (h.notin hi), if_pos hi, if_pos hi, part_succ hx]
    unfold O.setF
    rw [Int.toNat_natCast]
  · rw [if_neg (by omega)]
    unfold phi
    rw [if_neg (show ¬ keep[i]? = some (r' + ((1 : Nat) : Int)) by rw [hi]; simp; omega), if_neg (show ¬ keep[i]? = some (r' + ((1 : Nat) : Int)) by rw [hi]; simp; omega)]
/-- The next object. -/
theorem phi_next (h : Kept os keep) {r : Int} {o : O} (hi : keep[i]? = some r) (ho : at? os r = some o) : mapAt (phi os shapes keep i o.f.length) 1 os = mapAt (phi os shapes keep (i + 1) 0) 1 os := by
  refine mapAt_congr os 1 fun r' o' h' => ?_
  unfold phi
  rw [take_snoc hi, part_zero]
  by_cases e : r' + ((1 : Nat) : Int) = r
  · have : o' = o := by
      unfold at? at ho
      rw [show r - 1 = r' by omega, h'] at ho; cases ho; rfl
    subst this
    rw [e, if_neg (h.notin hi), if_pos hi, if_pos (by simp), part_end]
    rfl
  · have e2 : ¬ keep[i]? = some (r' + ((1 : Nat) : Int)) := by rw [hi]; simp; omega
    have e3 : (r' + ((1 : Nat) : Int) ∈ keep.take i ++ [r]) ↔ r' + ((1 : Nat) : Int) ∈ keep.take i := by
      rw [List.mem_append, List.mem_singleton]; exact ⟨fun hh => hh.resolve_right e, .inl⟩
    by_cases hm : r' + ((1 : Nat) : Int) ∈ keep.take i
    · rw [if_pos hm, if_pos (e3.2 hm)]
    · rw [if_neg hm, if_neg (fun hh => hm (e3.1 hh)), if_neg e2]
      split <;> rfl
theorem phi_objs (h : ∀ r ∈ keep, (at? os r).isSome) : objs (mapAt (phi os shapes keep keep.length 0) 1 os) keep = slid os shapes keep := by
  have : ∀ l : List Int, (∀ r ∈ l, r ∈ keep) → objs (mapAt (phi os shapes keep keep.length 0) 1 os) l = (objs os l).map (mvO os shapes keep) := by
    intro l
    induction l with
    | nil => intro _; rfl
    | cons x l ih =>
      intro hl
      obtain ⟨o, ho⟩ := Option.isSome_iff_exists.1 (h x (hl x (by simp)))
      have h1 : objs os (x :: l) = o :: objs os l := by simp [objs, ho]
      have h2 : at? (mapAt (phi os shapes keep keep.length 0) 1 os) x = some (mvO os shapes keep o) := by
        rw [phi_at, ho]
        unfold phi
        rw [List.take_length, Option.map_some, if_pos (hl x (by simp))]
      have h3 : objs (mapAt (phi os shapes keep keep.length 0) 1 os) (x :: l) = mvO os shapes keep o :: objs (mapAt (phi os shapes keep keep.length 0) 1 os) l := by
        show List.filterMap _ _ = _
        rw [List.filterMap_cons, h2]; rfl
      rw [h1, h3, ih fun r hr => hl r (by simp [hr])]; rfl
  exact this keep fun r hr => hr
theorem phi_kept (h : Kept os keep) {i' k' : Nat} : Kept (mapAt (phi os shapes keep i' k') 1 os) keep := ⟨fun r hr => by
  rw [phi_at]
  obtain ⟨o, ho⟩ := Option.isSome_iff_exists.1 (h.inn r hr)
  rw [ho]; rfl, h.asc⟩
end
/-! ### Maps from numbers to numbers -/
theorem eqKI_eq (a b : Int) : eqKI (.i a) (.i b) = some (decide (a = b)) := by
  show some (eqI a b) = _
  rw [eqI_eq]; by_cases h : a = b <;> simp [h]
def pairsI (l : List (Int × Int)) : List (V × V) := l.map fun p => (.i p.1, .i p.2)
def findP (x : Int) : List (Int × Int) → Nat → Option (Nat × Int)
  | [], _ => none
  | (y, v) :: l, j => if x = y then some (j, v) else findP x l (j + 1)
theorem findV_pairsI (x : Int) : ∀ (l : List (Int × Int)) (j : Nat), findV eqKI (.i x) (pairsI l) j = some ((findP x l j).map fun p => (p.1, .i p.2))
  | [], j => rfl
  | (y, v) :: l, j => by
    show (match eqKI (.i x) (.i y) with
      | some b => Bool.casesOn (motive := fun _ => Option (Option (Nat × V))) b (findV eqKI (.i x) (pairsI l) (Nat.succ j)) (some (some (j, .i v)))
      | none => none) = _
    rw [eqKI_eq]; simp only
    unfold findP
    by_cases h : x = y
    · rw [decide_eq_true h, if_pos h]; rfl
    · rw [decide_eq_false h, if_neg h]
      exact findV_pairsI x l (j + 1)
theorem findP_zip (x : Int) : ∀ (a b : List Int) (j : Nat), a.length = b.length → findP x (a.zip b) j = (idxI x a).map fun n => (j + n, (b[n]?).getD 0)
  | [], b, j, h => rfl
  | y :: a, [], j, h => by simp at h
  | y :: a, z :: b, j, h => by
    simp only [List.zip_cons_cons, findP, idxI]
    by_cases e : x = y
    · rw [if_pos e, if_pos e.symm]; rfl
    · rw [if_neg e, if_neg (fun h => e h.symm), findP_zip x a b (j + 1) (by simpa using h)]
      cases idxI x a with
      | none => rfl
      | some n => simp; omega
/-- Where objects go. -/
def mvE (os : List O) (keep : List Int) : List (V × V) := pairsI ((0, 0) :: keep.zip (tos os keep))
section
variable {os : List O} {keep : List Int}
theorem mvE_find (h : ∀ r ∈ keep, (at? os r).isSome) (x : Int) : findV eqKI (.i x) (mvE os keep) 0 = some (if x = 0 then some (0, .i 0) else (idxI x keep).map fun n => (1 + n, .i (((tos os keep)[n]?).getD 0))) := by
  unfold mvE
  rw [findV_pairsI]
  simp only [findP]
  by_cases e : x = 0
  · rw [if_pos e, if_pos e]; rfl
  · rw [if_neg e, if_neg e, findP_zip x _ _ _ (tos_len h).symm]
    cases idxI x keep with
    | none => rfl
    | some n => simp
theorem mvE_some (h : ∀ r ∈ keep, (at? os r).isSome) {x : Int} (hx : x = 0 ∨ x ∈ keep) : ∃ n, findV eqKI (.i x) (mvE os keep) 0 = some (some (n, .i (mv os keep x))) := by
  rw [mvE_find h]
  unfold mv
  by_cases e : x = 0
  · rw [if_pos e, if_pos e]; exact ⟨_, rfl⟩
  · obtain ⟨n, hn⟩ := idxI_mem (hx.resolve_left e)
    rw [if_neg e, if_neg e, hn]; exact ⟨_, rfl⟩
theorem mvE_none (h : ∀ r ∈ keep, (at? os r).isSome) {x : Int} (h0 : ¬ x = 0) (hx : x ∉ keep) : findV eqKI (.i x) (mvE os keep) 0 = some none := by
  rw [mvE_find h, if_neg h0]
  cases hq : idxI x keep with
  | none => rfl
  | some n => exact absurd (List.mem_of_getElem? (idxI_get hq)) hx
theorem mvE_snoc {r : Int} {o : O} (h : ∀ r ∈ keep, (at? os r).isSome) (ho : at? os r = some o) : mvE os (keep ++ [r]) = mvE os keep ++ [(.i r, .i ((1 + (lay (objs os keep)).length : Nat) : Int))] := by
  unfold mvE pairsI
  have e : tos os (keep ++ [r]) = tos os keep ++ [((1 + (lay (objs os keep)).length : Nat) : Int)] := by
    unfold tos
    rw [objs_append, objs_one ho, starts_append]
    rfl
  rw [e, List.zip_append (tos_len h).symm]
  simp
end
end
end Go.Proofs.YtjipdnfaokdkbaaLab
