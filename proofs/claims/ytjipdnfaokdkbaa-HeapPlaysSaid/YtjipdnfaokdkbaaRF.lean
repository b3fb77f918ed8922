/- A heap slid: plain facts. No condition on the program. -/
import Derived.Test.YtjipdnfaokdkbaaRE
namespace Go.Proofs.YtjipdnfaokdkbaaLab
open Go
set_option linter.all false
noncomputable section
/-- Is a field a reference? -/
def refB (shapes : List (List Bool)) (o : O) (k : Nat) : Bool := if o.shape = -2 then true else if o.shape = -1 then false else ((shapes[o.shape.toNat]?.bind fun l => l[k]?).getD false)
theorem refO_at {os : List O} {shapes : List (List Bool)} {r : Int} {o : O} (h : at? os r = some o) {k : Nat} (hk : k < o.f.length) : refO os shapes r (k : Int) = refB shapes o k := by
  unfold refO refB
  rw [h]; simp only
  rw [if_pos ⟨by omega, by omega⟩, Int.toNat_natCast]
def objs (os : List O) (keep : List Int) : List O := keep.filterMap (at? os)
structure Kept (os : List O) (keep : List Int) : Prop where
  inn : ∀ r ∈ keep, (at? os r).isSome
  asc : keep.Pairwise (· < ·)
def Clo (os : List O) (shapes : List (List Bool)) (keep l : List Int) : Prop := ∀ r ∈ l, ∀ o, at? os r = some o → ∀ (k : Nat) (x : Int), o.f[k]? = some x → refB shapes o k = true → x = 0 ∨ x ∈ keep
def tos (os : List O) (keep : List Int) : List Int := starts 1 (objs os keep)
def mv (os : List O) (keep : List Int) (x : Int) : Int := if x = 0 then 0 else match idxI x keep with | some i => ((tos os keep)[i]?).getD 0 | none => 0
def mvF (os : List O) (shapes : List (List Bool)) (keep : List Int) (o : O) (k : Nat) (x : Int) : Int := if refB shapes o k then mv os keep x else x
def mvO (os : List O) (shapes : List (List Bool)) (keep : List Int) (o : O) : O := ⟨o.shape, o.tag, o.f.mapIdx (mvF os shapes keep o)⟩
def slid (os : List O) (shapes : List (List Bool)) (keep : List Int) : List O := (objs os keep).map (mvO os shapes keep)
/-- Fields turned up to a place. -/
def part (os : List O) (shapes : List (List Bool)) (keep : List Int) (o : O) (k : Nat) : List Int := (mvO os shapes keep o).f.take k ++ o.f.drop k
section
variable {os : List O} {shapes : List (List Bool)} {keep : List Int} {o : O} {k : Nat} {r r' : Int}
theorem mvO_len : (mvO os shapes keep o).f.length = o.f.length := by simp [mvO]
theorem mvO_n : (mvO os shapes keep o).n = o.n := by simp [O.n, mvO_len]
theorem mvO_get {x : Int} (h : o.f[k]? = some x) : (mvO os shapes keep o).f[k]? = some (mvF os shapes keep o k x) := by simp [mvO, h]
theorem part_len : (part os shapes keep o k).length = o.f.length := by
  unfold part; rw [List.length_append, List.length_take, mvO_len, List.length_drop]; omega
theorem part_at {x : Int} (h : o.f[k]? = some x) : (part os shapes keep o k)[k]? = some x := by
  have hk := (List.getElem?_eq_some_iff.1 h).1
  unfold part
  rw [List.getElem?_append_right (by rw [List.length_take, mvO_len]; omega), List.length_take, mvO_len, List.getElem?_drop]
  rw [show k + (k - min k o.f.length) = k by omega, h]
theorem part_succ {x : Int} (h : o.f[k]? = some x) : part os shapes keep o (k + 1) = (part os shapes keep o k).set k (mvF os shapes keep o k x) := by
  have hk := (List.getElem?_eq_some_iff.1 h).1
  have hm := mvO_get (os := os) (shapes := shapes) (keep := keep) h
  unfold part
  have hd : o.f.drop k = x :: o.f.drop (k + 1) := by
    rw [List.drop_eq_getElem_cons hk, (List.getElem?_eq_some_iff.1 h).2]
  rw [hd, List.set_append_right _ _ (by rw [List.length_take, mvO_len]; omega), List.length_take, mvO_len, show k - min k o.f.length = 0 by omega, List.set_cons_zero, List.take_succ, hm]
  simp
theorem part_same {x : Int} (h : o.f[k]? = some x) (he : mvF os shapes keep o k x = x) : part os shapes keep o (k + 1) = part os shapes keep o k := by
  rw [part_succ h, he, set_self (part_at h)]
theorem part_zero : part os shapes keep o 0 = o.f := by simp [part]
theorem part_end : part os shapes keep o o.f.length = (mvO os shapes keep o).f := by
  unfold part; rw [List.take_of_length_le (by rw [mvO_len]; omega)]; simp
theorem look_app : ∀ (pre post : List O) (r : Int), ((lay pre).length : Int) ≤ r → look (pre ++ post) r = look post (r - ((lay pre).length : Nat))
  | [], post, r, h => by simp [lay]
  | x :: pre, post, r, h => by
    have := x.n_pos
    simp only [lay, List.length_append, O.ws_len] at h
    simp only [List.cons_append, look, lay, List.length_append, O.ws_len]
    rw [if_neg (by omega), look_app pre post _ (by omega)]
    congr 1; omega
theorem at_lt {o' : O} (h : at? os r = some o) (h' : at? os r' = some o') (hl : r < r') : r + (o.n : Nat) ≤ r' := by
  obtain ⟨pre, post, rfl, h1⟩ := look_split h
  unfold at? at h'
  rw [look_app _ _ _ (by omega)] at h'
  unfold look at h'
  rw [if_neg (by omega)] at h'
  by_cases c : r' - 1 - ((lay pre).length : Nat) - (o.n : Nat) < 0
  · rw [look_neg _ _ c] at h'; cases h'
  · omega
theorem objs_append (a b : List Int) : objs os (a ++ b) = objs os a ++ objs os b := by simp [objs]
theorem objs_one (h : at? os r = some o) : objs os [r] = [o] := by simp [objs, h]
theorem objs_get (h : ∀ r ∈ keep, (at? os r).isSome) : ∀ {i : Nat} {r : Int}, keep[i]? = some r → (objs os keep)[i]? = at? os r := by
  induction keep with
  | nil => intro i r h; simp at h
  | cons x l ih =>
    intro i r hi
    obtain ⟨o, ho⟩ := Option.isSome_iff_exists.1 (h x (by simp))
    have he : objs os (x :: l) = o :: objs os l := by simp [objs, ho]
    rw [he]
    cases i with
    | zero => simp at hi; subst hi; simp [ho]
    | succ i => simpa using ih (fun r hr => h r (by simp [hr])) (by simpa using hi)
theorem objs_len (h : ∀ r ∈ keep, (at? os r).isSome) : (objs os keep).length = keep.length := by
  induction keep with
  | nil => rfl
  | cons x l ih =>
    obtain ⟨o, ho⟩ := Option.isSome_iff_exists.1 (h x (by simp))
    have he : objs os (x :: l) = o :: objs os l := by simp [objs, ho]
    rw [he, List.length_cons, List.length_cons, ih fun r hr => h r (by simp [hr])]
theorem take_snoc {α : Type} {l : List α} {i : Nat} {x : α} (h : l[i]? = some x) : l.take (i + 1) = l.take i ++ [x] := by rw [List.take_succ, h]; rfl
theorem objs_take (h : ∀ r ∈ keep, (at? os r).isSome) : ∀ (i : Nat), (objs os keep).take i = objs os (keep.take i) := by
  induction keep with
  | nil => intro i; simp [objs]
  | cons x l ih =>
    intro i
    obtain ⟨o, ho⟩ := Option.isSome_iff_exists.1 (h x (by simp))
    have he : ∀ l, objs os (x :: l) = o :: objs os l := fun l => by simp [objs, ho]
    cases i with
    | zero => simp [objs]
    | succ i => rw [he, List.take_succ_cons, List.take_succ_cons, he, ih (fun r hr => h r (by simp [hr])) i]
theorem tos_take (h : ∀ r ∈ keep, (at? os r).isSome) (i : Nat) : (tos os keep).take i = tos os (keep.take i) := by
  unfold tos
  rw [← objs_take h]
  have : ∀ (l : List O) (a i : Nat), (starts a l).take i = starts a (l.take i) := by
    intro l
    induction l with
    | nil => intro a i; simp [starts]
    | cons x l ih =>
      intro a i
      cases i with
      | zero => rfl
      | succ i => simp only [starts, List.take_succ_cons, ih]
  exact this _ _ _
theorem starts_get : ∀ (l : List O) (a i : Nat), i < l.length → (starts a l)[i]? = some ((a + (lay (l.take i)).length : Nat) : Int)
  | [], a, i, h => by simp at h
  | x :: l, a, 0, h => by simp [starts, lay]
  | x :: l, a, i + 1, h => by
    simp only [starts, List.getElem?_cons_succ, List.take_succ_cons, lay, List.length_append, O.ws_len]
    rw [starts_get l (a + x.n) i (by simpa using h)]
    congr 2; omega
theorem tos_get (h : ∀ r ∈ keep, (at? os r).isSome) {i : Nat} (hi : i < keep.length) : (tos os keep)[i]? = some ((1 + (lay (objs os (keep.take i))).length : Nat) : Int) := by
  unfold tos
  rw [starts_get _ _ _ (by rw [objs_len h]; exact hi), objs_take h]
theorem tos_len (h : ∀ r ∈ keep, (at? os r).isSome) : (tos os keep).length = keep.length := by unfold tos; rw [starts_len, objs_len h]
theorem Kept.nil : Kept os [] := ⟨by simp, List.Pairwise.nil⟩
theorem Kept.take (h : Kept os keep) (i : Nat) : Kept os (keep.take i) := ⟨fun r hr => h.inn r (List.mem_of_mem_take hr), h.asc.sublist (List.take_sublist _ _)⟩
theorem Kept.get (h : Kept os keep) {i j : Nat} {x y : Int} (hi : keep[i]? = some x) (hj : keep[j]? = some y) (hij : i < j) : x < y := by
  obtain ⟨h1, rfl⟩ := List.getElem?_eq_some_iff.1 hi
  obtain ⟨h2, rfl⟩ := List.getElem?_eq_some_iff.1 hj
  exact List.pairwise_iff_getElem.1 h.asc i j h1 h2 hij
theorem Kept.snoc (h : Kept os keep) (ho : at? os r = some o) (hl : ∀ x, keep.getLast? = some x → x < r) : Kept os (keep ++ [r]) := by
  refine ⟨fun x hx => ?_, ?_⟩
  · rcases List.mem_append.1 hx with hx | hx
    · exact h.inn x hx
    · simp at hx; subst hx; rw [ho]; rfl
  · rw [List.pairwise_append]
    refine ⟨h.asc, List.pairwise_singleton _ _, fun x hx y hy => ?_⟩
    simp at hy; subst hy
    cases hlast : keep.getLast? with
    | none => rw [List.getLast?_eq_none_iff] at hlast; subst hlast; simp at hx
    | some z =>
      have hz := hl z hlast
      obtain ⟨i, hi, rfl⟩ := List.getElem_of_mem hx
      rw [List.getLast?_eq_getElem?] at hlast
      by_cases e : i = keep.length - 1
      · subst e; rw [List.getElem?_eq_getElem hi] at hlast; cases hlast; exact hz
      · have := h.get (List.getElem?_eq_getElem hi) hlast (by omega)
        omega
/-- Places are no further than they were. -/
theorem Kept.le (h : Kept os keep) : ∀ (i : Nat) (r : Int), keep[i]? = some r → ((1 + (lay (objs os (keep.take i))).length : Nat) : Int) ≤ r
  | 0, r, hr => by
    obtain ⟨o, ho⟩ := Option.isSome_iff_exists.1 (h.inn r (List.mem_of_getElem? hr))
    have := (lay_lt ho).1
    simp [objs, lay]; omega
  | i + 1, r, hr => by
    have hi := (List.getElem?_eq_some_iff.1 hr).1
    have hp : keep[i]? = some keep[i] := List.getElem?_eq_getElem (by omega)
    have ih := h.le i _ hp
    obtain ⟨o, ho⟩ := Option.isSome_iff_exists.1 (h.inn _ (List.mem_of_getElem? hp))
    obtain ⟨o', ho'⟩ := Option.isSome_iff_exists.1 (h.inn _ (List.mem_of_getElem? hr))
    have := at_lt ho ho' (h.get hp hr (by omega))
    rw [take_snoc hp, objs_append, objs_one ho, lay_append, List.length_append]
    simp only [lay, List.append_nil, O.ws_len]
    omega
theorem Kept.fits (h : Kept os keep) : (lay (objs os keep)).length ≤ (lay os).length := by
  by_cases e : keep = []
  · subst e; simp [objs, lay]
  · have hl : 0 < keep.length := by cases keep; exact absurd rfl e; simp
    have hp : keep[keep.length - 1]? = some keep[keep.length - 1] := List.getElem?_eq_getElem (by omega)
    have h1 := h.le _ _ hp
    obtain ⟨o, ho⟩ := Option.isSome_iff_exists.1 (h.inn _ (List.mem_of_getElem? hp))
    have h2 := lay_lt ho
    have e2 : objs os keep = objs os (keep.take (keep.length - 1)) ++ [o] := by
      rw [← objs_one ho, ← objs_append, ← take_snoc hp, show keep.length - 1 + 1 = keep.length by omega, List.take_length]
    rw [e2, lay_append, List.length_append]
    simp only [lay, List.append_nil, O.ws_len]
    omega
theorem lay_map_len : ∀ (l : List O), (lay (l.map (mvO os shapes keep))).length = (lay l).length
  | [] => rfl
  | x :: l => by simp only [List.map_cons, lay, List.length_append, O.ws_len, mvO_n, lay_map_len l]
theorem idxI_get : ∀ {l : List Int} {x : Int} {i : Nat}, idxI x l = some i → l[i]? = some x
  | [], x, i, h => by cases h
  | y :: l, x, i, h => by
    unfold idxI at h
    split at h
    · rename_i e; cases h; rw [e]; rfl
    · cases hq : idxI x l with
      | none => rw [hq] at h; cases h
      | some m => rw [hq] at h; cases h; simpa using idxI_get hq
theorem idxI_none : ∀ {l : List Int} {x : Int}, idxI x l = none → x ∉ l
  | [], x, _ => by simp
  | y :: l, x, h => by
    unfold idxI at h
    split at h
    · cases h
    · rename_i e
      cases hq : idxI x l with
      | none => simp only [List.mem_cons, not_or]; exact ⟨fun e' => e e'.symm, idxI_none hq⟩
      | some m => rw [hq] at h; cases h
theorem idxI_mem {l : List Int} {x : Int} (h : x ∈ l) : ∃ i, idxI x l = some i := by
  cases hq : idxI x l with
  | none => exact absurd h (idxI_none hq)
  | some i => exact ⟨i, rfl⟩
theorem hasI_neg {l : List Int} {x : Int} : hasI l x < 0 ↔ x ∉ l := by
  unfold hasI
  cases hq : idxI x l with
  | none => simp [idxI_none hq]
  | some i =>
    have := List.mem_of_getElem? (idxI_get hq)
    simp only [this, not_true_eq_false, iff_false]; omega
theorem slid_take (h : ∀ r ∈ keep, (at? os r).isSome) (i : Nat) : (slid os shapes keep).take i = (objs os (keep.take i)).map (mvO os shapes keep) := by
  unfold slid; rw [← List.map_take, objs_take h]
end
end
end Go.Proofs.YtjipdnfaokdkbaaLab
