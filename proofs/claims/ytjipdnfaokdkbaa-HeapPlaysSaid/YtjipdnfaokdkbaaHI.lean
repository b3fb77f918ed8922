/- The heap's shapes. No condition on the program. -/
import Derived.Test.YtjipdnfaokdkbaaHF
namespace Go.Proofs.YtjipdnfaokdkbaaLab
open Go
set_option linter.all false
set_option maxRecDepth 10000
noncomputable section
/-- What may be told nil apart. -/
theorem SL.nil {s : St} {v : V} {l : List V} (h : SL s v l) : (v = .nils ∧ l = []) ∨ ∀ ng, bNil ng nilS v .nils = some (.bool ng) := by
  rcases h with ⟨h1, rfl | ⟨b, o, c, rfl⟩⟩ | ⟨b, o, c, n, f, rfl, _⟩
  · exact Or.inl ⟨rfl, h1⟩
  · exact Or.inr fun ng => bNil_slice ng _ _ _ _ _
  · exact Or.inr fun ng => bNil_slice ng _ _ _ _ _
/-- A copy of a list of truths. -/
theorem clone_eq {s : St} (hw : Wf s) {v : V} {l : List Bool} (h : SL s v (l.map .bool)) (hb : l.length ≤ 1000000) (d : Nat) :
    Ret ((K (d + 1)).call 41 [v] s) fun v' s' => (v' = .nils ∧ l = [] ∨ ∃ b c, v' = .slice b 0 l.length c 1 ∧ s.next ≤ b ∧ s'.cl b = some (l.map .bool)) ∧ Fr s s' [] := by
  rcases h.nil with ⟨rfl, h0⟩ | hn
  · rw [List.map_eq_nil_iff] at h0; subst h0
    simp -implicitDefEqProofs (maxSteps := 5000000) (disch := first | assumption | omega | (simp only [one_i, one_int, one_bool, one_str, one_ptr, one_nilp, one_nils, one_slice, one_map, one_nilm, one_func, one_iface, same_i, same_bool, same_nils, same_ptr, same_map, same_slice, List.length_cons, List.length_nil, Nat.zero_add, Nat.reduceAdd, allOne_cons, allOne_nil, Bool.and_self]; done) | (simp only [List.length_cons, List.length_nil, List.length_map, List.length_set]; omega)) only [op41, go_sem]
    exact ⟨.inl ⟨(by first | trivial | rfl | assumption), (by first | trivial | rfl | assumption)⟩, Fr.refl hw _⟩
  · have hn := hn false
    obtain ⟨s1, e1, c1, f1, n1⟩ := new_ex (s := s) (l := []) (n := 0) hw rfl
    have h1 := h.fr hw f1 (by simp)
    have e0 : ∀ id, bslP 0 1 [] [] id = some (.slice id 0 0 (some 0) 1, .cells 0 (ofL [])) := fun id => rfl
    have hy := h1.src (fun x hx => by obtain ⟨a, _, rfl⟩ := List.mem_map.1 hx; rfl) (by simp; omega)
    rw [List.length_map] at hy
    by_cases hl : l = []
    · subst hl
      have e2 := eAp_zero (b := s.next) (o := 0) (len := 0) (cap := some 0) hy (by omega)
      simp -implicitDefEqProofs (maxSteps := 5000000) (disch := first | assumption | omega | (simp only [one_i, one_int, one_bool, one_str, one_ptr, one_nilp, one_nils, one_slice, one_map, one_nilm, one_func, one_iface, same_i, same_bool, same_nils, same_ptr, same_map, same_slice, List.length_cons, List.length_nil, Nat.zero_add, Nat.reduceAdd, allOne_cons, allOne_nil, Bool.and_self]; done) | (simp only [List.length_cons, List.length_nil, List.length_map, List.length_set]; omega)) only [op41, go_sem, hn, e0, e1, e2]
      exact ⟨.inr ⟨_, _, rfl, Nat.le_refl _, c1⟩, f1⟩
    · have hpos : 0 < l.length := by cases l; exact absurd rfl hl; simp
      obtain ⟨s2, e2, c2, f2, n2⟩ := eAp_grow (es := 1) (b := s.next) (o := 0) (len := 0) (c := 0) f1.wf hy hpos (by omega) (by omega) c1 (by simp)
      simp -implicitDefEqProofs (maxSteps := 5000000) (disch := first | assumption | omega | (simp only [one_i, one_int, one_bool, one_str, one_ptr, one_nilp, one_nils, one_slice, one_map, one_nilm, one_func, one_iface, same_i, same_bool, same_nils, same_ptr, same_map, same_slice, List.length_cons, List.length_nil, Nat.zero_add, Nat.reduceAdd, allOne_cons, allOne_nil, Bool.and_self]; done) | (simp only [List.length_cons, List.length_nil, List.length_map, List.length_set]; omega)) only [op41, go_sem, hn, e0, e1, e2]
      try simp only [Nat.zero_add] at c2
      try simp only [Nat.zero_add]
      exact ⟨.inr ⟨_, _, rfl, by omega, by simpa using c2⟩, f1.trans f2⟩
/-- A shape's text. -/
def enc (l : List Bool) : List Nat := l.map fun b => if b = true then 1 else 0
theorem enc_inj : ∀ {a b : List Bool}, enc a = enc b → a = b
  | [], [], _ => rfl
  | [], _ :: _, h => by simp [enc] at h
  | _ :: _, [], h => by simp [enc] at h
  | x :: a, y :: b, h => by
    simp only [enc, List.map_cons, List.cons.injEq] at h
    rw [enc_inj (a := a) (b := b) h.2]
    congr 1
    have := h.1
    cases x <;> cases y <;> simp at this ⊢
/-- The number of a shape. -/
def idxL (x : List Bool) : List (List Bool) → Option Nat | [] => none | y :: l => if x = y then some 0 else (idxL x l).map (· + 1)
theorem idxL_enc (x : List Bool) : ∀ l, idxS (enc x) (l.map enc) = idxL x l
  | [] => rfl
  | y :: l => by
    unfold idxL
    simp only [List.map_cons, idxS]
    by_cases h : x = y
    · rw [if_pos h, if_pos (by rw [h])]
    · rw [if_neg h, if_neg (fun e => h (enc_inj e)), idxL_enc x l]
theorem idxL_get : ∀ {x : List Bool} {l : List (List Bool)} {n : Nat}, idxL x l = some n → l[n]? = some x
  | x, [], n, h => by cases h
  | x, y :: l, n, h => by
    unfold idxL at h
    split at h
    · rename_i e; cases h; rw [e]; rfl
    · cases hq : idxL x l with
      | none => rw [hq] at h; cases h
      | some m => rw [hq] at h; cases h; simpa using idxL_get hq
theorem idxL_none : ∀ {x : List Bool} {l : List (List Bool)}, idxL x l = none → x ∉ l
  | x, [], _ => by simp
  | x, y :: l, h => by
    unfold idxL at h
    split at h
    · cases h
    · rename_i e
      cases hq : idxL x l with
      | none => simp only [List.mem_cons, e, false_or]; exact idxL_none hq
      | some m => rw [hq] at h; cases h
/-- A heap with its shapes. -/
structure HS (s : St) (p bw bb n : Nat) (os : List O) (z : List Int) (shapes : List (List Bool)) (bm : Nat) (F : List Nat) : Prop where
  H : ∃ sh, AH s p bw bb n os sh (.map bm) z ∧ ShR s F sh shapes
  m : ∃ bs cl, s.mp bm = some (mkEs (shapes.map enc) 0, bs, cl)
  ok : ShOk os shapes
  dF : ∀ b ∈ F, b ≠ p ∧ b ≠ bw ∧ b ≠ bb ∧ b < s.next ∧ b ≠ bm
section
variable {s : St} {p bw bb n bm : Nat} {os : List O} {z : List Int} {shapes : List (List Bool)} {F : List Nat} (H : HS s p bw bb n os z shapes bm F)
include H
theorem HS.wf : Wf s := by obtain ⟨sh, h, _⟩ := H.H; exact h.hr.wf
theorem HS.ne : p ≠ bm ∧ bw ≠ bm ∧ bb ≠ bm ∧ bm < s.next ∧ p < s.next ∧ bw < s.next ∧ bb < s.next := by
  obtain ⟨sh, h, _⟩ := H.H
  obtain ⟨bs, cl, hm⟩ := H.m
  have := h.lt
  exact ⟨cl_mp_ne h.hr.wf h.hr.hp hm, cl_mp_ne h.hr.wf h.hr.hw hm, cl_mp_ne h.hr.wf h.hr.hb hm, mp_lt h.hr.wf hm, this⟩
/-- What leaves the heap's blocks alone. -/
theorem HS.fr {s' : St} {l : List Nat} (f : Fr s s' l) (h1 : p ∉ l) (h2 : bw ∉ l) (h3 : bb ∉ l) (h4 : bm ∉ l) (h5 : ∀ b ∈ F, b ∉ l) : HS s' p bw bb n os z shapes bm F := by
  obtain ⟨sh, h, hs⟩ := H.H
  obtain ⟨bs, cl, hm⟩ := H.m
  exact ⟨⟨sh, h.fr f h1 h2 h3, hs.fr h.hr.wf f h5⟩, ⟨bs, cl, f.mp h.hr.wf hm h4⟩, H.ok, fun b hb => ⟨(H.dF b hb).1, (H.dF b hb).2.1, (H.dF b hb).2.2.1, Nat.lt_of_lt_of_le (H.dF b hb).2.2.2.1 f.nx, (H.dF b hb).2.2.2.2⟩⟩
/-- Another heap over the same shapes. -/
theorem HS.turn {s' : St} {os' : List O} {z' : List Int} (f : Fr s s' [p, bw, bb]) (h : ∀ sh, AH s p bw bb n os sh (.map bm) z → AH s' p bw bb n os' sh (.map bm) z') (ok : ShOk os' shapes) : HS s' p bw bb n os' z' shapes bm F := by
  obtain ⟨sh, h0, hs⟩ := H.H
  obtain ⟨bs, cl, hm⟩ := H.m
  obtain ⟨n1, n2, n3, n4, _⟩ := H.ne
  exact ⟨⟨sh, h sh h0, hs.fr h0.hr.wf f (fun b hb => by have := H.dF b hb; simp; exact ⟨this.1, this.2.1, this.2.2.1⟩)⟩, ⟨bs, cl, f.mp h0.hr.wf hm (by simp; exact ⟨Ne.symm n1, Ne.symm n2, Ne.symm n3⟩)⟩, ok, fun b hb => ⟨(H.dF b hb).1, (H.dF b hb).2.1, (H.dF b hb).2.2.1, Nat.lt_of_lt_of_le (H.dF b hb).2.2.2.1 f.nx, (H.dF b hb).2.2.2.2⟩⟩
end
end
end Go.Proofs.YtjipdnfaokdkbaaLab
