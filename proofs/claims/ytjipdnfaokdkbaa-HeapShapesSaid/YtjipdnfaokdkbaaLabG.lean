/- The lab: a region in the text's order, told step by step; what operations hang on. No condition on the program. -/
import Derived.Test.YtjipdnfaokdkbaaLabF
namespace Go.Proofs.YtjipdnfaokdkbaaLab
open Go
set_option linter.unusedVariables false
noncomputable section

/-! ### A frame of given slots -/
def mk16 {α : Type} (f : Nat → α) : N16 α := ⟨f 0, f 1, f 2, f 3, f 4, f 5, f 6, f 7, f 8, f 9, f 10, f 11, f 12, f 13, f 14, f 15⟩
theorem get_mk16 {α : Type} (f : Nat → α) : ∀ i, i < 16 → N16.get i (mk16 f) = f i := by
  intro i hi
  match i, hi with
  | 0, _ | 1, _ | 2, _ | 3, _ | 4, _ | 5, _ | 6, _ | 7, _ | 8, _ | 9, _ | 10, _ | 11, _ | 12, _ | 13, _ | 14, _ | 15, _ => rfl
  | _ + 16, h => exact absurd h (by omega)
def mkE (γ : Nat → V) : E := mk16 fun i => mk16 fun j => γ (16 * i + j)
theorem Gt_mkE (γ : Nat → V) (t : Nat) (h : t < 256) : Gt t (mkE γ) = γ t := by
  unfold Gt mkE
  rw [get_mk16 _ _ (by omega), get_mk16 _ _ (by omega)]
  congr 1; omega

/-! ### What operations hang on -/
theorem OO.same {x : OO} {e e' : E} (h : ∀ t, t ∈ x.sl → Gt t e = Gt t e') : x.den e = x.den e' := by
  cases x with
  | t n => exact h n (by simp [OO.sl])
  | c v => rfl
theorem same_l {l : List OO} {e e' : E} (h : ∀ t, t ∈ slL l → Gt t e = Gt t e') : evs (l.map OO.den) e = evs (l.map OO.den) e' := by
  induction l with
  | nil => rfl
  | cons x l ih =>
    simp only [List.map_cons, evs]
    rw [OO.same (fun t ht => h t (by simp [slL, ht])), ih (fun t ht => h t (by simp only [slL, List.flatMap_cons, List.mem_append]; exact .inr ht))]
theorem same_p {l : List (Nat × Nat × OO)} {e e' : E} (h : ∀ t, t ∈ slP l → Gt t e = Gt t e') : evP (l.map denPart) e = evP (l.map denPart) e' := by
  induction l with
  | nil => rfl
  | cons x l ih =>
    obtain ⟨a, b, x⟩ := x
    simp only [List.map_cons, denPart, evP]
    rw [OO.same (fun t ht => h t (by simp [slP, ht])), ih (fun t ht => h t (by simp only [slP, List.flatMap_cons, List.mem_append]; exact .inr ht))]
theorem same_o {x : Option OO} {e e' : E} (h : ∀ t, t ∈ slO x → Gt t e = Gt t e') : evO (x.map OO.den) e = evO (x.map OO.den) e' := by
  cases x with
  | none => rfl
  | some x => simp only [Option.map_some, evO]; rw [OO.same h]
def OD.same (e e' : E) : OD → Prop
  | .p f => f e = f e'
  | .d f => ∀ s, f e s = f e' s
  | .a f => ∀ n, f e n = f e' n
  | .e f => ∀ k s, f k e s = f k e' s
theorem den_same {fok : T Bool} {l : LO} {od : OD} (hd : denLO fok l = some od) {e e' : E} (h : ∀ t, t ∈ slots l → Gt t e = Gt t e') : od.same e e' := by
  have s1 : ∀ {x : OO}, (∀ t, t ∈ x.sl → t ∈ slots l) → x.den e = x.den e' := fun hx => OO.same fun t ht => h t (hx t ht)
  have s2 : ∀ {x : List OO}, (∀ t, t ∈ slL x → t ∈ slots l) → evs (x.map OO.den) e = evs (x.map OO.den) e' := fun hx => same_l fun t ht => h t (hx t ht)
  have s3 : ∀ {x : List (Nat × Nat × OO)}, (∀ t, t ∈ slP x → t ∈ slots l) → evP (x.map denPart) e = evP (x.map denPart) e' := fun hx => same_p fun t ht => h t (hx t ht)
  have s4 : ∀ {x : Option OO}, (∀ t, t ∈ slO x → t ∈ slots l) → evO (x.map OO.den) e = evO (x.map OO.den) e' := fun hx => same_o fun t ht => h t (hx t ht)
  cases l <;> simp only [denLO] at hd
  case move x => cases hd; simp only [OD.same, pMove]; rw [s1 (by simp [slots])]
  case pick c a b => cases hd; simp only [OD.same, pPick]; rw [s1 (x := c) (by simp +contextual [slots]), s1 (x := a) (by simp +contextual [slots]), s1 (x := b) (by simp +contextual [slots])]
  case int op k x y => split at hd <;> cases hd; simp only [OD.same, pBin]; rw [s1 (x := x) (by simp +contextual [slots]), s1 (x := y) (by simp +contextual [slots])]
  case div op k x y => split at hd <;> cases hd; simp only [OD.same, pBin]; rw [s1 (x := x) (by simp +contextual [slots]), s1 (x := y) (by simp +contextual [slots])]
  case sh op k x y => cases hd; simp only [OD.same, pBin]; rw [s1 (x := x) (by simp +contextual [slots]), s1 (x := y) (by simp +contextual [slots])]
  case str op x y => split at hd <;> cases hd; simp only [OD.same, pBin]; rw [s1 (x := x) (by simp +contextual [slots]), s1 (x := y) (by simp +contextual [slots])]
  case beq ng x y => cases hd; simp only [OD.same, pBin]; rw [s1 (x := x) (by simp +contextual [slots]), s1 (x := y) (by simp +contextual [slots])]
  case nil ng d x y => split at hd <;> cases hd; simp only [OD.same, pBin]; rw [s1 (x := x) (by simp +contextual [slots]), s1 (x := y) (by simp +contextual [slots])]
  case not x => cases hd; simp only [OD.same, pUn]; rw [s1 (by simp [slots])]
  case neg x => cases hd; simp only [OD.same, pUn]; rw [s1 (by simp [slots])]
  case xor x => cases hd; simp only [OD.same, pUn]; rw [s1 (by simp [slots])]
  case cInt k x => cases hd; simp only [OD.same, pUn]; rw [s1 (by simp [slots])]
  case cStr x => cases hd; simp only [OD.same, pUn]; rw [s1 (by simp [slots])]
  case ifc t x => cases hd; simp only [OD.same, pUn]; rw [s1 (by simp [slots])]
  case ass t ok z x => cases hd; simp only [OD.same, pUn]; rw [s1 (by simp [slots])]
  case fn f a b => cases hd; simp only [OD.same, pFun]; rw [s2 (x := a) (by simp +contextual [slots]), s2 (x := b) (by simp +contextual [slots])]
  case fld off x => cases hd; simp only [OD.same, pUn]; rw [s1 (by simp [slots])]
  case idx es x y => cases hd; simp only [OD.same, pBin]; rw [s1 (x := x) (by simp +contextual [slots]), s1 (x := y) (by simp +contextual [slots])]
  case idxA len es x y => cases hd; simp only [OD.same, pBin]; rw [s1 (x := x) (by simp +contextual [slots]), s1 (x := y) (by simp +contextual [slots])]
  case part ag off n x => cases hd; simp only [OD.same, pUn]; rw [s1 (by simp [slots])]
  case partI ag len n x y => cases hd; simp only [OD.same, pBin]; rw [s1 (x := x) (by simp +contextual [slots]), s1 (x := y) (by simp +contextual [slots])]
  case byte x y => cases hd; simp only [OD.same, pBin]; rw [s1 (x := x) (by simp +contextual [slots]), s1 (x := y) (by simp +contextual [slots])]
  case ext i x => cases hd; simp only [OD.same, pUn]; rw [s1 (by simp [slots])]
  case chk x => cases hd; simp only [OD.same, pUn]; rw [s1 (by simp [slots])]
  case sl es x lo hi mx => cases hd; simp only [OD.same, pSl]; rw [s1 (x := x) (by simp +contextual [slots]), s4 (x := lo) (by simp +contextual [slots]), s4 (x := hi) (by simp +contextual [slots]), s4 (x := mx) (by simp +contextual [slots])]
  case slS x lo hi => cases hd; simp only [OD.same, pSlS]; rw [s1 (x := x) (by simp +contextual [slots]), s4 (x := lo) (by simp +contextual [slots]), s4 (x := hi) (by simp +contextual [slots])]
  case lenS x => cases hd; simp only [OD.same, pUn]; rw [s1 (by simp [slots])]
  case lenT x => cases hd; simp only [OD.same, pUn]; rw [s1 (by simp [slots])]
  case lenA n x => cases hd; simp only [OD.same, pUn]; rw [s1 (by simp [slots])]
  case cap x => cases hd; simp only [OD.same, pUn]; rw [s1 (by simp [slots])]
  case mn k x y => cases hd; simp only [OD.same, pBin]; rw [s1 (x := x) (by simp +contextual [slots]), s1 (x := y) (by simp +contextual [slots])]
  case mx k x y => cases hd; simp only [OD.same, pBin]; rw [s1 (x := x) (by simp +contextual [slots]), s1 (x := y) (by simp +contextual [slots])]
  case build z ps => cases hd; simp only [OD.same, pBuild]; rw [s3 (by simp [slots])]
  case ld x => cases hd; intro s; simp only [dLd]; rw [s1 (by simp [slots])]
  case ldN n x => cases hd; intro s; simp only [dLdN]; rw [s1 (by simp [slots])]
  case lk d z ok x y => split at hd <;> cases hd; intro s; simp only [dLk]; rw [s1 (x := x) (by simp +contextual [slots]), s1 (x := y) (by simp +contextual [slots])]
  case lenM x => cases hd; intro s; simp only [dLenM]; rw [s1 (by simp [slots])]
  case al l => cases hd; intro n; rfl
  case box x => cases hd; intro n; simp only [aBox]; rw [s1 (by simp [slots])]
  case bSl len size z ps => cases hd; intro n; simp only [aBSl]; rw [s3 (by simp [slots])]
  case mk => cases hd; intro n; rfl
  case mkN x => cases hd; intro n; simp only [aMkN]; rw [s1 (by simp [slots])]
  case st m x y => cases hd; intro k s; simp only [eSt]; rw [s1 (x := x) (by simp +contextual [slots]), s1 (x := y) (by simp +contextual [slots])]
  case ap es x y => cases hd; intro k s; simp only [eAp]; rw [s1 (x := x) (by simp +contextual [slots]), s1 (x := y) (by simp +contextual [slots])]
  case mu d x y z => split at hd <;> cases hd; intro k s; simp only [eMu]; rw [s1 (x := x) (by simp +contextual [slots]), s1 (x := y) (by simp +contextual [slots]), s1 (x := z) (by simp +contextual [slots])]
  case call f a => cases hd; intro k s; simp only [eCall]; rw [s2 (by simp [slots])]
  case callV x a => cases hd; intro k s; simp only [eCallV]; rw [s1 (x := x) (by simp +contextual [slots]), s2 (x := a) (by simp +contextual [slots])]
  case stuck => cases hd; rfl
  case mkS es bytes z x y => cases hd; intro n; simp only [aMkS]; rw [s1 (x := x) (by simp +contextual [slots]), s1 (x := y) (by simp +contextual [slots])]
  case apZ es bytes z x y => cases hd; intro n; simp only [aApZ]; rw [s1 (x := x) (by simp +contextual [slots]), s1 (x := y) (by simp +contextual [slots])]
  case clr z x => cases hd; intro k s; simp only [eClr]; rw [s1 (by simp [slots])]
  case cpy es x y => cases hd; intro k s; simp only [eCp]; rw [s1 (x := x) (by simp +contextual [slots]), s1 (x := y) (by simp +contextual [slots])]
  case rng x => cases hd; intro k s; simp only [eRng]; rw [s1 (by simp [slots])]
  case nx x => cases hd; intro k s; simp only [eNx]; rw [s1 (by simp [slots])]
  case ent x => cases hd; intro s; simp only [dEnt]; rw [s1 (by simp [slots])]
  case bstr x => cases hd; intro s; simp only [dBStr]; rw [s1 (by simp [slots])]
  case inv ms x a => cases hd; intro k s; simp only [eInv]; rw [s1 (x := x) (by simp +contextual [slots]), s2 (x := a) (by simp +contextual [slots])]
  case mE d z x y => split at hd <;> cases hd; intro k s; unfold eME; rw [s1 (x := x) (by simp +contextual [slots]), s1 (x := y) (by simp +contextual [slots])]
  case eS x y z => cases hd; intro k s; unfold eES; rw [s1 (x := x) (by simp +contextual [slots]), s1 (x := y) (by simp +contextual [slots]), s1 (x := z) (by simp +contextual [slots])]
  case strE ng ks x y => cases hd; simp only [OD.same, pBin]; rw [s1 (x := x) (by simp +contextual [slots]), s1 (x := y) (by simp +contextual [slots])]
  case lkS ks z ok x y => cases hd; intro s; simp only [dLkS, dLk]; rw [s1 (x := x) (by simp +contextual [slots]), s1 (x := y) (by simp +contextual [slots])]
  case muS ks x y z => cases hd; intro k s; simp only [eMuS, eMu]; rw [s1 (x := x) (by simp +contextual [slots]), s1 (x := y) (by simp +contextual [slots]), s1 (x := z) (by simp +contextual [slots])]
  case slA n es x lo hi => cases hd; intro s; simp only [dSlA]; rw [s1 (x := x) (by simp +contextual [slots]), s4 (x := lo) (by simp +contextual [slots]), s4 (x := hi) (by simp +contextual [slots])]

/-! ### The steps, one by one -/
def eAt (e : E) (r : List (V × E × St)) : Nat → E | 0 => e | i + 1 => match r[i]? with | some (_, e', _) => e' | none => e
def sAt (s : St) (r : List (V × E × St)) : Nat → St | 0 => s | i + 1 => match r[i]? with | some (_, _, s') => s' | none => s
theorem eAt_cons {e : E} {p : V × E × St} {r : List (V × E × St)} {i : Nat} (h : i ≤ r.length) : eAt e (p :: r) (i + 1) = eAt p.2.1 r i := by
  cases i with
  | zero => rfl
  | succ i =>
    simp only [eAt, List.getElem?_cons_succ]
    rw [List.getElem?_eq_getElem (by omega)]
theorem sAt_cons {s : St} {p : V × E × St} {r : List (V × E × St)} {i : Nat} (h : i ≤ r.length) : sAt s (p :: r) (i + 1) = sAt p.2.2 r i := by
  cases i with
  | zero => rfl
  | succ i =>
    simp only [sAt, List.getElem?_cons_succ]
    rw [List.getElem?_eq_getElem (by omega)]
theorem drawRun_at {k : KC} : ∀ {l : List DT} {e : E} {s : St} {r : List (V × E × St)}, drawRun k l e s = some r → r.length = l.length ∧ ∀ i t, l[i]? = some t → ∃ v s', drawStep k t (eAt e r i) (sAt s r i) = some (v, s') ∧ r[i]? = some (v, t.u (eAt e r i) v, s')
  | [], e, s, r, h => by cases h; exact ⟨rfl, fun i t hi => by simp at hi⟩
  | t :: l, e, s, r, h => by
    unfold drawRun at h
    split at h
    · cases h
    · rename_i v s' hst
      split at h
      · cases h
      · rename_i r' hr
        cases h
        obtain ⟨h1, h2⟩ := drawRun_at hr
        refine ⟨by simp [h1], fun i t' hi => ?_⟩
        cases i with
        | zero => cases hi; exact ⟨v, s', hst, rfl⟩
        | succ i =>
          have hi : l[i]? = some t' := by simpa using hi
          have hlt := (List.getElem?_eq_some_iff.1 hi).1
          obtain ⟨v', s'', a1, a2⟩ := h2 i t' hi
          rw [eAt_cons (by omega), sAt_cons (by omega)]
          exact ⟨v', s'', a1, by simpa using a2⟩
theorem lastOf_eq {l : List (V × E × St)} : ∀ {e : E} {s : St}, lastOf e s l = .nrm (eAt e l l.length) (sAt s l l.length) := by
  induction l with
  | nil => intro e s; rfl
  | cons p l ih =>
    intro e s
    obtain ⟨v, e', s'⟩ := p
    show lastOf e' s' l = _
    rw [ih, List.length_cons, eAt_cons (Nat.le_refl _), sAt_cons (Nat.le_refl _)]
theorem chks_at {sn : List St} : ∀ {l : List DT} {e : E} {r : List (V × E × St)}, chks sn l e r = true → r.length = l.length → ∀ i t v e' s', l[i]? = some t → r[i]? = some (v, e', s') → chk1 sn t (eAt e r i) v = true
  | [], e, r, h, hl, i, t, v, e', s', hi, _ => by simp at hi
  | t :: l, e, [], h, hl, i, _, _, _, _, _, hr => by simp at hr
  | t :: l, e, (v, e1, s1) :: r, h, hl, i, t', v', e', s', hi, hr => by
    unfold chks at h
    cases hc : chk1 sn t e v with
    | false => rw [hc] at h; cases h
    | true =>
      rw [hc] at h
      cases i with
      | zero => cases hi; cases hr; exact hc
      | succ i =>
        have hlt : i < r.length := (List.getElem?_eq_some_iff.1 (by simpa using hr)).1
        rw [eAt_cons (by omega)]
        exact chks_at h (by simpa using hl) i t' v' e' s' (by simpa using hi) (by simpa using hr)
/-- How many that do more are ahead of one. -/
def cE (l : List DT) (i : Nat) : Nat := countB (fun j => match l[j]? with | some t => t.k.isE | none => false) i
theorem countB_succ (p : Nat → Bool) (n : Nat) : countB p (n + 1) = (if p 0 then 1 else 0) + countB (fun j => p (j + 1)) n := by
  induction n with
  | zero => simp [countB]
  | succ n ih => rw [countB, ih, countB]; omega
theorem cE_cons (t : DT) (l : List DT) (p : Nat) : cE (t :: l) (p + 1) = (if t.k.isE then 1 else 0) + cE l p := by
  unfold cE; rw [countB_succ]; simp
theorem snaps_zero : ∀ {l : List DT} {s : St} {r : List (V × E × St)}, (snaps s l r)[0]? = some s
  | [], s, r => by cases r <;> rfl
  | t :: l, s, [] => rfl
  | t :: l, s, (v, e, s') :: r => by
    unfold snaps
    split
    · rfl
    · exact snaps_zero
theorem snaps_gen : ∀ {l : List DT} {sn s : St} {r : List (V × E × St)}, r.length = l.length → ∀ p, p ≤ l.length →
    (cE l p = 0 ∧ ∀ j t, j < p → l[j]? = some t → t.k.isE = false) ∨ ∃ m, 0 < m ∧ m ≤ p ∧ (snaps sn l r)[cE l p]? = some (sAt s r m) ∧ (∀ j t, m ≤ j → j < p → l[j]? = some t → t.k.isE = false) ∧ ∃ t, l[m - 1]? = some t ∧ t.k.isE = true
  | l, sn, s, r, hl, 0, _ => .inl ⟨rfl, fun j t hj => by omega⟩
  | [], sn, s, r, hl, p + 1, hp => by simp at hp
  | t :: l, sn, s, [], hl, p + 1, hp => by simp at hl
  | t :: l, sn, s, (v, e, s') :: r, hl, p + 1, hp => by
    rw [cE_cons]
    have hl' : r.length = l.length := by simpa using hl
    have hp' : p ≤ l.length := by simpa using hp
    cases ht : t.k.isE with
    | true =>
      right
      simp only [if_true]
      have hsn : snaps sn (t :: l) ((v, e, s') :: r) = sn :: snaps s' l r := by simp [snaps, ht]
      rw [hsn, Nat.add_comm 1, List.getElem?_cons_succ]
      rcases snaps_gen (sn := s') (s := s') hl' p hp' with ⟨h1, h2⟩ | ⟨m, h0, h1, h2, h3, h4⟩
      · refine ⟨1, by omega, by omega, ?_, fun j t' hj hj2 hjt => ?_, t, by simp, ht⟩
        · rw [h1, snaps_zero]; rfl
        · cases j with
          | zero => omega
          | succ j => exact h2 j t' (by omega) (by simpa using hjt)
      · refine ⟨m + 1, by omega, by omega, ?_, fun j t' hj hj2 hjt => ?_, ?_⟩
        · rw [h2, sAt_cons (by omega)]
        · cases j with
          | zero => omega
          | succ j => exact h3 j t' (by omega) (by omega) (by simpa using hjt)
        · obtain ⟨t', a1, a2⟩ := h4
          exact ⟨t', by rw [show m + 1 - 1 = (m - 1) + 1 by omega]; simpa using a1, a2⟩
    | false =>
      have hsn : snaps sn (t :: l) ((v, e, s') :: r) = snaps sn l r := by simp [snaps, ht]
      rw [hsn]
      simp only [Bool.false_eq_true, if_false, Nat.zero_add]
      rcases snaps_gen (sn := sn) (s := s') hl' p hp' with ⟨h1, h2⟩ | ⟨m, h0, h1, h2, h3, h4⟩
      · refine .inl ⟨h1, fun j t' hj hjt => ?_⟩
        cases j with
        | zero => cases hjt; exact ht
        | succ j => exact h2 j t' (by omega) (by simpa using hjt)
      · refine .inr ⟨m + 1, by omega, by omega, ?_, fun j t' hj hj2 hjt => ?_, ?_⟩
        · rw [h2, sAt_cons (by omega)]
        · cases j with
          | zero => omega
          | succ j => exact h3 j t' (by omega) (by omega) (by simpa using hjt)
        · obtain ⟨t', a1, a2⟩ := h4
          exact ⟨t', by rw [show m + 1 - 1 = (m - 1) + 1 by omega]; simpa using a1, a2⟩
/-- The memory behind the last one of these. -/
theorem snaps_at {l : List DT} {s : St} {r : List (V × E × St)} (hl : r.length = l.length) (p : Nat) (hp : p ≤ l.length) : ∃ m, m ≤ p ∧ (snaps s l r)[cE l p]? = some (sAt s r m) ∧ (∀ j t, m ≤ j → j < p → l[j]? = some t → t.k.isE = false) ∧ (m = 0 ∨ ∃ t, l[m - 1]? = some t ∧ t.k.isE = true) := by
  rcases snaps_gen (sn := s) (s := s) hl p hp with ⟨h1, h2⟩ | ⟨m, h0, h1, h2, h3, h4⟩
  · exact ⟨0, by omega, by rw [h1, snaps_zero]; rfl, fun j t _ hj hjt => h2 j t hj hjt, .inl rfl⟩
  · exact ⟨m, h1, h2, h3, .inr h4⟩

/-! ### What waits for what -/
def befMask (acc : Array Nat) (o : Oper) : Nat := o.after.foldl (fun s e => if Region.binds .any e then s ||| 2 ^ e.on ||| acc.getD e.on 0 else s) 0
def befStep (acc : Array Nat) (o : Oper) : Array Nat := acc.push (befMask acc o)
theorem before_eq (os : Array Oper) : Region.before os = os.toList.foldl befStep #[] := by
  unfold Region.before
  rw [← Array.foldl_toList]; rfl
theorem befMask_bit {acc : Array Nat} {o : Oper} {j : Nat} (h : (befMask acc o).testBit j = true) : ∃ e, e ∈ o.after ∧ Region.binds .any e = true ∧ (e.on = j ∨ (acc.getD e.on 0).testBit j = true) := by
  unfold befMask at h
  rw [← Array.foldl_toList] at h
  have key : ∀ (l : List Edge) (s : Nat), (l.foldl (fun s e => if Region.binds .any e then s ||| 2 ^ e.on ||| acc.getD e.on 0 else s) s).testBit j = true → s.testBit j = true ∨ ∃ e, e ∈ l ∧ Region.binds .any e = true ∧ (e.on = j ∨ (acc.getD e.on 0).testBit j = true) := by
    intro l
    induction l with
    | nil => intro s h; exact .inl h
    | cons e l ih =>
      intro s h
      rcases ih _ h with h | ⟨e', h1, h2, h3⟩
      · simp only at h
        by_cases hb : Region.binds .any e = true
        · rw [if_pos hb, Nat.testBit_or, Nat.testBit_or, Nat.testBit_two_pow] at h
          simp only [Bool.or_eq_true, decide_eq_true_eq] at h
          rcases h with (h | h) | h
          · exact .inl h
          · exact .inr ⟨e, by simp, hb, .inl h⟩
          · exact .inr ⟨e, by simp, hb, .inr h⟩
        · rw [if_neg hb] at h; exact .inl h
      · exact .inr ⟨e', by simp [h1], h2, h3⟩
  rcases key _ _ h with h | ⟨e, h1, h2, h3⟩
  · simp at h
  · exact ⟨e, by simpa using h1, h2, h3⟩
theorem bef_pre : ∀ (l : List Oper) (acc : Array Nat), (l.foldl befStep acc).size = acc.size + l.length ∧ ∀ i, i < acc.size → (l.foldl befStep acc).getD i 0 = acc.getD i 0
  | [], acc => ⟨by simp, fun i _ => rfl⟩
  | o :: l, acc => by
    obtain ⟨h1, h2⟩ := bef_pre l (befStep acc o)
    have hs : (befStep acc o).size = acc.size + 1 := by simp [befStep]
    refine ⟨by rw [List.foldl_cons, h1, hs, List.length_cons]; omega, fun i hi => ?_⟩
    rw [List.foldl_cons, h2 i (by simp [befStep]; omega)]
    simp [befStep, Array.getD_eq_getD_getElem?, Array.getElem?_push, Nat.ne_of_lt hi]
theorem bef_at : ∀ (l : List Oper) (acc : Array Nat) (k : Nat) (o : Oper), l[k]? = some o → ∃ acc', (l.foldl befStep acc).getD (acc.size + k) 0 = befMask acc' o ∧ acc'.size = acc.size + k ∧ ∀ i, i < acc.size + k → acc'.getD i 0 = (l.foldl befStep acc).getD i 0
  | [], acc, k, o, h => by simp at h
  | x :: l, acc, 0, o, h => by
    have hx : x = o := by simpa using h
    subst hx
    have := (bef_pre l (befStep acc x))
    refine ⟨acc, ?_, rfl, fun i hi => ?_⟩
    · rw [List.foldl_cons, Nat.add_zero, this.2 _ (by simp [befStep])]
      simp [befStep, Array.getD_eq_getD_getElem?]
    · have hi' : i < acc.size := hi
      rw [List.foldl_cons, this.2 _ (by simp [befStep]; omega)]
      simp [befStep, Array.getD_eq_getD_getElem?, Array.getElem?_push, Nat.ne_of_lt hi']
  | x :: l, acc, k + 1, o, h => by
    obtain ⟨acc', h1, h2, h3⟩ := bef_at l (befStep acc x) k o (by simpa using h)
    have hs : (befStep acc x).size = acc.size + 1 := by simp [befStep]
    rw [hs] at h1 h2 h3
    exact ⟨acc', by rw [List.foldl_cons, show acc.size + (k + 1) = acc.size + 1 + k by omega]; exact h1, by omega, fun i hi => by rw [List.foldl_cons]; exact h3 i (by omega)⟩
theorem ord_step {os : Array Oper} {i j : Nat} (h : ordOf os j i = true) : ∃ o, os[i]? = some o ∧ ∃ e, e ∈ o.after ∧ Region.binds .any e = true ∧ (e.on = j ∨ (ordOf os j e.on = true ∧ e.on < i)) := by
  unfold ordOf at h
  have hsz : (Region.before os).size = os.size := by rw [before_eq, (bef_pre _ _).1]; simp
  cases ho : os[i]? with
  | none =>
    have : os.size ≤ i := by simpa using ho
    rw [Array.getD_eq_getD_getElem?, Array.getElem?_eq_none (by omega)] at h
    simp at h
  | some o =>
    refine ⟨o, rfl, ?_⟩
    obtain ⟨acc', h1, h2, h3⟩ := bef_at os.toList #[] i o (by simpa using ho)
    simp only [Array.size_empty, Nat.zero_add] at h1 h2 h3
    rw [before_eq, h1] at h
    obtain ⟨e, a1, a2, a3⟩ := befMask_bit h
    refine ⟨e, a1, a2, ?_⟩
    rcases a3 with a3 | a3
    · exact .inl a3
    · right
      by_cases hlt : e.on < i
      · exact ⟨by unfold ordOf; rw [before_eq, ← h3 _ hlt]; exact a3, hlt⟩
      · rw [Array.getD_eq_getD_getElem?, Array.getElem?_eq_none (by omega)] at a3
        simp at a3
/-- What has come up holds all that it waited for. -/
def closedL (os : Array Oper) (L : Nat → Bool) : Prop := ∀ j oj, os[j]? = some oj → L j = true → ∀ e ∈ oj.after, Region.binds .any e = true → L e.on = true
theorem ord_closed {os : Array Oper} {L : Nat → Bool} (hc : closedL os L) : ∀ (i j : Nat), ordOf os j i = true → (∀ o, os[i]? = some o → ∀ e ∈ o.after, Region.binds .any e = true → L e.on = true) → L j = true := by
  intro i
  induction i using Nat.strongRecOn with
  | _ i ih =>
    intro j h hd
    obtain ⟨o, ho, e, a1, a2, a3⟩ := ord_step h
    rcases a3 with rfl | ⟨a3, a4⟩
    · exact hd o ho e a1 a2
    · exact ih e.on a4 j a3 (fun o' ho' e' h1 h2 => hc e.on o' ho' (hd o ho e a1 a2) e' h1 h2)
theorem ord_in {os : Array Oper} {L : Nat → Bool} (hc : closedL os L) {i j : Nat} (h : ordOf os j i = true) (hi : L i = true) : L j = true :=
  ord_closed hc i j h (fun o ho e h1 h2 => hc i o ho hi e h1 h2)
end
end Go.Proofs.YtjipdnfaokdkbaaLab
