/- The lab: a region that draws its order comes to what ours comes to in the text's order. On the program: that it follows mixed orders. -/
import Derived.Test.YtjipdnfaokdkbaaLabG
namespace Go.Proofs.YtjipdnfaokdkbaaLab
open Go
set_option linter.unusedVariables false
noncomputable section

/-- Whether an operation is wanted, by what our frame holds. -/
theorem wanted_of {nt : Nat} {gl : List Nat} {G : Pl} {os : Array Oper} {o : Oper} {t : DT} {e : E} {a : Act} (hg : lowGuard os o = some t.g) (he : EnvR nt gl G e a) {b : Bool} (h : offB t e = some b) : Region.wanted o (yielded os a.tmps) = !b := by
  unfold lowGuard at hg
  split at hg
  · rename_i hgd
    cases hg' : t.g with
    | none =>
      unfold offB at h; rw [hg'] at h; cases h
      simp [Region.wanted, hgd]
    | some p => rw [hg'] at hg; cases hg
  · rename_i j want hgd
    split at hg
    · rename_i tm htm
      split at hg
      · rename_i hlt
        have hg' : t.g = some (tm, want) := (Option.some.inj hg).symm
        unfold offB at h; rw [hg'] at h
        simp only at h
        have hx := he.tm tm hlt
        have hy : ∀ b, a.tmps.getD tm undef = .bool b → yielded os a.tmps j = some b := by
          intro b hb
          unfold yielded
          rw [htm]
          simp only [Option.bind_some]
          rw [Array.getD_eq_getD_getElem?] at hb
          cases hq : a.tmps[tm]? with
          | none => rw [hq] at hb; cases hb
          | some q => rw [hq] at hb; simp only [Option.getD_some] at hb; rw [hb]
        have hy2 : a.tmps.getD tm undef = .tuple #[] → yielded os a.tmps j = none := by
          intro hb
          unfold yielded
          rw [htm]
          simp only [Option.bind_some]
          rw [Array.getD_eq_getD_getElem?] at hb
          cases hq : a.tmps[tm]? with
          | none => rfl
          | some q => rw [hq] at hb; simp only [Option.getD_some] at hb; rw [hb]
        split at h
        · rename_i b' hb
          rw [hb] at hx
          cases h
          simp only [Region.wanted, hgd, hy b' hx.bool_inv]
          cases b' <;> cases want <;> rfl
        · rename_i hb
          rw [hb] at hx
          cases h
          obtain ⟨l', hl, hvs⟩ := hx.tup_inv
          cases hvs
          simp [Region.wanted, hgd, hy2 hl]
        · cases h
      · cases hg
    · cases hg

/-- A region's parts: what holds of each operation. -/
structure RegOk (P : Program) (nt : Nat) (gl : List Nat) (os : Array Oper) (ds : List OD) (us : List (E → V → E)) (gs : List (Option (Nat × Bool))) (sl : List (List Nat)) : Prop where
  all : ∀ (i : Nat) (o : Oper), os[i]? = some o → ∃ d u g s, ds[i]? = some d ∧ us[i]? = some u ∧ gs[i]? = some g ∧ sl[i]? = some s ∧ OdOk P nt gl o d ∧ DstOk nt o.dst u ∧ lowGuard os o = some g ∧
    (∀ e e', (∀ t, t ∈ s → Gt t e = Gt t e') → d.same e e') ∧ (∀ t, t ∈ slG g → t ∈ s) ∧ ∀ t, t ∈ s → t < 256
  len : ds.length = os.size ∧ us.length = os.size ∧ gs.length = os.size

theorem mkDTs_at {ds0 : List OD} {ord : Nat → Nat → Bool} : ∀ {ds : List OD} {us : List (E → V → E)} {gs : List (Option (Nat × Bool))} {k i : Nat} {d : OD} {u : E → V → E} {g : Option (Nat × Bool)}, ds[i]? = some d → us[i]? = some u → gs[i]? = some g → (mkDTs ds0 ord k ds us gs)[i]? = some (mkDT ds0 ord (k + i) d u g)
  | [], us, gs, k, i, d, u, g, h, _, _ => by simp at h
  | _ :: _, [], gs, k, i, d, u, g, _, h, _ => by simp at h
  | _ :: _, _ :: _, [], k, i, d, u, g, _, _, h => by simp at h
  | d0 :: ds, u0 :: us, g0 :: gs, k, 0, d, u, g, h1, h2, h3 => by cases h1; cases h2; cases h3; rfl
  | d0 :: ds, u0 :: us, g0 :: gs, k, i + 1, d, u, g, h1, h2, h3 => by
    have := mkDTs_at (ds0 := ds0) (ord := ord) (ds := ds) (us := us) (gs := gs) (k := k + 1) (i := i) (by simpa using h1) (by simpa using h2) (by simpa using h3)
    rw [show k + (i + 1) = k + 1 + i by omega]
    simpa [mkDTs] using this
theorem mkDTs_len {ds0 : List OD} {ord : Nat → Nat → Bool} : ∀ {ds : List OD} {us : List (E → V → E)} {gs : List (Option (Nat × Bool))} {k : Nat}, us.length = ds.length → gs.length = ds.length → (mkDTs ds0 ord k ds us gs).length = ds.length
  | [], us, gs, k, _, _ => by unfold mkDTs; rfl
  | d :: ds, [], gs, k, h, _ => by simp at h
  | d :: ds, _ :: _, [], k, _, h => by simp at h
  | d :: ds, u :: us, g :: gs, k, h1, h2 => by
    simp only [mkDTs, List.length_cons]; rw [mkDTs_len (by simpa using h1) (by simpa using h2)]

/-- The slots behind those of the first n operations that have come up. -/
def gam (os : Array Oper) (vals : Nat → V) (L : Nat → Bool) (e : E) : Nat → Nat → V
  | 0, t => Gt t e
  | n + 1, t => if L n = true ∧ (os[n]?).bind (·.dst) = some t then vals n else gam os vals L e n t

section
variable {os : Array Oper} {sl : List (List Nat)} (hst : steadyL os sl = true)
include hst
theorem st_edges {j : Nat} {oj : Oper} (hj : os[j]? = some oj) {e : Edge} (he : e ∈ oj.after) (hb : Region.binds .any e = true) : e.on < j := by
  have h1 := List.all_eq_true.1 hst j (List.mem_range.2 (Array.getElem?_eq_some_iff.1 hj).1)
  rw [hj] at h1
  have h2 := Array.all_eq_true_iff_forall_mem.1 (Bool.and_eq_true_iff.1 h1).1 e he
  rw [hb] at h2
  simpa using h2
theorem st_apart {i j : Nat} {oi oj : Oper} {si sj : List Nat} (hi : os[i]? = some oi) (hj : os[j]? = some oj) (hsi : sl[i]? = some si) (hsj : sl[j]? = some sj) (hij : i < j) :
    (∃ e ∈ oj.after, Region.binds .any e = true ∧ e.on = i) ∨ ((∀ d, oi.dst = some d → d ∉ sj ∧ oj.dst ≠ some d) ∧ ∀ d, oj.dst = some d → d ∉ si) := by
  have h1 := List.all_eq_true.1 hst j (List.mem_range.2 (Array.getElem?_eq_some_iff.1 hj).1)
  rw [hj] at h1
  have h2 := List.all_eq_true.1 (Bool.and_eq_true_iff.1 h1).2 i (List.mem_range.2 hij)
  rw [hi] at h2
  simp only at h2
  rcases Bool.or_eq_true_iff.1 h2 with h3 | h3
  · obtain ⟨e, he, hb⟩ := Array.any_eq_true'.1 h3
    exact .inl ⟨e, he, (Bool.and_eq_true_iff.1 hb).1, by simpa using (Bool.and_eq_true_iff.1 hb).2⟩
  · right
    rw [Bool.and_eq_true] at h3
    obtain ⟨h3, h4⟩ := h3
    rw [hsj] at h3; rw [hsi] at h4
    refine ⟨fun d hd => ?_, fun d hd => ?_⟩
    · rw [hd] at h3; simpa using h3
    · rw [hd] at h4; simpa using h4

/-- At what operation i reads, the slots behind what has come up are the text's own, if all that i waits for has come up, and i has not. -/
theorem gam_same {vals : Nat → V} {L : Nat → Bool} {e : E} (hall : ∀ (i : Nat) (o : Oper), os[i]? = some o → ∃ s, sl[i]? = some s) (hc : closedL os L) {i : Nat} {oi : Oper} {si : List Nat} (hi : os[i]? = some oi) (hsi : sl[i]? = some si) (hiL : L i = false)
    (hw : ∀ e ∈ oi.after, Region.binds .any e = true → L e.on = true) {t : Nat} (ht : t ∈ si) : ∀ n, gam os vals L e n t = gam os vals (fun _ => true) e (min n i) t
  | 0 => by simp [gam]
  | n + 1 => by
    have ih := gam_same hall hc hi hsi hiL hw (vals := vals) (e := e) ht n
    rcases Nat.lt_trichotomy n i with hn | hn | hn
    · rw [Nat.min_eq_left (by omega)] at ih
      rw [Nat.min_eq_left (show n + 1 ≤ i by omega)]
      simp only [gam, true_and]
      by_cases hL : L n = true
      · simp only [hL, true_and, ih]
      · rw [if_neg (fun h => hL h.1), ih, if_neg]
        intro hd
        cases ho : os[n]? with
        | none => rw [ho] at hd; cases hd
        | some on_ =>
          rw [ho] at hd
          obtain ⟨sn, hsn⟩ := hall n on_ ho
          rcases st_apart hst ho hi hsn hsi hn with ⟨e', h1, h2, h3⟩ | ⟨h1, _⟩
          · exact hL (h3 ▸ hw e' h1 h2)
          · exact (h1 t (by simpa using hd)).1 ht
    · subst hn
      simp only [gam, hiL, Bool.false_eq_true, false_and, if_false]
      rw [ih, Nat.min_self, Nat.min_eq_right (by omega)]
    · rw [Nat.min_eq_right (by omega)] at ih
      rw [Nat.min_eq_right (show i ≤ n + 1 by omega)]
      simp only [gam]
      rw [if_neg, ih]
      rintro ⟨hL, hd⟩
      cases ho : os[n]? with
      | none => rw [ho] at hd; cases hd
      | some on_ =>
        rw [ho] at hd
        obtain ⟨sn, hsn⟩ := hall n on_ ho
        rcases st_apart hst hi ho hsi hsn hn with ⟨e', h1, h2, h3⟩ | ⟨_, h1⟩
        · have := hc n on_ ho hL e' h1 h2
          rw [h3, hiL] at this; cases this
        · exact h1 t (by simpa using hd) ht
/-- One more has come up: its value is put, wherever the text has it. -/
theorem gam_put {vals : Nat → V} {L : Nat → Bool} {e : E} (hall : ∀ (i : Nat) (o : Oper), os[i]? = some o → ∃ s, sl[i]? = some s) (hc : closedL os L) {i : Nat} {oi : Oper} {si : List Nat} (hi : os[i]? = some oi) (hsi : sl[i]? = some si) (hiL : L i = false) {t : Nat} : ∀ n, i < n →
    gam os vals (fun j => L j || j == i) e n t = if oi.dst = some t then vals i else gam os vals L e n t
  | 0, h => by omega
  | n + 1, h => by
    have below : ∀ m, m ≤ i → gam os vals (fun j => L j || j == i) e m t = gam os vals L e m t := by
      intro m
      induction m with
      | zero => intro _; rfl
      | succ m ihm =>
        intro hm
        have : (m == i) = false := beq_eq_false_iff_ne.2 (by omega)
        simp only [gam, this, Bool.or_false, ihm (by omega)]
    by_cases hn : n = i
    · subst hn
      simp only [gam, hiL, BEq.rfl, Bool.or_true, Bool.false_eq_true, false_and, if_false, below n (Nat.le_refl _), hi, Option.bind_some, true_and]
    · have ih := gam_put hall hc hi hsi hiL (vals := vals) (e := e) (t := t) n (by omega)
      have hne : (n == i) = false := beq_eq_false_iff_ne.2 hn
      simp only [gam, hne, Bool.or_false]
      by_cases hL : L n = true ∧ (os[n]?).bind (·.dst) = some t
      · rw [if_pos hL, if_pos hL, if_neg]
        intro hd
        cases ho : os[n]? with
        | none => rw [ho] at hL; cases hL.2
        | some on_ =>
          rw [ho] at hL
          obtain ⟨sn, hsn⟩ := hall n on_ ho
          rcases st_apart hst hi ho hsi hsn (by omega) with ⟨e', h1, h2, h3⟩ | ⟨h1, _⟩
          · have := hc n on_ ho hL.1 e' h1 h2
            rw [h3, hiL] at this; cases this
          · exact (h1 t hd).2 (by simpa using hL.2)
      · rw [if_neg hL, if_neg hL, ih]
end

theorem countB_le {p q : Nat → Bool} : ∀ {n : Nat}, (∀ i, i < n → p i = true → q i = true) → countB p n ≤ countB q n
  | 0, _ => Nat.le_refl _
  | n + 1, h => by
    have ih := countB_le (n := n) (fun i hi => h i (by omega))
    simp only [countB]
    by_cases hp : p n = true
    · rw [if_pos hp, if_pos (h n (by omega) hp)]; omega
    · rw [if_neg hp]; omega
theorem countB_cut {p : Nat → Bool} {m : Nat} : ∀ {n : Nat}, m ≤ n → countB p m = countB (fun i => p i && decide (i < m)) n
  | 0, h => by have : m = 0 := by omega
               subst this; rfl
  | n + 1, h => by
    by_cases hm : m = n + 1
    · subst hm
      have : ∀ k, k ≤ n + 1 → countB p k = countB (fun i => p i && decide (i < n + 1)) k := by
        intro k
        induction k with
        | zero => intro _; rfl
        | succ k ih =>
          intro hk
          have hd : decide (k < n + 1) = true := decide_eq_true (by omega)
          simp only [countB, ih (by omega), hd, Bool.and_true]
      exact this _ (Nat.le_refl _)
    · have hd : decide (n < m) = false := decide_eq_false (by omega)
      rw [countB, ← countB_cut (n := n) (by omega), hd]; simp

section
variable {P : Program} {nt : Nat} {gl : List Nat} {os : Array Oper} {ds : List OD} {us : List (E → V → E)} {gs : List (Option (Nat × Bool))} {sl : List (List Nat)}

/-- The text's own run of the region. -/
structure Run (k : KC) (l : List DT) (e0 : E) (s0 : St) (r : List (V × E × St)) : Prop where
  run : drawRun k l e0 s0 = some r
  chk : chks (snaps s0 l r) l e0 r = true

/-- An operation that makes a block, and is wanted. -/
def onA (ds : List OD) (l : List DT) (e0 : E) (r : List (V × E × St)) (i : Nat) : Prop := isAd ds i = true ∧ ∃ t, l[i]? = some t ∧ offB t (eAt e0 r i) = some false
/-- A block that is not made yet. -/
def hid (ds : List OD) (l : List DT) (e0 : E) (s0 : St) (r : List (V × E × St)) (L : Nat → Bool) (p b : Nat) : Prop := ∃ i, i < p ∧ onA ds l e0 r i ∧ L i = false ∧ (sAt s0 r i).next = b
open Classical in
noncomputable def view (ds : List OD) (l : List DT) (e0 : E) (s0 : St) (r : List (V × E × St)) (L : Nat → Bool) (p b : Nat) : Option Ob := if hid ds l e0 s0 r L p b then none else (sAt s0 r p).heap.get b

variable {k : KC} {e0 : E} {s0 : St} {r : List (V × E × St)}
abbrev theL (ds : List OD) (os : Array Oper) (us : List (E → V → E)) (gs : List (Option (Nat × Bool))) : List DT := mkDTs ds (ordOf os) 0 ds us gs

/-- One step of the text's run that is no 'e'. -/
theorem step_nE (hreg : RegOk P nt gl os ds us gs sl) (hrun : drawRun k (theL ds os us gs) e0 s0 = some r) {i : Nat} (hi : i < os.size) (hE : isEd ds i = false) :
    (sAt s0 r (i + 1) = sAt s0 r i ∧ ¬ onA ds (theL ds os us gs) e0 r i) ∨ (onA ds (theL ds os us gs) e0 r i ∧ ∃ f v o, ds[i]? = some (.a f) ∧ f (eAt e0 r i) (sAt s0 r i).next = some (v, o) ∧ (∃ e' s', r[i]? = some (v, e', s')) ∧ sAt s0 r (i + 1) = (sAt s0 r i).new o) := by
  obtain ⟨d, u, g, s, h1, h2, h3, _⟩ := hreg.all i os[i] (by simp [hi])
  have ht := mkDTs_at (ds0 := ds) (ord := ordOf os) (k := 0) h1 h2 h3
  rw [Nat.zero_add] at ht
  obtain ⟨v, s', hst, hr⟩ := (drawRun_at hrun).2 i _ ht
  have hs1 : sAt s0 r (i + 1) = s' := by simp only [sAt, hr]
  have hE' : d.isE = false := by unfold isEd at hE; rw [h1] at hE; exact hE
  unfold drawStep at hst
  cases ho : offB (mkDT ds (ordOf os) i d u g) (eAt e0 r i) with
  | none => rw [ho] at hst; cases hst
  | some b =>
    rw [ho] at hst
    cases b with
    | true =>
      cases hst
      refine .inl ⟨hs1, fun ⟨_, t, a1, a2⟩ => ?_⟩
      rw [ht] at a1; cases a1; rw [ho] at a2; cases a2
    | false =>
      have hA : ∀ {f}, d = .a f → onA ds (theL ds os us gs) e0 r i := fun hd => ⟨by unfold isAd; rw [h1, hd]; rfl, _, ht, ho⟩
      have hnA : (∀ f, d ≠ .a f) → ¬ onA ds (theL ds os us gs) e0 r i := by
        rintro hd ⟨a1, _⟩
        unfold isAd at a1; rw [h1] at a1
        cases d <;> first | exact hd _ rfl | cases a1
      cases d with
      | p f =>
        simp only [mkDT] at hst
        split at hst <;> cases hst
        exact .inl ⟨hs1, hnA (by simp)⟩
      | d f =>
        simp only [mkDT] at hst
        split at hst <;> cases hst
        exact .inl ⟨hs1, hnA (by simp)⟩
      | a f =>
        simp only [mkDT] at hst
        split at hst
        · rename_i v' o' hf
          cases hst
          exact .inr ⟨hA rfl, f, v, o', h1, hf, ⟨_, _, hr⟩, hs1⟩
        · cases hst
      | e f => cases hE'

/-- Between two that do more, memory gains blocks alone. -/
theorem chain (hreg : RegOk P nt gl os ds us gs sl) (hrun : drawRun k (theL ds os us gs) e0 s0 = some r) {q : Nat} : ∀ {p : Nat}, q ≤ p → p ≤ os.size → (∀ j, q ≤ j → j < p → isEd ds j = false) → (∀ b, (sAt s0 r q).next ≤ b → (sAt s0 r q).heap.get b = none) →
    (sAt s0 r q).next ≤ (sAt s0 r p).next ∧ (∀ b, (sAt s0 r p).next ≤ b → (sAt s0 r p).heap.get b = none) ∧ (∀ b o, (sAt s0 r q).heap.get b = some o → (sAt s0 r p).heap.get b = some o) ∧
    (∀ b o, (sAt s0 r p).heap.get b = some o → (sAt s0 r q).heap.get b = some o ∨ ∃ i, q ≤ i ∧ i < p ∧ onA ds (theL ds os us gs) e0 r i ∧ (sAt s0 r i).next = b ∧ ∃ f v, ds[i]? = some (.a f) ∧ f (eAt e0 r i) b = some (v, o)) ∧
    (∀ i, q ≤ i → i < p → onA ds (theL ds os us gs) e0 r i → (sAt s0 r q).next ≤ (sAt s0 r i).next ∧ (sAt s0 r i).next < (sAt s0 r p).next) ∧
    (∀ i j, q ≤ i → i < j → j < p → onA ds (theL ds os us gs) e0 r i → onA ds (theL ds os us gs) e0 r j → (sAt s0 r i).next < (sAt s0 r j).next)
  | 0, hq, _, _, hf => by
    have : q = 0 := by omega
    subst this
    exact ⟨Nat.le_refl _, hf, fun _ _ h => h, fun _ _ h => .inl h, fun i _ h => by omega, fun i j _ _ h => by omega⟩
  | p + 1, hq, hp, hE, hf => by
    by_cases hqp : q = p + 1
    · subst hqp
      exact ⟨Nat.le_refl _, hf, fun _ _ h => h, fun _ _ h => .inl h, fun i _ h => by omega, fun i j _ _ h => by omega⟩
    · obtain ⟨c1, c2, c3, c4, c5, c6⟩ := chain hreg hrun (p := p) (by omega) (by omega) (fun j h1 h2 => hE j h1 (by omega)) hf
      rcases step_nE hreg hrun (i := p) (by omega) (hE p (by omega) (by omega)) with ⟨h1, h2⟩ | ⟨h1, f, v, o, h3, h4, _, h5⟩
      · rw [h1]
        refine ⟨c1, c2, c3, fun b o hb => ?_, fun i hi hi2 ha => ?_, fun i j hi hij hj ha hb => ?_⟩
        · rcases c4 b o hb with h | ⟨i, a1, a2, a3⟩
          · exact .inl h
          · exact .inr ⟨i, a1, by omega, a3⟩
        · by_cases hip : i = p
          · subst hip; exact absurd ha h2
          · exact c5 i hi (by omega) ha
        · by_cases hjp : j = p
          · subst hjp; exact absurd hb h2
          · exact c6 i j hi hij (by omega) ha hb
      · rw [h5]
        have hnx : ((sAt s0 r p).new o).next = (sAt s0 r p).next + 1 := rfl
        refine ⟨by rw [hnx]; omega, fun b hb => ?_, fun b o' hb => ?_, fun b o' hb => ?_, fun i hi hi2 ha => ?_, fun i j hi hij hj ha hb => ?_⟩
        · rw [hnx] at hb
          cases hq' : ((sAt s0 r p).new o).heap.get b with
          | none => rfl
          | some y =>
            rcases T.get_set hq' with ⟨e, _⟩ | ⟨_, e⟩
            · omega
            · rw [c2 b (by omega)] at e; cases e
        · have hb' := c3 b o' hb
          refine T.get_set_other hb' (fun e => ?_)
          rw [← e] at hb'
          rw [c2 _ (Nat.le_refl _)] at hb'; cases hb'
        · rcases T.get_set hb with ⟨e, e2⟩ | ⟨_, e⟩
          · right
            exact ⟨p, by omega, by omega, h1, e, f, v, h3, by rw [← e, e2]; exact h4⟩
          · rcases c4 b o' e with h | ⟨i, a1, a2, a3⟩
            · exact .inl h
            · exact .inr ⟨i, a1, by omega, a3⟩
        · rw [hnx]
          by_cases hip : i = p
          · subst hip; exact ⟨c1, by omega⟩
          · have := c5 i hi (by omega) ha; omega
        · by_cases hjp : j = p
          · subst hjp; exact (c5 i hi hij ha).2
          · exact c6 i j hi hij (by omega) ha hb

theorem nextE (ds : List OD) (n : Nat) : ∀ q, q ≤ n → ∃ p, q ≤ p ∧ p ≤ n ∧ (∀ j, q ≤ j → j < p → isEd ds j = false) ∧ (p < n → isEd ds p = true) := by
  intro q hq
  generalize hd : n - q = d
  induction d generalizing q with
  | zero => exact ⟨q, Nat.le_refl _, hq, fun j h1 h2 => by omega, fun h => by omega⟩
  | succ d ih =>
    cases he : isEd ds q with
    | true => exact ⟨q, Nat.le_refl _, hq, fun j h1 h2 => by omega, fun _ => he⟩
    | false =>
      obtain ⟨p, h1, h2, h3, h4⟩ := ih (q + 1) (by omega) (by omega)
      refine ⟨p, by omega, h2, fun j hj1 hj2 => ?_, h4⟩
      by_cases hjq : j = q
      · subst hjq; exact he
      · exact h3 j (by omega) hj2
end
end
end Go.Proofs.YtjipdnfaokdkbaaLab
