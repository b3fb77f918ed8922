/- The lab: a region that draws its order: the law. On the program: that it follows mixed orders. -/
import Derived.Test.YtjipdnfaokdkbaaLabH
namespace Go.Proofs.YtjipdnfaokdkbaaLab
open Go
set_option linter.unusedVariables false
noncomputable section

def valsOf (r : List (V × E × St)) (i : Nat) : V := match r[i]? with | some (v, _) => v | none => .undef

theorem EnvR.congr {nt : Nat} {gl : List Nat} {G : Pl} {e e' : E} {a : Act} (h : EnvR nt gl G e a) (he : ∀ t, t < 256 → Gt t e = Gt t e') : EnvR nt gl G e' a :=
  ⟨fun t ht => he t ht ▸ h.tm t ht, h.sz, h.df, h.gl⟩

/-- A region, and the text's own run of it. -/
structure Dr (P : Program) (nt : Nat) (gl : List Nat) (os : Array Oper) (ds : List OD) (us : List (E → V → E)) (gs : List (Option (Nat × Bool))) (sl : List (List Nat)) (k : KC) (e0 : E) (s0 : St) (r : List (V × E × St)) : Prop where
  reg : RegOk P nt gl os ds us gs sl
  st : steadyL os sl = true
  ok : okE os ds = true
  run : drawRun k (theL ds os us gs) e0 s0 = some r
  chk : chks (snaps s0 (theL ds os us gs) r) (theL ds os us gs) e0 r = true

/-- Up to where those that do more have come. -/
structure Cut (ds : List OD) (n : Nat) (L : Nat → Bool) (p m : Nat) : Prop where
  mp : m ≤ p
  pn : p ≤ n
  noE : ∀ j, m ≤ j → j < p → isEd ds j = false
  atE : p < n → isEd ds p = true
  m0 : m = 0 ∨ (0 < m ∧ isEd ds (m - 1) = true)
  inL : ∀ j, j < p → isEd ds j = true → L j = true
  outL : ∀ j, p ≤ j → isEd ds j = true → L j = false

theorem ok_ord {os : Array Oper} {ds : List OD} (h : okE os ds = true) {i j : Nat} (hij : i < j) (hj : j < ds.length) (hc : (isEd ds j = true ∧ (isEd ds i = true ∨ isAd ds i = true)) ∨ (isEd ds i = true ∧ isAd ds j = true)) : ordOf os i j = true := by
  have h1 := List.all_eq_true.1 h j (List.mem_range.2 hj)
  have h2 := List.all_eq_true.1 h1 i (List.mem_range.2 hij)
  rcases hc with ⟨a, b | b⟩ | ⟨a, b⟩ <;> simpa [a, b] using h2
theorem notEA {ds : List OD} {i : Nat} (h : isAd ds i = true) : isEd ds i = false := by
  unfold isAd isEd at *
  cases hd : ds[i]? with
  | none => rfl
  | some d => rw [hd] at h; cases d <;> first | rfl | cases h

section
variable {P : Program} {nt : Nat} {gl : List Nat} {os : Array Oper} {ds : List OD} {us : List (E → V → E)} {gs : List (Option (Nat × Bool))} {sl : List (List Nat)} {k : KC} {e0 : E} {s0 : St} {r : List (V × E × St)}

theorem theL_len (hreg : RegOk P nt gl os ds us gs sl) : (theL ds os us gs).length = os.size :=
  (mkDTs_len (ds0 := ds) (ord := ordOf os) (k := 0) (hreg.len.2.1.trans hreg.len.1.symm) (hreg.len.2.2.trans hreg.len.1.symm)).trans hreg.len.1
theorem theL_E (hreg : RegOk P nt gl os ds us gs sl) (j : Nat) : (match (theL ds os us gs)[j]? with | some t => t.k.isE | none => false) = isEd ds j := by
  by_cases hj : j < os.size
  · obtain ⟨d, u, g, s, h1, h2, h3, _⟩ := hreg.all j os[j] (by simp [hj])
    have ht := mkDTs_at (ds0 := ds) (ord := ordOf os) (k := 0) h1 h2 h3
    rw [ht]
    unfold isEd
    rw [h1]
    cases d <;> rfl
  · have hl := theL_len hreg
    have h1 := hreg.len.1
    unfold isEd
    rw [List.getElem?_eq_none (by omega), List.getElem?_eq_none (by omega)]
theorem theL_c (hreg : RegOk P nt gl os ds us gs sl) (p : Nat) : cE (theL ds os us gs) p = countB (isEd ds) p := by
  unfold cE
  congr 1
  funext j
  exact theL_E hreg j

theorem Dr.len (h : Dr P nt gl os ds us gs sl k e0 s0 r) : r.length = os.size ∧ (theL ds os us gs).length = os.size := by
  have hl := theL_len h.reg
  have h1 := (drawRun_at h.run).1
  have h2 := h.reg.len.1
  exact ⟨by omega, by omega⟩
theorem Dr.gam_at (h : Dr P nt gl os ds us gs sl k e0 s0 r) : ∀ i, i ≤ os.size → ∀ t, t < 256 → Gt t (eAt e0 r i) = gam os (valsOf r) (fun _ => true) e0 i t
  | 0, _, t, _ => rfl
  | i + 1, hi, t, ht => by
    obtain ⟨d, u, g, s, h1, h2, h3, _, _, h6, _⟩ := h.reg.all i os[i] (by simp [show i < os.size by omega])
    have hl := mkDTs_at (ds0 := ds) (ord := ordOf os) (k := 0) h1 h2 h3
    rw [Nat.zero_add] at hl
    obtain ⟨v, s', _, hr⟩ := (drawRun_at h.run).2 i _ hl
    have he : eAt e0 r (i + 1) = u (eAt e0 r i) v := by simp only [eAt, hr]; rfl
    have hv : valsOf r i = v := by simp [valsOf, hr]
    have ih := Dr.gam_at h i (by omega) t ht
    have ho : os[i]? = some os[i] := by simp [show i < os.size by omega]
    rw [he]
    simp only [gam, true_and, ho, Option.bind_some, hv]
    rcases h6 with ⟨a1, rfl⟩ | ⟨t', a1, a2, a3, rfl⟩
    · rw [a1, if_neg (by simp)]; exact ih
    · rw [Gt_Ut t t' ht a3, a1]
      by_cases e : t = t'
      · subst e; rw [if_pos rfl, if_pos rfl]
      · rw [if_neg e, if_neg (fun e' => e (Option.some.inj e').symm)]; exact ih

/-- What holds behind those that have come up. -/
structure InvAt (nt : Nat) (gl : List Nat) (os : Array Oper) (ds : List OD) (us : List (E → V → E)) (gs : List (Option (Nat × Bool))) (e0 : E) (s0 : St) (r : List (V × E × St)) (G0 : Pl) (w0 : World) (L : Nat → Bool) (a : Act) (w : World) (p m : Nat) (G : Pl) : Prop where
  cut : Cut ds os.size L p m
  fresh : ∀ b, (sAt s0 r m).next ≤ b → (sAt s0 r m).heap.get b = none
  env : EnvR nt gl G (mkE (gam os (valsOf r) L e0 os.size)) a
  rel : R G (view ds (theL ds os us gs) e0 s0 r L p) w
  dom : ∀ b l, G b = some l → b < (sAt s0 r p).next ∧ l.blk < w.heap.size ∧ ¬ hid ds (theL ds os us gs) e0 s0 r L p b
  go : Go_ G0 s0.heap.get w0 G (view ds (theL ds os us gs) e0 s0 r L p) w
  nx : s0.next ≤ (sAt s0 r m).next
  kp : ∀ b, b < s0.next → G0 b = none → G b = none
def Inv (nt : Nat) (gl : List Nat) (os : Array Oper) (ds : List OD) (us : List (E → V → E)) (gs : List (Option (Nat × Bool))) (e0 : E) (s0 : St) (r : List (V × E × St)) (G0 : Pl) (w0 : World) (L : Nat → Bool) (a : Act) (w : World) : Prop :=
  ∃ p m G, InvAt nt gl os ds us gs e0 s0 r G0 w0 L a w p m G

/-- A block that is not made yet comes behind the last one that does more. -/
theorem hid_ge (h : Dr P nt gl os ds us gs sl k e0 s0 r) {L : Nat → Bool} (hc : closedL os L) {p m : Nat} (hcut : Cut ds os.size L p m) {i : Nat} (hA : isAd ds i = true) (hL : L i = false) : m ≤ i := by
  rcases Nat.lt_or_ge i m with hlt | hge
  · exfalso
    rcases hcut.m0 with e | ⟨e1, e2⟩
    · omega
    · have hne : i ≠ m - 1 := fun e => by rw [← e, notEA hA] at e2; cases e2
      have hpn := hcut.pn
      have hmp := hcut.mp
      have hd := h.reg.len.1
      have ho := ok_ord h.ok (i := i) (j := m - 1) (by omega) (by omega) (.inl ⟨e2, .inr hA⟩)
      have := ord_in hc ho (hcut.inL (m - 1) (by omega) e2)
      rw [hL] at this; cases this
  · exact hge
/-- One that makes a block, and may come next, is ahead of the next that does more. -/
theorem ready_lt (h : Dr P nt gl os ds us gs sl k e0 s0 r) {L : Nat → Bool} (hc : closedL os L) {p m : Nat} (hcut : Cut ds os.size L p m) {i : Nat} (hi : i < os.size) (hA : isAd ds i = true) (hw : ∀ o, os[i]? = some o → ∀ e ∈ o.after, Region.binds .any e = true → L e.on = true) : i < p := by
  rcases Nat.lt_or_ge i p with hlt | hge
  · exact hlt
  · exfalso
    have hpE := hcut.atE (by omega)
    have hne : i ≠ p := fun e => by rw [← e, notEA hA] at hpE; cases hpE
    have hd := h.reg.len.1
    have ho := ok_ord h.ok (i := p) (j := i) (by omega) (by omega) (.inr ⟨hpE, hA⟩)
    have := ord_closed hc i p ho hw
    rw [hcut.outL p (Nat.le_refl _) hpE] at this; cases this
/-- The next that does more, once it may come: all ahead of it that make blocks have come. -/
theorem ready_E (h : Dr P nt gl os ds us gs sl k e0 s0 r) {L : Nat → Bool} (hc : closedL os L) {p m : Nat} (hcut : Cut ds os.size L p m) {i : Nat} (hi : i < os.size) (hE : isEd ds i = true) (hiL : L i = false) (hw : ∀ o, os[i]? = some o → ∀ e ∈ o.after, Region.binds .any e = true → L e.on = true) :
    i = p ∧ ∀ b, ¬ hid ds (theL ds os us gs) e0 s0 r L p b := by
  have hd := h.reg.len.1
  have hip : i = p := by
    rcases Nat.lt_trichotomy i p with hlt | he | hgt
    · rw [hcut.inL i hlt hE] at hiL; cases hiL
    · exact he
    · exfalso
      have hpE := hcut.atE (by omega)
      have ho := ok_ord h.ok (i := p) (j := i) hgt (by omega) (.inl ⟨hE, .inl hpE⟩)
      have := ord_closed hc i p ho hw
      rw [hcut.outL p (Nat.le_refl _) hpE] at this; cases this
  refine ⟨hip, fun b ⟨j, h1, h2, h3, _⟩ => ?_⟩
  subst hip
  have ho := ok_ord h.ok (i := j) (j := i) h1 (by omega) (.inl ⟨hE, .inr h2.1⟩)
  have := ord_closed hc i j ho hw
  rw [h3] at this; cases this

theorem cut_m {ds : List OD} {n : Nat} {L : Nat → Bool} {p m m' : Nat} (h : Cut ds n L p m) (h1 : m' ≤ p) (h2 : ∀ j, m' ≤ j → j < p → isEd ds j = false) (h3 : m' = 0 ∨ (0 < m' ∧ isEd ds (m' - 1) = true)) : m' = m := by
  have hmp := h.mp
  rcases Nat.lt_trichotomy m' m with hlt | he | hgt
  · rcases h.m0 with e | ⟨e1, e2⟩
    · omega
    · rw [h2 (m - 1) (by omega) (by omega)] at e2; cases e2
  · exact he
  · rcases h3 with e | ⟨e1, e2⟩
    · omega
    · rw [h.noE (m' - 1) (by omega) (by omega)] at e2; cases e2

/-- What the frame holds where the next one reads. -/
theorem Dr.same (h : Dr P nt gl os ds us gs sl k e0 s0 r) {L : Nat → Bool} (hc : closedL os L) {i : Nat} {o : Oper} {s : List Nat} (hi : os[i]? = some o) (hs : sl[i]? = some s) (hs2 : ∀ t, t ∈ s → t < 256) (hiL : L i = false) (hw : ∀ e ∈ o.after, Region.binds .any e = true → L e.on = true) :
    ∀ t, t ∈ s → Gt t (mkE (gam os (valsOf r) L e0 os.size)) = Gt t (eAt e0 r i) := by
  intro t ht
  have hlt := (Array.getElem?_eq_some_iff.1 hi).1
  have hall : ∀ (i : Nat) (o : Oper), os[i]? = some o → ∃ s, sl[i]? = some s := fun i o hio => by
    obtain ⟨d, u, g, s, _, _, _, h4, _⟩ := h.reg.all i o hio
    exact ⟨s, h4⟩
  rw [Gt_mkE _ _ (hs2 t ht), gam_same h.st hall hc hi hs hiL hw ht os.size, Nat.min_eq_right (by omega), h.gam_at i (by omega) t (hs2 t ht)]
/-- The frame behind one more. -/
theorem Dr.put (h : Dr P nt gl os ds us gs sl k e0 s0 r) {L : Nat → Bool} (hc : closedL os L) {i : Nat} {o : Oper} {u : E → V → E} (hi : os[i]? = some o) (hiL : L i = false) (hu : DstOk nt o.dst u) {G : Pl} {a : Act} (he : EnvR nt gl G (mkE (gam os (valsOf r) L e0 os.size)) a) {v' : Value} (hv : VR G (valsOf r i) v') :
    EnvR nt gl G (mkE (gam os (valsOf r) (fun j => L j || j == i) e0 os.size)) (a.put o.dst v') := by
  have hlt := (Array.getElem?_eq_some_iff.1 hi).1
  have hall : ∀ (i : Nat) (o : Oper), os[i]? = some o → ∃ s, sl[i]? = some s := fun i o hio => by
    obtain ⟨d, u, g, s, _, _, _, h4, _⟩ := h.reg.all i o hio
    exact ⟨s, h4⟩
  obtain ⟨s, hs⟩ := hall i o hi
  refine (he.dst hu hv).congr fun t ht => ?_
  rw [Gt_mkE _ _ ht, gam_put h.st hall hc hi hs hiL os.size hlt]
  rcases hu with ⟨a1, rfl⟩ | ⟨t', a1, a2, a3, rfl⟩
  · rw [a1, if_neg (by simp)]; exact Gt_mkE _ _ ht
  · rw [Gt_Ut t t' ht a3, a1]
    by_cases e : t = t'
    · subst e; rw [if_pos rfl, if_pos rfl]
    · rw [if_neg e, if_neg (fun e' => e (Option.some.inj e').symm), Gt_mkE _ _ ht]

/-- One that neither turns memory nor makes a block has come up. -/
theorem InvAt.quiet {G0 : Pl} {w0 : World} {L : Nat → Bool} {a : Act} {w : World} {p m : Nat} {G : Pl} (hI : InvAt nt gl os ds us gs e0 s0 r G0 w0 L a w p m G) {i : Nat} (hE : isEd ds i = false) (hA : ¬ onA ds (theL ds os us gs) e0 r i) {a' : Act}
    (he : EnvR nt gl G (mkE (gam os (valsOf r) (fun j => L j || j == i) e0 os.size)) a') : InvAt nt gl os ds us gs e0 s0 r G0 w0 (fun j => L j || j == i) a' w p m G := by
  have hh : ∀ b, hid ds (theL ds os us gs) e0 s0 r (fun j => L j || j == i) p b ↔ hid ds (theL ds os us gs) e0 s0 r L p b := by
    intro b
    constructor
    · rintro ⟨j, h1, h2, h3, h4⟩
      rw [Bool.or_eq_false_iff] at h3
      exact ⟨j, h1, h2, h3.1, h4⟩
    · rintro ⟨j, h1, h2, h3, h4⟩
      refine ⟨j, h1, h2, ?_, h4⟩
      rw [Bool.or_eq_false_iff]
      exact ⟨h3, beq_eq_false_iff_ne.2 (fun e => hA (e ▸ h2))⟩
  have hv : view ds (theL ds os us gs) e0 s0 r (fun j => L j || j == i) p = view ds (theL ds os us gs) e0 s0 r L p := by
    funext b; unfold view; rw [propext (hh b)]
  refine ⟨⟨hI.cut.mp, hI.cut.pn, hI.cut.noE, hI.cut.atE, hI.cut.m0, fun j h1 h2 => by rw [hI.cut.inL j h1 h2]; rfl, fun j h1 h2 => ?_⟩, hI.fresh, he, hv ▸ hI.rel, fun b l hb => ?_, hv ▸ hI.go, hI.nx, hI.kp⟩
  · rw [Bool.or_eq_false_iff]
    exact ⟨hI.cut.outL j h1 h2, beq_eq_false_iff_ne.2 (fun e => by rw [e, hE] at h2; cases h2)⟩
  · rw [hh b]; exact hI.dom b l hb

/-- Behind one that does more: up to the next. -/
theorem Dr.next (h : Dr P nt gl os ds us gs sl k e0 s0 r) {G0 G : Pl} {w0 w : World} {L : Nat → Bool} (hc : closedL os L) {q : Nat} (hq : q ≤ os.size) (hq0 : q = 0 ∨ (0 < q ∧ isEd ds (q - 1) = true ∧ L (q - 1) = true)) (hin : ∀ j, j < q → isEd ds j = true → L j = true) (hout : ∀ j, q ≤ j → isEd ds j = true → L j = false)
    (hnA : ∀ j, q ≤ j → isAd ds j = true → L j = false) {a : Act} (he : EnvR nt gl G (mkE (gam os (valsOf r) L e0 os.size)) a) (hs : SR G (sAt s0 r q) w) (hg : GoS G0 s0 w0 G (sAt s0 r q) w) :
    Inv nt gl os ds us gs e0 s0 r G0 w0 L a w := by
  obtain ⟨p, h1, h2, h3, h4⟩ := nextE ds os.size q hq
  obtain ⟨c1, c2, c3, c4, c5, c6⟩ := chain h.reg h.run h1 h2 h3 hs.fresh
  have hsub : ∀ b o, view ds (theL ds os us gs) e0 s0 r L p b = some o → (sAt s0 r q).heap.get b = some o := by
    intro b o hb
    unfold view at hb
    split at hb
    · cases hb
    · rename_i hn
      rcases c4 b o hb with h | ⟨i, a1, a2, a3, a4, _⟩
      · exact h
      · exact absurd ⟨i, a2, a3, hnA i a1 a3.1, a4⟩ hn
  refine ⟨p, q, G, ⟨h1, h2, h3, h4, ?_, fun j hj hjE => ?_, fun j hj hjE => hout j (by omega) hjE⟩, hs.fresh, he, hs.r.sub hsub, fun b l hb => ?_, hg.go.sub hsub, hg.nx, hg.kp⟩
  · rcases hq0 with e | ⟨e1, e2, _⟩
    · exact .inl e
    · exact .inr ⟨e1, e2⟩
  · by_cases hjq : j < q
    · exact hin j hjq hjE
    · rw [h3 j (by omega) hj] at hjE; cases hjE
  · obtain ⟨d1, d2⟩ := hs.dom b l hb
    refine ⟨by omega, d2, fun ⟨i, a1, a2, a3, a4⟩ => ?_⟩
    by_cases hiq : i < q
    · rcases hq0 with e | ⟨e1, e2, e3⟩
      · omega
      · have hne : i ≠ q - 1 := fun e => by have := notEA a2.1; rw [e, e2] at this; cases this
        have hd := h.reg.len.1
        have := ord_in hc (ok_ord h.ok (i := i) (j := q - 1) (by omega) (by omega) (.inl ⟨e2, .inr a2.1⟩)) e3
        rw [a3] at this; cases this
    · have := (c5 i (by omega) a1 a2).1
      omega

/-- A new block has come up. -/
theorem Dr.made (h : Dr P nt gl os ds us gs sl k e0 s0 r) {G0 : Pl} {w0 : World} {L : Nat → Bool} (hc : closedL os L) {a : Act} {w : World} {p m : Nat} {G : Pl} (hI : InvAt nt gl os ds us gs e0 s0 r G0 w0 L a w p m G) {i : Nat} (hip : i < p) (hiL : L i = false) (hA : onA ds (theL ds os us gs) e0 r i)
    {f : E → Nat → Option (V × Ob)} {v : V} {ob : Ob} (hd : ds[i]? = some (.a f)) (hf : f (eAt e0 r i) (sAt s0 r i).next = some (v, ob)) {w' : World} {obj : Obj} {tot : Nat} (hw : Grew obj w w') (hob : ObR (G.add (sAt s0 r i).next ⟨w.heap.size, 0, tot⟩) w' (sAt s0 r i).next ob) {a' : Act}
    (he : EnvR nt gl (G.add (sAt s0 r i).next ⟨w.heap.size, 0, tot⟩) (mkE (gam os (valsOf r) (fun j => L j || j == i) e0 os.size)) a') :
    InvAt nt gl os ds us gs e0 s0 r G0 w0 (fun j => L j || j == i) a' w' p m (G.add (sAt s0 r i).next ⟨w.heap.size, 0, tot⟩) := by
  have hid0 : hid ds (theL ds os us gs) e0 s0 r L p (sAt s0 r i).next := ⟨i, hip, hA, hiL, rfl⟩
  have hG : G (sAt s0 r i).next = none := by
    cases hq : G (sAt s0 r i).next with
    | none => rfl
    | some l => exact absurd hid0 (hI.dom _ l hq).2.2
  have hmi := hid_ge h hc hI.cut hA.1 hiL
  obtain ⟨c1, c2, c3, c4, c5, c6⟩ := chain h.reg h.run hI.cut.mp hI.cut.pn hI.cut.noE hI.fresh
  have inj : ∀ j, m ≤ j → j < p → onA ds (theL ds os us gs) e0 r j → (sAt s0 r j).next = (sAt s0 r i).next → j = i := by
    intro j h1 h2 h3 h4
    rcases Nat.lt_trichotomy j i with hlt | he | hgt
    · have := c6 j i h1 hlt hip h3 hA; omega
    · exact he
    · have := c6 i j hmi hgt h2 hA h3; omega
  have hh : ∀ b, hid ds (theL ds os us gs) e0 s0 r (fun j => L j || j == i) p b ↔ hid ds (theL ds os us gs) e0 s0 r L p b ∧ b ≠ (sAt s0 r i).next := by
    intro b
    constructor
    · rintro ⟨j, h1, h2, h3, h4⟩
      rw [Bool.or_eq_false_iff] at h3
      refine ⟨⟨j, h1, h2, h3.1, h4⟩, fun e => ?_⟩
      have := inj j (hid_ge h hc hI.cut h2.1 h3.1) h1 h2 (h4.trans e)
      exact beq_eq_false_iff_ne.1 h3.2 this
    · rintro ⟨⟨j, h1, h2, h3, h4⟩, h5⟩
      refine ⟨j, h1, h2, ?_, h4⟩
      rw [Bool.or_eq_false_iff]
      exact ⟨h3, beq_eq_false_iff_ne.2 (fun e => h5 (by rw [← h4, e]))⟩
  obtain ⟨r1, r2⟩ := hI.rel.grew hw (fun b l hb => (hI.dom b l hb).2.1) hG hob
  have hsub : ∀ b o, view ds (theL ds os us gs) e0 s0 r (fun j => L j || j == i) p b = some o → upd (view ds (theL ds os us gs) e0 s0 r L p) (sAt s0 r i).next ob b = some o := by
    intro b o hb
    unfold view at hb
    split at hb
    · cases hb
    · rename_i hn
      unfold upd
      by_cases e : b = (sAt s0 r i).next
      · rw [if_pos e]
        rcases c4 b o hb with h' | ⟨j, a1, a2, a3, a4, f', v', a5, a6⟩
        · have := hI.fresh b (by have := (c5 i hmi hip hA).1; omega)
          rw [this] at h'; cases h'
        · have := inj j a1 a2 a3 (a4.trans e)
          subst this
          rw [hd] at a5; cases a5
          rw [e, hf] at a6; cases a6; rfl
      · rw [if_neg e]
        unfold view
        rw [if_neg (fun hx => hn ((hh b).2 ⟨hx, e⟩))]
        exact hb
  refine ⟨⟨hI.cut.mp, hI.cut.pn, hI.cut.noE, hI.cut.atE, hI.cut.m0, fun j h1 h2 => by rw [hI.cut.inL j h1 h2]; rfl, fun j h1 h2 => ?_⟩, hI.fresh, he, r1.sub hsub, fun b l hb => ?_, (hI.go.trans r2).sub hsub, hI.nx, fun b hb h0 => by have h5 := (c5 i hmi hip hA).1; have h6 := hI.nx; unfold Pl.add; rw [if_neg (by omega)]; exact hI.kp b hb h0⟩
  · rw [Bool.or_eq_false_iff]
    exact ⟨hI.cut.outL j h1 h2, beq_eq_false_iff_ne.2 (fun e => by rw [e, notEA hA.1] at h2; cases h2)⟩
  · unfold Pl.add at hb
    rw [hw.size, hh b]
    by_cases e : b = (sAt s0 r i).next
    · rw [if_pos e] at hb; cases hb
      exact ⟨by rw [e]; exact (c5 i hmi hip hA).2, by simp, fun hx => hx.2 e⟩
    · rw [if_neg e] at hb
      obtain ⟨d1, d2, d3⟩ := hI.dom b l hb
      exact ⟨d1, by omega, fun hx => d3 hx.1⟩

/-- What one that looks at memory sees. -/
theorem chk1_at {sn : List St} {t : DT} {e : E} {v : V} {lo hi c : Nat} {f : E → St → Option V} {s : St} (h : chk1 sn t e v = true) (ht : t.k = .d lo hi f) (ho : offB t e = some false) (hs : sn[c]? = some s) (h1 : lo ≤ c) (h2 : c ≤ hi) : f e s = some v := by
  unfold chk1 at h
  rw [ht] at h
  have hm : s ∈ (sn.drop lo).take (hi + 1 - lo) := by
    refine List.mem_of_getElem? (i := c - lo) ?_
    rw [List.getElem?_take, if_pos (by omega), List.getElem?_drop, show lo + (c - lo) = c by omega, hs]
  have := List.all_eq_true.1 h s hm
  rw [ho] at this
  simp only at this
  split at this
  · rename_i v' hv'
    rw [hv', sameV_eq this]
  · cases this

theorem ord_lt {os : Array Oper} {sl : List (List Nat)} (hst : steadyL os sl = true) : ∀ (i j : Nat), ordOf os j i = true → j < i := by
  intro i
  induction i using Nat.strongRecOn with
  | ind i ih =>
    intro j h
    obtain ⟨o, ho, e, he, hb, hor⟩ := ord_step h
    have hlt := st_edges hst ho he hb
    rcases hor with h1 | ⟨h1, h2⟩
    · omega
    · have := ih e.on hlt j h1; omega
/-- What one that is quick sees is what it saw in the text's order. -/
theorem Dr.quick (h : Dr P nt gl os ds us gs sl k e0 s0 r) {L : Nat → Bool} (hc : closedL os L) {p m : Nat} (hcut : Cut ds os.size L p m) {i : Nat} (hlt : i < os.size) (hiL : L i = false) (hE : isEd ds i = false)
    (hw : ∀ o, os[i]? = some o → ∀ e ∈ o.after, Region.binds .any e = true → L e.on = true) (hq : quickB ds (ordOf os) i = true) : sAt s0 r i = sAt s0 r m := by
  have hlen := h.reg.len.1
  unfold quickB at hq
  rw [Bool.and_eq_true] at hq
  have hnA : ∀ j, isAd ds j = false := fun j => by
    unfold isAd
    cases hd : ds[j]? with
    | none => rfl
    | some d => have := List.all_eq_true.1 hq.1 d (List.mem_of_getElem? hd); simpa using this
  have hcmp : ∀ j, j < os.size → isEd ds j = true → ordOf os j i = true ∨ ordOf os i j = true := fun j hj hjE => by
    have := List.all_eq_true.1 hq.2 j (List.mem_range.2 (by omega))
    rw [hjE] at this; simpa using this
  have hmi : m ≤ i := by
    rcases hcut.m0 with e | ⟨e1, e2⟩
    · omega
    · have hpn := hcut.pn
      have hmp := hcut.mp
      rcases hcmp (m - 1) (by omega) e2 with h1 | h1
      · have := ord_lt h.st _ _ h1; omega
      · have := ord_in hc h1 (hcut.inL (m - 1) (by omega) e2)
        rw [hiL] at this; cases this
  have hip : i < p := by
    rcases Nat.lt_or_ge i p with h' | hge
    · exact h'
    · exfalso
      have hpE := hcut.atE (by omega)
      rcases hcmp p (by omega) hpE with h1 | h1
      · have := ord_closed hc i p h1 hw
        rw [hcut.outL p (Nat.le_refl _) hpE] at this; cases this
      · have := ord_lt h.st _ _ h1; omega
  have key : ∀ n, m + n ≤ i → sAt s0 r (m + n) = sAt s0 r m := by
    intro n
    induction n with
    | zero => intro _; rfl
    | succ n ih =>
      intro hn
      have hj : m + n < os.size := by omega
      obtain ⟨d, u, g, s, h1, h2, h3, _⟩ := h.reg.all (m + n) os[m + n] (by simp [hj])
      have hat := mkDTs_at (ds0 := ds) (ord := ordOf os) (k := 0) h1 h2 h3
      rw [Nat.zero_add] at hat
      obtain ⟨v, s', hst, hr⟩ := (drawRun_at h.run).2 (m + n) _ hat
      have hs1 : sAt s0 r (m + n + 1) = s' := by simp only [sAt, hr]
      rw [← Nat.add_assoc, hs1, ← ih (by omega)]
      have hnE := hcut.noE (m + n) (by omega) (by omega)
      have hnAj := hnA (m + n)
      unfold isEd at hnE
      unfold isAd at hnAj
      rw [h1] at hnE hnAj
      unfold drawStep at hst
      split at hst
      · cases hst
      · cases hst; rfl
      · cases d with
        | p f => simp only [mkDT] at hst; split at hst <;> cases hst; rfl
        | d f => simp only [mkDT] at hst; split at hst <;> cases hst; rfl
        | a f => cases hnAj
        | e f => cases hnE
  have := key (i - m) (by omega)
  rwa [show m + (i - m) = i by omega] at this

/-- ONE STEP. -/
theorem Dr.step (h : Dr P nt gl os ds us gs sl k e0 s0 r) (hk : KOk P gl k) {G0 : Pl} {w0 : World} {L : Nat → Bool} (hc : closedL os L) {a : Act} {w : World} (hI : Inv nt gl os ds us gs e0 s0 r G0 w0 L a w) {i : Nat} {o : Oper} (hi : os[i]? = some o) (hiL : L i = false)
    (hwt : ∀ e ∈ o.after, Region.binds .any e = true → L e.on = true) {K : Act → World → Prop} {Q : Exit → Act → World → Prop} (hK : ∀ a' w', Inv nt gl os ds us gs e0 s0 r G0 w0 (fun j => L j || j == i) a' w' → K a' w') : wpOp P os Q i K a w := by
  obtain ⟨p, m, G, hI⟩ := hI
  have hlt := (Array.getElem?_eq_some_iff.1 hi).1
  obtain ⟨d, u, g, s, h1, h2, h3, h4, hod, hdst, hgd, hsame, hgs, hs2⟩ := h.reg.all i o hi
  have hat := mkDTs_at (ds0 := ds) (ord := ordOf os) (k := 0) h1 h2 h3
  rw [Nat.zero_add] at hat
  obtain ⟨v, s', hst, hr⟩ := (drawRun_at h.run).2 i _ hat
  have hv : valsOf r i = v := by simp [valsOf, hr]
  have hs1 : sAt s0 r (i + 1) = s' := by simp only [sAt, hr]
  have hslot := h.same hc hi h4 hs2 hiL hwt
  have hS := hsame _ _ hslot
  have hwt' : ∀ o', os[i]? = some o' → ∀ e ∈ o'.after, Region.binds .any e = true → L e.on = true := fun o' ho' => by rw [hi] at ho'; cases ho'; exact hwt
  have hput : ∀ {G' : Pl} {v' : Value}, G.le G' → VR G' v v' → EnvR nt gl G' (mkE (gam os (valsOf r) (fun j => L j || j == i) e0 os.size)) (a.put o.dst v') := fun hle hvv => h.put hc hi hiL hdst (hI.env.mono hle) (by rw [hv]; exact hvv)
  have hc' : closedL os (fun j => L j || j == i) := by
    intro j oj hj hjL e he hb
    have hjL : (L j || j == i) = true := hjL
    rw [Bool.or_eq_true] at hjL
    rcases hjL with hjL | hjL
    · have := hc j oj hj hjL e he hb
      simp [this]
    · have hji : j = i := by simpa using hjL
      subst hji
      rw [hi] at hj; cases hj
      have := hwt e he hb
      simp [this]
  -- one that does more has come up
  have hEk : isEd ds i = true → ∀ {G' : Pl} {a' : Act} {w' : World}, EnvR nt gl G' (mkE (gam os (valsOf r) (fun j => L j || j == i) e0 os.size)) a' → SR G' (sAt s0 r (i + 1)) w' → GoS G0 s0 w0 G' (sAt s0 r (i + 1)) w' → Inv nt gl os ds us gs e0 s0 r G0 w0 (fun j => L j || j == i) a' w' := by
    intro hE G' a' w' he hs hg
    obtain ⟨hip, hnh⟩ := ready_E h hc hI.cut hlt hE hiL hwt'
    have hlen := h.reg.len.1
    refine h.next hc' (q := i + 1) hlt (.inr ⟨by omega, by simpa using hE, by simp⟩) (fun j hj hjE => ?_) (fun j hj hjE => ?_) (fun j hj hjA => ?_) he hs hg
    · rw [Bool.or_eq_true]
      by_cases hji : j = i
      · exact .inr (by simp [hji])
      · exact .inl (hI.cut.inL j (by omega) hjE)
    · rw [Bool.or_eq_false_iff]
      exact ⟨hI.cut.outL j (by omega) hjE, beq_eq_false_iff_ne.2 (by omega)⟩
    · rw [Bool.or_eq_false_iff]
      refine ⟨?_, beq_eq_false_iff_ne.2 (by omega)⟩
      cases hq : L j with
      | false => rfl
      | true =>
        by_cases hjl : j < os.size
        · have := ord_in hc (ok_ord h.ok (i := i) (j := j) (by omega) (by omega) (.inr ⟨hE, hjA⟩)) hq
          rw [hiL] at this; cases this
        · unfold isAd at hjA
          rw [List.getElem?_eq_none (by omega)] at hjA; cases hjA
  have hEs : isEd ds i = true → SR G (sAt s0 r i) w ∧ GoS G0 s0 w0 G (sAt s0 r i) w := by
    intro hE
    obtain ⟨hip, hnh⟩ := ready_E h hc hI.cut hlt hE hiL hwt'
    subst hip
    obtain ⟨c1, c2, c3, c4, c5, c6⟩ := chain h.reg h.run hI.cut.mp hI.cut.pn hI.cut.noE hI.fresh
    have hview : view ds (theL ds os us gs) e0 s0 r L i = (sAt s0 r i).heap.get := by
      funext b; unfold view; rw [if_neg (hnh b)]
    exact ⟨⟨hview ▸ hI.rel, c2, fun b l hb => ⟨(hI.dom b l hb).1, (hI.dom b l hb).2.1⟩⟩, ⟨hview ▸ hI.go, Nat.le_trans hI.nx c1, hI.kp⟩⟩
  unfold wpOp
  rw [hi]
  simp only
  have hoffe : offB (mkDT ds (ordOf os) i d u g) (mkE (gam os (valsOf r) L e0 os.size)) = offB (mkDT ds (ordOf os) i d u g) (eAt e0 r i) := by
    unfold offB mkDT
    cases g with
    | none => rfl
    | some q => simp only; rw [hslot q.1 (hgs q.1 (by simp [slG]))]
  unfold drawStep at hst
  cases ho : offB (mkDT ds (ordOf os) i d u g) (eAt e0 r i) with
  | none => rw [ho] at hst; cases hst
  | some b =>
    have hwd := wanted_of (t := mkDT ds (ordOf os) i d u g) hgd hI.env (hoffe.trans ho)
    rw [hwd]
    rw [ho] at hst
    have hnA : (∀ f, d ≠ .a f) → ¬ onA ds (theL ds os us gs) e0 r i := by
      rintro hdd ⟨a1, _⟩
      unfold isAd at a1; rw [h1] at a1
      cases d <;> first | exact hdd _ rfl | cases a1
    cases b with
    | true =>
      cases hst
      simp only [Bool.not_true, Bool.false_eq_true, if_false]
      refine hK _ _ ?_
      have henv := hput (v' := undef) (Pl.le_refl G) (.tup _ _ .nil)
      cases hE : isEd ds i with
      | true =>
        obtain ⟨e1, e2⟩ := hEs hE
        exact hEk hE henv (hs1 ▸ e1) (hs1 ▸ e2)
      | false =>
        refine ⟨p, m, G, hI.quiet hE (fun ⟨_, t, a1, a2⟩ => ?_) henv⟩
        rw [hat] at a1; cases a1; rw [ho] at a2; cases a2
    | false =>
      simp only [Bool.not_false, if_true]
      refine .inl ?_
      cases d with
      | p f =>
        simp only [mkDT] at hst
        split at hst
        · rename_i v1 hf
          cases hst
          have hS : f (mkE (gam os (valsOf r) L e0 os.size)) = f (eAt e0 r i) := hS
          obtain ⟨v', b1, b2⟩ := hod G _ a w v (hS.trans hf) hI.env
          refine (Did.value (post := fun v' w' => Inv nt gl os ds us gs e0 s0 r G0 w0 (fun j => L j || j == i) (a.put o.dst v') w') b1 ?_).wp fun _ _ hh => hK _ _ hh
          exact ⟨p, m, G, hI.quiet (by simp [isEd, h1, OD.isE]) (hnA (by simp)) (hput (Pl.le_refl G) b2)⟩
        · cases hst
      | d f =>
        have hE : isEd ds i = false := by simp [isEd, h1, OD.isE]
        simp only [mkDT] at hst
        split at hst
        · rename_i v1 hf
          cases hst
          obtain ⟨m', q1, q2, q3, q4⟩ := snaps_at (s := s0) (l := theL ds os us gs) (r := r) (h.len.1.trans h.len.2.symm) p (h.len.2 ▸ hI.cut.pn)
          have tE : ∀ j t, (theL ds os us gs)[j]? = some t → t.k.isE = isEd ds j := fun j t ht => by
            have := theL_E h.reg j
            rw [ht] at this; exact this
          have hm : m' = m := cut_m hI.cut q1 (fun j hj1 hj2 => by
              have hlj : j < (theL ds os us gs).length := by rw [h.len.2]; have := hI.cut.pn; omega
              rw [← tE j _ (List.getElem?_eq_getElem hlj)]
              exact q3 j _ hj1 hj2 (List.getElem?_eq_getElem hlj)) (by
              rcases q4 with e | ⟨t, t1, t2⟩
              · exact .inl e
              · by_cases e : m' = 0
                · exact .inl e
                · exact .inr ⟨by omega, by rw [← tE _ _ t1]; exact t2⟩)
          subst hm
          rw [theL_c h.reg] at q2
          have hlen := h.reg.len.1
          have hcut := countB_cut (p := isEd ds) (m := p) (n := ds.length) (by have := hI.cut.pn; omega)
          have hfs : f (eAt e0 r i) (sAt s0 r m') = some v := by
           by_cases hqk : quickB ds (ordOf os) i = true
           · rw [← h.quick hc hI.cut hlt hiL hE hwt' hqk]; exact hf
           refine chk1_at (c := countB (isEd ds) p) (chks_at h.chk (h.len.1.trans h.len.2.symm) i _ _ _ _ hat hr) (by simp only [mkDT]; rw [if_neg hqk, if_neg hqk]) ho q2
            (by
              rw [hcut]
              refine countB_le fun j hj hb => ?_
              rw [Bool.and_eq_true] at hb ⊢
              refine ⟨hb.1, decide_eq_true ?_⟩
              rcases Nat.lt_or_ge j p with hjp | hjp
              · exact hjp
              · have := ord_closed hc i j hb.2 hwt'
                rw [hI.cut.outL j hjp hb.1] at this; cases this)
            (by
              rw [hcut]
              refine countB_le fun j hj hb => ?_
              rw [Bool.and_eq_true] at hb ⊢
              refine ⟨hb.1, ?_⟩
              cases hq : ordOf os i j with
              | false => rfl
              | true =>
                have := ord_in hc hq (hI.cut.inL j (by simpa using hb.2) hb.1)
                rw [hiL] at this; cases this)
          obtain ⟨c1, c2, c3, c4, c5, c6⟩ := chain h.reg h.run hI.cut.mp hI.cut.pn hI.cut.noE hI.fresh
          have hS : ∀ s, f (mkE (gam os (valsOf r) L e0 os.size)) s = f (eAt e0 r i) s := hS
          obtain ⟨v', b1, b2⟩ := hod G _ a _ w v ((hS _).trans hfs) hI.env (hI.rel.sub fun b o hb => by
            unfold view
            rw [if_neg, c3 b o hb]
            rintro ⟨j, a1, a2, a3, a4⟩
            have hge := (c5 j (hid_ge h hc hI.cut a2.1 a3) a1 a2).1
            rw [hI.fresh b (by omega)] at hb; cases hb)
          refine (Did.value (post := fun v' w' => Inv nt gl os ds us gs e0 s0 r G0 w0 (fun j => L j || j == i) (a.put o.dst v') w') b1 ?_).wp fun _ _ hh => hK _ _ hh
          exact ⟨p, m', G, hI.quiet hE (hnA (by simp)) (hput (Pl.le_refl G) b2)⟩
        · cases hst
      | a f =>
        have hAd : isAd ds i = true := by simp [isAd, h1, OD.isA]
        have hA : onA ds (theL ds os us gs) e0 r i := ⟨hAd, _, hat, ho⟩
        have hip := ready_lt h hc hI.cut hlt hAd hwt'
        simp only [mkDT] at hst
        split at hst
        · rename_i v1 ob hf
          cases hst
          have hG : G (sAt s0 r i).next = none := by
            cases hq : G (sAt s0 r i).next with
            | none => rfl
            | some l => exact absurd ⟨i, hip, hA, hiL, rfl⟩ (hI.dom _ l hq).2.2
          have hS : ∀ n, f (mkE (gam os (valsOf r) L e0 os.size)) n = f (eAt e0 r i) n := hS
          obtain ⟨v', obj, tot, w', b1, b2, b3, b4⟩ := hod G _ a _ w v ob ((hS _).trans hf) hI.env hG
          refine (Did.value (post := fun v' w' => Inv nt gl os ds us gs e0 s0 r G0 w0 (fun j => L j || j == i) (a.put o.dst v') w') b1 ?_).wp fun _ _ hh => hK _ _ hh
          exact ⟨p, m, _, h.made hc hI hip hiL hA h1 hf b2 b4 (hput (Pl.le_add hG) b3)⟩
        · cases hst
      | e f =>
        have hE : isEd ds i = true := by simp [isEd, h1, OD.isE]
        obtain ⟨e1, e2⟩ := hEs hE
        have hS : ∀ k s, f k (mkE (gam os (valsOf r) L e0 os.size)) s = f k (eAt e0 r i) s := hS
        have hf : f k (eAt e0 r i) (sAt s0 r i) = some (v, s') := hst
        have hdid := hod k hk G _ a _ w v s' ((hS k _).trans hf) hI.env e1
        refine hdid.wp ?_
        rintro v' w' ⟨G', g1, g2, g3⟩
        exact hK _ _ (hEk hE (hput g1.le g3) (hs1 ▸ g2) (e2.trans (hs1 ▸ g1)))

theorem Dr.any (h : Dr P nt gl os ds us gs sl k e0 s0 r) (hk : KOk P gl k) {G0 : Pl} {w0 : World} {Q : Exit → Act → World → Prop} (hQ : ∀ L a w, (∀ i, i < os.size → L i = true) → Inv nt gl os ds us gs e0 s0 r G0 w0 L a w → Q .normal a w) :
    ∀ (fuel : Nat) (listed : Array Bool) (a : Act) (w : World), listed.size = os.size → closedL os (fun j => listed.getD j false) → (listed.toList.filter (· == false)).length ≤ fuel → Inv nt gl os ds us gs e0 s0 r G0 w0 (fun j => listed.getD j false) a w →
      wpAny P .any os Q fuel listed a w := by
  have done : ∀ (listed : Array Bool) (a : Act) (w : World), listed.size = os.size → Region.ready .any os listed = [] → Inv nt gl os ds us gs e0 s0 r G0 w0 (fun j => listed.getD j false) a w → Q .normal a w := by
    intro listed a w hsz hr hC
    refine hQ _ a w ?_ hC
    intro i
    induction i using Nat.strongRecOn with
    | ind i ih =>
      intro hlt
      by_cases hb : listed.getD i false = true
      · exact hb
      · exfalso
        have : i ∈ Region.ready .any os listed := mem_ready.2 ⟨by
            have hlt' : i < listed.size := by omega
            simp [hlt'] at hb ⊢; exact hb, os[i], by simp [hlt], fun e he hbd => by
            have hlt2 := st_edges h.st (j := i) (oj := os[i]) (by simp [hlt]) he hbd
            exact ih e.on hlt2 (by omega)⟩
        rw [hr] at this; cases this
  intro fuel
  induction fuel with
  | zero =>
    intro listed a w hsz hcl hf hC
    have hr : Region.ready .any os listed = [] := by
      by_cases he : Region.ready .any os listed = []
      · exact he
      · exfalso
        obtain ⟨j, hj⟩ := List.exists_mem_of_ne_nil _ he
        have h0 := (mem_ready.1 hj).1
        have hlt : j < listed.size := by
          rcases Nat.lt_or_ge j listed.size with h | h
          · exact h
          · simp [Array.getElem?_eq_none h] at h0
        have hm : listed[j] ∈ listed.toList.filter (· == false) := List.mem_filter.2 ⟨by simp, by simp [hlt] at h0; simp [h0]⟩
        have : 0 < (listed.toList.filter (· == false)).length := List.length_pos_of_mem hm
        omega
    exact ⟨hr, done listed a w hsz hr hC⟩
  | succ fuel ih =>
    intro listed a w hsz hcl hf hC
    refine ⟨fun hr => done listed a w hsz hr hC, fun i hi => ?_⟩
    obtain ⟨h0, o, ho, hall⟩ := mem_ready.1 hi
    have hlt : i < listed.size := by rw [hsz]; exact (Array.getElem?_eq_some_iff.1 ho).1
    have hiL : listed.getD i false = false := by simp [hlt] at h0 ⊢; exact h0
    have hset : (fun j => (listed.setIfInBounds i true).getD j false) = (fun j => listed.getD j false || j == i) := by
      funext j
      by_cases hij : i = j
      · subst hij; simp [hlt]
      · rw [getD_set_ne false hij]
        have : (j == i) = false := beq_eq_false_iff_ne.2 (Ne.symm hij)
        simp [this]
    refine h.step hk hcl hC ho hiL hall fun a' w' hI' => ih (listed.setIfInBounds i true) a' w' (by simpa using hsz) ?_ ?_ (by rw [hset]; exact hI')
    · intro j oj hj hL e he hb
      rw [hset] at hL ⊢
      simp only [Bool.or_eq_true] at hL ⊢
      rcases hL with hL | hL
      · exact .inl (hcl j oj hj hL e he hb)
      · have : j = i := by simpa using hL
        subst this
        rw [ho] at hj; cases hj
        exact .inl (hall e he hb)
    · have hL : listed.toList = listed.toList.take i ++ listed[i] :: listed.toList.drop (i + 1) := by
        have hl : i < listed.toList.length := by rw [Array.length_toList]; exact hlt
        have h := List.getElem_cons_drop (h := hl)
        rw [show listed[i] = listed.toList[i] from by simp, h, List.take_append_drop]
      have hb : listed[i] = false := by simp [hlt] at hiL; exact hiL
      have h1 : (listed.toList.filter (· == false)).length = ((listed.toList.take i).filter (· == false)).length + 1 + ((listed.toList.drop (i + 1)).filter (· == false)).length := by
        conv => lhs; rw [hL, List.filter_append, List.filter_cons, hb]
        simp only [BEq.rfl, if_true, List.length_append, List.length_cons]; omega
      have h2 : ((listed.setIfInBounds i true).toList.filter (· == false)).length = ((listed.toList.take i).filter (· == false)).length + ((listed.toList.drop (i + 1)).filter (· == false)).length := by
        rw [Array.toList_setIfInBounds, List.set_eq_take_append_cons_drop, if_pos (by rw [Array.length_toList]; exact hlt), List.filter_append, List.filter_cons]; simp
      omega
end

/-- THE LAW. -/
theorem Snd.draw {P : Program} {nt : Nat} {gl : List Nat} {os : Array Oper} {ds : List OD} {us : List (E → V → E)} {gs : List (Option (Nat × Bool))} {sl : List (List Nat)} {id : Nat} (hm : P.follows .mixedOrders = true)
    (hreg : RegOk P nt gl os ds us gs sl) (hst : steadyL os sl = true) (hok : okE os ds = true) : Snd P nt gl (.region id os true) (dDraw (theL ds os us gs)) := by
  intro k hk G e a s w hne he hs
  unfold dDraw at hne ⊢
  cases hrun : drawRun k (theL ds os us gs) e s with
  | none => rw [hrun] at hne; exact absurd rfl hne
  | some r =>
    rw [hrun] at hne
    simp only at hne ⊢
    cases hchk : chks (snaps s (theL ds os us gs) r) (theL ds os us gs) e r with
    | false => rw [hchk] at hne; exact absurd rfl hne
    | true =>
      rw [hchk] at hne
      simp only at hne ⊢
      have D : Dr P nt gl os ds us gs sl k e s r := ⟨hreg, hst, hok, hrun, hchk⟩
      refine wp_region_any hm ?_
      have hfalse : (fun j => (Array.replicate os.size false).getD j false) = fun _ => false := by
        funext j
        rcases Nat.lt_or_ge j os.size with hj | hj
        · simp [hj]
        · have : (Array.replicate os.size false)[j]? = none := Array.getElem?_eq_none (by simpa using hj)
          simp [this]
      have hgf : ∀ n t, gam os (valsOf r) (fun _ => false) e n t = Gt t e := by
        intro n t
        induction n with
        | zero => rfl
        | succ n ih => simp [gam, ih]
      refine D.any hk (G0 := G) (w0 := w) (fun L a' w' hall hI => ?_) os.size _ a _ (by simp) ?_ (by simp) ?_
      · obtain ⟨p, m, G', hI⟩ := hI
        have hp : p = os.size := by
          rcases Nat.lt_or_ge p os.size with hlt | hge
          · have h1 := hI.cut.outL p (Nat.le_refl _) (hI.cut.atE hlt)
            rw [hall p hlt] at h1; cases h1
          · have := hI.cut.pn; omega
        subst hp
        have hnh : ∀ b, ¬ hid ds (theL ds os us gs) e s r L os.size b := fun b ⟨i, h1, _, h3, _⟩ => by rw [hall i h1] at h3; cases h3
        have hview : view ds (theL ds os us gs) e s r L os.size = (sAt s r os.size).heap.get := by
          funext b; unfold view; rw [if_neg (hnh b)]
        obtain ⟨c1, c2, _⟩ := chain D.reg D.run hI.cut.mp hI.cut.pn hI.cut.noE hI.fresh
        have hl : lastOf e s r = .nrm (eAt e r os.size) (sAt s r os.size) := by rw [lastOf_eq, D.len.1]
        rw [hl]
        refine ⟨rfl, G', hI.env.congr fun t ht => ?_, ⟨hview ▸ hI.rel, c2, fun b l hb => ⟨(hI.dom b l hb).1, (hI.dom b l hb).2.1⟩⟩, ⟨hview ▸ hI.go, Nat.le_trans hI.nx c1, hI.kp⟩⟩
        rw [Gt_mkE _ _ ht, D.gam_at os.size (Nat.le_refl _) t ht]
        have : ∀ n, n ≤ os.size → gam os (valsOf r) L e n t = gam os (valsOf r) (fun _ => true) e n t := by
          intro n
          induction n with
          | zero => intro _; rfl
          | succ n ih => intro hn; simp only [gam, hall n (by omega), ih (by omega)]
        exact this _ (Nat.le_refl _)
      · rw [hfalse]; intro j oj _ hL; cases hL
      · rw [hfalse]
        refine D.next (q := 0) (fun j oj _ hL => by cases hL) (by omega) (.inl rfl) (fun j hj => by omega) (fun _ _ _ => rfl) (fun _ _ _ => rfl) (he.congr fun t ht => ?_) (SR.drew hs) (GoS.refl _ _ _).drew
        rw [Gt_mkE _ _ ht, hgf]
end
end Go.Proofs.YtjipdnfaokdkbaaLab
