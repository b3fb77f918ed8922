/- The lab, part 4 of 5. No condition on the program. Pruned. -/
import Derived.Test.YtgkcpceppmppfaaLm3
import Derived.Scope
import Derived.Below
/- The lab: a region that draws its order: the law. On the program: that it follows mixed orders. -/
namespace Go.Proofs.YtgkcpceppmppfaaLab
open Go
set_option linter.unusedVariables false
noncomputable section
def valsOf (r : List (V × E × St)) (i : Nat) : V := match r[i]? with | some (v, _) => v | none => .undef
theorem EnvR.congr {nt : Nat} {gl : List Nat} {G : Pl} {e e' : E} {a : Act} (h : EnvR nt gl G e a) (he : ∀ t, t < 256 → Gt t e = Gt t e') : EnvR nt gl G e' a :=
 ⟨fun t ht => he t ht ▸ h.tm t ht, h.sz, h.df, h.gl⟩
structure Dr (P : Program) (nt : Nat) (gl : List Nat) (os : Array Oper) (ds : List OD) (us : List (E → V → E)) (gs : List (Option (Nat × Bool))) (sl : List (List Nat)) (k : KC) (e0 : E) (s0 : St) (r : List (V × E × St)) : Prop where
 reg : RegOk P nt gl os ds us gs sl
 st : steadyL os sl = true
 ok : okE os ds = true
 run : drawRun k (theL ds os us gs) e0 s0 = some r
 chk : chks (snaps s0 (theL ds os us gs) r) (theL ds os us gs) e0 r = true
structure Cut (ds : List OD) (n : Nat) (L : Nat → Bool) (p m : Nat) : Prop where
 mp : m ≤ p
 pn : p ≤ n
 noE : ∀ j, m ≤ j → j < p → isEd ds j = false
 atE : p < n → isEd ds p = true
 m0 : m = 0 ∨ (0 < m ∧ isEd ds (m - 1) = true)
 inL : ∀ j, j < p → isEd ds j = true → L j = true
 outL : ∀ j, p ≤ j → isEd ds j = true → L j = false
theorem ok_ord {os : Array Oper} {ds : List OD} (h : okE os ds = true) {i j : Nat} (hij : i < j) (hj : j < ds.length) (hc : (isEd ds j = true ∧ (isEd ds i = true ∨ isAd ds i = true)) ∨ (isEd ds i = true ∧ isAd ds j = true)) : ordOf os i j = true := by
 have h1 := List.all_eq_true.1 h j (List.mem_range.2 hj)
 have h2 := List.all_eq_true.1 h1 i (List.mem_range.2 hij)
 rcases hc with ⟨a, b | b⟩ | ⟨a, b⟩ <;> simpa [a, b] using h2
theorem notEA {ds : List OD} {i : Nat} (h : isAd ds i = true) : isEd ds i = false := by
 unfold isAd isEd at *
 cases hd : ds[i]? with
 | none => rfl
 | some d => rw [hd] at h; cases d <;> first | rfl | cases h
section
variable {P : Program} {nt : Nat} {gl : List Nat} {os : Array Oper} {ds : List OD} {us : List (E → V → E)} {gs : List (Option (Nat × Bool))} {sl : List (List Nat)} {k : KC} {e0 : E} {s0 : St} {r : List (V × E × St)}
theorem theL_len (hreg : RegOk P nt gl os ds us gs sl) : (theL ds os us gs).length = os.size :=
 (mkDTs_len (ds0 := ds) (ord := ordOf os) (k := 0) (hreg.len.2.1.trans hreg.len.1.symm) (hreg.len.2.2.trans hreg.len.1.symm)).trans hreg.len.1
theorem theL_E (hreg : RegOk P nt gl os ds us gs sl) (j : Nat) : (match (theL ds os us gs)[j]? with | some t => t.k.isE | none => false) = isEd ds j := by
 by_cases hj : j < os.size
 · obtain ⟨d, u, g, s, h1, h2, h3, _⟩ := hreg.all j os[j] (by simp [hj])
   have ht := mkDTs_at (ds0 := ds) (ord := ordOf os) (k := 0) h1 h2 h3
   rw [ht]
   unfold isEd
   rw [h1]
   cases d <;> rfl
 · have hl := theL_len hreg
   have h1 := hreg.len.1
   unfold isEd
   rw [List.getElem?_eq_none (by omega), List.getElem?_eq_none (by omega)]
theorem theL_c (hreg : RegOk P nt gl os ds us gs sl) (p : Nat) : cE (theL ds os us gs) p = countB (isEd ds) p := by
 unfold cE
 congr 1
 funext j
 exact theL_E hreg j
theorem Dr.len (h : Dr P nt gl os ds us gs sl k e0 s0 r) : r.length = os.size ∧ (theL ds os us gs).length = os.size := by
 have hl := theL_len h.reg
 have h1 := (drawRun_at h.run).1
 have h2 := h.reg.len.1
 exact ⟨by omega, by omega⟩
theorem Dr.gam_at (h : Dr P nt gl os ds us gs sl k e0 s0 r) : ∀ i, i ≤ os.size → ∀ t, t < 256 → Gt t (eAt e0 r i) = gam os (valsOf r) (fun _ => true) e0 i t
 | 0, _, t, _ => rfl
 | i + 1, hi, t, ht => by
   obtain ⟨d, u, g, s, h1, h2, h3, _, _, h6, _⟩ := h.reg.all i os[i] (by simp [show i < os.size by omega])
   have hl := mkDTs_at (ds0 := ds) (ord := ordOf os) (k := 0) h1 h2 h3
   rw [Nat.zero_add] at hl
   obtain ⟨v, s', _, hr⟩ := (drawRun_at h.run).2 i _ hl
   have he : eAt e0 r (i + 1) = u (eAt e0 r i) v := by simp only [eAt, hr]; rfl
   have hv : valsOf r i = v := by simp [valsOf, hr]
   have ih := Dr.gam_at h i (by omega) t ht
   have ho : os[i]? = some os[i] := by simp [show i < os.size by omega]
   rw [he]
   simp only [gam, true_and, ho, Option.bind_some, hv]
   rcases h6 with ⟨a1, rfl⟩ | ⟨t', a1, a2, a3, rfl⟩
   · rw [a1, if_neg (by simp)]; exact ih
   · rw [Gt_Ut t t' ht a3, a1]
     by_cases e : t = t'
     · subst e; rw [if_pos rfl, if_pos rfl]
     · rw [if_neg e, if_neg (fun e' => e (Option.some.inj e').symm)]; exact ih
structure InvAt (nt : Nat) (gl : List Nat) (os : Array Oper) (ds : List OD) (us : List (E → V → E)) (gs : List (Option (Nat × Bool))) (e0 : E) (s0 : St) (r : List (V × E × St)) (G0 : Pl) (w0 : World) (L : Nat → Bool) (a : Act) (w : World) (p m : Nat) (G : Pl) : Prop where
 cut : Cut ds os.size L p m
 fresh : ∀ b, (sAt s0 r m).next ≤ b → (sAt s0 r m).heap.get b = none
 env : EnvR nt gl G (mkE (gam os (valsOf r) L e0 os.size)) a
 rel : R G (view ds (theL ds os us gs) e0 s0 r L p) w
 dom : ∀ b l, G b = some l → b < (sAt s0 r p).next ∧ l.blk < w.heap.size ∧ ¬ hid ds (theL ds os us gs) e0 s0 r L p b
 go : Go_ G0 s0.heap.get w0 G (view ds (theL ds os us gs) e0 s0 r L p) w
 nx : s0.next ≤ (sAt s0 r m).next
 kp : ∀ b, b < s0.next → G0 b = none → G b = none
def Inv (nt : Nat) (gl : List Nat) (os : Array Oper) (ds : List OD) (us : List (E → V → E)) (gs : List (Option (Nat × Bool))) (e0 : E) (s0 : St) (r : List (V × E × St)) (G0 : Pl) (w0 : World) (L : Nat → Bool) (a : Act) (w : World) : Prop :=
 ∃ p m G, InvAt nt gl os ds us gs e0 s0 r G0 w0 L a w p m G
theorem hid_ge (h : Dr P nt gl os ds us gs sl k e0 s0 r) {L : Nat → Bool} (hc : closedL os L) {p m : Nat} (hcut : Cut ds os.size L p m) {i : Nat} (hA : isAd ds i = true) (hL : L i = false) : m ≤ i := by
 rcases Nat.lt_or_ge i m with hlt | hge
 · exfalso
   rcases hcut.m0 with e | ⟨e1, e2⟩
   · omega
   · have hne : i ≠ m - 1 := fun e => by rw [← e, notEA hA] at e2; cases e2
     have hpn := hcut.pn
     have hmp := hcut.mp
     have hd := h.reg.len.1
     have ho := ok_ord h.ok (i := i) (j := m - 1) (by omega) (by omega) (.inl ⟨e2, .inr hA⟩)
     have := ord_in hc ho (hcut.inL (m - 1) (by omega) e2)
     rw [hL] at this; cases this
 · exact hge
theorem ready_lt (h : Dr P nt gl os ds us gs sl k e0 s0 r) {L : Nat → Bool} (hc : closedL os L) {p m : Nat} (hcut : Cut ds os.size L p m) {i : Nat} (hi : i < os.size) (hA : isAd ds i = true) (hw : ∀ o, os[i]? = some o → ∀ e ∈ o.after, Region.binds .any e = true → L e.on = true) : i < p := by
 rcases Nat.lt_or_ge i p with hlt | hge
 · exact hlt
 · exfalso
   have hpE := hcut.atE (by omega)
   have hne : i ≠ p := fun e => by rw [← e, notEA hA] at hpE; cases hpE
   have hd := h.reg.len.1
   have ho := ok_ord h.ok (i := p) (j := i) (by omega) (by omega) (.inr ⟨hpE, hA⟩)
   have := ord_closed hc i p ho hw
   rw [hcut.outL p (Nat.le_refl _) hpE] at this; cases this
theorem ready_E (h : Dr P nt gl os ds us gs sl k e0 s0 r) {L : Nat → Bool} (hc : closedL os L) {p m : Nat} (hcut : Cut ds os.size L p m) {i : Nat} (hi : i < os.size) (hE : isEd ds i = true) (hiL : L i = false) (hw : ∀ o, os[i]? = some o → ∀ e ∈ o.after, Region.binds .any e = true → L e.on = true) :
 i = p ∧ ∀ b, ¬ hid ds (theL ds os us gs) e0 s0 r L p b := by
 have hd := h.reg.len.1
 have hip : i = p := by
  rcases Nat.lt_trichotomy i p with hlt | he | hgt
  · rw [hcut.inL i hlt hE] at hiL; cases hiL
  · exact he
  · exfalso
    have hpE := hcut.atE (by omega)
    have ho := ok_ord h.ok (i := p) (j := i) hgt (by omega) (.inl ⟨hE, .inl hpE⟩)
    have := ord_closed hc i p ho hw
    rw [hcut.outL p (Nat.le_refl _) hpE] at this; cases this
 refine ⟨hip, fun b ⟨j, h1, h2, h3, _⟩ => ?_⟩
 subst hip
 have ho := ok_ord h.ok (i := j) (j := i) h1 (by omega) (.inl ⟨hE, .inr h2.1⟩)
 have := ord_closed hc i j ho hw
 rw [h3] at this; cases this
theorem cut_m {ds : List OD} {n : Nat} {L : Nat → Bool} {p m m' : Nat} (h : Cut ds n L p m) (h1 : m' ≤ p) (h2 : ∀ j, m' ≤ j → j < p → isEd ds j = false) (h3 : m' = 0 ∨ (0 < m' ∧ isEd ds (m' - 1) = true)) : m' = m := by
 have hmp := h.mp
 rcases Nat.lt_trichotomy m' m with hlt | he | hgt
 · rcases h.m0 with e | ⟨e1, e2⟩
   · omega
   · rw [h2 (m - 1) (by omega) (by omega)] at e2; cases e2
 · exact he
 · rcases h3 with e | ⟨e1, e2⟩
   · omega
   · rw [h.noE (m' - 1) (by omega) (by omega)] at e2; cases e2
theorem Dr.same (h : Dr P nt gl os ds us gs sl k e0 s0 r) {L : Nat → Bool} (hc : closedL os L) {i : Nat} {o : Oper} {s : List Nat} (hi : os[i]? = some o) (hs : sl[i]? = some s) (hs2 : ∀ t, t ∈ s → t < 256) (hiL : L i = false) (hw : ∀ e ∈ o.after, Region.binds .any e = true → L e.on = true) :
 ∀ t, t ∈ s → Gt t (mkE (gam os (valsOf r) L e0 os.size)) = Gt t (eAt e0 r i) := by
 intro t ht
 have hlt := (Array.getElem?_eq_some_iff.1 hi).1
 have hall : ∀ (i : Nat) (o : Oper), os[i]? = some o → ∃ s, sl[i]? = some s := fun i o hio => by
  obtain ⟨d, u, g, s, _, _, _, h4, _⟩ := h.reg.all i o hio
  exact ⟨s, h4⟩
 rw [Gt_mkE _ _ (hs2 t ht), gam_same h.st hall hc hi hs hiL hw ht os.size, Nat.min_eq_right (by omega), h.gam_at i (by omega) t (hs2 t ht)]
theorem Dr.put (h : Dr P nt gl os ds us gs sl k e0 s0 r) {L : Nat → Bool} (hc : closedL os L) {i : Nat} {o : Oper} {u : E → V → E} (hi : os[i]? = some o) (hiL : L i = false) (hu : DstOk nt o.dst u) {G : Pl} {a : Act} (he : EnvR nt gl G (mkE (gam os (valsOf r) L e0 os.size)) a) {v' : Value} (hv : VR G (valsOf r i) v') :
 EnvR nt gl G (mkE (gam os (valsOf r) (fun j => L j || j == i) e0 os.size)) (a.put o.dst v') := by
 have hlt := (Array.getElem?_eq_some_iff.1 hi).1
 have hall : ∀ (i : Nat) (o : Oper), os[i]? = some o → ∃ s, sl[i]? = some s := fun i o hio => by
  obtain ⟨d, u, g, s, _, _, _, h4, _⟩ := h.reg.all i o hio
  exact ⟨s, h4⟩
 obtain ⟨s, hs⟩ := hall i o hi
 refine (he.dst hu hv).congr fun t ht => ?_
 rw [Gt_mkE _ _ ht, gam_put h.st hall hc hi hs hiL os.size hlt]
 rcases hu with ⟨a1, rfl⟩ | ⟨t', a1, a2, a3, rfl⟩
 · rw [a1, if_neg (by simp)]; exact Gt_mkE _ _ ht
 · rw [Gt_Ut t t' ht a3, a1]
   by_cases e : t = t'
   · subst e; rw [if_pos rfl, if_pos rfl]
   · rw [if_neg e, if_neg (fun e' => e (Option.some.inj e').symm), Gt_mkE _ _ ht]
theorem InvAt.quiet {G0 : Pl} {w0 : World} {L : Nat → Bool} {a : Act} {w : World} {p m : Nat} {G : Pl} (hI : InvAt nt gl os ds us gs e0 s0 r G0 w0 L a w p m G) {i : Nat} (hE : isEd ds i = false) (hA : ¬ onA ds (theL ds os us gs) e0 r i) {a' : Act}
 (he : EnvR nt gl G (mkE (gam os (valsOf r) (fun j => L j || j == i) e0 os.size)) a') : InvAt nt gl os ds us gs e0 s0 r G0 w0 (fun j => L j || j == i) a' w p m G := by
 have hh : ∀ b, hid ds (theL ds os us gs) e0 s0 r (fun j => L j || j == i) p b ↔ hid ds (theL ds os us gs) e0 s0 r L p b := by
  intro b
  constructor
  · rintro ⟨j, h1, h2, h3, h4⟩
    rw [Bool.or_eq_false_iff] at h3
    exact ⟨j, h1, h2, h3.1, h4⟩
  · rintro ⟨j, h1, h2, h3, h4⟩
    refine ⟨j, h1, h2, ?_, h4⟩
    rw [Bool.or_eq_false_iff]
    exact ⟨h3, beq_eq_false_iff_ne.2 (fun e => hA (e ▸ h2))⟩
 have hv : view ds (theL ds os us gs) e0 s0 r (fun j => L j || j == i) p = view ds (theL ds os us gs) e0 s0 r L p := by
  funext b; unfold view; rw [propext (hh b)]
 refine ⟨⟨hI.cut.mp, hI.cut.pn, hI.cut.noE, hI.cut.atE, hI.cut.m0, fun j h1 h2 => by rw [hI.cut.inL j h1 h2]; rfl, fun j h1 h2 => ?_⟩, hI.fresh, he, hv ▸ hI.rel, fun b l hb => ?_, hv ▸ hI.go, hI.nx, hI.kp⟩
 · rw [Bool.or_eq_false_iff]
   exact ⟨hI.cut.outL j h1 h2, beq_eq_false_iff_ne.2 (fun e => by rw [e, hE] at h2; cases h2)⟩
 · rw [hh b]; exact hI.dom b l hb
theorem Dr.next (h : Dr P nt gl os ds us gs sl k e0 s0 r) {G0 G : Pl} {w0 w : World} {L : Nat → Bool} (hc : closedL os L) {q : Nat} (hq : q ≤ os.size) (hq0 : q = 0 ∨ (0 < q ∧ isEd ds (q - 1) = true ∧ L (q - 1) = true)) (hin : ∀ j, j < q → isEd ds j = true → L j = true) (hout : ∀ j, q ≤ j → isEd ds j = true → L j = false)
 (hnA : ∀ j, q ≤ j → isAd ds j = true → L j = false) {a : Act} (he : EnvR nt gl G (mkE (gam os (valsOf r) L e0 os.size)) a) (hs : SR G (sAt s0 r q) w) (hg : GoS G0 s0 w0 G (sAt s0 r q) w) :
 Inv nt gl os ds us gs e0 s0 r G0 w0 L a w := by
 obtain ⟨p, h1, h2, h3, h4⟩ := nextE ds os.size q hq
 obtain ⟨c1, c2, c3, c4, c5, c6⟩ := chain h.reg h.run h1 h2 h3 hs.fresh
 have hsub : ∀ b o, view ds (theL ds os us gs) e0 s0 r L p b = some o → (sAt s0 r q).heap.get b = some o := by
  intro b o hb
  unfold view at hb
  split at hb
  · cases hb
  · rename_i hn
    rcases c4 b o hb with h | ⟨i, a1, a2, a3, a4, _⟩
    · exact h
    · exact absurd ⟨i, a2, a3, hnA i a1 a3.1, a4⟩ hn
 refine ⟨p, q, G, ⟨h1, h2, h3, h4, ?_, fun j hj hjE => ?_, fun j hj hjE => hout j (by omega) hjE⟩, hs.fresh, he, hs.r.sub hsub, fun b l hb => ?_, hg.go.sub hsub, hg.nx, hg.kp⟩
 · rcases hq0 with e | ⟨e1, e2, _⟩
   · exact .inl e
   · exact .inr ⟨e1, e2⟩
 · by_cases hjq : j < q
   · exact hin j hjq hjE
   · rw [h3 j (by omega) hj] at hjE; cases hjE
 · obtain ⟨d1, d2⟩ := hs.dom b l hb
   refine ⟨by omega, d2, fun ⟨i, a1, a2, a3, a4⟩ => ?_⟩
   by_cases hiq : i < q
   · rcases hq0 with e | ⟨e1, e2, e3⟩
     · omega
     · have hne : i ≠ q - 1 := fun e => by have := notEA a2.1; rw [e, e2] at this; cases this
       have hd := h.reg.len.1
       have := ord_in hc (ok_ord h.ok (i := i) (j := q - 1) (by omega) (by omega) (.inl ⟨e2, .inr a2.1⟩)) e3
       rw [a3] at this; cases this
   · have := (c5 i (by omega) a1 a2).1
     omega
theorem Dr.made (h : Dr P nt gl os ds us gs sl k e0 s0 r) {G0 : Pl} {w0 : World} {L : Nat → Bool} (hc : closedL os L) {a : Act} {w : World} {p m : Nat} {G : Pl} (hI : InvAt nt gl os ds us gs e0 s0 r G0 w0 L a w p m G) {i : Nat} (hip : i < p) (hiL : L i = false) (hA : onA ds (theL ds os us gs) e0 r i)
 {f : E → Nat → Option (V × Ob)} {v : V} {ob : Ob} (hd : ds[i]? = some (.a f)) (hf : f (eAt e0 r i) (sAt s0 r i).next = some (v, ob)) {w' : World} {obj : Obj} {tot : Nat} (hw : Grew obj w w') (hob : ObR (G.add (sAt s0 r i).next ⟨w.heap.size, 0, tot⟩) w' (sAt s0 r i).next ob) {a' : Act}
 (he : EnvR nt gl (G.add (sAt s0 r i).next ⟨w.heap.size, 0, tot⟩) (mkE (gam os (valsOf r) (fun j => L j || j == i) e0 os.size)) a') :
 InvAt nt gl os ds us gs e0 s0 r G0 w0 (fun j => L j || j == i) a' w' p m (G.add (sAt s0 r i).next ⟨w.heap.size, 0, tot⟩) := by
 have hid0 : hid ds (theL ds os us gs) e0 s0 r L p (sAt s0 r i).next := ⟨i, hip, hA, hiL, rfl⟩
 have hG : G (sAt s0 r i).next = none := by
  cases hq : G (sAt s0 r i).next with
  | none => rfl
  | some l => exact absurd hid0 (hI.dom _ l hq).2.2
 have hmi := hid_ge h hc hI.cut hA.1 hiL
 obtain ⟨c1, c2, c3, c4, c5, c6⟩ := chain h.reg h.run hI.cut.mp hI.cut.pn hI.cut.noE hI.fresh
 have inj : ∀ j, m ≤ j → j < p → onA ds (theL ds os us gs) e0 r j → (sAt s0 r j).next = (sAt s0 r i).next → j = i := by
  intro j h1 h2 h3 h4
  rcases Nat.lt_trichotomy j i with hlt | he | hgt
  · have := c6 j i h1 hlt hip h3 hA; omega
  · exact he
  · have := c6 i j hmi hgt h2 hA h3; omega
 have hh : ∀ b, hid ds (theL ds os us gs) e0 s0 r (fun j => L j || j == i) p b ↔ hid ds (theL ds os us gs) e0 s0 r L p b ∧ b ≠ (sAt s0 r i).next := by
  intro b
  constructor
  · rintro ⟨j, h1, h2, h3, h4⟩
    rw [Bool.or_eq_false_iff] at h3
    refine ⟨⟨j, h1, h2, h3.1, h4⟩, fun e => ?_⟩
    have := inj j (hid_ge h hc hI.cut h2.1 h3.1) h1 h2 (h4.trans e)
    exact beq_eq_false_iff_ne.1 h3.2 this
  · rintro ⟨⟨j, h1, h2, h3, h4⟩, h5⟩
    refine ⟨j, h1, h2, ?_, h4⟩
    rw [Bool.or_eq_false_iff]
    exact ⟨h3, beq_eq_false_iff_ne.2 (fun e => h5 (by rw [← h4, e]))⟩
 obtain ⟨r1, r2⟩ := hI.rel.grew hw (fun b l hb => (hI.dom b l hb).2.1) hG hob
 have hsub : ∀ b o, view ds (theL ds os us gs) e0 s0 r (fun j => L j || j == i) p b = some o → upd (view ds (theL ds os us gs) e0 s0 r L p) (sAt s0 r i).next ob b = some o := by
  intro b o hb
  unfold view at hb
  split at hb
  · cases hb
  · rename_i hn
    unfold upd
    by_cases e : b = (sAt s0 r i).next
    · rw [if_pos e]
      rcases c4 b o hb with h' | ⟨j, a1, a2, a3, a4, f', v', a5, a6⟩
      · have := hI.fresh b (by have := (c5 i hmi hip hA).1; omega)
        rw [this] at h'; cases h'
      · have := inj j a1 a2 a3 (a4.trans e)
        subst this
        rw [hd] at a5; cases a5
        rw [e, hf] at a6; cases a6; rfl
    · rw [if_neg e]
      unfold view
      rw [if_neg (fun hx => hn ((hh b).2 ⟨hx, e⟩))]
      exact hb
 refine ⟨⟨hI.cut.mp, hI.cut.pn, hI.cut.noE, hI.cut.atE, hI.cut.m0, fun j h1 h2 => by rw [hI.cut.inL j h1 h2]; rfl, fun j h1 h2 => ?_⟩, hI.fresh, he, r1.sub hsub, fun b l hb => ?_, (hI.go.trans r2).sub hsub, hI.nx, fun b hb h0 => by have h5 := (c5 i hmi hip hA).1; have h6 := hI.nx; unfold Pl.add; rw [if_neg (by omega)]; exact hI.kp b hb h0⟩
 · rw [Bool.or_eq_false_iff]
   exact ⟨hI.cut.outL j h1 h2, beq_eq_false_iff_ne.2 (fun e => by rw [e, notEA hA.1] at h2; cases h2)⟩
 · unfold Pl.add at hb
   rw [hw.size, hh b]
   by_cases e : b = (sAt s0 r i).next
   · rw [if_pos e] at hb; cases hb
     exact ⟨by rw [e]; exact (c5 i hmi hip hA).2, by simp, fun hx => hx.2 e⟩
   · rw [if_neg e] at hb
     obtain ⟨d1, d2, d3⟩ := hI.dom b l hb
     exact ⟨d1, by omega, fun hx => d3 hx.1⟩
theorem chk1_at {sn : List St} {t : DT} {e : E} {v : V} {lo hi c : Nat} {f : E → St → Option V} {s : St} (h : chk1 sn t e v = true) (ht : t.k = .d lo hi f) (ho : offB t e = some false) (hs : sn[c]? = some s) (h1 : lo ≤ c) (h2 : c ≤ hi) : f e s = some v := by
 unfold chk1 at h
 rw [ht] at h
 have hm : s ∈ (sn.drop lo).take (hi + 1 - lo) := by
  refine List.mem_of_getElem? (i := c - lo) ?_
  rw [List.getElem?_take, if_pos (by omega), List.getElem?_drop, show lo + (c - lo) = c by omega, hs]
 have := List.all_eq_true.1 h s hm
 rw [ho] at this
 simp only at this
 split at this
 · rename_i v' hv'
   rw [hv', sameV_eq this]
 · cases this
theorem ord_lt {os : Array Oper} {sl : List (List Nat)} (hst : steadyL os sl = true) : ∀ (i j : Nat), ordOf os j i = true → j < i := by
 intro i
 induction i using Nat.strongRecOn with
 | ind i ih =>
   intro j h
   obtain ⟨o, ho, e, he, hb, hor⟩ := ord_step h
   have hlt := st_edges hst ho he hb
   rcases hor with h1 | ⟨h1, h2⟩
   · omega
   · have := ih e.on hlt j h1; omega
theorem Dr.quick (h : Dr P nt gl os ds us gs sl k e0 s0 r) {L : Nat → Bool} (hc : closedL os L) {p m : Nat} (hcut : Cut ds os.size L p m) {i : Nat} (hlt : i < os.size) (hiL : L i = false) (hE : isEd ds i = false)
 (hw : ∀ o, os[i]? = some o → ∀ e ∈ o.after, Region.binds .any e = true → L e.on = true) (hq : quickB ds (ordOf os) i = true) : sAt s0 r i = sAt s0 r m := by
 have hlen := h.reg.len.1
 unfold quickB at hq
 rw [Bool.and_eq_true] at hq
 have hnA : ∀ j, isAd ds j = false := fun j => by
  unfold isAd
  cases hd : ds[j]? with
  | none => rfl
  | some d => have := List.all_eq_true.1 hq.1 d (List.mem_of_getElem? hd); simpa using this
 have hcmp : ∀ j, j < os.size → isEd ds j = true → ordOf os j i = true ∨ ordOf os i j = true := fun j hj hjE => by
  have := List.all_eq_true.1 hq.2 j (List.mem_range.2 (by omega))
  rw [hjE] at this; simpa using this
 have hmi : m ≤ i := by
  rcases hcut.m0 with e | ⟨e1, e2⟩
  · omega
  · have hpn := hcut.pn
    have hmp := hcut.mp
    rcases hcmp (m - 1) (by omega) e2 with h1 | h1
    · have := ord_lt h.st _ _ h1; omega
    · have := ord_in hc h1 (hcut.inL (m - 1) (by omega) e2)
      rw [hiL] at this; cases this
 have hip : i < p := by
  rcases Nat.lt_or_ge i p with h' | hge
  · exact h'
  · exfalso
    have hpE := hcut.atE (by omega)
    rcases hcmp p (by omega) hpE with h1 | h1
    · have := ord_closed hc i p h1 hw
      rw [hcut.outL p (Nat.le_refl _) hpE] at this; cases this
    · have := ord_lt h.st _ _ h1; omega
 have key : ∀ n, m + n ≤ i → sAt s0 r (m + n) = sAt s0 r m := by
  intro n
  induction n with
  | zero => intro _; rfl
  | succ n ih =>
    intro hn
    have hj : m + n < os.size := by omega
    obtain ⟨d, u, g, s, h1, h2, h3, _⟩ := h.reg.all (m + n) os[m + n] (by simp [hj])
    have hat := mkDTs_at (ds0 := ds) (ord := ordOf os) (k := 0) h1 h2 h3
    rw [Nat.zero_add] at hat
    obtain ⟨v, s', hst, hr⟩ := (drawRun_at h.run).2 (m + n) _ hat
    have hs1 : sAt s0 r (m + n + 1) = s' := by simp only [sAt, hr]
    rw [← Nat.add_assoc, hs1, ← ih (by omega)]
    have hnE := hcut.noE (m + n) (by omega) (by omega)
    have hnAj := hnA (m + n)
    unfold isEd at hnE
    unfold isAd at hnAj
    rw [h1] at hnE hnAj
    unfold drawStep at hst
    split at hst
    · cases hst
    · cases hst; rfl
    · cases d with
      | p f => simp only [mkDT] at hst; split at hst <;> cases hst; rfl
      | d f => simp only [mkDT] at hst; split at hst <;> cases hst; rfl
      | a f => cases hnAj
      | e f => cases hnE
 have := key (i - m) (by omega)
 rwa [show m + (i - m) = i by omega] at this
theorem Dr.step (h : Dr P nt gl os ds us gs sl k e0 s0 r) (hk : KOk P gl k) {G0 : Pl} {w0 : World} {L : Nat → Bool} (hc : closedL os L) {a : Act} {w : World} (hI : Inv nt gl os ds us gs e0 s0 r G0 w0 L a w) {i : Nat} {o : Oper} (hi : os[i]? = some o) (hiL : L i = false)
 (hwt : ∀ e ∈ o.after, Region.binds .any e = true → L e.on = true) {K : Act → World → Prop} {Q : Exit → Act → World → Prop} (hK : ∀ a' w', Inv nt gl os ds us gs e0 s0 r G0 w0 (fun j => L j || j == i) a' w' → K a' w') : wpOp P os Q i K a w := by
 obtain ⟨p, m, G, hI⟩ := hI
 have hlt := (Array.getElem?_eq_some_iff.1 hi).1
 obtain ⟨d, u, g, s, h1, h2, h3, h4, hod, hdst, hgd, hsame, hgs, hs2⟩ := h.reg.all i o hi
 have hat := mkDTs_at (ds0 := ds) (ord := ordOf os) (k := 0) h1 h2 h3
 rw [Nat.zero_add] at hat
 obtain ⟨v, s', hst, hr⟩ := (drawRun_at h.run).2 i _ hat
 have hv : valsOf r i = v := by simp [valsOf, hr]
 have hs1 : sAt s0 r (i + 1) = s' := by simp only [sAt, hr]
 have hslot := h.same hc hi h4 hs2 hiL hwt
 have hS := hsame _ _ hslot
 have hwt' : ∀ o', os[i]? = some o' → ∀ e ∈ o'.after, Region.binds .any e = true → L e.on = true := fun o' ho' => by rw [hi] at ho'; cases ho'; exact hwt
 have hput : ∀ {G' : Pl} {v' : Value}, G.le G' → VR G' v v' → EnvR nt gl G' (mkE (gam os (valsOf r) (fun j => L j || j == i) e0 os.size)) (a.put o.dst v') := fun hle hvv => h.put hc hi hiL hdst (hI.env.mono hle) (by rw [hv]; exact hvv)
 have hc' : closedL os (fun j => L j || j == i) := by
  intro j oj hj hjL e he hb
  have hjL : (L j || j == i) = true := hjL
  rw [Bool.or_eq_true] at hjL
  rcases hjL with hjL | hjL
  · have := hc j oj hj hjL e he hb
    simp [this]
  · have hji : j = i := by simpa using hjL
    subst hji
    rw [hi] at hj; cases hj
    have := hwt e he hb
    simp [this]
 have hEk : isEd ds i = true → ∀ {G' : Pl} {a' : Act} {w' : World}, EnvR nt gl G' (mkE (gam os (valsOf r) (fun j => L j || j == i) e0 os.size)) a' → SR G' (sAt s0 r (i + 1)) w' → GoS G0 s0 w0 G' (sAt s0 r (i + 1)) w' → Inv nt gl os ds us gs e0 s0 r G0 w0 (fun j => L j || j == i) a' w' := by
  intro hE G' a' w' he hs hg
  obtain ⟨hip, hnh⟩ := ready_E h hc hI.cut hlt hE hiL hwt'
  have hlen := h.reg.len.1
  refine h.next hc' (q := i + 1) hlt (.inr ⟨by omega, by simpa using hE, by simp⟩) (fun j hj hjE => ?_) (fun j hj hjE => ?_) (fun j hj hjA => ?_) he hs hg
  · rw [Bool.or_eq_true]
    by_cases hji : j = i
    · exact .inr (by simp [hji])
    · exact .inl (hI.cut.inL j (by omega) hjE)
  · rw [Bool.or_eq_false_iff]
    exact ⟨hI.cut.outL j (by omega) hjE, beq_eq_false_iff_ne.2 (by omega)⟩
  · rw [Bool.or_eq_false_iff]
    refine ⟨?_, beq_eq_false_iff_ne.2 (by omega)⟩
    cases hq : L j with
    | false => rfl
    | true =>
      by_cases hjl : j < os.size
      · have := ord_in hc (ok_ord h.ok (i := i) (j := j) (by omega) (by omega) (.inr ⟨hE, hjA⟩)) hq
        rw [hiL] at this; cases this
      · unfold isAd at hjA
        rw [List.getElem?_eq_none (by omega)] at hjA; cases hjA
 have hEs : isEd ds i = true → SR G (sAt s0 r i) w ∧ GoS G0 s0 w0 G (sAt s0 r i) w := by
  intro hE
  obtain ⟨hip, hnh⟩ := ready_E h hc hI.cut hlt hE hiL hwt'
  subst hip
  obtain ⟨c1, c2, c3, c4, c5, c6⟩ := chain h.reg h.run hI.cut.mp hI.cut.pn hI.cut.noE hI.fresh
  have hview : view ds (theL ds os us gs) e0 s0 r L i = (sAt s0 r i).heap.get := by
   funext b; unfold view; rw [if_neg (hnh b)]
  exact ⟨⟨hview ▸ hI.rel, c2, fun b l hb => ⟨(hI.dom b l hb).1, (hI.dom b l hb).2.1⟩⟩, ⟨hview ▸ hI.go, Nat.le_trans hI.nx c1, hI.kp⟩⟩
 unfold wpOp
 rw [hi]
 simp only
 have hoffe : offB (mkDT ds (ordOf os) i d u g) (mkE (gam os (valsOf r) L e0 os.size)) = offB (mkDT ds (ordOf os) i d u g) (eAt e0 r i) := by
  unfold offB mkDT
  cases g with
  | none => rfl
  | some q => simp only; rw [hslot q.1 (hgs q.1 (by simp [slG]))]
 unfold drawStep at hst
 cases ho : offB (mkDT ds (ordOf os) i d u g) (eAt e0 r i) with
 | none => rw [ho] at hst; cases hst
 | some b =>
   have hwd := wanted_of (t := mkDT ds (ordOf os) i d u g) hgd hI.env (hoffe.trans ho)
   rw [hwd]
   rw [ho] at hst
   have hnA : (∀ f, d ≠ .a f) → ¬ onA ds (theL ds os us gs) e0 r i := by
    rintro hdd ⟨a1, _⟩
    unfold isAd at a1; rw [h1] at a1
    cases d <;> first | exact hdd _ rfl | cases a1
   cases b with
   | true =>
     cases hst
     simp only [Bool.not_true, Bool.false_eq_true, if_false]
     refine hK _ _ ?_
     have henv := hput (v' := undef) (Pl.le_refl G) (.tup _ _ .nil)
     cases hE : isEd ds i with
     | true =>
       obtain ⟨e1, e2⟩ := hEs hE
       exact hEk hE henv (hs1 ▸ e1) (hs1 ▸ e2)
     | false =>
       refine ⟨p, m, G, hI.quiet hE (fun ⟨_, t, a1, a2⟩ => ?_) henv⟩
       rw [hat] at a1; cases a1; rw [ho] at a2; cases a2
   | false =>
     simp only [Bool.not_false, if_true]
     refine .inl ?_
     cases d with
     | p f =>
       simp only [mkDT] at hst
       split at hst
       · rename_i v1 hf
         cases hst
         have hS : f (mkE (gam os (valsOf r) L e0 os.size)) = f (eAt e0 r i) := hS
         obtain ⟨v', b1, b2⟩ := hod G _ a w v (hS.trans hf) hI.env
         refine (Did.value (post := fun v' w' => Inv nt gl os ds us gs e0 s0 r G0 w0 (fun j => L j || j == i) (a.put o.dst v') w') b1 ?_).wp fun _ _ hh => hK _ _ hh
         exact ⟨p, m, G, hI.quiet (by simp [isEd, h1, OD.isE]) (hnA (by simp)) (hput (Pl.le_refl G) b2)⟩
       · cases hst
     | d f =>
       have hE : isEd ds i = false := by simp [isEd, h1, OD.isE]
       simp only [mkDT] at hst
       split at hst
       · rename_i v1 hf
         cases hst
         obtain ⟨m', q1, q2, q3, q4⟩ := snaps_at (s := s0) (l := theL ds os us gs) (r := r) (h.len.1.trans h.len.2.symm) p (h.len.2 ▸ hI.cut.pn)
         have tE : ∀ j t, (theL ds os us gs)[j]? = some t → t.k.isE = isEd ds j := fun j t ht => by
          have := theL_E h.reg j
          rw [ht] at this; exact this
         have hm : m' = m := cut_m hI.cut q1 (fun j hj1 hj2 => by
          have hlj : j < (theL ds os us gs).length := by rw [h.len.2]; have := hI.cut.pn; omega
          rw [← tE j _ (List.getElem?_eq_getElem hlj)]
          exact q3 j _ hj1 hj2 (List.getElem?_eq_getElem hlj)) (by
          rcases q4 with e | ⟨t, t1, t2⟩
          · exact .inl e
          · by_cases e : m' = 0
            · exact .inl e
            · exact .inr ⟨by omega, by rw [← tE _ _ t1]; exact t2⟩)
         subst hm
         rw [theL_c h.reg] at q2
         have hlen := h.reg.len.1
         have hcut := countB_cut (p := isEd ds) (m := p) (n := ds.length) (by have := hI.cut.pn; omega)
         have hfs : f (eAt e0 r i) (sAt s0 r m') = some v := by
          by_cases hqk : quickB ds (ordOf os) i = true
          · rw [← h.quick hc hI.cut hlt hiL hE hwt' hqk]; exact hf
          refine chk1_at (c := countB (isEd ds) p) (chks_at h.chk (h.len.1.trans h.len.2.symm) i _ _ _ _ hat hr) (by simp only [mkDT]; rw [if_neg hqk, if_neg hqk]) ho q2
           (by
            rw [hcut]
            refine countB_le fun j hj hb => ?_
            rw [Bool.and_eq_true] at hb ⊢
            refine ⟨hb.1, decide_eq_true ?_⟩
            rcases Nat.lt_or_ge j p with hjp | hjp
            · exact hjp
            · have := ord_closed hc i j hb.2 hwt'
              rw [hI.cut.outL j hjp hb.1] at this; cases this)
           (by
            rw [hcut]
            refine countB_le fun j hj hb => ?_
            rw [Bool.and_eq_true] at hb ⊢
            refine ⟨hb.1, ?_⟩
            cases hq : ordOf os i j with
            | false => rfl
            | true =>
              have := ord_in hc hq (hI.cut.inL j (by simpa using hb.2) hb.1)
              rw [hiL] at this; cases this)
         obtain ⟨c1, c2, c3, c4, c5, c6⟩ := chain h.reg h.run hI.cut.mp hI.cut.pn hI.cut.noE hI.fresh
         have hS : ∀ s, f (mkE (gam os (valsOf r) L e0 os.size)) s = f (eAt e0 r i) s := hS
         obtain ⟨v', b1, b2⟩ := hod G _ a _ w v ((hS _).trans hfs) hI.env (hI.rel.sub fun b o hb => by
          unfold view
          rw [if_neg, c3 b o hb]
          rintro ⟨j, a1, a2, a3, a4⟩
          have hge := (c5 j (hid_ge h hc hI.cut a2.1 a3) a1 a2).1
          rw [hI.fresh b (by omega)] at hb; cases hb)
         refine (Did.value (post := fun v' w' => Inv nt gl os ds us gs e0 s0 r G0 w0 (fun j => L j || j == i) (a.put o.dst v') w') b1 ?_).wp fun _ _ hh => hK _ _ hh
         exact ⟨p, m', G, hI.quiet hE (hnA (by simp)) (hput (Pl.le_refl G) b2)⟩
       · cases hst
     | a f =>
       have hAd : isAd ds i = true := by simp [isAd, h1, OD.isA]
       have hA : onA ds (theL ds os us gs) e0 r i := ⟨hAd, _, hat, ho⟩
       have hip := ready_lt h hc hI.cut hlt hAd hwt'
       simp only [mkDT] at hst
       split at hst
       · rename_i v1 ob hf
         cases hst
         have hG : G (sAt s0 r i).next = none := by
          cases hq : G (sAt s0 r i).next with
          | none => rfl
          | some l => exact absurd ⟨i, hip, hA, hiL, rfl⟩ (hI.dom _ l hq).2.2
         have hS : ∀ n, f (mkE (gam os (valsOf r) L e0 os.size)) n = f (eAt e0 r i) n := hS
         obtain ⟨v', obj, tot, w', b1, b2, b3, b4⟩ := hod G _ a _ w v ob ((hS _).trans hf) hI.env hG
         refine (Did.value (post := fun v' w' => Inv nt gl os ds us gs e0 s0 r G0 w0 (fun j => L j || j == i) (a.put o.dst v') w') b1 ?_).wp fun _ _ hh => hK _ _ hh
         exact ⟨p, m, _, h.made hc hI hip hiL hA h1 hf b2 b4 (hput (Pl.le_add hG) b3)⟩
       · cases hst
     | e f =>
       have hE : isEd ds i = true := by simp [isEd, h1, OD.isE]
       obtain ⟨e1, e2⟩ := hEs hE
       have hS : ∀ k s, f k (mkE (gam os (valsOf r) L e0 os.size)) s = f k (eAt e0 r i) s := hS
       have hf : f k (eAt e0 r i) (sAt s0 r i) = some (v, s') := hst
       have hdid := hod k hk G _ a _ w v s' ((hS k _).trans hf) hI.env e1
       refine hdid.wp ?_
       rintro v' w' ⟨G', g1, g2, g3⟩
       exact hK _ _ (hEk hE (hput g1.le g3) (hs1 ▸ g2) (e2.trans (hs1 ▸ g1)))
theorem Dr.any (h : Dr P nt gl os ds us gs sl k e0 s0 r) (hk : KOk P gl k) {G0 : Pl} {w0 : World} {Q : Exit → Act → World → Prop} (hQ : ∀ L a w, (∀ i, i < os.size → L i = true) → Inv nt gl os ds us gs e0 s0 r G0 w0 L a w → Q .normal a w) :
 ∀ (fuel : Nat) (listed : Array Bool) (a : Act) (w : World), listed.size = os.size → closedL os (fun j => listed.getD j false) → (listed.toList.filter (· == false)).length ≤ fuel → Inv nt gl os ds us gs e0 s0 r G0 w0 (fun j => listed.getD j false) a w →
   wpAny P .any os Q fuel listed a w := by
 have done : ∀ (listed : Array Bool) (a : Act) (w : World), listed.size = os.size → Region.ready .any os listed = [] → Inv nt gl os ds us gs e0 s0 r G0 w0 (fun j => listed.getD j false) a w → Q .normal a w := by
  intro listed a w hsz hr hC
  refine hQ _ a w ?_ hC
  intro i
  induction i using Nat.strongRecOn with
  | ind i ih =>
    intro hlt
    by_cases hb : listed.getD i false = true
    · exact hb
    · exfalso
      have : i ∈ Region.ready .any os listed := mem_ready.2 ⟨by
       have hlt' : i < listed.size := by omega
       simp [hlt'] at hb ⊢; exact hb, os[i], by simp [hlt], fun e he hbd => by
       have hlt2 := st_edges h.st (j := i) (oj := os[i]) (by simp [hlt]) he hbd
       exact ih e.on hlt2 (by omega)⟩
      rw [hr] at this; cases this
 intro fuel
 induction fuel with
 | zero =>
   intro listed a w hsz hcl hf hC
   have hr : Region.ready .any os listed = [] := by
    by_cases he : Region.ready .any os listed = []
    · exact he
    · exfalso
      obtain ⟨j, hj⟩ := List.exists_mem_of_ne_nil _ he
      have h0 := (mem_ready.1 hj).1
      have hlt : j < listed.size := by
       rcases Nat.lt_or_ge j listed.size with h | h
       · exact h
       · simp [Array.getElem?_eq_none h] at h0
      have hm : listed[j] ∈ listed.toList.filter (· == false) := List.mem_filter.2 ⟨by simp, by simp [hlt] at h0; simp [h0]⟩
      have : 0 < (listed.toList.filter (· == false)).length := List.length_pos_of_mem hm
      omega
   exact ⟨hr, done listed a w hsz hr hC⟩
 | succ fuel ih =>
   intro listed a w hsz hcl hf hC
   refine ⟨fun hr => done listed a w hsz hr hC, fun i hi => ?_⟩
   obtain ⟨h0, o, ho, hall⟩ := mem_ready.1 hi
   have hlt : i < listed.size := by rw [hsz]; exact (Array.getElem?_eq_some_iff.1 ho).1
   have hiL : listed.getD i false = false := by simp [hlt] at h0 ⊢; exact h0
   have hset : (fun j => (listed.setIfInBounds i true).getD j false) = (fun j => listed.getD j false || j == i) := by
    funext j
    by_cases hij : i = j
    · subst hij; simp [hlt]
    · rw [getD_set_ne false hij]
      have : (j == i) = false := beq_eq_false_iff_ne.2 (Ne.symm hij)
      simp [this]
   refine h.step hk hcl hC ho hiL hall fun a' w' hI' => ih (listed.setIfInBounds i true) a' w' (by simpa using hsz) ?_ ?_ (by rw [hset]; exact hI')
   · intro j oj hj hL e he hb
     rw [hset] at hL ⊢
     simp only [Bool.or_eq_true] at hL ⊢
     rcases hL with hL | hL
     · exact .inl (hcl j oj hj hL e he hb)
     · have : j = i := by simpa using hL
       subst this
       rw [ho] at hj; cases hj
       exact .inl (hall e he hb)
   · have hL : listed.toList = listed.toList.take i ++ listed[i] :: listed.toList.drop (i + 1) := by
      have hl : i < listed.toList.length := by rw [Array.length_toList]; exact hlt
      have h := List.getElem_cons_drop (h := hl)
      rw [show listed[i] = listed.toList[i] from by simp, h, List.take_append_drop]
     have hb : listed[i] = false := by simp [hlt] at hiL; exact hiL
     have h1 : (listed.toList.filter (· == false)).length = ((listed.toList.take i).filter (· == false)).length + 1 + ((listed.toList.drop (i + 1)).filter (· == false)).length := by
      conv => lhs; rw [hL, List.filter_append, List.filter_cons, hb]
      simp only [BEq.rfl, if_true, List.length_append, List.length_cons]; omega
     have h2 : ((listed.setIfInBounds i true).toList.filter (· == false)).length = ((listed.toList.take i).filter (· == false)).length + ((listed.toList.drop (i + 1)).filter (· == false)).length := by
      rw [Array.toList_setIfInBounds, List.set_eq_take_append_cons_drop, if_pos (by rw [Array.length_toList]; exact hlt), List.filter_append, List.filter_cons]; simp
     omega
end
theorem Snd.draw {P : Program} {nt : Nat} {gl : List Nat} {os : Array Oper} {ds : List OD} {us : List (E → V → E)} {gs : List (Option (Nat × Bool))} {sl : List (List Nat)} {id : Nat} (hm : P.follows .mixedOrders = true)
 (hreg : RegOk P nt gl os ds us gs sl) (hst : steadyL os sl = true) (hok : okE os ds = true) : Snd P nt gl (.region id os true) (dDraw (theL ds os us gs)) := by
 intro k hk G e a s w hne he hs
 unfold dDraw at hne ⊢
 cases hrun : drawRun k (theL ds os us gs) e s with
 | none => rw [hrun] at hne; exact absurd rfl hne
 | some r =>
   rw [hrun] at hne
   simp only at hne ⊢
   cases hchk : chks (snaps s (theL ds os us gs) r) (theL ds os us gs) e r with
   | false => rw [hchk] at hne; exact absurd rfl hne
   | true =>
     rw [hchk] at hne
     simp only at hne ⊢
     have D : Dr P nt gl os ds us gs sl k e s r := ⟨hreg, hst, hok, hrun, hchk⟩
     refine wp_region_any hm ?_
     have hfalse : (fun j => (Array.replicate os.size false).getD j false) = fun _ => false := by
      funext j
      rcases Nat.lt_or_ge j os.size with hj | hj
      · simp [hj]
      · have : (Array.replicate os.size false)[j]? = none := Array.getElem?_eq_none (by simpa using hj)
        simp [this]
     have hgf : ∀ n t, gam os (valsOf r) (fun _ => false) e n t = Gt t e := by
      intro n t
      induction n with
      | zero => rfl
      | succ n ih => simp [gam, ih]
     refine D.any hk (G0 := G) (w0 := w) (fun L a' w' hall hI => ?_) os.size _ a _ (by simp) ?_ (by simp) ?_
     · obtain ⟨p, m, G', hI⟩ := hI
       have hp : p = os.size := by
        rcases Nat.lt_or_ge p os.size with hlt | hge
        · have h1 := hI.cut.outL p (Nat.le_refl _) (hI.cut.atE hlt)
          rw [hall p hlt] at h1; cases h1
        · have := hI.cut.pn; omega
       subst hp
       have hnh : ∀ b, ¬ hid ds (theL ds os us gs) e s r L os.size b := fun b ⟨i, h1, _, h3, _⟩ => by rw [hall i h1] at h3; cases h3
       have hview : view ds (theL ds os us gs) e s r L os.size = (sAt s r os.size).heap.get := by
        funext b; unfold view; rw [if_neg (hnh b)]
       obtain ⟨c1, c2, _⟩ := chain D.reg D.run hI.cut.mp hI.cut.pn hI.cut.noE hI.fresh
       have hl : lastOf e s r = .nrm (eAt e r os.size) (sAt s r os.size) := by rw [lastOf_eq, D.len.1]
       rw [hl]
       refine ⟨rfl, G', hI.env.congr fun t ht => ?_, ⟨hview ▸ hI.rel, c2, fun b l hb => ⟨(hI.dom b l hb).1, (hI.dom b l hb).2.1⟩⟩, ⟨hview ▸ hI.go, Nat.le_trans hI.nx c1, hI.kp⟩⟩
       rw [Gt_mkE _ _ ht, D.gam_at os.size (Nat.le_refl _) t ht]
       have : ∀ n, n ≤ os.size → gam os (valsOf r) L e n t = gam os (valsOf r) (fun _ => true) e n t := by
        intro n
        induction n with
        | zero => intro _; rfl
        | succ n ih => intro hn; simp only [gam, hall n (by omega), ih (by omega)]
       exact this _ (Nat.le_refl _)
     · rw [hfalse]; intro j oj _ hL; cases hL
     · rw [hfalse]
       refine D.next (q := 0) (fun j oj _ hL => by cases hL) (by omega) (.inl rfl) (fun j hj => by omega) (fun _ _ _ => rfl) (fun _ _ _ => rfl) (he.congr fun t ht => ?_) (SR.drew hs) (GoS.refl _ _ _).drew
       rw [Gt_mkE _ _ ht, hgf]
end
end Go.Proofs.YtgkcpceppmppfaaLab
/- The lab: what is lowered stands for the code. On the program: that it follows mixed orders. -/
namespace Go.Proofs.YtgkcpceppmppfaaLab
open Go
set_option linter.unusedVariables false
noncomputable section
section
variable {P : Program} {tt : TT} (H : TOk P tt) {nt : Nat} {gl : List Nat} {fok : T Bool} (hfok : ∀ f, fok.get f = some true → FOk P f)
theorem lowOps_at : ∀ {l : List Oper} {ds : List OD}, lowOps tt gl fok l = some ds → ds.length = l.length ∧ ∀ (i : Nat) (o : Oper), l[i]? = some o → ∃ d, denLO fok (lowOpS tt gl fok o) = some d ∧ ds[i]? = some d
 | [], ds, h => by cases h; exact ⟨rfl, fun i o hi => by simp at hi⟩
 | x :: l, ds, h => by
   unfold lowOps at h
   split at h
   · rename_i d r h1 h2
     cases h
     obtain ⟨a1, a2⟩ := lowOps_at h2
     refine ⟨by simp [a1], fun i o hi => ?_⟩
     cases i with
     | zero => cases hi; exact ⟨d, h1, rfl⟩
     | succ i =>
       obtain ⟨d', b1, b2⟩ := a2 i o (by simpa using hi)
       exact ⟨d', b1, by simpa using b2⟩
   · cases h
theorem lowUs_at : ∀ {l : List Oper} {us : List (E → V → E)}, lowUs nt l = some us → us.length = l.length ∧ ∀ (i : Nat) (o : Oper), l[i]? = some o → ∃ u, us[i]? = some u ∧ DstOk nt o.dst u
 | [], us, h => by cases h; exact ⟨rfl, fun i o hi => by simp at hi⟩
 | x :: l, us, h => by
   unfold lowUs at h
   split at h
   · rename_i u r h1 h2
     cases h
     obtain ⟨a1, a2⟩ := lowUs_at h2
     refine ⟨by simp [a1], fun i o hi => ?_⟩
     cases i with
     | zero => cases hi; exact ⟨u, rfl, dstG_ok h1⟩
     | succ i =>
       obtain ⟨u', b1, b2⟩ := a2 i o (by simpa using hi)
       exact ⟨u', by simpa using b1, b2⟩
   · cases h
theorem lowGs_at {os : Array Oper} : ∀ {l : List Oper} {gs : List (Option (Nat × Bool))}, lowGs os l = some gs → gs.length = l.length ∧ ∀ (i : Nat) (o : Oper), l[i]? = some o → ∃ g, gs[i]? = some g ∧ lowGuard os o = some g
 | [], gs, h => by cases h; exact ⟨rfl, fun i o hi => by simp at hi⟩
 | x :: l, gs, h => by
   unfold lowGs at h
   split at h
   · rename_i g r h1 h2
     cases h
     obtain ⟨a1, a2⟩ := lowGs_at h2
     refine ⟨by simp [a1], fun i o hi => ?_⟩
     cases i with
     | zero => cases hi; exact ⟨g, rfl, h1⟩
     | succ i =>
       obtain ⟨u', b1, b2⟩ := a2 i o (by simpa using hi)
       exact ⟨u', by simpa using b1, b2⟩
   · cases h
theorem lowSl_at : ∀ {l : List Oper} {gs : List (Option (Nat × Bool))} {i : Nat} {o : Oper} {g : Option (Nat × Bool)}, l[i]? = some o → gs[i]? = some g → (lowSl tt gl fok l gs)[i]? = some (slots (lowOpS tt gl fok o) ++ slG g)
 | [], gs, i, o, g, h, _ => by simp at h
 | _ :: _, [], i, o, g, _, h => by simp at h
 | x :: l, y :: gs, 0, o, g, h1, h2 => by cases h1; cases h2; simp [lowSl]
 | x :: l, y :: gs, i + 1, o, g, h1, h2 => by
   have := lowSl_at (l := l) (gs := gs) (i := i) (by simpa using h1) (by simpa using h2)
   simpa [lowSl] using this
theorem dstG_u {d : Option Nat} {u : E → V → E} (h : dstG nt d = some u) : u = uOf d := by
 cases d with
 | none => cases h; rfl
 | some t => simp only [dstG] at h; split at h <;> cases h; rfl
theorem seq_fi {os : Array Oper} : ∀ {l : List Oper} {ds : List OD} {us : List (E → V → E)} {gs : List (Option (Nat × Bool))}, lowOps tt gl fok l = some ds → lowUs nt l = some us → lowGs os l = some gs →
 seqItems ds us gs = List.zipWith itemD ds (mkFIs tt gl fok l gs) ∧ (∀ (i : Nat) (x : FI), (mkFIs tt gl fok l gs)[i]? = some x → ∃ d, ds[i]? = some d ∧ denLO fok x.lo = some d) ∧ ds.length = (mkFIs tt gl fok l gs).length
 | [], ds, us, gs, h1, h2, h3 => by cases h1; cases h2; cases h3; exact ⟨rfl, fun i x h => by simp [mkFIs] at h, rfl⟩
 | o :: l, ds, us, gs, h1, h2, h3 => by
   unfold lowOps at h1
   unfold lowUs at h2
   unfold lowGs at h3
   split at h1
   · rename_i d r e1 e2
     cases h1
     split at h2
     · rename_i u ru e3 e4
       cases h2
       split at h3
       · rename_i g rg e5 e6
         cases h3
         obtain ⟨a1, a2, a3⟩ := seq_fi e2 e4 e6
         refine ⟨?_, fun i x hx => ?_, by simp [mkFIs, a3]⟩
         · simp only [seqItems, mkFIs, List.zipWith_cons_cons, a1, dstG_u e3]
           congr 1
         · cases i with
           | zero => cases hx; exact ⟨d, rfl, e1⟩
           | succ i => simpa using a2 i x (by simpa [mkFIs] using hx)
       · cases h3
     · cases h2
   · cases h1
theorem OpDo.den {o : Oper} {d : OD} {u : E → V → E} (h : OdOk P nt gl o d) (hd : DstOk nt o.dst u) : OpDo P nt gl o (d.den u) := by
 cases d with
 | p f => exact OpDo.p h hd
 | d f => exact OpDo.d h hd
 | a f => exact OpDo.a h hd
 | e f => exact OpDo.e h hd
include H hfok in
theorem items_ok {os : Array Oper} : ∀ (l : List Oper) (ds : List OD) (us : List (E → V → E)) (gs : List (Option (Nat × Bool))), ds.length = l.length → us.length = l.length → gs.length = l.length → (∀ (i : Nat) (o : Oper), l[i]? = some o → ∃ d, denLO fok (lowOpS tt gl fok o) = some d ∧ ds[i]? = some d) → (∀ (i : Nat) (o : Oper), l[i]? = some o → ∃ u, us[i]? = some u ∧ DstOk nt o.dst u) → (∀ (i : Nat) (o : Oper), l[i]? = some o → ∃ g, gs[i]? = some g ∧ lowGuard os o = some g) →
 OpsSnd P nt gl os l (seqItems ds us gs) := by
 intro l
 induction l with
 | nil => intro ds us gs l1 l2 l3 _ _ _; cases ds with | nil => exact .nil | cons => cases l1
 | cons o l ih =>
   intro ds us gs l1 l2 l3 p1 p2 p3
   cases ds with
   | nil => cases l1
   | cons d ds =>
     cases us with
     | nil => cases l2
     | cons u us =>
       cases gs with
       | nil => cases l3
       | cons g gs =>
         obtain ⟨d', x2, x3⟩ := p1 0 o rfl
         cases x3
         obtain ⟨u', y1, y2⟩ := p2 0 o rfl
         cases y1
         obtain ⟨g', z1, z2⟩ := p3 0 o rfl
         cases z1
         refine .cons ?_ (ih ds us gs (by simpa using l1) (by simpa using l2) (by simpa using l3) (fun i o hi => by simpa using p1 (i + 1) o (by simpa using hi)) (fun i o hi => by simpa using p2 (i + 1) o (by simpa using hi)) (fun i o hi => by simpa using p3 (i + 1) o (by simpa using hi)))
         have hdo := OpDo.den (lowOpS_ok H hfok x2) y2
         unfold lowGuard at z2
         cases hg : o.guard with
         | none =>
           rw [hg] at z2; cases z2
           exact OpSnd.plain hdo hg
         | some p =>
           obtain ⟨j, want⟩ := p
           rw [hg] at z2
           simp only at z2
           split at z2
           · rename_i t ht
             split at z2
             · rename_i ht2
               cases z2
               exact OpSnd.guard hdo hg ht ht2 y2
             · cases z2
           · cases z2
theorem chks_quick {sn : List St} : ∀ {l : List DT} {e : E} {r : List (V × E × St)}, (∀ t, t ∈ l → match t.k with | .d lo hi _ => hi + 1 - lo = 0 | _ => True) → chks sn l e r = true
 | [], e, r, _ => by cases r <;> rfl
 | t :: l, e, [], _ => rfl
 | t :: l, e, (v, e', s') :: r, h => by
   have h1 : chk1 sn t e v = true := by
    have := h t List.mem_cons_self
    unfold chk1
    split
    · rename_i lo hi f hk
      rw [hk] at this
      simp only at this
      rw [this]; rfl
    · rfl
   unfold chks
   rw [h1]
   exact chks_quick fun t ht => h t (List.mem_cons_of_mem _ ht)
theorem run_ops {ds0 : List OD} {ord : Nat → Nat → Bool} {k : KC} : ∀ (ds : List OD) (us : List (E → V → E)) (gs : List (Option (Nat × Bool))) (i : Nat) (e : E) (s : St), us.length = ds.length → gs.length = ds.length →
 (match drawRun k (mkDTs ds0 ord i ds us gs) e s with | none => Res.bad | some r => lastOf e s r) = ops (seqItems ds us gs) k e s
 | [], us, gs, i, e, s, _, _ => by cases us <;> cases gs <;> rfl
 | d :: ds, [], gs, i, e, s, h, _ => by cases h
 | d :: ds, u :: us, [], i, e, s, _, h => by cases h
 | d :: ds, u :: us, g :: gs, i, e, s, h1, h2 => by
   have ih : ∀ e s, (match drawRun k (mkDTs ds0 ord (i + 1) ds us gs) e s with | none => Res.bad | some r => lastOf e s r) = ops (seqItems ds us gs) k e s := fun e s => run_ops ds us gs (i + 1) e s (by simpa using h1) (by simpa using h2)
   have step : ∀ x : Option (V × St), (match (match x with | none => (none : Option (List (V × E × St))) | some (v, s') => match drawRun k (mkDTs ds0 ord (i + 1) ds us gs) (u e v) s' with | none => none | some r => some ((v, u e v, s') :: r)) with | none => Res.bad | some r => lastOf e s r) = (match x with | none => Res.bad | some (v, s') => ops (seqItems ds us gs) k (u e v) s') := by
    intro x
    cases x with
    | none => rfl
    | some p =>
      obtain ⟨v, s'⟩ := p
      simp only
      rw [← ih]
      cases drawRun k (mkDTs ds0 ord (i + 1) ds us gs) (u e v) s' <;> rfl
   have hd : ∀ g : Option (Nat × Bool), (match drawStep k (mkDT ds0 ord i d u g) e s with | none => Res.bad | some (v, s') => Res.nrm (u e v) s') = (match g with | none => d.den u | some (t, want) => oG (Gt t) want (d.den u) u) k e s := by
    intro g
    have base : ∀ x : Option (V × St), x = (match (mkDT ds0 ord i d u g).k with
     | .p f => (match f e with | some v => some (v, s) | none => none)
     | .d _ _ f => (match f e s with | some v => some (v, s) | none => none)
     | .a f => (match f e s.next with | some (v, o) => some (v, s.new o) | none => none)
     | .e f => f k e s) → (match x with | none => Res.bad | some (v, s') => Res.nrm (u e v) s') = d.den u k e s := by
     intro x hx
     subst hx
     cases d with
     | p f => simp only [mkDT, OD.den, oP]; cases f e <;> rfl
     | d f => simp only [mkDT, OD.den, oD]; cases f e s <;> rfl
     | a f => simp only [mkDT, OD.den, oA]; cases f e s.next <;> rfl
     | e f => simp only [mkDT, OD.den, oE]; cases f k e s <;> rfl
    unfold drawStep offB
    cases g with
    | none => exact base _ rfl
    | some p =>
      obtain ⟨t, w⟩ := p
      simp only [mkDT, oG]
      generalize Gt t e = q
      cases q with
      | bool b => cases b <;> cases w <;> first | exact base _ rfl | rfl
      | tup l => cases l <;> rfl
      | _ => rfl
   show (match (match drawStep k (mkDT ds0 ord i d u g) e s with | none => (none : Option (List (V × E × St))) | some (v, s') => match drawRun k (mkDTs ds0 ord (i + 1) ds us gs) (u e v) s' with | none => none | some r => some ((v, u e v, s') :: r)) with | none => Res.bad | some r => lastOf e s r) = dSeq _ (ops (seqItems ds us gs)) k e s
   rw [step]
   unfold dSeq
   have hd := hd g
   cases hx : drawStep k (mkDT ds0 ord i d u g) e s with
   | none => rw [hx] at hd; exact congrArg (fun r => Res.casesOn (motive := fun _ => Res) r (fun e s => ops (seqItems ds us gs) k e s) (fun id e s => .exit id e s) (fun e s => .ret e s) .bad) hd
   | some p => rw [hx] at hd; exact congrArg (fun r => Res.casesOn (motive := fun _ => Res) r (fun e s => ops (seqItems ds us gs) k e s) (fun id e s => .exit id e s) (fun e s => .ret e s) .bad) hd
theorem mkDTs_mem {ds0 : List OD} {ord : Nat → Nat → Bool} {t : DT} : ∀ (ds : List OD) (us : List (E → V → E)) (gs : List (Option (Nat × Bool))) (i : Nat), t ∈ mkDTs ds0 ord i ds us gs → ∃ j d u g, ds[j]? = some d ∧ t = mkDT ds0 ord (i + j) d u g
 | [], us, gs, i, h => by cases us <;> cases gs <;> simp [mkDTs] at h
 | d :: ds, [], gs, i, h => by simp [mkDTs] at h
 | d :: ds, u :: us, [], i, h => by simp [mkDTs] at h
 | d :: ds, u :: us, g :: gs, i, h => by
   simp only [mkDTs, List.mem_cons] at h
   rcases h with rfl | h
   · exact ⟨0, d, u, g, rfl, rfl⟩
   · obtain ⟨j, d', u', g', h1, h2⟩ := mkDTs_mem ds us gs (i + 1) h
     exact ⟨j + 1, d', u', g', by simpa using h1, by rw [h2, Nat.add_assoc, Nat.add_comm 1 j]⟩
theorem dDraw_ops {ord : Nat → Nat → Bool} {ds : List OD} {us : List (E → V → E)} {gs : List (Option (Nat × Bool))} (h1 : us.length = ds.length) (h2 : gs.length = ds.length) (hq : allQuick ds ord = true) : dDraw (mkDTs ds ord 0 ds us gs) = ops (seqItems ds us gs) := by
 funext k e s
 rw [← run_ops (ds0 := ds) (ord := ord) ds us gs 0 e s h1 h2]
 unfold dDraw
 cases drawRun k (mkDTs ds ord 0 ds us gs) e s with
 | none => rfl
 | some r =>
   simp only
   rw [chks_quick]
   intro t ht
   obtain ⟨j, d, u, g, e1, e2⟩ := mkDTs_mem ds us gs 0 ht
   rw [Nat.zero_add] at e2
   subst e2
   cases d with
   | d f =>
     have hj : j < ds.length := (List.getElem?_eq_some_iff.1 e1).1
     have := List.all_eq_true.1 hq j (List.mem_range.2 hj)
     rw [e1] at this
     simp only at this
     simp only [mkDT, this, if_true]
   | p f => trivial
   | a f => trivial
   | e f => trivial
include H hfok in
theorem lowRegion_ok {id : Nat} {os : Array Oper} {draw : Bool} {d : Den} (hm : P.follows .mixedOrders = true) (h : lowRegion tt gl fok nt os draw = some d) : Snd P nt gl (.region id os draw) d := by
 unfold lowRegion at h
 split at h
 · rename_i ds us gs h1 h2 h3
   obtain ⟨a1, a2⟩ := lowOps_at h1
   obtain ⟨b1, b2⟩ := lowUs_at h2
   obtain ⟨c1, c2⟩ := lowGs_at h3
   cases draw with
   | true =>
     simp only [if_true] at h
     split at h
     · rename_i hh
       rw [Bool.and_eq_true] at hh
       obtain ⟨e2, e3⟩ := hh
       have hreg : RegOk P nt gl os ds us gs (lowSl tt gl fok os.toList gs) := by
        refine ⟨fun i o hi => ?_, by simpa using a1, by simpa using b1, by simpa using c1⟩
        have hi' : os.toList[i]? = some o := by simpa using hi
        obtain ⟨d, f2, f3⟩ := a2 i o hi'
        obtain ⟨u, g1, g2⟩ := b2 i o hi'
        obtain ⟨g, q1, q2⟩ := c2 i o hi'
        have hsl := lowSl_at (tt := tt) (gl := gl) (fok := fok) hi' q1
        refine ⟨d, u, g, _, f3, g1, q1, hsl, lowOpS_ok H hfok f2, g2, q2, fun e e' hee => den_same f2 (fun t ht => hee t (by simp [ht])), fun t ht => by simp [ht], fun t ht => ?_⟩
        have := List.all_eq_true.1 (List.all_eq_true.1 e3 _ (List.mem_of_getElem? hsl)) t ht
        rw [nblt_eq] at this
        simpa using this
       unfold lowDraw at h
       split at h
       · rename_i e1
         have hs : Snd P nt gl (.region id os true) (dDraw (mkDTs ds (ordOf os) 0 ds us gs)) := Snd.draw hm hreg e2 e1
         split at h
         · rename_i q hq
           cases h
           split at hq
           · rename_i hq2
             rw [Bool.and_eq_true] at hq2
             cases hq
             obtain ⟨q1, q2, q3⟩ := seq_fi h1 h2 h3
             have : fuse fok (mkFIs tt gl fok os.toList gs) [] = ops (seqItems ds us gs) := by
              funext k e s
              rw [fuse_eq k e _ ds [] s hq2.2 q3 q2 (fun p hp => by cases hp), q1]; rfl
             rw [this, ← dDraw_ops (ord := ordOf os) (b1.trans a1.symm) (c1.trans a1.symm) hq2.1]; exact hs
           · cases hq
         · cases h; exact hs
       · cases h
     · cases h
   | false =>
     simp only [Bool.false_eq_true, if_false] at h
     have hs : Snd P nt gl (.region id os false) (ops (seqItems ds us gs)) := Snd.region (items_ok H hfok os.toList ds us gs a1 b1 c1 a2 b2 c2)
     split at h
     · rename_i hok
       cases h
       obtain ⟨q1, q2, q3⟩ := seq_fi h1 h2 h3
       have : fuse fok (mkFIs tt gl fok os.toList gs) [] = ops (seqItems ds us gs) := by
        funext k e s
        rw [fuse_eq k e _ ds [] s hok q3 q2 (fun p hp => by cases hp), q1]; rfl
       rw [this]; exact hs
     · cases h; exact hs
 · cases h
theorem Snd.label {l : Nat} : Snd P nt gl (.label l) dSkip := fun _ _ G e a s w _ he hs => wp_label ⟨rfl, G, he, hs, GoS.refl _ _ _⟩
theorem Snd.bad {c : Code} : Snd P nt gl c dBad := fun _ _ _ _ _ _ _ h => absurd rfl h
theorem Snd.scope {x : Code} {a : Den} (ha : Snd P nt gl x a) : Snd P nt gl (.scope x) a := by
 intro k hk G e ac s w hne he hs
 refine wp_scope_straight (wp_mono (ha k hk G e ac s w hne he hs) ?_)
 intro q a' w' h
 cases hr : a k e s with
 | nrm e' s' => rw [hr] at h; obtain ⟨rfl, h⟩ := h; exact ⟨rfl, h⟩
 | exit id e' s' => rw [hr] at h; obtain ⟨rfl, h⟩ := h; exact ⟨rfl, h⟩
 | ret e' s' => rw [hr] at h; obtain ⟨rfl, h⟩ := h; exact ⟨rfl, h⟩
 | bad => rw [hr] at h; exact h.elim
include H hfok in
theorem lowNext_ok {id : Nat} {os : Array Oper} {draw : Bool} {p : (E → V) × Den} (h : lowNext tt gl fok nt os draw = some p) : SndN P nt gl (.region id os draw) p.2 p.1 := by
 unfold lowNext at h
 split at h
 · rename_i o l hl
   split at h
   · rename_i x ho hgd
     split at h
     · rename_i g u ds us gs h1 h2 h3 h4 h5
       cases h
       obtain ⟨a1, a2⟩ := lowOps_at h3
       obtain ⟨b1, b2⟩ := lowUs_at h4
       obtain ⟨c1, c2⟩ := lowGs_at h5
       exact SndN.region hl ho h1 hgd (dstG_ok h2) (items_ok H hfok l ds us gs a1 b1 c1 a2 b2 c2)
     · cases h
   · cases h
 · cases h
include H hfok in
theorem lowC_ok (hm : P.follows .mixedOrders = true) : ∀ (c : Code), (∀ d, (lowC tt gl fok nt c).1 = some d → Snd P nt gl c d) ∧ ∀ p, (lowC tt gl fok nt c).2 = some p → SndN P nt gl c p.2 p.1 := by
 intro c
 induction c
 case skip => exact ⟨fun d h => by cases h; exact Snd.skip, fun p h => by cases h⟩
 case region id os draw =>
  refine ⟨fun d h => ?_, fun p h => lowNext_ok H hfok h⟩
  have h : some ((lowRegion tt gl fok nt os draw).getD dBad) = some d := h
  cases hq : lowRegion tt gl fok nt os draw with
  | none => rw [hq] at h; cases h; exact Snd.bad
  | some r => rw [hq] at h; cases h; exact lowRegion_ok H hfok hm hq
 case seq a b iha ihb =>
  refine ⟨fun d h => ?_, fun p h => ?_⟩
  · unfold lowC at h
    simp only at h
    split at h
    · rename_i h1 h2; cases h; exact Snd.seq (iha.1 _ h1) (ihb.1 _ h2)
    · cases h
  · unfold lowC at h
    simp only at h
    split at h
    · rename_i h1 h2; cases h; exact SndN.seq (iha.2 _ h1) (ihb.1 _ h2)
    · cases h
 case cond c a b iha ihb =>
  refine ⟨fun d h => ?_, fun p h => by cases h⟩
  unfold lowC at h
  simp only at h
  split at h
  · rename_i h0 h1 h2; cases h; exact Snd.cond h0 (iha.1 _ h1) (ihb.1 _ h2)
  · cases h; exact Snd.bad
 case block id a iha =>
  refine ⟨fun d h => ?_, fun p h => by cases h⟩
  unfold lowC at h
  simp only [Option.map_eq_some_iff] at h
  obtain ⟨q, hq, rfl⟩ := h
  exact Snd.block (iha.1 _ hq)
 case loop a iha =>
  refine ⟨fun d h => ?_, fun p h => by cases h⟩
  unfold lowC at h
  simp only at h
  split at h
  · rename_i p hp; cases h; exact Snd.loopAll (iha.2 _ hp)
  · rw [Option.map_eq_some_iff] at h
    obtain ⟨q, hq, rfl⟩ := h
    exact Snd.loop (iha.1 _ hq)
 case scope a iha => exact ⟨fun d h => Snd.scope (iha.1 _ h), fun p h => by cases h⟩
 case exit id => exact ⟨fun d h => by cases h; exact Snd.exit id, fun p h => by cases h⟩
 case ret => exact ⟨fun d h => by cases h; exact Snd.ret, fun p h => by cases h⟩
 case label l => exact ⟨fun d h => by cases h; exact Snd.label, fun p h => by cases h⟩
 all_goals exact ⟨fun d h => by cases h; exact Snd.bad, fun p h => by cases h⟩
include H hfok in
theorem lowCode_ok (hm : P.follows .mixedOrders = true) {c : Code} {d : Den} (h : lowCode tt gl fok nt c = some d) : Snd P nt gl c d := (lowC_ok H hfok hm c).1 d h
include H hfok in
theorem lowFunc_ok (hm : P.follows .mixedOrders = true) {f : Nat} {fn : Func} {F : FDen} (hf : P.funcs[f]? = some fn) (h : lowFunc tt gl fok fn = some F) : FSnd P gl f F := by
 unfold lowFunc at h
 split at h
 · rename_i c hc
   split at h
   · rename_i b gs h1 h2
     split at h
     · rename_i hh
       cases h
       exact ⟨tt, fn, c, _, gs, H, hf, hc, lowCode_ok H hfok hm h1, rfl, hh.2, hh.1, h2, rfl⟩
     · cases h
   · cases h
 · cases h
end
end
end Go.Proofs.YtgkcpceppmppfaaLab
/- The lab: a table of functions; what a run of it says of the program. No condition on the program. -/
namespace Go.Proofs.YtgkcpceppmppfaaLab
open Go
set_option linter.unusedVariables false
noncomputable section
def T.All {α : Type} (p : Nat → α → Prop) (t : T α) : Prop := ∀ i x, t.get i = some x → p i x
theorem T.All.nil {α : Type} {p : Nat → α → Prop} : T.All p .nil := fun i x h => by cases h
theorem T.All.node {α : Type} {p : Nat → α → Prop} {v : α} {l r : T α} (h : p 0 v) (hl : T.All (fun i => p (2 * i + 1)) l) (hr : T.All (fun i => p (2 * i + 2)) r) : T.All p (.node v l r) := by
 intro i x hi
 cases i with
 | zero => cases hi; exact h
 | succ i =>
   rw [T.get_node] at hi
   split at hi
   · have h' : p (2 * (i / 2) + 1) x := hl _ x hi
     rwa [show 2 * (i / 2) + 1 = i + 1 by omega] at h'
   · have h' : p (2 * (i / 2) + 2) x := hr _ x hi
     rwa [show 2 * (i / 2) + 2 = i + 1 by omega] at h'
section
variable {P : Program} {gl : List Nat}
def FRun (P : Program) (gl : List Nat) (f : Nat) (F : FDen) : Prop := ∀ k, KOk P gl k → ∀ args s v s', runF F k args s = some (v, s') → ∀ G w args', GOk gl G → VRs G args args' → SR G s w →
 Calls P f ⟨args'⟩ w (fun e w' => match e with | .returned v' => Post G s w v s' v' w' | _ => False)
theorem FRun.of {f : Nat} {F : FDen} (h : FSnd P gl f F) : FRun P gl f F := fun k hk args s v s' hr G w args' hgl hargs hs => runF_ok h hk hr hgl hargs hs
def noF : FDen := ⟨[], fun _ _ _ => .bad, fun _ _ => none⟩
theorem FRun.no (f : Nat) : FRun P gl f noF := fun k hk args s v s' hr => by
 unfold runF noF at hr
 simp only at hr
 split at hr <;> cases hr
theorem kc_run {tbl : T FDen} (ht : T.All (FRun P gl) tbl) (fuel : Nat) : ∀ n, KOk P gl (kc tbl fuel n)
 | 0 => fun f args s v s' h => by cases h
 | n + 1 => fun f args s v s' h G w args' hgl hargs hs => by
   have h : (match tbl.get f with | some F => runF F (kc tbl fuel n) args s | none => none) = some (v, s') := h
   split at h
   · rename_i F hF
     exact ht f F hF (kc tbl fuel n) (kc_run ht fuel n) args s v s' h G w args' hgl hargs hs
   · cases h
def s0 : St := ⟨.nil, 0⟩
def isT (r : Option (V × St)) : Bool := match r with | some (.bool true, _) => true | _ => false
theorem law_true {tbl : T FDen} (ht : T.All (FRun P []) tbl) {fuel n f : Nat} {args : List V} {args' : List Value} (h : isT ((kc tbl fuel n).call f args s0) = true) (hargs : VRs (fun _ => none) args args') (w : World) :
 Calls P f ⟨args'⟩ w (fun e w' => e = .returned (.bool true) ∧ RowKit.Below w.heap.size w w') := by
 unfold isT at h
 split at h
 · rename_i s' hr
   have hs : SR (fun _ => none) s0 w := ⟨⟨(fun b o hb => by cases hb), (fun b b' o o' l l' hb => by cases hb)⟩, (fun b _ => rfl), (fun b l hb => by cases hb)⟩
   refine (kc_run ht fuel n f args s0 _ _ hr _ w args' (fun g hg => by cases hg) hargs hs).mono ?_
   intro e w' he
   match e, he with
   | .returned v', ⟨G', g1, g2, g3⟩ =>
     refine ⟨by rw [g3.bool_inv], g1.go.os, g1.go.tape, g1.go.output, g1.go.size, fun k hk => g1.go.same k hk ?_⟩
     rintro ⟨b, o, l, hb, _⟩
     cases hb
 · cases h
end
end
end Go.Proofs.YtgkcpceppmppfaaLab
