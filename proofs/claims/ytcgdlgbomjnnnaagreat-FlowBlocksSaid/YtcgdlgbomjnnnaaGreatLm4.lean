/- The lab, part 4 of 5. No condition on the program. Pruned. -/
import Derived.Test.YtcgdlgbomjnnnaaGreatLm3
import Derived.Scope
import Derived.Below
/- The jL: a region that draws its order: the law. On the program: that it follows mixed orders. -/
namespace Go.Proofs.YtcgdlgbomjnnnaaGreatLab
open Go
set_option linter.all false
noncomputable section
def dm (r : List (V × E × St)) (i : Nat) : V := match r[i]? with | some (v, _) => v | none => .undef
theorem cU.congr {nt : Nat} {gl : List Nat} {G : Pl} {e e' : E} {a : Act} (h : cU nt gl G e a) (he : ∀ t, t < 256 → Gt t e = Gt t e') : cU nt gl G e' a :=
 ⟨fun t ht => he t ht ▸ h.tm t ht, h.sz, h.df, h.gl⟩
structure Dr (P : Program) (nt : Nat) (gl : List Nat) (os : Array Oper) (ds : List OD) (us : List (E → V → E)) (gs : List (Option (Nat × Bool))) (sl : List (List Nat)) (k : KC) (e0 : E) (s0 : St) (r : List (V × E × St)) : Prop where
 lz : k_ P nt gl os ds us gs sl
 st : jS os sl = true
 ok : okE os ds = true
 run : cz k (dx ds os us gs) e0 s0 = some r
 zU : hO (snaps s0 (dx ds os us gs) r) (dx ds os us gs) e0 r = true
structure Cut (ds : List OD) (n : Nat) (L : Nat → Bool) (p m : Nat) : Prop where
 mp : m ≤ p
 pn : p ≤ n
 V4 : ∀ j, m ≤ j → j < p → bz ds j = false
 atE : p < n → bz ds p = true
 m0 : m = 0 ∨ (0 < m ∧ bz ds (m - 1) = true)
 vG : ∀ j, j < p → bz ds j = true → L j = true
 jZ : ∀ j, p ≤ j → bz ds j = true → L j = false
theorem nM {os : Array Oper} {ds : List OD} (h : okE os ds = true) {i j : Nat} (hij : i < j) (hj : j < ds.length) (hc : (bz ds j = true ∧ (bz ds i = true ∨ cJ ds i = true)) ∨ (bz ds i = true ∧ cJ ds j = true)) : br os i j = true := by
 have h1 := List.all_eq_true.1 h j (List.mem_range.2 hj)
 have h2 := List.all_eq_true.1 h1 i (List.mem_range.2 hij)
 rcases hc with ⟨a, b | b⟩ | ⟨a, b⟩ <;> simpa [a, b] using h2
theorem rQ {ds : List OD} {i : Nat} (h : cJ ds i = true) : bz ds i = false := by
 unfold cJ bz at *
 cases hd : ds[i]? with
 | none => rfl
 | some d => rw [hd] at h; cases d <;> first | rfl | cases h
section
variable {P : Program} {nt : Nat} {gl : List Nat} {os : Array Oper} {ds : List OD} {us : List (E → V → E)} {gs : List (Option (Nat × Bool))} {sl : List (List Nat)} {k : KC} {e0 : E} {s0 : St} {r : List (V × E × St)}
theorem ua (hreg : k_ P nt gl os ds us gs sl) : (dx ds os us gs).length = os.size :=
 (sq (ds0 := ds) (ord := br os) (k := 0) (hreg.len.2.1.trans hreg.len.1.symm) (hreg.len.2.2.trans hreg.len.1.symm)).trans hreg.len.1
theorem BI (hreg : k_ P nt gl os ds us gs sl) (j : Nat) : (match (dx ds os us gs)[j]? with | some t => t.k.kX | none => false) = bz ds j := by
 by_cases hj : j < os.size
 · obtain ⟨d, u, g, s, h1, h2, h3, _⟩ := hreg.all j os[j] (by simp [hj])
   have ht := jc (ds0 := ds) (ord := br os) (k := 0) h1 h2 h3
   rw [ht]
   unfold bz
   rw [h1]
   cases d <;> rfl
 · have hl := ua hreg
   have h1 := hreg.len.1
   unfold bz
   rw [List.getElem?_eq_none (by omega), List.getElem?_eq_none (by omega)]
theorem aa0 (hreg : k_ P nt gl os ds us gs sl) (p : Nat) : cE (dx ds os us gs) p = aT (bz ds) p := by
 unfold cE
 congr 1
 funext j
 exact BI hreg j
theorem Dr.len (h : Dr P nt gl os ds us gs sl k e0 s0 r) : r.length = os.size ∧ (dx ds os us gs).length = os.size := by
 have hl := ua h.lz
 have h1 := (gi h.run).1
 have h2 := h.lz.len.1
 exact ⟨by omega, by omega⟩
theorem Dr.me (h : Dr P nt gl os ds us gs sl k e0 s0 r) : ∀ i, i ≤ os.size → ∀ t, t < 256 → Gt t (nU e0 r i) = gj os (dm r) (fun _ => true) e0 i t
 | 0, _, t, _ => rfl
 | i + 1, hi, t, ht => by
   obtain ⟨d, u, g, s, h1, h2, h3, _, _, h6, _⟩ := h.lz.all i os[i] (by simp [show i < os.size by omega])
   have hl := jc (ds0 := ds) (ord := br os) (k := 0) h1 h2 h3
   rw [Nat.zero_add] at hl
   obtain ⟨v, s', _, hr⟩ := (gi h.run).2 i _ hl
   have he : nU e0 r (i + 1) = u (nU e0 r i) v := by simp only [nU, hr]; rfl
   have hv : dm r i = v := by simp [dm, hr]
   have ih := Dr.me h i (by omega) t ht
   have ho : os[i]? = some os[i] := by simp [show i < os.size by omega]
   rw [he]
   simp only [gj, true_and, ho, Option.bind_some, hv]
   rcases h6 with ⟨a1, rfl⟩ | ⟨t', a1, a2, a3, rfl⟩
   · rw [a1, if_neg (by simp)]; exact ih
   · rw [iT t t' ht a3, a1]
     by_cases e : t = t'
     · subst e; rw [if_pos rfl, if_pos rfl]
     · rw [if_neg e, if_neg (fun e' => e (Option.some.inj e').symm)]; exact ih
structure rG (nt : Nat) (gl : List Nat) (os : Array Oper) (ds : List OD) (us : List (E → V → E)) (gs : List (Option (Nat × Bool))) (e0 : E) (s0 : St) (r : List (V × E × St)) (G0 : Pl) (w0 : World) (L : Nat → Bool) (a : Act) (w : World) (p m : Nat) (G : Pl) : Prop where
 cut : Cut ds os.size L p m
 fresh : ∀ b, (eA s0 r m).next ≤ b → (eA s0 r m).heap.get b = none
 env : cU nt gl G (mR (gj os (dm r) L e0 os.size)) a
 rel : R G (view ds (dx ds os us gs) e0 s0 r L p) w
 dom : ∀ b l, G b = some l → b < (eA s0 r p).next ∧ l.blk < w.heap.size ∧ ¬ hid ds (dx ds os us gs) e0 s0 r L p b
 go : qS G0 s0.heap.get w0 G (view ds (dx ds os us gs) e0 s0 r L p) w
 nx : s0.next ≤ (eA s0 r m).next
 kp : ∀ b, b < s0.next → G0 b = none → G b = none
def Inv (nt : Nat) (gl : List Nat) (os : Array Oper) (ds : List OD) (us : List (E → V → E)) (gs : List (Option (Nat × Bool))) (e0 : E) (s0 : St) (r : List (V × E × St)) (G0 : Pl) (w0 : World) (L : Nat → Bool) (a : Act) (w : World) : Prop :=
 ∃ p m G, rG nt gl os ds us gs e0 s0 r G0 w0 L a w p m G
theorem wK (h : Dr P nt gl os ds us gs sl k e0 s0 r) {L : Nat → Bool} (hc : cW os L) {p m : Nat} (hcut : Cut ds os.size L p m) {i : Nat} (hA : cJ ds i = true) (hL : L i = false) : m ≤ i := by
 rcases Nat.lt_or_ge i m with hlt | hge
 · exfalso
   rcases hcut.m0 with e | ⟨e1, e2⟩
   · omega
   · have hne : i ≠ m - 1 := fun e => by rw [← e, rQ hA] at e2; cases e2
     have hpn := hcut.pn
     have hmp := hcut.mp
     have hd := h.lz.len.1
     have ho := nM h.ok (i := i) (j := m - 1) (by omega) (by omega) (.inl ⟨e2, .inr hA⟩)
     have := lE hc ho (hcut.vG (m - 1) (by omega) e2)
     rw [hL] at this; cases this
 · exact hge
theorem CR (h : Dr P nt gl os ds us gs sl k e0 s0 r) {L : Nat → Bool} (hc : cW os L) {p m : Nat} (hcut : Cut ds os.size L p m) {i : Nat} (hi : i < os.size) (hA : cJ ds i = true) (hw : ∀ o, os[i]? = some o → ∀ e ∈ o.after, Region.binds .any e = true → L e.on = true) : i < p := by
 rcases Nat.lt_or_ge i p with hlt | hge
 · exact hlt
 · exfalso
   have hpE := hcut.atE (by omega)
   have hne : i ≠ p := fun e => by rw [← e, rQ hA] at hpE; cases hpE
   have hd := h.lz.len.1
   have ho := nM h.ok (i := p) (j := i) (by omega) (by omega) (.inr ⟨hpE, hA⟩)
   have := d_ hc i p ho hw
   rw [hcut.jZ p (Nat.le_refl _) hpE] at this; cases this
theorem yq (h : Dr P nt gl os ds us gs sl k e0 s0 r) {L : Nat → Bool} (hc : cW os L) {p m : Nat} (hcut : Cut ds os.size L p m) {i : Nat} (hi : i < os.size) (hE : bz ds i = true) (hiL : L i = false) (hw : ∀ o, os[i]? = some o → ∀ e ∈ o.after, Region.binds .any e = true → L e.on = true) :
 i = p ∧ ∀ b, ¬ hid ds (dx ds os us gs) e0 s0 r L p b := by
 have hd := h.lz.len.1
 have hip : i = p := by
  rcases Nat.lt_trichotomy i p with hlt | he | hgt
  · rw [hcut.vG i hlt hE] at hiL; cases hiL
  · exact he
  · exfalso
    have hpE := hcut.atE (by omega)
    have ho := nM h.ok (i := p) (j := i) hgt (by omega) (.inl ⟨hE, .inl hpE⟩)
    have := d_ hc i p ho hw
    rw [hcut.jZ p (Nat.le_refl _) hpE] at this; cases this
 refine ⟨hip, fun b ⟨j, h1, h2, h3, _⟩ => ?_⟩
 subst hip
 have ho := nM h.ok (i := j) (j := i) h1 (by omega) (.inl ⟨hE, .inr h2.1⟩)
 have := d_ hc i j ho hw
 rw [h3] at this; cases this
theorem aci {ds : List OD} {n : Nat} {L : Nat → Bool} {p m m' : Nat} (h : Cut ds n L p m) (h1 : m' ≤ p) (h2 : ∀ j, m' ≤ j → j < p → bz ds j = false) (h3 : m' = 0 ∨ (0 < m' ∧ bz ds (m' - 1) = true)) : m' = m := by
 have hmp := h.mp
 rcases Nat.lt_trichotomy m' m with hlt | he | hgt
 · rcases h.m0 with e | ⟨e1, e2⟩
   · omega
   · rw [h2 (m - 1) (by omega) (by omega)] at e2; cases e2
 · exact he
 · rcases h3 with e | ⟨e1, e2⟩
   · omega
   · rw [h.V4 (m' - 1) (by omega) (by omega)] at e2; cases e2
theorem Dr.same (h : Dr P nt gl os ds us gs sl k e0 s0 r) {L : Nat → Bool} (hc : cW os L) {i : Nat} {o : Oper} {s : List Nat} (hi : os[i]? = some o) (hs : sl[i]? = some s) (hs2 : ∀ t, t ∈ s → t < 256) (hiL : L i = false) (hw : ∀ e ∈ o.after, Region.binds .any e = true → L e.on = true) :
 ∀ t, t ∈ s → Gt t (mR (gj os (dm r) L e0 os.size)) = Gt t (nU e0 r i) := by
 intro t ht
 have hlt := (Array.getElem?_eq_some_iff.1 hi).1
 have hall : ∀ (i : Nat) (o : Oper), os[i]? = some o → ∃ s, sl[i]? = some s := fun i o hio => by
  obtain ⟨d, u, g, s, _, _, _, h4, _⟩ := h.lz.all i o hio
  exact ⟨s, h4⟩
 rw [gO _ _ (hs2 t ht), qo h.st hall hc hi hs hiL hw ht os.size, Nat.min_eq_right (by omega), h.me i (by omega) t (hs2 t ht)]
theorem Dr.put (h : Dr P nt gl os ds us gs sl k e0 s0 r) {L : Nat → Bool} (hc : cW os L) {i : Nat} {o : Oper} {u : E → V → E} (hi : os[i]? = some o) (hiL : L i = false) (hu : iP nt o.dst u) {G : Pl} {a : Act} (he : cU nt gl G (mR (gj os (dm r) L e0 os.size)) a) {v' : Value} (hv : VR G (dm r i) v') :
 cU nt gl G (mR (gj os (dm r) (fun j => L j || j == i) e0 os.size)) (a.put o.dst v') := by
 have hlt := (Array.getElem?_eq_some_iff.1 hi).1
 have hall : ∀ (i : Nat) (o : Oper), os[i]? = some o → ∃ s, sl[i]? = some s := fun i o hio => by
  obtain ⟨d, u, g, s, _, _, _, h4, _⟩ := h.lz.all i o hio
  exact ⟨s, h4⟩
 obtain ⟨s, hs⟩ := hall i o hi
 refine (he.dst hu hv).congr fun t ht => ?_
 rw [gO _ _ ht, tu h.st hall hc hi hs hiL os.size hlt]
 rcases hu with ⟨a1, rfl⟩ | ⟨t', a1, a2, a3, rfl⟩
 · rw [a1, if_neg (by simp)]; exact gO _ _ ht
 · rw [iT t t' ht a3, a1]
   by_cases e : t = t'
   · subst e; rw [if_pos rfl, if_pos rfl]
   · rw [if_neg e, if_neg (fun e' => e (Option.some.inj e').symm), gO _ _ ht]
theorem rG.quiet {G0 : Pl} {w0 : World} {L : Nat → Bool} {a : Act} {w : World} {p m : Nat} {G : Pl} (hI : rG nt gl os ds us gs e0 s0 r G0 w0 L a w p m G) {i : Nat} (hE : bz ds i = false) (hA : ¬ xK ds (dx ds os us gs) e0 r i) {a' : Act}
 (he : cU nt gl G (mR (gj os (dm r) (fun j => L j || j == i) e0 os.size)) a') : rG nt gl os ds us gs e0 s0 r G0 w0 (fun j => L j || j == i) a' w p m G := by
 have hh : ∀ b, hid ds (dx ds os us gs) e0 s0 r (fun j => L j || j == i) p b ↔ hid ds (dx ds os us gs) e0 s0 r L p b := by
  intro b
  constructor
  · rintro ⟨j, h1, h2, h3, h4⟩
    rw [Bool.or_eq_false_iff] at h3
    exact ⟨j, h1, h2, h3.1, h4⟩
  · rintro ⟨j, h1, h2, h3, h4⟩
    refine ⟨j, h1, h2, ?_, h4⟩
    rw [Bool.or_eq_false_iff]
    exact ⟨h3, beq_eq_false_iff_ne.2 (fun e => hA (e ▸ h2))⟩
 have hv : view ds (dx ds os us gs) e0 s0 r (fun j => L j || j == i) p = view ds (dx ds os us gs) e0 s0 r L p := by
  funext b; unfold view; rw [propext (hh b)]
 refine ⟨⟨hI.cut.mp, hI.cut.pn, hI.cut.V4, hI.cut.atE, hI.cut.m0, fun j h1 h2 => by rw [hI.cut.vG j h1 h2]; rfl, fun j h1 h2 => ?_⟩, hI.fresh, he, hv ▸ hI.rel, fun b l hb => ?_, hv ▸ hI.go, hI.nx, hI.kp⟩
 · rw [Bool.or_eq_false_iff]
   exact ⟨hI.cut.jZ j h1 h2, beq_eq_false_iff_ne.2 (fun e => by rw [e, hE] at h2; cases h2)⟩
 · rw [hh b]; exact hI.dom b l hb
theorem Dr.next (h : Dr P nt gl os ds us gs sl k e0 s0 r) {G0 G : Pl} {w0 w : World} {L : Nat → Bool} (hc : cW os L) {q : Nat} (hq : q ≤ os.size) (hq0 : q = 0 ∨ (0 < q ∧ bz ds (q - 1) = true ∧ L (q - 1) = true)) (hin : ∀ j, j < q → bz ds j = true → L j = true) (hout : ∀ j, q ≤ j → bz ds j = true → L j = false)
 (hnA : ∀ j, q ≤ j → cJ ds j = true → L j = false) {a : Act} (he : cU nt gl G (mR (gj os (dm r) L e0 os.size)) a) (hs : SR G (eA s0 r q) w) (hg : fD G0 s0 w0 G (eA s0 r q) w) :
 Inv nt gl os ds us gs e0 s0 r G0 w0 L a w := by
 obtain ⟨p, h1, h2, h3, h4⟩ := acz ds os.size q hq
 obtain ⟨c1, c2, c3, c4, c5, c6⟩ := chain h.lz h.run h1 h2 h3 hs.fresh
 have hsub : ∀ b o, view ds (dx ds os us gs) e0 s0 r L p b = some o → (eA s0 r q).heap.get b = some o := by
  intro b o hb
  unfold view at hb
  split at hb
  · cases hb
  · rename_i hn
    rcases c4 b o hb with h | ⟨i, a1, a2, a3, a4, _⟩
    · exact h
    · exact absurd ⟨i, a2, a3, hnA i a1 a3.1, a4⟩ hn
 refine ⟨p, q, G, ⟨h1, h2, h3, h4, ?_, fun j hj hjE => ?_, fun j hj hjE => hout j (by omega) hjE⟩, hs.fresh, he, hs.r.sub hsub, fun b l hb => ?_, hg.go.sub hsub, hg.nx, hg.kp⟩
 · rcases hq0 with e | ⟨e1, e2, _⟩
   · exact .inl e
   · exact .inr ⟨e1, e2⟩
 · by_cases hjq : j < q
   · exact hin j hjq hjE
   · rw [h3 j (by omega) hj] at hjE; cases hjE
 · obtain ⟨d1, d2⟩ := hs.dom b l hb
   refine ⟨by omega, d2, fun ⟨i, a1, a2, a3, a4⟩ => ?_⟩
   by_cases hiq : i < q
   · rcases hq0 with e | ⟨e1, e2, e3⟩
     · omega
     · have hne : i ≠ q - 1 := fun e => by have := rQ a2.1; rw [e, e2] at this; cases this
       have hd := h.lz.len.1
       have := lE hc (nM h.ok (i := i) (j := q - 1) (by omega) (by omega) (.inl ⟨e2, .inr a2.1⟩)) e3
       rw [a3] at this; cases this
   · have := (c5 i (by omega) a1 a2).1
     omega
theorem Dr.made (h : Dr P nt gl os ds us gs sl k e0 s0 r) {G0 : Pl} {w0 : World} {L : Nat → Bool} (hc : cW os L) {a : Act} {w : World} {p m : Nat} {G : Pl} (hI : rG nt gl os ds us gs e0 s0 r G0 w0 L a w p m G) {i : Nat} (hip : i < p) (hiL : L i = false) (hA : xK ds (dx ds os us gs) e0 r i)
 {f : E → Nat → Option (V × Ob)} {v : V} {ob : Ob} (hd : ds[i]? = some (.a f)) (hf : f (nU e0 r i) (eA s0 r i).next = some (v, ob)) {w' : World} {obj : Obj} {tot : Nat} (hw : gT obj w w') (hob : j6 (G.add (eA s0 r i).next ⟨w.heap.size, 0, tot⟩) w' (eA s0 r i).next ob) {a' : Act}
 (he : cU nt gl (G.add (eA s0 r i).next ⟨w.heap.size, 0, tot⟩) (mR (gj os (dm r) (fun j => L j || j == i) e0 os.size)) a') :
 rG nt gl os ds us gs e0 s0 r G0 w0 (fun j => L j || j == i) a' w' p m (G.add (eA s0 r i).next ⟨w.heap.size, 0, tot⟩) := by
 have hid0 : hid ds (dx ds os us gs) e0 s0 r L p (eA s0 r i).next := ⟨i, hip, hA, hiL, rfl⟩
 have hG : G (eA s0 r i).next = none := by
  cases hq : G (eA s0 r i).next with
  | none => rfl
  | some l => exact absurd hid0 (hI.dom _ l hq).2.2
 have hmi := wK h hc hI.cut hA.1 hiL
 obtain ⟨c1, c2, c3, c4, c5, c6⟩ := chain h.lz h.run hI.cut.mp hI.cut.pn hI.cut.V4 hI.fresh
 have inj : ∀ j, m ≤ j → j < p → xK ds (dx ds os us gs) e0 r j → (eA s0 r j).next = (eA s0 r i).next → j = i := by
  intro j h1 h2 h3 h4
  rcases Nat.lt_trichotomy j i with hlt | he | hgt
  · have := c6 j i h1 hlt hip h3 hA; omega
  · exact he
  · have := c6 i j hmi hgt h2 hA h3; omega
 have hh : ∀ b, hid ds (dx ds os us gs) e0 s0 r (fun j => L j || j == i) p b ↔ hid ds (dx ds os us gs) e0 s0 r L p b ∧ b ≠ (eA s0 r i).next := by
  intro b
  constructor
  · rintro ⟨j, h1, h2, h3, h4⟩
    rw [Bool.or_eq_false_iff] at h3
    refine ⟨⟨j, h1, h2, h3.1, h4⟩, fun e => ?_⟩
    have := inj j (wK h hc hI.cut h2.1 h3.1) h1 h2 (h4.trans e)
    exact beq_eq_false_iff_ne.1 h3.2 this
  · rintro ⟨⟨j, h1, h2, h3, h4⟩, h5⟩
    refine ⟨j, h1, h2, ?_, h4⟩
    rw [Bool.or_eq_false_iff]
    exact ⟨h3, beq_eq_false_iff_ne.2 (fun e => h5 (by rw [← h4, e]))⟩
 obtain ⟨r1, r2⟩ := hI.rel.CD hw (fun b l hb => (hI.dom b l hb).2.1) hG hob
 have hsub : ∀ b o, view ds (dx ds os us gs) e0 s0 r (fun j => L j || j == i) p b = some o → gq (view ds (dx ds os us gs) e0 s0 r L p) (eA s0 r i).next ob b = some o := by
  intro b o hb
  unfold view at hb
  split at hb
  · cases hb
  · rename_i hn
    unfold gq
    by_cases e : b = (eA s0 r i).next
    · rw [if_pos e]
      rcases c4 b o hb with h' | ⟨j, a1, a2, a3, a4, f', v', a5, a6⟩
      · have := hI.fresh b (by have := (c5 i hmi hip hA).1; omega)
        rw [this] at h'; cases h'
      · have := inj j a1 a2 a3 (a4.trans e)
        subst this
        rw [hd] at a5; cases a5
        rw [e, hf] at a6; cases a6; rfl
    · rw [if_neg e]
      unfold view
      rw [if_neg (fun hx => hn ((hh b).2 ⟨hx, e⟩))]
      exact hb
 refine ⟨⟨hI.cut.mp, hI.cut.pn, hI.cut.V4, hI.cut.atE, hI.cut.m0, fun j h1 h2 => by rw [hI.cut.vG j h1 h2]; rfl, fun j h1 h2 => ?_⟩, hI.fresh, he, r1.sub hsub, fun b l hb => ?_, (hI.go.trans r2).sub hsub, hI.nx, fun b hb h0 => by have h5 := (c5 i hmi hip hA).1; have h6 := hI.nx; unfold Pl.add; rw [if_neg (by omega)]; exact hI.kp b hb h0⟩
 · rw [Bool.or_eq_false_iff]
   exact ⟨hI.cut.jZ j h1 h2, beq_eq_false_iff_ne.2 (fun e => by rw [e, rQ hA.1] at h2; cases h2)⟩
 · unfold Pl.add at hb
   rw [hw.size, hh b]
   by_cases e : b = (eA s0 r i).next
   · rw [if_pos e] at hb; cases hb
     exact ⟨by rw [e]; exact (c5 i hmi hip hA).2, by simp, fun hx => hx.2 e⟩
   · rw [if_neg e] at hb
     obtain ⟨d1, d2, d3⟩ := hI.dom b l hb
     exact ⟨d1, by omega, fun hx => d3 hx.1⟩
theorem QD {sn : List St} {t : DT} {e : E} {v : V} {lo hi c : Nat} {f : E → St → Option V} {s : St} (h : rq sn t e v = true) (ht : t.k = .d lo hi f) (ho : iZ t e = some false) (hs : sn[c]? = some s) (h1 : lo ≤ c) (h2 : c ≤ hi) : f e s = some v := by
 unfold rq at h
 rw [ht] at h
 have hm : s ∈ (sn.drop lo).take (hi + 1 - lo) := by
  refine List.mem_of_getElem? (i := c - lo) ?_
  rw [List.getElem?_take, if_pos (by omega), List.getElem?_drop, show lo + (c - lo) = c by omega, hs]
 have := List.all_eq_true.1 h s hm
 rw [ho] at this
 simp only at this
 split at this
 · rename_i v' hv'
   rw [hv', mD this]
 · cases this
theorem qG {os : Array Oper} {sl : List (List Nat)} (hst : jS os sl = true) : ∀ (i j : Nat), br os j i = true → j < i := by
 intro i
 induction i using Nat.strongRecOn with
 | ind i ih =>
   intro j h
   obtain ⟨o, ho, e, he, hb, hor⟩ := uM h
   have hlt := pZ hst ho he hb
   rcases hor with h1 | ⟨h1, h2⟩
   · omega
   · have := ih e.on hlt j h1; omega
theorem Dr.quick (h : Dr P nt gl os ds us gs sl k e0 s0 r) {L : Nat → Bool} (hc : cW os L) {p m : Nat} (hcut : Cut ds os.size L p m) {i : Nat} (hlt : i < os.size) (hiL : L i = false) (hE : bz ds i = false)
 (hw : ∀ o, os[i]? = some o → ∀ e ∈ o.after, Region.binds .any e = true → L e.on = true) (hq : m9 ds (br os) i = true) : eA s0 r i = eA s0 r m := by
 have hlen := h.lz.len.1
 unfold m9 at hq
 rw [Bool.and_eq_true] at hq
 have hnA : ∀ j, cJ ds j = false := fun j => by
  unfold cJ
  cases hd : ds[j]? with
  | none => rfl
  | some d => have := List.all_eq_true.1 hq.1 d (List.mem_of_getElem? hd); simpa using this
 have hcmp : ∀ j, j < os.size → bz ds j = true → br os j i = true ∨ br os i j = true := fun j hj hjE => by
  have := List.all_eq_true.1 hq.2 j (List.mem_range.2 (by omega))
  rw [hjE] at this; simpa using this
 have hmi : m ≤ i := by
  rcases hcut.m0 with e | ⟨e1, e2⟩
  · omega
  · have hpn := hcut.pn
    have hmp := hcut.mp
    rcases hcmp (m - 1) (by omega) e2 with h1 | h1
    · have := qG h.st _ _ h1; omega
    · have := lE hc h1 (hcut.vG (m - 1) (by omega) e2)
      rw [hiL] at this; cases this
 have hip : i < p := by
  rcases Nat.lt_or_ge i p with h' | hge
  · exact h'
  · exfalso
    have hpE := hcut.atE (by omega)
    rcases hcmp p (by omega) hpE with h1 | h1
    · have := d_ hc i p h1 hw
      rw [hcut.jZ p (Nat.le_refl _) hpE] at this; cases this
    · have := qG h.st _ _ h1; omega
 have key : ∀ n, m + n ≤ i → eA s0 r (m + n) = eA s0 r m := by
  intro n
  induction n with
  | zero => intro _; rfl
  | succ n ih =>
    intro hn
    have hj : m + n < os.size := by omega
    obtain ⟨d, u, g, s, h1, h2, h3, _⟩ := h.lz.all (m + n) os[m + n] (by simp [hj])
    have hat := jc (ds0 := ds) (ord := br os) (k := 0) h1 h2 h3
    rw [Nat.zero_add] at hat
    obtain ⟨v, s', hst, hr⟩ := (gi h.run).2 (m + n) _ hat
    have hs1 : eA s0 r (m + n + 1) = s' := by simp only [eA, hr]
    rw [← Nat.add_assoc, hs1, ← ih (by omega)]
    have hnE := hcut.V4 (m + n) (by omega) (by omega)
    have hnAj := hnA (m + n)
    unfold bz at hnE
    unfold cJ at hnAj
    rw [h1] at hnE hnAj
    unfold cB at hst
    split at hst
    · cases hst
    · cases hst; rfl
    · cases d with
      | p f => simp only [fR] at hst; split at hst <;> cases hst; rfl
      | d f => simp only [fR] at hst; split at hst <;> cases hst; rfl
      | a f => cases hnAj
      | e f => cases hnE
 have := key (i - m) (by omega)
 rwa [show m + (i - m) = i by omega] at this
theorem Dr.step (h : Dr P nt gl os ds us gs sl k e0 s0 r) (hk : yT P gl k) {G0 : Pl} {w0 : World} {L : Nat → Bool} (hc : cW os L) {a : Act} {w : World} (hI : Inv nt gl os ds us gs e0 s0 r G0 w0 L a w) {i : Nat} {o : Oper} (hi : os[i]? = some o) (hiL : L i = false)
 (hwt : ∀ e ∈ o.after, Region.binds .any e = true → L e.on = true) {K : Act → World → Prop} {Q : Exit → Act → World → Prop} (hK : ∀ a' w', Inv nt gl os ds us gs e0 s0 r G0 w0 (fun j => L j || j == i) a' w' → K a' w') : wpOp P os Q i K a w := by
 obtain ⟨p, m, G, hI⟩ := hI
 have hlt := (Array.getElem?_eq_some_iff.1 hi).1
 obtain ⟨d, u, g, s, h1, h2, h3, h4, hod, hdst, hgd, hsame, hgs, hs2⟩ := h.lz.all i o hi
 have hat := jc (ds0 := ds) (ord := br os) (k := 0) h1 h2 h3
 rw [Nat.zero_add] at hat
 obtain ⟨v, s', hst, hr⟩ := (gi h.run).2 i _ hat
 have hv : dm r i = v := by simp [dm, hr]
 have hs1 : eA s0 r (i + 1) = s' := by simp only [eA, hr]
 have hslot := h.same hc hi h4 hs2 hiL hwt
 have hS := hsame _ _ hslot
 have hwt' : ∀ o', os[i]? = some o' → ∀ e ∈ o'.after, Region.binds .any e = true → L e.on = true := fun o' ho' => by rw [hi] at ho'; cases ho'; exact hwt
 have hput : ∀ {G' : Pl} {v' : Value}, G.le G' → VR G' v v' → cU nt gl G' (mR (gj os (dm r) (fun j => L j || j == i) e0 os.size)) (a.put o.dst v') := fun hle hvv => h.put hc hi hiL hdst (hI.env.mono hle) (by rw [hv]; exact hvv)
 have hc' : cW os (fun j => L j || j == i) := by
  intro j oj hj hjL e he hb
  have hjL : (L j || j == i) = true := hjL
  rw [Bool.or_eq_true] at hjL
  rcases hjL with hjL | hjL
  · have := hc j oj hj hjL e he hb
    simp [this]
  · have hji : j = i := by simpa using hjL
    subst hji
    rw [hi] at hj; cases hj
    have := hwt e he hb
    simp [this]
 have hEk : bz ds i = true → ∀ {G' : Pl} {a' : Act} {w' : World}, cU nt gl G' (mR (gj os (dm r) (fun j => L j || j == i) e0 os.size)) a' → SR G' (eA s0 r (i + 1)) w' → fD G0 s0 w0 G' (eA s0 r (i + 1)) w' → Inv nt gl os ds us gs e0 s0 r G0 w0 (fun j => L j || j == i) a' w' := by
  intro hE G' a' w' he hs hg
  obtain ⟨hip, hnh⟩ := yq h hc hI.cut hlt hE hiL hwt'
  have hlen := h.lz.len.1
  refine h.next hc' (q := i + 1) hlt (.inr ⟨by omega, by simpa using hE, by simp⟩) (fun j hj hjE => ?_) (fun j hj hjE => ?_) (fun j hj hjA => ?_) he hs hg
  · rw [Bool.or_eq_true]
    by_cases hji : j = i
    · exact .inr (by simp [hji])
    · exact .inl (hI.cut.vG j (by omega) hjE)
  · rw [Bool.or_eq_false_iff]
    exact ⟨hI.cut.jZ j (by omega) hjE, beq_eq_false_iff_ne.2 (by omega)⟩
  · rw [Bool.or_eq_false_iff]
    refine ⟨?_, beq_eq_false_iff_ne.2 (by omega)⟩
    cases hq : L j with
    | false => rfl
    | true =>
      by_cases hjl : j < os.size
      · have := lE hc (nM h.ok (i := i) (j := j) (by omega) (by omega) (.inr ⟨hE, hjA⟩)) hq
        rw [hiL] at this; cases this
      · unfold cJ at hjA
        rw [List.getElem?_eq_none (by omega)] at hjA; cases hjA
 have hEs : bz ds i = true → SR G (eA s0 r i) w ∧ fD G0 s0 w0 G (eA s0 r i) w := by
  intro hE
  obtain ⟨hip, hnh⟩ := yq h hc hI.cut hlt hE hiL hwt'
  subst hip
  obtain ⟨c1, c2, c3, c4, c5, c6⟩ := chain h.lz h.run hI.cut.mp hI.cut.pn hI.cut.V4 hI.fresh
  have hview : view ds (dx ds os us gs) e0 s0 r L i = (eA s0 r i).heap.get := by
   funext b; unfold view; rw [if_neg (hnh b)]
  exact ⟨⟨hview ▸ hI.rel, c2, fun b l hb => ⟨(hI.dom b l hb).1, (hI.dom b l hb).2.1⟩⟩, ⟨hview ▸ hI.go, Nat.le_trans hI.nx c1, hI.kp⟩⟩
 unfold wpOp
 rw [hi]
 simp only
 have hoffe : iZ (fR ds (br os) i d u g) (mR (gj os (dm r) L e0 os.size)) = iZ (fR ds (br os) i d u g) (nU e0 r i) := by
  unfold iZ fR
  cases g with
  | none => rfl
  | some q => simp only; rw [hslot q.1 (hgs q.1 (by simp [slG]))]
 unfold cB at hst
 cases ho : iZ (fR ds (br os) i d u g) (nU e0 r i) with
 | none => rw [ho] at hst; cases hst
 | some b =>
   have hwd := rN (t := fR ds (br os) i d u g) hgd hI.env (hoffe.trans ho)
   rw [hwd]
   rw [ho] at hst
   have hnA : (∀ f, d ≠ .a f) → ¬ xK ds (dx ds os us gs) e0 r i := by
    rintro hdd ⟨a1, _⟩
    unfold cJ at a1; rw [h1] at a1
    cases d <;> first | exact hdd _ rfl | cases a1
   cases b with
   | true =>
     cases hst
     simp only [Bool.not_true, Bool.false_eq_true, if_false]
     refine hK _ _ ?_
     have henv := hput (v' := undef) (Pl.le_refl G) (.bH _ _ .nil)
     cases hE : bz ds i with
     | true =>
       obtain ⟨e1, e2⟩ := hEs hE
       exact hEk hE henv (hs1 ▸ e1) (hs1 ▸ e2)
     | false =>
       refine ⟨p, m, G, hI.quiet hE (fun ⟨_, t, a1, a2⟩ => ?_) henv⟩
       rw [hat] at a1; cases a1; rw [ho] at a2; cases a2
   | false =>
     simp only [Bool.not_false, if_true]
     refine .inl ?_
     cases d with
     | p f =>
       simp only [fR] at hst
       split at hst
       · rename_i v1 hf
         cases hst
         have hS : f (mR (gj os (dm r) L e0 os.size)) = f (nU e0 r i) := hS
         obtain ⟨v', b1, b2⟩ := hod G _ a w v (hS.trans hf) hI.env
         refine (iV.value (post := fun v' w' => Inv nt gl os ds us gs e0 s0 r G0 w0 (fun j => L j || j == i) (a.put o.dst v') w') b1 ?_).wp fun _ _ hh => hK _ _ hh
         exact ⟨p, m, G, hI.quiet (by simp [bz, h1, OD.kX]) (hnA (by simp)) (hput (Pl.le_refl G) b2)⟩
       · cases hst
     | d f =>
       have hE : bz ds i = false := by simp [bz, h1, OD.kX]
       simp only [fR] at hst
       split at hst
       · rename_i v1 hf
         cases hst
         obtain ⟨m', q1, q2, q3, q4⟩ := GB (s := s0) (l := dx ds os us gs) (r := r) (h.len.1.trans h.len.2.symm) p (h.len.2 ▸ hI.cut.pn)
         have tE : ∀ j t, (dx ds os us gs)[j]? = some t → t.k.kX = bz ds j := fun j t ht => by
          have := BI h.lz j
          rw [ht] at this; exact this
         have hm : m' = m := aci hI.cut q1 (fun j hj1 hj2 => by
          have hlj : j < (dx ds os us gs).length := by rw [h.len.2]; have := hI.cut.pn; omega
          rw [← tE j _ (List.getElem?_eq_getElem hlj)]
          exact q3 j _ hj1 hj2 (List.getElem?_eq_getElem hlj)) (by
          rcases q4 with e | ⟨t, t1, t2⟩
          · exact .inl e
          · by_cases e : m' = 0
            · exact .inl e
            · exact .inr ⟨by omega, by rw [← tE _ _ t1]; exact t2⟩)
         subst hm
         rw [aa0 h.lz] at q2
         have hlen := h.lz.len.1
         have hcut := lZ (p := bz ds) (m := p) (n := ds.length) (by have := hI.cut.pn; omega)
         have hfs : f (nU e0 r i) (eA s0 r m') = some v := by
          by_cases hqk : m9 ds (br os) i = true
          · rw [← h.quick hc hI.cut hlt hiL hE hwt' hqk]; exact hf
          refine QD (c := aT (bz ds) p) (xS h.zU (h.len.1.trans h.len.2.symm) i _ _ _ _ hat hr) (by simp only [fR]; rw [if_neg hqk, if_neg hqk]) ho q2
           (by
            rw [hcut]
            refine jo fun j hj hb => ?_
            rw [Bool.and_eq_true] at hb ⊢
            refine ⟨hb.1, decide_eq_true ?_⟩
            rcases Nat.lt_or_ge j p with hjp | hjp
            · exact hjp
            · have := d_ hc i j hb.2 hwt'
              rw [hI.cut.jZ j hjp hb.1] at this; cases this)
           (by
            rw [hcut]
            refine jo fun j hj hb => ?_
            rw [Bool.and_eq_true] at hb ⊢
            refine ⟨hb.1, ?_⟩
            cases hq : br os i j with
            | false => rfl
            | true =>
              have := lE hc hq (hI.cut.vG j (by simpa using hb.2) hb.1)
              rw [hiL] at this; cases this)
         obtain ⟨c1, c2, c3, c4, c5, c6⟩ := chain h.lz h.run hI.cut.mp hI.cut.pn hI.cut.V4 hI.fresh
         have hS : ∀ s, f (mR (gj os (dm r) L e0 os.size)) s = f (nU e0 r i) s := hS
         obtain ⟨v', b1, b2⟩ := hod G _ a _ w v ((hS _).trans hfs) hI.env (hI.rel.sub fun b o hb => by
          unfold view
          rw [if_neg, c3 b o hb]
          rintro ⟨j, a1, a2, a3, a4⟩
          have hge := (c5 j (wK h hc hI.cut a2.1 a3) a1 a2).1
          rw [hI.fresh b (by omega)] at hb; cases hb)
         refine (iV.value (post := fun v' w' => Inv nt gl os ds us gs e0 s0 r G0 w0 (fun j => L j || j == i) (a.put o.dst v') w') b1 ?_).wp fun _ _ hh => hK _ _ hh
         exact ⟨p, m', G, hI.quiet hE (hnA (by simp)) (hput (Pl.le_refl G) b2)⟩
       · cases hst
     | a f =>
       have hAd : cJ ds i = true := by simp [cJ, h1, OD.JI]
       have hA : xK ds (dx ds os us gs) e0 r i := ⟨hAd, _, hat, ho⟩
       have hip := CR h hc hI.cut hlt hAd hwt'
       simp only [fR] at hst
       split at hst
       · rename_i v1 ob hf
         cases hst
         have hG : G (eA s0 r i).next = none := by
          cases hq : G (eA s0 r i).next with
          | none => rfl
          | some l => exact absurd ⟨i, hip, hA, hiL, rfl⟩ (hI.dom _ l hq).2.2
         have hS : ∀ n, f (mR (gj os (dm r) L e0 os.size)) n = f (nU e0 r i) n := hS
         obtain ⟨v', obj, tot, w', b1, b2, b3, b4⟩ := hod G _ a _ w v ob ((hS _).trans hf) hI.env hG
         refine (iV.value (post := fun v' w' => Inv nt gl os ds us gs e0 s0 r G0 w0 (fun j => L j || j == i) (a.put o.dst v') w') b1 ?_).wp fun _ _ hh => hK _ _ hh
         exact ⟨p, m, _, h.made hc hI hip hiL hA h1 hf b2 b4 (hput (Pl.gC hG) b3)⟩
       · cases hst
     | e f =>
       have hE : bz ds i = true := by simp [bz, h1, OD.kX]
       obtain ⟨e1, e2⟩ := hEs hE
       have hS : ∀ k s, f k (mR (gj os (dm r) L e0 os.size)) s = f k (nU e0 r i) s := hS
       have hf : f k (nU e0 r i) (eA s0 r i) = some (v, s') := hst
       have hdid := hod k hk G _ a _ w v s' ((hS k _).trans hf) hI.env e1
       refine hdid.wp ?_
       rintro v' w' ⟨G', g1, g2, g3⟩
       exact hK _ _ (hEk hE (hput g1.le g3) (hs1 ▸ g2) (e2.trans (hs1 ▸ g1)))
theorem Dr.any (h : Dr P nt gl os ds us gs sl k e0 s0 r) (hk : yT P gl k) {G0 : Pl} {w0 : World} {Q : Exit → Act → World → Prop} (hQ : ∀ L a w, (∀ i, i < os.size → L i = true) → Inv nt gl os ds us gs e0 s0 r G0 w0 L a w → Q .normal a w) :
 ∀ (fuel : Nat) (listed : Array Bool) (a : Act) (w : World), listed.size = os.size → cW os (fun j => listed.getD j false) → (listed.toList.filter (· == false)).length ≤ fuel → Inv nt gl os ds us gs e0 s0 r G0 w0 (fun j => listed.getD j false) a w →
   wpAny P .any os Q fuel listed a w := by
 have done : ∀ (listed : Array Bool) (a : Act) (w : World), listed.size = os.size → Region.ready .any os listed = [] → Inv nt gl os ds us gs e0 s0 r G0 w0 (fun j => listed.getD j false) a w → Q .normal a w := by
  intro listed a w hsz hr hC
  refine hQ _ a w ?_ hC
  intro i
  induction i using Nat.strongRecOn with
  | ind i ih =>
    intro hlt
    by_cases hb : listed.getD i false = true
    · exact hb
    · exfalso
      have : i ∈ Region.ready .any os listed := mem_ready.2 ⟨by
       have hlt' : i < listed.size := by omega
       simp [hlt'] at hb ⊢; exact hb, os[i], by simp [hlt], fun e he hbd => by
       have hlt2 := pZ h.st (j := i) (oj := os[i]) (by simp [hlt]) he hbd
       exact ih e.on hlt2 (by omega)⟩
      rw [hr] at this; cases this
 intro fuel
 induction fuel with
 | zero =>
   intro listed a w hsz hcl hf hC
   have hr : Region.ready .any os listed = [] := by
    by_cases he : Region.ready .any os listed = []
    · exact he
    · exfalso
      obtain ⟨j, hj⟩ := List.exists_mem_of_ne_nil _ he
      have h0 := (mem_ready.1 hj).1
      have hlt : j < listed.size := by
       rcases Nat.lt_or_ge j listed.size with h | h
       · exact h
       · simp [Array.getElem?_eq_none h] at h0
      have hm : listed[j] ∈ listed.toList.filter (· == false) := List.mem_filter.2 ⟨by simp, by simp [hlt] at h0; simp [h0]⟩
      have : 0 < (listed.toList.filter (· == false)).length := List.length_pos_of_mem hm
      omega
   exact ⟨hr, done listed a w hsz hr hC⟩
 | succ fuel ih =>
   intro listed a w hsz hcl hf hC
   refine ⟨fun hr => done listed a w hsz hr hC, fun i hi => ?_⟩
   obtain ⟨h0, o, ho, hall⟩ := mem_ready.1 hi
   have hlt : i < listed.size := by rw [hsz]; exact (Array.getElem?_eq_some_iff.1 ho).1
   have hiL : listed.getD i false = false := by simp [hlt] at h0 ⊢; exact h0
   have hset : (fun j => (listed.setIfInBounds i true).getD j false) = (fun j => listed.getD j false || j == i) := by
    funext j
    by_cases hij : i = j
    · subst hij; simp [hlt]
    · rw [getD_set_ne false hij]
      have : (j == i) = false := beq_eq_false_iff_ne.2 (Ne.symm hij)
      simp [this]
   refine h.step hk hcl hC ho hiL hall fun a' w' hI' => ih (listed.setIfInBounds i true) a' w' (by simpa using hsz) ?_ ?_ (by rw [hset]; exact hI')
   · intro j oj hj hL e he hb
     rw [hset] at hL ⊢
     simp only [Bool.or_eq_true] at hL ⊢
     rcases hL with hL | hL
     · exact .inl (hcl j oj hj hL e he hb)
     · have : j = i := by simpa using hL
       subst this
       rw [ho] at hj; cases hj
       exact .inl (hall e he hb)
   · have hL : listed.toList = listed.toList.take i ++ listed[i] :: listed.toList.drop (i + 1) := by
      have hl : i < listed.toList.length := by rw [Array.length_toList]; exact hlt
      have h := List.getElem_cons_drop (h := hl)
      rw [show listed[i] = listed.toList[i] from by simp, h, List.take_append_drop]
     have hb : listed[i] = false := by simp [hlt] at hiL; exact hiL
     have h1 : (listed.toList.filter (· == false)).length = ((listed.toList.take i).filter (· == false)).length + 1 + ((listed.toList.drop (i + 1)).filter (· == false)).length := by
      conv => lhs; rw [hL, List.filter_append, List.filter_cons, hb]
      simp only [BEq.rfl, if_true, List.length_append, List.length_cons]; omega
     have h2 : ((listed.setIfInBounds i true).toList.filter (· == false)).length = ((listed.toList.take i).filter (· == false)).length + ((listed.toList.drop (i + 1)).filter (· == false)).length := by
      rw [Array.toList_setIfInBounds, List.set_eq_take_append_cons_drop, if_pos (by rw [Array.length_toList]; exact hlt), List.filter_append, List.filter_cons]; simp
     omega
end
theorem fY.draw {P : Program} {nt : Nat} {gl : List Nat} {os : Array Oper} {ds : List OD} {us : List (E → V → E)} {gs : List (Option (Nat × Bool))} {sl : List (List Nat)} {id : Nat} (hm : P.follows .mixedOrders = true)
 (hreg : k_ P nt gl os ds us gs sl) (hst : jS os sl = true) (hok : okE os ds = true) : fY P nt gl (.region id os true) (fK (dx ds os us gs)) := by
 intro k hk G e a s w hne he hs
 unfold fK at hne ⊢
 cases hrun : cz k (dx ds os us gs) e s with
 | none => rw [hrun] at hne; exact absurd rfl hne
 | some r =>
   rw [hrun] at hne
   simp only at hne ⊢
   cases hchk : hO (snaps s (dx ds os us gs) r) (dx ds os us gs) e r with
   | false => rw [hchk] at hne; exact absurd rfl hne
   | true =>
     rw [hchk] at hne
     simp only at hne ⊢
     have D : Dr P nt gl os ds us gs sl k e s r := ⟨hreg, hst, hok, hrun, hchk⟩
     refine wp_region_any hm ?_
     have hfalse : (fun j => (Array.replicate os.size false).getD j false) = fun _ => false := by
      funext j
      rcases Nat.lt_or_ge j os.size with hj | hj
      · simp [hj]
      · have : (Array.replicate os.size false)[j]? = none := Array.getElem?_eq_none (by simpa using hj)
        simp [this]
     have hgf : ∀ n t, gj os (dm r) (fun _ => false) e n t = Gt t e := by
      intro n t
      induction n with
      | zero => rfl
      | succ n ih => simp [gj, ih]
     refine D.any hk (G0 := G) (w0 := w) (fun L a' w' hall hI => ?_) os.size _ a _ (by simp) ?_ (by simp) ?_
     · obtain ⟨p, m, G', hI⟩ := hI
       have hp : p = os.size := by
        rcases Nat.lt_or_ge p os.size with hlt | hge
        · have h1 := hI.cut.jZ p (Nat.le_refl _) (hI.cut.atE hlt)
          rw [hall p hlt] at h1; cases h1
        · have := hI.cut.pn; omega
       subst hp
       have hnh : ∀ b, ¬ hid ds (dx ds os us gs) e s r L os.size b := fun b ⟨i, h1, _, h3, _⟩ => by rw [hall i h1] at h3; cases h3
       have hview : view ds (dx ds os us gs) e s r L os.size = (eA s r os.size).heap.get := by
        funext b; unfold view; rw [if_neg (hnh b)]
       obtain ⟨c1, c2, _⟩ := chain D.lz D.run hI.cut.mp hI.cut.pn hI.cut.V4 hI.fresh
       have hl : fZ e s r = .au (nU e r os.size) (eA s r os.size) := by rw [yF, D.len.1]
       rw [hl]
       refine ⟨rfl, G', hI.env.congr fun t ht => ?_, ⟨hview ▸ hI.rel, c2, fun b l hb => ⟨(hI.dom b l hb).1, (hI.dom b l hb).2.1⟩⟩, ⟨hview ▸ hI.go, Nat.le_trans hI.nx c1, hI.kp⟩⟩
       rw [gO _ _ ht, D.me os.size (Nat.le_refl _) t ht]
       have : ∀ n, n ≤ os.size → gj os (dm r) L e n t = gj os (dm r) (fun _ => true) e n t := by
        intro n
        induction n with
        | zero => intro _; rfl
        | succ n ih => intro hn; simp only [gj, hall n (by omega), ih (by omega)]
       exact this _ (Nat.le_refl _)
     · rw [hfalse]; intro j oj _ hL; cases hL
     · rw [hfalse]
       refine D.next (q := 0) (fun j oj _ hL => by cases hL) (by omega) (.inl rfl) (fun j hj => by omega) (fun _ _ _ => rfl) (fun _ _ _ => rfl) (he.congr fun t ht => ?_) (SR.drew hs) (fD.refl _ _ _).drew
       rw [gO _ _ ht, hgf]
end
end Go.Proofs.YtcgdlgbomjnnnaaGreatLab
/- The jL: the law of regions that draw their order with numbers kept from the start. On the program: that it follows mixed orders. -/
namespace Go.Proofs.YtcgdlgbomjnnnaaGreatLab
open Go
set_option linter.all false
noncomputable section
theorem kC {n : Nat} : ∀ {l : List Nat}, jE n l = true ↔ n ∈ l
 | [] => by simp [jE]
 | x :: l => by
   unfold jE
   by_cases h : n = x
   · subst h; simp
   · rw [dH h]; simp only [List.mem_cons, h, false_or]; exact kC
theorem SR.O_ {G : Pl} {s : St} {w : World} (hs : SR G s w) : SR G (s.new .dead) w ∧ ∀ mm k, own mm G (s.new .dead).heap.get k → own mm G s.heap.get k := by
 have hg : ∀ b o, (s.new .dead).heap.get b = some o → (b = s.next ∧ o = .dead) ∨ (b ≠ s.next ∧ s.heap.get b = some o) := fun b o hb => by
  have := eR b o hb
  unfold gq at this
  by_cases e : b = s.next
  · rw [if_pos e] at this; cases this; exact .inl ⟨e, rfl⟩
  · rw [if_neg e] at this; exact .inr ⟨e, this⟩
 refine ⟨⟨⟨fun b o hb => ?_, fun b b' o o' l l' hb hb' lp lp' hl hl' he => ?_⟩, fun b hb => ?_, fun b l hb => ?_⟩, fun mm k ⟨b, o, l, h1, h2, h3, h4⟩ => ?_⟩
 · rcases hg b o hb with ⟨_, rfl⟩ | ⟨_, h⟩
   · trivial
   · exact hs.r.ob b o h
 · rcases hg b o hb with ⟨_, rfl⟩ | ⟨_, h⟩
   · cases lp
   · rcases hg b' o' hb' with ⟨_, rfl⟩ | ⟨_, h'⟩
     · cases lp'
     · exact hs.r.inj b b' o o' l l' h h' lp lp' hl hl' he
 · cases h : (s.new .dead).heap.get b with
   | none => rfl
   | some p =>
     simp only [St.new] at hb
     rcases hg b p h with ⟨e, _⟩ | ⟨_, h'⟩
     · omega
     · rw [hs.fresh b (by omega)] at h'; cases h'
 · have := hs.dom b l hb
   exact ⟨Nat.lt_succ_of_lt this.1, this.2⟩
 · rcases hg b o h1 with ⟨_, rfl⟩ | ⟨_, h⟩
   · exact (Ob.oy h2).elim
   · exact ⟨b, o, l, h, h2, h3, h4⟩
theorem SR.VT {G : Pl} {w : World} : ∀ {n : Nat} {s : St}, SR G s w → SR G (fI n s) w ∧ (fI n s).next = s.next + n ∧ ∀ mm k, own mm G (fI n s).heap.get k → own mm G s.heap.get k
 | 0, s, h => ⟨h, rfl, fun _ _ h => h⟩
 | n + 1, s, h => by
   obtain ⟨a1, a2⟩ := h.O_
   obtain ⟨b1, b2, b3⟩ := SR.VT (n := n) a1
   refine ⟨b1, ?_, fun mm k hk => a2 mm k (b3 mm k hk)⟩
   show (fI n (s.new .dead)).next = _
   rw [b2]; simp only [St.new]; omega
theorem SR.show {G : Pl} {s : St} {w : World} (hs : SR G s w) {id : Nat} {l : Loc} {ob : Ob} (hl : G id = some l) (ho : j6 G w id ob) (hn : ¬ own false G s.heap.get l.blk) :
 SR G (s.put id ob) w ∧ ∀ mm k, own mm G (s.put id ob).heap.get k → own mm G s.heap.get k ∨ k = l.blk := by
 have hid := (hs.dom id l hl).1
 have hg : ∀ b o, (s.put id ob).heap.get b = some o → (b = id ∧ o = ob) ∨ (b ≠ id ∧ s.heap.get b = some o) := fun b o hb => by
  have := eR b o hb
  unfold gq at this
  by_cases e : b = id
  · rw [if_pos e] at this; cases this; exact .inl ⟨e, rfl⟩
  · rw [if_neg e] at this; exact .inr ⟨e, this⟩
 refine ⟨⟨⟨fun b o hb => ?_, fun b b' o o' m m' hb hb' lp lp' hm hm' he => ?_⟩, fun b hb => ?_, hs.dom⟩, fun mm k ⟨b, o, m, h1, h2, h3, h4⟩ => ?_⟩
 · rcases hg b o hb with ⟨rfl, rfl⟩ | ⟨_, h⟩
   · exact ho
   · exact hs.r.ob b o h
 · rcases hg b o hb with ⟨rfl, rfl⟩ | ⟨e, h⟩
   · rcases hg b' o' hb' with ⟨rfl, rfl⟩ | ⟨e', h'⟩
     · rfl
     · rw [hl] at hm; cases hm
       exact absurd ⟨b', o', m', h', lp', hm', he.symm⟩ hn
   · rcases hg b' o' hb' with ⟨rfl, rfl⟩ | ⟨e', h'⟩
     · rw [hl] at hm'; cases hm'
       exact absurd ⟨b, o, m, h, lp, hm, he⟩ hn
     · exact hs.r.inj b b' o o' m m' h h' lp lp' hm hm' he
 · cases h : (s.put id ob).heap.get b with
   | none => rfl
   | some p =>
     simp only [St.put] at hb
     rcases hg b p h with ⟨e, _⟩ | ⟨_, h'⟩
     · omega
     · rw [hs.fresh b hb] at h'; cases h'
 · rcases hg b o h1 with ⟨rfl, rfl⟩ | ⟨_, h⟩
   · rw [hl] at h3; cases h3; exact .inr h4.symm
   · exact .inl ⟨b, o, m, h, h2, h3, h4⟩
def Good (G : Pl) (w : World) (s : St) (a : PA) : Prop := ∃ l, G a.id = some l ∧ j6 G w a.id a.ob ∧ ¬ own false G s.heap.get l.blk
theorem wz {G : Pl} {w : World} (bef : List Nat) : ∀ {ps : List PA} {s : St}, SR G s w → (∀ a, a ∈ ps → a.i ∈ bef → Good G w s a) →
 ps.Pairwise (fun a b => a.i ∈ bef → b.i ∈ bef → ∀ l m, G a.id = some l → G b.id = some m → l.blk ≠ m.blk) →
 SR G (rO bef ps s) w ∧ (rO bef ps s).next = s.next ∧ ∀ mm k, own mm G (rO bef ps s).heap.get k → own mm G s.heap.get k ∨ ∃ a, a ∈ ps ∧ a.i ∈ bef ∧ ∃ l, G a.id = some l ∧ k = l.blk
 | [], s, hs, _, _ => ⟨hs, rfl, fun _ _ h => .inl h⟩
 | a :: ps, s, hs, hg, hp => by
   rw [List.pairwise_cons] at hp
   unfold rO
   cases hm : jE a.i bef with
   | false =>
     obtain ⟨q1, q2, q3⟩ := wz bef hs (fun b hb => hg b (List.mem_cons_of_mem _ hb)) hp.2
     refine ⟨q1, q2, fun mm k hk => ?_⟩
     rcases q3 mm k hk with h | ⟨b, b1, b2⟩
     · exact .inl h
     · exact .inr ⟨b, List.mem_cons_of_mem _ b1, b2⟩
   | true =>
     have ha := kC.1 hm
     obtain ⟨l, g1, g2, g3⟩ := hg a List.mem_cons_self ha
     obtain ⟨s1, s2⟩ := hs.show g1 g2 g3
     obtain ⟨q1, q2, q3⟩ := wz bef s1 (fun b hb hbb => by
      obtain ⟨m, m1, m2, m3⟩ := hg b (List.mem_cons_of_mem _ hb) hbb
      refine ⟨m, m1, m2, fun ho => ?_⟩
      rcases s2 false _ ho with h | h
      · exact m3 h
      · exact hp.1 b hb ha hbb l m g1 m1 h.symm) hp.2
     refine ⟨q1, q2, fun mm k hk => ?_⟩
     rcases q3 mm k hk with h | ⟨b, b1, b2⟩
     · rcases s2 mm k h with h | h
       · exact .inl h
       · exact .inr ⟨a, List.mem_cons_self, ha, l, g1, h⟩
     · exact .inr ⟨b, List.mem_cons_of_mem _ b1, b2⟩
theorem MV : ∀ (ps : List PA) (s : St), uy ps s = rO (ps.map (·.i)) ps s := by
 have key : ∀ (ps : List PA) (bef : List Nat) (s : St), (∀ a, a ∈ ps → a.i ∈ bef) → uy ps s = rO bef ps s := by
  intro ps
  induction ps with
  | nil => intro bef s _; rfl
  | cons a ps ih =>
    intro bef s h
    unfold uy rO
    rw [kC.2 (h a List.mem_cons_self)]
    exact ih bef _ (fun b hb => h b (List.mem_cons_of_mem _ hb))
 exact fun ps s => key ps _ s fun a ha => List.mem_map.2 ⟨a, ha, rfl⟩
theorem kY {bef : List Nat} {a : PA} : ∀ {ps : List PA}, a ∈ kz bef ps ↔ a ∈ ps ∧ a.i ∉ bef
 | [] => by simp [kz]
 | b :: ps => by
   unfold kz
   cases hm : jE b.i bef with
   | false =>
     have hb : b.i ∉ bef := fun h => by rw [kC.2 h] at hm; cases hm
     simp only [List.mem_cons, kY]
     constructor
     · rintro (rfl | ⟨h1, h2⟩)
       · exact ⟨.inl rfl, hb⟩
       · exact ⟨.inr h1, h2⟩
     · rintro ⟨rfl | h1, h2⟩
       · exact .inl rfl
       · exact .inr ⟨h1, h2⟩
   | true =>
     have hb := kC.1 hm
     simp only [List.mem_cons, kY]
     constructor
     · rintro ⟨h1, h2⟩; exact ⟨.inr h1, h2⟩
     · rintro ⟨rfl | h1, h2⟩
       · exact absurd hb h2
       · exact ⟨h1, h2⟩
theorem lM {R : PA → PA → Prop} {bef : List Nat} : ∀ {ps : List PA}, ps.Pairwise R → (kz bef ps).Pairwise R
 | [], h => h
 | b :: ps, h => by
   rw [List.pairwise_cons] at h
   unfold kz
   cases jE b.i bef with
   | false => exact List.pairwise_cons.2 ⟨fun a ha => h.1 a (kY.1 ha).1, lM h.2⟩
   | true => exact lM h.2
theorem SR.keep {G : Pl} {s : St} {w w' : World} {obj : Obj} (hs : SR G s w) (hw : gT obj w w') {id : Nat} (hid : G id = none) (hlt : id < s.next) (tot : Nat) :
 SR (G.add id ⟨w.heap.size, 0, tot⟩) s w' ∧ ∀ mm k, own mm (G.add id ⟨w.heap.size, 0, tot⟩) s.heap.get k → own mm G s.heap.get k := by
 have hle : G.le (G.add id ⟨w.heap.size, 0, tot⟩) := Pl.gC hid
 have hdead : ∀ o, s.heap.get id = some o → o.live = false := fun o ho => by
  cases hq : o.live with
  | false => rfl
  | true => obtain ⟨l, h1, _⟩ := (hs.r.ob id o ho).loc hq; rw [hid] at h1; cases h1
 have hlo : ∀ b o l, s.heap.get b = some o → o.live = true → (G.add id ⟨w.heap.size, 0, tot⟩) b = some l → G b = some l := fun b o l hb lp hl => by
  unfold Pl.add at hl
  by_cases e : b = id
  · subst e; rw [hdead o hb] at lp; cases lp
  · rwa [if_neg e] at hl
 refine ⟨⟨⟨fun b o hb => (hs.r.ob b o hb).other hle (fun l hl _ => hw.same _ (hs.dom b l hl).2), fun b b' o o' l l' hb hb' lp lp' hl hl' he => hs.r.inj b b' o o' l l' hb hb' lp lp' (hlo b o l hb lp hl) (hlo b' o' l' hb' lp' hl') he⟩, hs.fresh, fun b l hb => ?_⟩, fun mm k ⟨b, o, l, h1, h2, h3, h4⟩ => ⟨b, o, l, h1, h2, hlo b o l h1 (Ob.xk h2) h3, h4⟩⟩
 unfold Pl.add at hb
 rw [hw.size]
 by_cases e : b = id
 · rw [if_pos e] at hb; cases hb; exact ⟨by omega, by simp⟩
 · rw [if_neg e] at hb; have := hs.dom b l hb; exact ⟨this.1, by omega⟩
def sD (k : KC) (l : List oC) (x0 : dN) : Nat → dN
 | 0 => x0
 | j + 1 => match l[j]? with | some t => (eu k j t (sD k l x0 j)).getD x0 | none => x0
theorem ZZ {k : KC} {l : List oC} {x0 : dN} {r : List dN} (h : uW k l 0 x0 = some r) : (∀ j t, l[j]? = some t → eu k j t (sD k l x0 j) = some (sD k l x0 (j + 1))) ∧ r.length = l.length ∧ (∀ j, j < l.length → r[j]? = some (sD k l x0 (j + 1))) ∧ lB x0 r = sD k l x0 l.length := by
 have key : ∀ (suf pre : List oC) (r : List dN), l = pre ++ suf → uW k suf pre.length (sD k l x0 pre.length) = some r → (∀ j t, pre.length ≤ j → l[j]? = some t → eu k j t (sD k l x0 j) = some (sD k l x0 (j + 1))) ∧ r.length = suf.length ∧ (∀ j, j < suf.length → r[j]? = some (sD k l x0 (pre.length + j + 1))) ∧ lB (sD k l x0 pre.length) r = sD k l x0 l.length := by
  intro suf
  induction suf with
  | nil =>
    intro pre r hl h
    rw [List.append_nil] at hl
    subst hl
    cases h
    exact ⟨fun j t hj hjt => (by rw [List.getElem?_eq_none hj] at hjt; cases hjt), rfl, fun j hj => absurd hj (Nat.not_lt_zero _), rfl⟩
  | cons t suf ih =>
    intro pre r hl h
    unfold uW at h
    split at h
    · cases h
    · rename_i z hz
      split at h
      · cases h
      · rename_i r' hr'
        cases h
        have hat : l[pre.length]? = some t := by rw [hl]; simp
        have hx : sD k l x0 (pre.length + 1) = z := by
         show (match l[pre.length]? with | some t => (eu k pre.length t (sD k l x0 pre.length)).getD x0 | none => x0) = z
         rw [hat]; simp only; rw [hz]; rfl
        have hpl : (pre ++ [t]).length = pre.length + 1 := by simp
        obtain ⟨q1, q2, q3, q4⟩ := ih (pre ++ [t]) r' (by rw [hl]; simp) (by rw [hpl, hx]; exact hr')
        rw [hpl] at q3 q4
        refine ⟨fun j t' hj hjt => ?_, by simp [q2], fun j hj => ?_, ?_⟩
        · by_cases e : j = pre.length
          · subst e
            rw [hat] at hjt; cases hjt
            rw [hx]; exact hz
          · exact q1 j t' (by simp; omega) hjt
        · cases j with
          | zero => rw [hx.symm]; rfl
          | succ j =>
            rw [List.getElem?_cons_succ, q3 j (by simpa using hj)]
            congr 2; omega
        · show lB z r' = _
          rw [← hx]; exact q4
 obtain ⟨q1, q2, q3, q4⟩ := key l [] r rfl h
 exact ⟨fun j t hj => q1 j t (Nat.zero_le _) hj, q2, fun j hj => by rw [q3 j hj, List.length_nil, Nat.zero_add], q4⟩
def sS (l : List oC) (j : Nat) : Bool := match l[j]? with | some t => t.k.kX | none => false
theorem nS (p : Nat → Bool) : ∀ n, aT p (n + 1) = (if p 0 then 1 else 0) + aT (fun j => p (j + 1)) n
 | 0 => by simp [aT]
 | n + 1 => by
   rw [show aT p (n + 1 + 1) = aT p (n + 1) + (if p (n + 1) then 1 else 0) from rfl, nS p n]
   simp only [aT]; omega
def OC (s0 : St) (r : List dN) : Nat → St | 0 => s0 | i + 1 => match r[i]? with | some x => x.s | none => s0
theorem Aq : ∀ {l : List oC} {r : List dN} {s0 : St}, r.length = l.length → (∀ (j : Nat) (t : oC) (y : dN), l[j]? = some t → r[j]? = some y → t.k.kX = false → y.s = OC s0 r j) →
 ∀ p, p ≤ l.length → (qY s0 l r)[aT (sS l) p]? = some (OC s0 r p)
 | [], [], s0, _, _, p, hp => by
   have : p = 0 := by simpa using hp
   subst this; rfl
 | [], _ :: _, s0, h, _, _, _ => by simp at h
 | _ :: _, [], s0, h, _, _, _ => by simp at h
 | t :: l, y :: r, s0, h, hq, p, hp => by
   have hq' : ∀ (j : Nat) (t' : oC) (y' : dN), l[j]? = some t' → r[j]? = some y' → t'.k.kX = false → y'.s = OC y.s r j := fun j t' y' h1 h2 h3 => by
    have := hq (j + 1) t' y' (by simpa using h1) (by simpa using h2) h3
    rw [this]
    cases j with
    | zero => rfl
    | succ j =>
      simp only [OC, List.getElem?_cons_succ]
      have hjl : j < r.length := by
       have := (List.getElem?_eq_some_iff.1 h2).1
       omega
      rw [List.getElem?_eq_getElem hjl]
   have ih := Aq (l := l) (r := r) (s0 := y.s) (by simpa using h) hq'
   have h0 := hq 0 t y rfl rfl
   have h0 : t.k.kX = false → y.s = s0 := h0
   have hs : (fun j => sS (t :: l) (j + 1)) = sS l := by funext j; simp [sS]
   cases p with
   | zero =>
     cases hE : t.k.kX with
     | true => simp [qY, hE, aT]; rfl
     | false =>
       have := ih 0 (Nat.zero_le _)
       simp only [qY, hE]
       rw [h0 hE] at this
       rw [h0 hE]; exact this
   | succ p =>
     rw [nS, hs]
     have := ih p (by simpa using hp)
     have hz : sS (t :: l) 0 = t.k.kX := by simp [sS]
     rw [hz]
     have hfin : OC s0 (y :: r) (p + 1) = OC y.s r p := by
      cases p with
      | zero => rfl
      | succ p =>
        simp only [OC, List.getElem?_cons_succ]
        have hpl : p < r.length := by simp at h hp; omega
        rw [List.getElem?_eq_getElem hpl]
     rw [hfin]
     cases hE : t.k.kX with
     | true => simp only [qY, hE, if_true]; rw [Nat.add_comm, List.getElem?_cons_succ]; exact this
     | false => simp only [qY, hE]; simp only [Bool.false_eq_true, if_false, Nat.zero_add]; exact this
theorem uR {sn : List St} : ∀ {l : List oC} {x : dN} {r : List dN} {j : Nat} {t : oC} {y z : dN}, fE sn l x r = true → l[j]? = some t → r[j]? = some z → (match j with | 0 => some x | i + 1 => r[i]?) = some y → vj sn t y.e z.v = true
 | [], _, _, _, _, _, _, _, h, _, _ => by simp at h
 | _ :: _, _, [], _, _, _, _, _, _, h, _ => by simp at h
 | t0 :: l, x, y0 :: r, j, t, y, z, h, h1, h2, h3 => by
   unfold fE at h
   cases hb : vj sn t0 x.e y0.v with
   | false => rw [hb] at h; cases h
   | true =>
     rw [hb] at h
     cases j with
     | zero => cases h1; cases h2; cases h3; exact hb
     | succ j =>
       refine uR (l := l) (x := y0) (r := r) (j := j) h (by simpa using h1) (by simpa using h2) ?_
       cases j with
       | zero => simpa using h3
       | succ j => simpa using h3
theorem KM {sn : List St} {t : oC} {e : E} {v : V} {lo hi c : Nat} {f : E → St → Option V} {s : St} (h : vj sn t e v = true) (ht : t.k = .d lo hi f) (ho : jX t.g e = some false) (hs : sn[c]? = some s) (h1 : lo ≤ c) (h2 : c ≤ hi) : f e s = some v := by
 unfold vj at h
 rw [ht] at h
 have hm : s ∈ (sn.drop lo).take (hi + 1 - lo) := by
  refine List.mem_of_getElem? (i := c - lo) ?_
  rw [List.getElem?_take, if_pos (by omega), List.getElem?_drop, show lo + (c - lo) = c by omega, hs]
 have := List.all_eq_true.1 h s hm
 rw [ho] at this
 simp only at this
 split at this
 · rename_i v' hv'
   rw [hv', mD this]
 · cases this
theorem O6 {k : KC} {i : Nat} {t : oC} {x y : dN} (h : eu k i t x = some y) : y.e = t.u x.e y.v := by
 unfold eu at h
 split at h
 · cases h
 · cases h; rfl
 · split at h <;> split at h <;> cases h <;> rfl
theorem IG {k : KC} {i : Nat} {t : oC} {x y : dN} (h : eu k i t x = some y) : y.id = idR t.k x.id := by
 unfold eu at h
 split at h
 · cases h
 · cases h; rfl
 · split at h <;> rename_i hk <;> split at h <;> cases h <;> rw [hk] <;> rfl
theorem vt {ds0 : List OD} {ord : Nat → Nat → Bool} : ∀ {ds : List OD} {us : List (E → V → E)} {gs : List (Option (Nat × Bool))} {k i : Nat} {d : OD} {u : E → V → E} {g : Option (Nat × Bool)}, ds[i]? = some d → us[i]? = some u → gs[i]? = some g → (e_ ds0 ord k ds us gs)[i]? = some (jG ds0 ord (k + i) d u g)
 | [], us, gs, k, i, d, u, g, h, _, _ => by simp at h
 | _ :: _, [], gs, k, i, d, u, g, _, h, _ => by simp at h
 | _ :: _, _ :: _, [], k, i, d, u, g, _, _, h => by simp at h
 | x :: ds, y :: us, z :: gs, k, 0, d, u, g, h1, h2, h3 => by cases h1; cases h2; cases h3; rfl
 | x :: ds, y :: us, z :: gs, k, i + 1, d, u, g, h1, h2, h3 => by
   have := vt (ds0 := ds0) (ord := ord) (ds := ds) (us := us) (gs := gs) (k := k + 1) (i := i) (by simpa using h1) (by simpa using h2) (by simpa using h3)
   simp only [e_, List.getElem?_cons_succ, this]
   congr 2; omega
theorem r9 {ds0 : List OD} {ord : Nat → Nat → Bool} : ∀ {ds : List OD} {us : List (E → V → E)} {gs : List (Option (Nat × Bool))} {k : Nat}, us.length = ds.length → gs.length = ds.length → (e_ ds0 ord k ds us gs).length = ds.length
 | [], us, gs, k, _, _ => by cases us <;> cases gs <;> rfl
 | d :: ds, [], gs, k, h, _ => by cases h
 | d :: ds, u :: us, [], k, _, h => by cases h
 | d :: ds, u :: us, g :: gs, k, h1, h2 => by
   simp only [e_, List.length_cons]; rw [r9 (by simpa using h1) (by simpa using h2)]
theorem um {ds : List OD} {ord : Nat → Nat → Bool} (h : PF ds ord = true) {i j : Nat} (hij : i < j) (hj : j < ds.length) (hiE : bz ds i = true) (hjE : bz ds j = true) : ord i j = true ∨ ord j i = true := by
 have h1 := List.all_eq_true.1 h j (List.mem_range.2 hj)
 have h2 := List.all_eq_true.1 h1 i (List.mem_range.2 (by omega))
 have : Nat.blt i j = true := by rw [dD]; simpa using hij
 simpa [this, hiE, hjE] using h2
structure Kr (P : Program) (nt : Nat) (gl : List Nat) (os : Array Oper) (ds : List OD) (us : List (E → V → E)) (gs : List (Option (Nat × Bool))) (sl : List (List Nat)) (k : KC) (X : Nat → dN) (s0 : St) (e0 : E) : Prop where
 lz : k_ P nt gl os ds us gs sl
 st : jS os sl = true
 ok : PF ds (br os) = true
 sE : X 0 = ⟨.undef, e0, fI (aT (cJ ds) ds.length) s0, [], s0.next⟩
 step : ∀ i d u g, ds[i]? = some d → us[i]? = some u → gs[i]? = some g → eu k i (jG ds (br os) i d u g) (X i) = some (X (i + 1))
 zU : ∀ i f g, ds[i]? = some (.d f) → gs[i]? = some g → jX g (X i).e = some false → tP ds (br os) i = false → ∀ p, p ≤ os.size → aT (fun j => bz ds j && br os j i) ds.length ≤ aT (bz ds) p → aT (bz ds) p ≤ aT (fun j => bz ds j && !br os i j) ds.length → f (X i).e (X p).s = some (X (i + 1)).v
section
variable {P : Program} {nt : Nat} {gl : List Nat} {os : Array Oper} {ds : List OD} {us : List (E → V → E)} {gs : List (Option (Nat × Bool))} {sl : List (List Nat)} {k : KC} {X : Nat → dN} {s0 : St} {e0 : E}
def vals (X : Nat → dN) (i : Nat) : V := (X (i + 1)).v
theorem Kr.me (h : Kr P nt gl os ds us gs sl k X s0 e0) : ∀ i, i ≤ os.size → ∀ t, t < 256 → Gt t (X i).e = gj os (vals X) (fun _ => true) e0 i t
 | 0, _, t, _ => by rw [h.sE]; rfl
 | i + 1, hi, t, ht => by
   obtain ⟨d, u, g, s, h1, h2, h3, _, _, h6, _⟩ := h.lz.all i os[i] (by simp [show i < os.size by omega])
   have he := O6 (h.step i d u g h1 h2 h3)
   have ih := Kr.me h i (by omega) t ht
   have ho : os[i]? = some os[i] := by simp [show i < os.size by omega]
   rw [he]
   simp only [gj, true_and, ho, Option.bind_some]
   show Gt t (u (X i).e (X (i + 1)).v) = _
   rcases h6 with ⟨a1, rfl⟩ | ⟨t', a1, a2, a3, rfl⟩
   · rw [a1, if_neg (by simp)]; exact ih
   · rw [iT t t' ht a3, a1]
     by_cases e : t = t'
     · subst e; rw [if_pos rfl, if_pos rfl]; rfl
     · rw [if_neg e, if_neg (fun e' => e (Option.some.inj e').symm)]; exact ih
theorem Kr.same (h : Kr P nt gl os ds us gs sl k X s0 e0) {L : Nat → Bool} (hc : cW os L) {i : Nat} {o : Oper} {s : List Nat} (hi : os[i]? = some o) (hs : sl[i]? = some s) (hs2 : ∀ t, t ∈ s → t < 256) (hiL : L i = false) (hw : ∀ e ∈ o.after, Region.binds .any e = true → L e.on = true) :
 ∀ t, t ∈ s → Gt t (mR (gj os (vals X) L e0 os.size)) = Gt t (X i).e := by
 intro t ht
 have hlt := (Array.getElem?_eq_some_iff.1 hi).1
 have hall : ∀ (i : Nat) (o : Oper), os[i]? = some o → ∃ s, sl[i]? = some s := fun i o hio => by
  obtain ⟨d, u, g, s, _, _, _, h4, _⟩ := h.lz.all i o hio
  exact ⟨s, h4⟩
 rw [gO _ _ (hs2 t ht), qo h.st hall hc hi hs hiL hw ht os.size, Nat.min_eq_right (by omega), h.me i (by omega) t (hs2 t ht)]
theorem Kr.put (h : Kr P nt gl os ds us gs sl k X s0 e0) {L : Nat → Bool} (hc : cW os L) {i : Nat} {o : Oper} {u : E → V → E} (hi : os[i]? = some o) (hiL : L i = false) (hu : iP nt o.dst u) {G : Pl} {a : Act} (he : cU nt gl G (mR (gj os (vals X) L e0 os.size)) a) {v' : Value} (hv : VR G (vals X i) v') :
 cU nt gl G (mR (gj os (vals X) (fun j => L j || j == i) e0 os.size)) (a.put o.dst v') := by
 have hlt := (Array.getElem?_eq_some_iff.1 hi).1
 have hall : ∀ (i : Nat) (o : Oper), os[i]? = some o → ∃ s, sl[i]? = some s := fun i o hio => by
  obtain ⟨d, u, g, s, _, _, _, h4, _⟩ := h.lz.all i o hio
  exact ⟨s, h4⟩
 obtain ⟨s, hs⟩ := hall i o hi
 refine (he.dst hu hv).congr fun t ht => ?_
 rw [gO _ _ ht, tu h.st hall hc hi hs hiL os.size hlt]
 rcases hu with ⟨a1, rfl⟩ | ⟨t', a1, a2, a3, rfl⟩
 · rw [a1, if_neg (by simp)]; exact gO _ _ ht
 · rw [iT t t' ht a3, a1]
   by_cases e : t = t'
   · subst e; rw [if_pos rfl, if_pos rfl]
   · rw [if_neg e, if_neg (fun e' => e (Option.some.inj e').symm), gO _ _ ht]
def ri (gs : List (Option (Nat × Bool))) (X : Nat → dN) (i : Nat) : Option Bool := match gs[i]? with | some g => jX g (X i).e | none => none
def VH (ds : List OD) (gs : List (Option (Nat × Bool))) (X : Nat → dN) (i : Nat) : Prop := bz ds i = true ∧ ri gs X i = some false
def iY (ds : List OD) (gs : List (Option (Nat × Bool))) (X : Nat → dN) (i : Nat) (ob : Ob) : Prop := ∃ f, ds[i]? = some (.a f) ∧ ri gs X i = some false ∧ ∃ v, f (X i).e (X i).id = some (v, ob)
def shown (os : Array Oper) (ds : List OD) (gs : List (Option (Nat × Bool))) (X : Nat → dN) (m i : Nat) : Prop := ∃ j, j < m ∧ VH ds gs X j ∧ br os i j = true
theorem Kr.wW (h : Kr P nt gl os ds us gs sl k X s0 e0) : ∀ i, i ≤ os.size → (X i).id = s0.next + aT (cJ ds) i
 | 0, _ => by rw [h.sE]; rfl
 | i + 1, hi => by
   obtain ⟨d, u, g, s, h1, h2, h3, _⟩ := h.lz.all i os[i] (by simp [show i < os.size by omega])
   rw [IG (h.step i d u g h1 h2 h3), h.wW i (by omega)]
   simp only [aT, cJ, h1]
   cases d <;> simp [jG, idR, RI.JI, OD.JI] <;> omega
theorem kK {p : Nat → Bool} {i j : Nat} (h : i ≤ j) : aT p i ≤ aT p j := by
 induction j with
 | zero => have : i = 0 := by omega
           subst this; exact Nat.le_refl _
 | succ j ih =>
   by_cases e : i = j + 1
   · subst e; exact Nat.le_refl _
   · have := ih (by omega)
     simp only [aT]; omega
theorem Kr.HP (h : Kr P nt gl os ds us gs sl k X s0 e0) {i : Nat} (hi : i < os.size) (hA : cJ ds i = true) : s0.next ≤ (X i).id ∧ (X i).id < s0.next + aT (cJ ds) ds.length := by
 rw [h.wW i (by omega)]
 have h1 := h.lz.len.1
 have : aT (cJ ds) (i + 1) ≤ aT (cJ ds) ds.length := kK (by omega)
 simp only [aT, hA, if_true] at this
 omega
theorem Kr.ZQ (h : Kr P nt gl os ds us gs sl k X s0 e0) {i j : Nat} (hi : i < os.size) (hj : j < os.size) (hA : cJ ds i = true) (hB : cJ ds j = true) (he : (X i).id = (X j).id) : i = j := by
 rw [h.wW i (by omega), h.wW j (by omega)] at he
 rcases Nat.lt_trichotomy i j with hlt | e | hgt
 · have := kK (p := cJ ds) (show i + 1 ≤ j by omega)
   simp only [aT, hA, if_true] at this; omega
 · exact e
 · have := kK (p := cJ ds) (show j + 1 ≤ i by omega)
   simp only [aT, hB, if_true] at this; omega
theorem Kr.ag4 (h : Kr P nt gl os ds us gs sl k X s0 e0) {i : Nat} (hi : i < os.size) (hE : bz ds i = false) : (X (i + 1)).s = (X i).s := by
 obtain ⟨d, u, g, s, h1, h2, h3, _⟩ := h.lz.all i os[i] (by simp [hi])
 have hst := h.step i d u g h1 h2 h3
 unfold bz at hE
 rw [h1] at hE
 unfold eu at hst
 split at hst
 · cases hst
 · have := (Option.some.inj hst); rw [← this]
 · cases d with
   | e f => cases hE
   | p f => simp only [jG] at hst; split at hst <;> first | (cases hst; done) | (rw [← Option.some.inj hst])
   | d f => simp only [jG] at hst; split at hst <;> first | (cases hst; done) | (rw [← Option.some.inj hst])
   | a f => simp only [jG] at hst; split at hst <;> first | (cases hst; done) | (rw [← Option.some.inj hst])
theorem Kr.s_ (h : Kr P nt gl os ds us gs sl k X s0 e0) {m : Nat} : ∀ n, m + n ≤ os.size → (∀ j, m ≤ j → j < m + n → bz ds j = false) → (X (m + n)).s = (X m).s
 | 0, _, _ => rfl
 | n + 1, hn, hE => by
   rw [← Nat.add_assoc, h.ag4 (by omega) (hE (m + n) (by omega) (by omega))]
   exact h.s_ n (by omega) (fun j h1 h2 => hE j h1 (by omega))
theorem ko {i : Nat} {ob : Ob} (h : iY ds gs X i ob) : cJ ds i = true := by
 obtain ⟨f, h1, _⟩ := h
 simp [cJ, h1, OD.JI]
theorem uY {i : Nat} {ob ob' : Ob} (h : iY ds gs X i ob) (h' : iY ds gs X i ob') : ob = ob' := by
 obtain ⟨f, h1, _, v, h3⟩ := h
 obtain ⟨f', h1', _, v', h3'⟩ := h'
 rw [h1] at h1'; cases h1'
 rw [h3] at h3'; cases h3'; rfl
def pq (os : Array Oper) (ds : List OD) (i : Nat) : List Nat := (List.range ds.length).filter fun a => cJ ds a && br os a i
theorem tZ {i a : Nat} (hA : cJ ds a = true) : a ∈ pq os ds i ↔ br os a i = true := by
 unfold pq
 rw [List.mem_filter, hA, Bool.true_and, List.mem_range]
 constructor
 · exact fun h => h.2
 · intro h
   refine ⟨?_, h⟩
   unfold cJ at hA
   rcases Nat.lt_or_ge a ds.length with hl | hl
   · exact hl
   · rw [List.getElem?_eq_none hl] at hA; cases hA
theorem Kr.CX (h : Kr P nt gl os ds us gs sl k X s0 e0) : ∀ m, m ≤ os.size → (∀ a, a ∈ (X m).ps ↔ a.i < m ∧ a.id = (X a.i).id ∧ iY ds gs X a.i a.ob ∧ ¬ shown os ds gs X m a.i) ∧ (X m).ps.Pairwise (fun a b => a.i < b.i)
 | 0, _ => by
   rw [h.sE]
   exact ⟨fun a => ⟨fun ha => (by cases ha), fun ha => (by have := ha.1; omega)⟩, .nil⟩
 | m + 1, hm => by
   obtain ⟨ih1, ih2⟩ := h.CX m (by omega)
   obtain ⟨d, u, g, s, h1, h2, h3, _⟩ := h.lz.all m os[m] (by simp [show m < os.size by omega])
   have hst := h.step m d u g h1 h2 h3
   have hoff : ri gs X m = jX g (X m).e := by unfold ri; rw [h3]
   have quiet : (X (m + 1)).ps = (X m).ps → ¬ VH ds gs X m → (∀ ob, ¬ iY ds gs X m ob) → (∀ a, a ∈ (X (m + 1)).ps ↔ a.i < m + 1 ∧ a.id = (X a.i).id ∧ iY ds gs X a.i a.ob ∧ ¬ shown os ds gs X (m + 1) a.i) ∧ (X (m + 1)).ps.Pairwise (fun a b => a.i < b.i) := by
    intro hps hE hA
    rw [hps]
    refine ⟨fun a => ?_, ih2⟩
    rw [ih1 a]
    have hsh : shown os ds gs X (m + 1) a.i ↔ shown os ds gs X m a.i := by
     constructor
     · rintro ⟨j, j1, j2, j3⟩
       by_cases e : j = m
       · subst e; exact absurd j2 hE
       · exact ⟨j, by omega, j2, j3⟩
     · rintro ⟨j, j1, j2, j3⟩; exact ⟨j, by omega, j2, j3⟩
    rw [hsh]
    constructor
    · rintro ⟨a1, a2, a3, a4⟩; exact ⟨by omega, a2, a3, a4⟩
    · rintro ⟨a1, a2, a3, a4⟩
      refine ⟨?_, a2, a3, a4⟩
      by_cases e : a.i = m
      · rw [e] at a3; exact absurd a3 (hA _)
      · omega
   unfold eu at hst
   split at hst
   · cases hst
   · rename_i ho
     have hq : ri gs X m = some true := hoff.trans ho
     refine quiet (by rw [← Option.some.inj hst]) (fun hE => by have := hE.2; rw [hq] at this; cases this) (fun ob hA => by obtain ⟨_, _, hA, _⟩ := hA; rw [hq] at hA; cases hA)
   · rename_i ho
     have hq : ri gs X m = some false := hoff.trans ho
     cases d with
     | p f =>
       simp only [jG] at hst
       split at hst
       · refine quiet (by rw [← Option.some.inj hst]) (fun hE => by have := hE.1; simp [bz, h1, OD.kX] at this) (fun ob hA => by obtain ⟨f', hA, _⟩ := hA; rw [h1] at hA; cases hA)
       · cases hst
     | d f =>
       simp only [jG] at hst
       split at hst
       · refine quiet (by rw [← Option.some.inj hst]) (fun hE => by have := hE.1; simp [bz, h1, OD.kX] at this) (fun ob hA => by obtain ⟨f', hA, _⟩ := hA; rw [h1] at hA; cases hA)
       · cases hst
     | a f =>
       simp only [jG] at hst
       split at hst
       · rename_i v ob hf
         have hps : (X (m + 1)).ps = (X m).ps ++ [⟨m, (X m).id, ob⟩] := by rw [← Option.some.inj hst]
         have hnE : ¬ VH ds gs X m := fun hE => by have := hE.1; simp [bz, h1, OD.kX] at this
         rw [hps]
         refine ⟨fun a => ?_, ?_⟩
         · rw [List.mem_append, List.mem_singleton, ih1 a]
           constructor
           · rintro (⟨a1, a2, a3, a4⟩ | rfl)
             · refine ⟨by omega, a2, a3, fun ⟨j, j1, j2, j3⟩ => ?_⟩
               by_cases e : j = m
               · subst e; exact hnE j2
               · exact a4 ⟨j, by omega, j2, j3⟩
             · refine ⟨Nat.lt_succ_self _, rfl, ⟨f, h1, hq, v, hf⟩, fun ⟨j, j1, j2, j3⟩ => ?_⟩
               have := qG h.st j m j3
               omega
           · rintro ⟨a1, a2, a3, a4⟩
             by_cases e : a.i = m
             · right
               obtain ⟨ai, aid, aob⟩ := a
               simp only at e a2 a3
               subst e
               subst a2
               have : aob = ob := uY a3 ⟨f, h1, hq, v, hf⟩
               rw [this]
             · exact .inl ⟨by omega, a2, a3, fun ⟨j, j1, j2, j3⟩ => a4 ⟨j, by omega, j2, j3⟩⟩
         · rw [List.pairwise_append]
           refine ⟨ih2, List.pairwise_singleton _ _, fun a ha b hb => ?_⟩
           rw [List.mem_singleton] at hb
           subst hb
           exact ((ih1 a).1 ha).1
       · cases hst
     | e f =>
       simp only [jG] at hst
       split at hst
       · rename_i v s' hf
         have hps : (X (m + 1)).ps = kz (pq os ds m) (X m).ps := by rw [← Option.some.inj hst]; rfl
         have hE : VH ds gs X m := ⟨by simp [bz, h1, OD.kX], hq⟩
         rw [hps]
         refine ⟨fun a => ?_, lM ih2⟩
         rw [kY, ih1 a]
         constructor
         · rintro ⟨⟨a1, a2, a3, a4⟩, a5⟩
           refine ⟨by omega, a2, a3, fun ⟨j, j1, j2, j3⟩ => ?_⟩
           by_cases e : j = m
           · subst e; exact a5 ((tZ (ko a3)).2 j3)
           · exact a4 ⟨j, by omega, j2, j3⟩
         · rintro ⟨a1, a2, a3, a4⟩
           have hne : a.i ≠ m := fun e => by
            have hA := ko a3
            rw [e] at hA; simp [cJ, h1, OD.JI] at hA
           exact ⟨⟨by omega, a2, a3, fun ⟨j, j1, j2, j3⟩ => a4 ⟨j, by omega, j2, j3⟩⟩, fun hb => a4 ⟨m, Nat.lt_succ_self _, hE, (tZ (ko a3)).1 hb⟩⟩
       · cases hst
structure iK (nt : Nat) (gl : List Nat) (os : Array Oper) (ds : List OD) (gs : List (Option (Nat × Bool))) (X : Nat → dN) (s0 : St) (e0 : E) (G0 : Pl) (w0 : World) (L : Nat → Bool) (a : Act) (w : World) (m : Nat) (G : Pl) : Prop where
 mn : m ≤ os.size
 m0 : m = 0 ∨ (0 < m ∧ bz ds (m - 1) = true)
 vG : ∀ j, j < m → bz ds j = true → L j = true
 jZ : ∀ j, m ≤ j → bz ds j = true → L j = false
 env : cU nt gl G (mR (gj os (vals X) L e0 os.size)) a
 sr : SR G (X m).s w
 go : fD G0 s0 w0 G (X m).s w
 nx : s0.next + aT (cJ ds) ds.length ≤ (X m).s.next
 J_ : ∀ i ob, iY ds gs X i ob → L i = true → ¬ shown os ds gs X m i → ∃ l, G (X i).id = some l ∧ j6 G w (X i).id ob ∧ ¬ own false G (X m).s.heap.get l.blk ∧ w0.heap.size ≤ l.blk
 Fg : ∀ i j ob ob' l l', iY ds gs X i ob → iY ds gs X j ob' → L i = true → L j = true → ¬ shown os ds gs X m i → ¬ shown os ds gs X m j → i ≠ j → G (X i).id = some l → G (X j).id = some l' → l.blk ≠ l'.blk
 none : ∀ i, i < os.size → cJ ds i = true → (L i = false ∨ ∀ ob, ¬ iY ds gs X i ob) → G (X i).id = none
theorem oz (h : Kr P nt gl os ds us gs sl k X s0 e0) {i : Nat} {ob : Ob} (ha : iY ds gs X i ob) : i < os.size := by
 obtain ⟨f, h1, _⟩ := ha
 have := (List.getElem?_eq_some_iff.1 h1).1
 have := h.lz.len.1
 omega
theorem qF {m m' : Nat} (hmm : m ≤ m') (hE : ∀ j, m ≤ j → j < m' → ¬ VH ds gs X j) (i : Nat) : shown os ds gs X m' i ↔ shown os ds gs X m i := by
 constructor
 · rintro ⟨j, j1, j2, j3⟩
   rcases Nat.lt_or_ge j m with h | h
   · exact ⟨j, h, j2, j3⟩
   · exact absurd j2 (hE j h j1)
 · rintro ⟨j, j1, j2, j3⟩; exact ⟨j, by omega, j2, j3⟩
theorem iK.quiet {G0 : Pl} {w0 : World} {L : Nat → Bool} {a : Act} {w : World} {m : Nat} {G : Pl} (hI : iK nt gl os ds gs X s0 e0 G0 w0 L a w m G) {i m' : Nat} (hmm : m ≤ m') (hmn : m' ≤ os.size) (hE : ∀ j, m ≤ j → j < m' → ¬ VH ds gs X j) (hs : (X m').s = (X m).s)
 (hA : ∀ ob, ¬ iY ds gs X i ob) (m0 : m' = 0 ∨ (0 < m' ∧ bz ds (m' - 1) = true)) (vG : ∀ j, j < m' → bz ds j = true → (L j || j == i) = true) (jZ : ∀ j, m' ≤ j → bz ds j = true → (L j || j == i) = false) {a' : Act}
 (he : cU nt gl G (mR (gj os (vals X) (fun j => L j || j == i) e0 os.size)) a') : iK nt gl os ds gs X s0 e0 G0 w0 (fun j => L j || j == i) a' w m' G := by
 have hsh := qF (os := os) hmm hE
 have hL : ∀ j ob, iY ds gs X j ob → (L j || j == i) = true → L j = true := fun j ob h1 h2 => by
  rw [Bool.or_eq_true] at h2
  rcases h2 with h2 | h2
  · exact h2
  · exact absurd ((beq_iff_eq.1 h2) ▸ h1) (hA ob)
 refine ⟨hmn, m0, vG, jZ, he, hs ▸ hI.sr, hs ▸ hI.go, hs ▸ hI.nx, fun j ob h1 h2 h3 => ?_, fun j j' ob ob' l l' h1 h2 h3 h4 h5 h6 h7 h8 h9 => ?_, fun j h1 h2 h3 => ?_⟩
 · rw [hsh j] at h3; rw [hs]; exact hI.J_ j ob h1 (hL j ob h1 h2) h3
 · rw [hsh] at h5 h6; exact hI.Fg j j' ob ob' l l' h1 h2 (hL j ob h1 h3) (hL j' ob' h2 h4) h5 h6 h7 h8 h9
 · refine hI.none j h1 h2 ?_
   rcases h3 with h3 | h3
   · exact .inl (Bool.or_eq_false_iff.1 h3).1
   · exact .inr h3
theorem iK.made (h : Kr P nt gl os ds us gs sl k X s0 e0) {G0 : Pl} {w0 : World} {L : Nat → Bool} {a : Act} {w : World} {m : Nat} {G : Pl} (hI : iK nt gl os ds gs X s0 e0 G0 w0 L a w m G) {i : Nat} (hiL : L i = false) {ob : Ob} (hon : iY ds gs X i ob)
 {w' : World} {obj : Obj} {tot : Nat} (hw : gT obj w w') (hob : j6 (G.add (X i).id ⟨w.heap.size, 0, tot⟩) w' (X i).id ob) {a' : Act} (he : cU nt gl (G.add (X i).id ⟨w.heap.size, 0, tot⟩) (mR (gj os (vals X) (fun j => L j || j == i) e0 os.size)) a') :
 iK nt gl os ds gs X s0 e0 G0 w0 (fun j => L j || j == i) a' w' m (G.add (X i).id ⟨w.heap.size, 0, tot⟩) := by
 have hA := ko hon
 have hlt := oz h hon
 have hid := hI.none i hlt hA (.inl hiL)
 have hidl := h.HP hlt hA
 have hnx := hI.nx
 obtain ⟨q1, q2⟩ := hI.sr.keep hw hid (by omega) tot
 have hle : G.le (G.add (X i).id ⟨w.heap.size, 0, tot⟩) := Pl.gC hid
 have hne : ∀ {j : Nat}, j ≠ i → j < os.size → cJ ds j = true → (G.add (X i).id ⟨w.heap.size, 0, tot⟩) (X j).id = G (X j).id := fun {j} h1 h2 h3 => by
  unfold Pl.add; rw [if_neg (fun e => h1 (h.ZQ h2 hlt h3 hA e))]
 have hat : (G.add (X i).id ⟨w.heap.size, 0, tot⟩) (X i).id = some ⟨w.heap.size, 0, tot⟩ := by unfold Pl.add; rw [if_pos rfl]
 have hL : ∀ {j : Nat}, j ≠ i → (L j || j == i) = true → L j = true := fun {j} h1 h2 => by
  rw [Bool.or_eq_true] at h2
  rcases h2 with h2 | h2
  · exact h2
  · exact absurd (beq_iff_eq.1 h2) h1
 have ownlt : ∀ kk, own false G (X m).s.heap.get kk → kk < w.heap.size := fun kk ⟨b, o, l, _, _, h3, h4⟩ => h4 ▸ (hI.sr.dom b l h3).2
 refine ⟨hI.mn, hI.m0, fun j h1 h2 => by rw [hI.vG j h1 h2]; rfl, fun j h1 h2 => ?_, he, q1, ⟨⟨Pl.le_trans hI.go.le hle, hw.os.trans hI.go.go.os, hw.tape.trans hI.go.go.tape, hw.output.trans hI.go.go.output, by have := hI.go.size; rw [hw.size]; omega, fun mm kk hk => hI.go.go.new mm kk (q2 mm kk hk), fun kk hk hn => (hw.same kk (Nat.lt_of_lt_of_le hk hI.go.size)).trans (hI.go.go.same kk hk hn), hI.go.go.row.trans (Rows.of hw.same)⟩, hI.go.nx, fun b hb h0 => ?_⟩, hnx, fun j ob' h1 h2 h3 => ?_, fun j j' ob1 ob2 l l' h1 h2 h3 h4 h5 h6 h7 h8 h9 => ?_, fun j h1 h2 h3 => ?_⟩
 · rw [Bool.or_eq_false_iff]
   exact ⟨hI.jZ j h1 h2, beq_eq_false_iff_ne.2 (fun e => by rw [e, rQ hA] at h2; cases h2)⟩
 · unfold Pl.add; rw [if_neg (by omega)]; exact hI.go.kp b hb h0
 · by_cases e : j = i
   · subst e
     cases uY hon h1
     exact ⟨_, hat, hob, fun ho => absurd (ownlt _ (q2 _ _ ho)) (Nat.lt_irrefl _), hI.go.size⟩
   · obtain ⟨l, a1, a2, a3, a4⟩ := hI.J_ j ob' h1 (hL e h2) h3
     refine ⟨l, hle _ _ a1, a2.other hle (fun l' hl' _ => hw.same _ (hI.sr.dom _ _ hl').2), fun ho => a3 (q2 _ _ ho), a4⟩
 · by_cases e : j = i
   · subst e
     rw [hat] at h8; cases h8
     rw [hne (Ne.symm h7) (oz h h2) (ko h2)] at h9
     have := (hI.sr.dom _ _ h9).2
     simp only; omega
   · rw [hne e (oz h h1) (ko h1)] at h8
     by_cases e' : j' = i
     · subst e'
       rw [hat] at h9; cases h9
       have := (hI.sr.dom _ _ h8).2
       simp only; omega
     · rw [hne e' (oz h h2) (ko h2)] at h9
       exact hI.Fg j j' ob1 ob2 l l' h1 h2 (hL e h3) (hL e' h4) h5 h6 h7 h8 h9
 · have e : j ≠ i := fun e => by
    subst e
    rcases h3 with h3 | h3
    · simp at h3
    · exact h3 ob hon
   rw [hne e h1 h2]
   refine hI.none j h1 h2 ?_
   rcases h3 with h3 | h3
   · exact .inl (Bool.or_eq_false_iff.1 h3).1
   · exact .inr h3
theorem iK.upto (h : Kr P nt gl os ds us gs sl k X s0 e0) {G0 : Pl} {w0 : World} {L : Nat → Bool} (hc : cW os L) {a : Act} {w : World} {m : Nat} {G : Pl} (hI : iK nt gl os ds gs X s0 e0 G0 w0 L a w m G) {i : Nat} (hiL : L i = false)
 (hw : ∀ o, os[i]? = some o → ∀ e ∈ o.after, Region.binds .any e = true → L e.on = true) (hcmp : ∀ j, j < os.size → bz ds j = true → j = i ∨ br os j i = true ∨ br os i j = true) (hi : i < os.size) :
 m ≤ i ∧ (∀ j, m ≤ j → j < i → bz ds j = false) ∧ (X i).s = (X m).s := by
 have hmn := hI.mn
 have h1 : m ≤ i := by
  rcases hI.m0 with e | ⟨e1, e2⟩
  · omega
  · have hin := hI.vG (m - 1) (by omega) e2
    rcases hcmp (m - 1) (by omega) e2 with e | e | e
    · rw [e, hiL] at hin; cases hin
    · have := qG h.st _ _ e; omega
    · have := lE hc e hin; rw [hiL] at this; cases this
 have h2 : ∀ j, m ≤ j → j < i → bz ds j = false := fun j j1 j2 => by
  cases hE : bz ds j with
  | false => rfl
  | true =>
    have ho := hI.jZ j j1 hE
    rcases hcmp j (by omega) hE with e | e | e
    · omega
    · have := d_ hc i j e hw; rw [ho] at this; cases this
    · have := qG h.st _ _ e; omega
 refine ⟨h1, h2, ?_⟩
 have := h.s_ (m := m) (i - m) (by omega) (fun j j1 j2 => h2 j j1 (by omega))
 rwa [show m + (i - m) = i by omega] at this
theorem iK.front (h : Kr P nt gl os ds us gs sl k X s0 e0) {G0 : Pl} {w0 : World} {L : Nat → Bool} {a : Act} {w : World} {m : Nat} {G : Pl} (hI : iK nt gl os ds gs X s0 e0 G0 w0 L a w m G) {i : Nat} (hi : i ≤ os.size) (hmi : m ≤ i) (hE : ∀ j, m ≤ j → j < i → bz ds j = false) (hs : (X i).s = (X m).s) {bef : List Nat} (hb : ∀ a, a ∈ bef → L a = true) :
 SR G (rO bef (X i).ps (X i).s) w ∧ (rO bef (X i).ps (X i).s).next = (X m).s.next ∧ fD G0 s0 w0 G (rO bef (X i).ps (X i).s) w ∧
 ∀ mm k, own mm G (rO bef (X i).ps (X i).s).heap.get k → own mm G (X m).s.heap.get k ∨ ∃ j ob, j ∈ bef ∧ iY ds gs X j ob ∧ ¬ shown os ds gs X m j ∧ ∃ l, G (X j).id = some l ∧ k = l.blk := by
 obtain ⟨p1, p2⟩ := h.CX i hi
 have hsh := qF (os := os) (ds := ds) (gs := gs) (X := X) hmi (fun j j1 j2 hon => by have := hon.1; rw [hE j j1 j2] at this; cases this)
 have hps : ∀ a, a ∈ (X i).ps → a.i ∈ bef → a.id = (X a.i).id ∧ iY ds gs X a.i a.ob ∧ L a.i = true ∧ ¬ shown os ds gs X m a.i := fun a ha hab => by
  obtain ⟨b1, b2, b3, b4⟩ := (p1 a).1 ha
  rw [hsh] at b4
  exact ⟨b2, b3, hb _ hab, b4⟩
 obtain ⟨q1, q2, q3⟩ := wz (G := G) (w := w) bef (ps := (X i).ps) (s := (X i).s) (hs ▸ hI.sr) (fun a ha hab => by
  obtain ⟨c1, c2, c3, c4⟩ := hps a ha hab
  obtain ⟨l, d1, d2, d3, _⟩ := hI.J_ a.i a.ob c2 c3 c4
  refine ⟨l, c1 ▸ d1, c1 ▸ d2, hs ▸ d3⟩) (by
  refine List.Pairwise.imp_of_mem ?_ p2
  intro a b ha hb' hlt hab hbb l l' hl hl'
  obtain ⟨c1, c2, c3, c4⟩ := hps a ha hab
  obtain ⟨d1, d2, d3, d4⟩ := hps b hb' hbb
  exact hI.Fg a.i b.i _ _ l l' c2 d2 c3 d3 c4 d4 (by omega) (c1 ▸ hl) (d1 ▸ hl'))
 have q4 : ∀ mm k, own mm G (rO bef (X i).ps (X i).s).heap.get k → own mm G (X m).s.heap.get k ∨ ∃ j ob, j ∈ bef ∧ iY ds gs X j ob ∧ ¬ shown os ds gs X m j ∧ ∃ l, G (X j).id = some l ∧ k = l.blk := fun mm k hk => by
  rcases q3 mm k hk with hk | ⟨a, a1, a2, l, a3, a4⟩
  · exact .inl (hs ▸ hk)
  · obtain ⟨c1, c2, c3, c4⟩ := hps a a1 a2
    exact .inr ⟨a.i, a.ob, a2, c2, c4, l, c1 ▸ a3, a4⟩
 have hq2 : (rO bef (X i).ps (X i).s).next = (X m).s.next := q2.trans (by rw [hs])
 refine ⟨q1, hq2, ⟨⟨hI.go.le, hI.go.go.os, hI.go.go.tape, hI.go.go.output, hI.go.size, fun mm k hk => ?_, hI.go.go.same, hI.go.go.row⟩, by rw [hq2]; exact hI.go.nx, hI.go.kp⟩, q4⟩
 rcases q4 mm k hk with hk | ⟨j, ob, j1, j2, j3, l, j4, j5⟩
 · exact hI.go.go.new mm k hk
 · obtain ⟨l', d1, _, _, d4⟩ := hI.J_ j ob j2 (hb j j1) j3
   rw [j4] at d1; cases d1
   exact .inr (j5 ▸ d4)
theorem iK.tF (h : Kr P nt gl os ds us gs sl k X s0 e0) {G0 : Pl} {w0 : World} {L : Nat → Bool} {a : Act} {w : World} {m : Nat} {G : Pl} (hI : iK nt gl os ds gs X s0 e0 G0 w0 L a w m G) {i : Nat} (hi : i < os.size) (hon : VH ds gs X i)
 (hmi : m ≤ i) (hE : ∀ j, m ≤ j → j < i → bz ds j = false) (hs : (X i).s = (X m).s) (hb : ∀ a, a ∈ pq os ds i → L a = true) {G' : Pl} {w' : World} (hg : fD G (rO (pq os ds i) (X i).ps (X i).s) w G' (X (i + 1)).s w') (hsr : SR G' (X (i + 1)).s w') {a' : Act}
 (he : cU nt gl G' (mR (gj os (vals X) (fun j => L j || j == i) e0 os.size)) a') : iK nt gl os ds gs X s0 e0 G0 w0 (fun j => L j || j == i) a' w' (i + 1) G' := by
 obtain ⟨f1, f2, f3, f4⟩ := hI.front h (Nat.le_of_lt hi) hmi hE hs hb
 have hnx := hI.nx
 have hL : ∀ {j ob}, iY ds gs X j ob → (L j || j == i) = true → L j = true := fun {j ob} h1 h2 => by
  rw [Bool.or_eq_true] at h2
  rcases h2 with h2 | h2
  · exact h2
  · have := beq_iff_eq.1 h2
    subst this
    have h3 := hon.1
    rw [rQ (ko h1)] at h3; cases h3
 have hsh : ∀ {j}, ¬ shown os ds gs X (i + 1) j → ¬ shown os ds gs X m j ∧ br os j i = false := fun {j} hn => by
  refine ⟨fun ⟨j', b1, b2, b3⟩ => hn ⟨j', by omega, b2, b3⟩, ?_⟩
  cases hq : br os j i with
  | false => rfl
  | true => exact absurd ⟨i, Nat.lt_succ_self _, hon, hq⟩ hn
 have hbef : ∀ {j}, br os j i = false → j ∉ pq os ds i := fun {j} hj hm => by
  unfold pq at hm
  rw [List.mem_filter, hj] at hm
  simp at hm
 have key : ∀ {j ob}, iY ds gs X j ob → (L j || j == i) = true → ¬ shown os ds gs X (i + 1) j → ∃ l, G (X j).id = some l ∧ j6 G w (X j).id ob ∧ ¬ own false G (rO (pq os ds i) (X i).ps (X i).s).heap.get l.blk ∧ w0.heap.size ≤ l.blk := fun {j ob} h1 h2 h3 => by
  obtain ⟨n1, n2⟩ := hsh h3
  obtain ⟨l, a1, a2, a3, a4⟩ := hI.J_ j ob h1 (hL h1 h2) n1
  refine ⟨l, a1, a2, fun ho => ?_, a4⟩
  rcases f4 _ _ ho with ho | ⟨j', ob', b1, b2, b3, l', b4, b5⟩
  · exact a3 ho
  · exact hI.Fg j j' ob ob' l l' h1 b2 (hL h1 h2) (hb j' b1) n1 b3 (fun e => hbef n2 (e ▸ b1)) a1 b4 b5
 refine ⟨hi, .inr ⟨by omega, by simpa using hon.1⟩, fun j h1 h2 => ?_, fun j h1 h2 => ?_, he, hsr, f3.trans hg, by have := hg.nx; omega, fun j ob h1 h2 h3 => ?_, fun j j' ob ob' l l' h1 h2 h3 h4 h5 h6 h7 h8 h9 => ?_, fun j h1 h2 h3 => ?_⟩
 · rw [Bool.or_eq_true]
   by_cases e : j = i
   · exact .inr (beq_iff_eq.2 e)
   · refine .inl (hI.vG j ?_ h2)
     rcases Nat.lt_or_ge j m with hlt | hge
     · exact hlt
     · rw [hE j hge (by omega)] at h2; cases h2
 · rw [Bool.or_eq_false_iff]
   exact ⟨hI.jZ j (by omega) h2, beq_eq_false_iff_ne.2 (by omega)⟩
 · obtain ⟨l, a1, a2, a3, a4⟩ := key h1 h2 h3
   have hlt := (f1.dom _ _ a1).2
   refine ⟨l, hg.le _ _ a1, a2.other hg.le (fun l' hl' _ => by rw [a1] at hl'; cases hl'; exact hg.go.same _ hlt (fun hh => a3 (let ⟨b, o, l, h1, h2, h3⟩ := hh; ⟨b, o, l, h1, Ob.xk h2, h3⟩))), fun ho => ?_, a4⟩
   rcases hg.go.new _ _ ho with ho | ho
   · exact a3 ho
   · omega
 · obtain ⟨m1, a1, _⟩ := key h1 h3 h5
   obtain ⟨m2, a2, _⟩ := key h2 h4 h6
   have b1 := hg.le _ _ a1
   have b2 := hg.le _ _ a2
   rw [h8] at b1; cases b1
   rw [h9] at b2; cases b2
   exact hI.Fg j j' ob ob' l l' h1 h2 (hL h1 h3) (hL h2 h4) (hsh h5).1 (hsh h6).1 h7 a1 a2
 · have hq := hI.none j h1 h2 (by
    rcases h3 with h3 | h3
    · exact .inl (Bool.or_eq_false_iff.1 h3).1
    · exact .inr h3)
   have := h.HP h1 h2
   exact hg.kp _ (by omega) hq
theorem Kr.adr (h : Kr P nt gl os ds us gs sl k X s0 e0) (hk : yT P gl k) {G0 : Pl} {w0 : World} {L : Nat → Bool} (hc : cW os L) {a : Act} {w : World} {m : Nat} {G : Pl} (hI : iK nt gl os ds gs X s0 e0 G0 w0 L a w m G) {i : Nat} {o : Oper} (hi : os[i]? = some o) (hiL : L i = false)
 (hwt : ∀ e ∈ o.after, Region.binds .any e = true → L e.on = true) {K : Act → World → Prop} {Q : Exit → Act → World → Prop} (hK : ∀ a' w' m' G', iK nt gl os ds gs X s0 e0 G0 w0 (fun j => L j || j == i) a' w' m' G' → K a' w') : wpOp P os Q i K a w := by
 have hlt := (Array.getElem?_eq_some_iff.1 hi).1
 obtain ⟨d, u, g, s, h1, h2, h3, h4, hod, hdst, hgd, hsame, hgs, hs2⟩ := h.lz.all i o hi
 have hst := h.step i d u g h1 h2 h3
 have hslot := h.same hc hi h4 hs2 hiL hwt
 have hS := hsame _ _ hslot
 have hwt' : ∀ o', os[i]? = some o' → ∀ e ∈ o'.after, Region.binds .any e = true → L e.on = true := fun o' ho' => by rw [hi] at ho'; cases ho'; exact hwt
 have hput : ∀ {G' : Pl} {v' : Value}, G.le G' → VR G' (vals X i) v' → cU nt gl G' (mR (gj os (vals X) (fun j => L j || j == i) e0 os.size)) (a.put o.dst v') := fun hle hvv => h.put hc hi hiL hdst (hI.env.mono hle) hvv
 have hlen := h.lz.len.1
 have hoff : ri gs X i = jX g (X i).e := by unfold ri; rw [h3]
 have hEcmp : bz ds i = true → ∀ j, j < os.size → bz ds j = true → j = i ∨ br os j i = true ∨ br os i j = true := fun hE j hj hjE => by
  rcases Nat.lt_trichotomy i j with hlt' | e | hgt
  · exact .inr ((um h.ok hlt' (by omega) hE hjE).symm)
  · exact .inl e.symm
  · exact .inr (um h.ok hgt (by omega) hjE hE)
 have hone : ∀ j, m ≤ j → j < m → ¬ VH ds gs X j := fun j j1 j2 => by omega
 have calm : bz ds i = false → (∀ ob, ¬ iY ds gs X i ob) → ∀ {v' : Value}, VR G (vals X i) v' → iK nt gl os ds gs X s0 e0 G0 w0 (fun j => L j || j == i) (a.put o.dst v') w m G := fun hE hA v' hv => by
  refine hI.quiet (Nat.le_refl _) hI.mn hone rfl hA hI.m0 (fun j j1 j2 => by rw [hI.vG j j1 j2]; rfl) (fun j j1 j2 => ?_) (hput (Pl.le_refl G) hv)
  rw [Bool.or_eq_false_iff]
  exact ⟨hI.jZ j j1 j2, beq_eq_false_iff_ne.2 (fun e => by rw [e, hE] at j2; cases j2)⟩
 unfold wpOp
 rw [hi]
 simp only
 have hoffe : jX g (mR (gj os (vals X) L e0 os.size)) = jX g (X i).e := by
  unfold jX
  cases g with
  | none => rfl
  | some q => simp only; rw [hslot q.1 (hgs q.1 (by simp [slG]))]
 cases ho : jX g (X i).e with
 | none => unfold eu at hst; simp only [jG] at hst; rw [ho] at hst; cases hst
 | some b =>
   have hwd := rN (t := (⟨g, .p (fun _ => none), u⟩ : DT)) (b := b) hgd hI.env (by rw [← ho, ← hoffe]; rfl)
   rw [hwd]
   cases b with
   | true =>
     have hnon : ri gs X i = some true := hoff.trans ho
     have hnA : ∀ ob, ¬ iY ds gs X i ob := fun ob ⟨f', _, hA, _⟩ => by rw [hnon] at hA; cases hA
     have hX : (X (i + 1)).v = .bH [] ∧ (X (i + 1)).s = (X i).s := by
      unfold eu at hst
      simp only [jG] at hst
      rw [ho] at hst
      rw [← Option.some.inj hst]; exact ⟨rfl, rfl⟩
     have hv : VR G (vals X i) undef := by show VR G (X (i + 1)).v undef; rw [hX.1]; exact .bH _ _ .nil
     simp only [Bool.not_true, Bool.false_eq_true, if_false]
     cases hE : bz ds i with
     | false => exact hK _ _ _ _ (calm hE hnA hv)
     | true =>
       obtain ⟨u1, u2, u3⟩ := hI.upto h hc hiL hwt' (hEcmp hE) hlt
       refine hK _ _ (i + 1) G (hI.quiet (by omega) hlt (fun j j1 j2 hon => ?_) (hX.2.trans u3) hnA (.inr ⟨by omega, by simpa using hE⟩) (fun j j1 j2 => ?_) (fun j j1 j2 => ?_) (hput (Pl.le_refl G) hv))
       · by_cases e : j = i
         · subst e; have := hon.2; rw [hnon] at this; cases this
         · have := hon.1; rw [u2 j j1 (by omega)] at this; cases this
       · rw [Bool.or_eq_true]
         by_cases e : j = i
         · exact .inr (beq_iff_eq.2 e)
         · refine .inl (hI.vG j ?_ j2)
           rcases Nat.lt_or_ge j m with hlt' | hge
           · exact hlt'
           · rw [u2 j hge (by omega)] at j2; cases j2
       · rw [Bool.or_eq_false_iff]
         exact ⟨hI.jZ j (by omega) j2, beq_eq_false_iff_ne.2 (by omega)⟩
   | false =>
     have hnon : ri gs X i = some false := hoff.trans ho
     simp only [Bool.not_false, if_true]
     refine .inl ?_
     unfold eu at hst
     cases d with
     | p f =>
       simp only [jG, ho] at hst
       split at hst
       · rename_i v1 hf
         have hv1 : vals X i = v1 := by show (X (i + 1)).v = v1; rw [← Option.some.inj hst]
         have hS : f (mR (gj os (vals X) L e0 os.size)) = f (X i).e := hS
         obtain ⟨v', b1, b2⟩ := hod G _ a w v1 (hS.trans hf) hI.env
         refine (iV.value (post := fun v' w' => iK nt gl os ds gs X s0 e0 G0 w0 (fun j => L j || j == i) (a.put o.dst v') w' m G) b1 ?_).wp fun _ _ hh => hK _ _ _ _ hh
         exact calm (by simp [bz, h1, OD.kX]) (fun ob ⟨f', hA, _⟩ => by rw [h1] at hA; cases hA) (by rw [hv1]; exact b2)
       · cases hst
     | d f =>
       simp only [jG, ho] at hst
       split at hst
       · rename_i v1 hf
         have hv1 : vals X i = v1 := by show (X (i + 1)).v = v1; rw [← Option.some.inj hst]
         have hfm : f (X i).e (X m).s = some v1 := by
          cases hqk : tP ds (br os) i with
          | true =>
            obtain ⟨u1, u2, u3⟩ := hI.upto h hc hiL hwt' (fun j hj hjE => .inr (by
             have := List.all_eq_true.1 hqk j (List.mem_range.2 (by omega))
             rw [hjE] at this
             simpa using this)) hlt
            rw [← u3]; exact hf
          | false =>
            have hmn := hI.mn
            have hcut := lZ (p := bz ds) (m := m) (n := ds.length) (by omega)
            have := h.zU i f g h1 h3 ho hqk m hI.mn
             (by
              rw [hcut]
              refine jo fun j hj hb => ?_
              rw [Bool.and_eq_true] at hb ⊢
              refine ⟨hb.1, decide_eq_true ?_⟩
              rcases Nat.lt_or_ge j m with hjp | hjp
              · exact hjp
              · have := d_ hc i j hb.2 hwt'
                rw [hI.jZ j hjp hb.1] at this; cases this)
             (by
              rw [hcut]
              refine jo fun j hj hb => ?_
              rw [Bool.and_eq_true] at hb ⊢
              refine ⟨hb.1, ?_⟩
              cases hq : br os i j with
              | false => rfl
              | true =>
                have := lE hc hq (hI.vG j (by simpa using hb.2) hb.1)
                rw [hiL] at this; cases this)
            rw [this]; exact congrArg some hv1
         have hS : ∀ s, f (mR (gj os (vals X) L e0 os.size)) s = f (X i).e s := hS
         obtain ⟨v', b1, b2⟩ := hod G _ a (X m).s w v1 ((hS _).trans hfm) hI.env hI.sr.r
         refine (iV.value (post := fun v' w' => iK nt gl os ds gs X s0 e0 G0 w0 (fun j => L j || j == i) (a.put o.dst v') w' m G) b1 ?_).wp fun _ _ hh => hK _ _ _ _ hh
         exact calm (by simp [bz, h1, OD.kX]) (fun ob ⟨f', hA, _⟩ => by rw [h1] at hA; cases hA) (by rw [hv1]; exact b2)
       · cases hst
     | a f =>
       have hAd : cJ ds i = true := by simp [cJ, h1, OD.JI]
       simp only [jG, ho] at hst
       split at hst
       · rename_i v1 ob hf
         have hv1 : vals X i = v1 := by show (X (i + 1)).v = v1; rw [← Option.some.inj hst]
         have hG := hI.none i hlt hAd (.inl hiL)
         have hS : ∀ n, f (mR (gj os (vals X) L e0 os.size)) n = f (X i).e n := hS
         obtain ⟨v', obj, tot, w', b1, b2, b3, b4⟩ := hod G _ a _ w v1 ob ((hS _).trans hf) hI.env hG
         refine (iV.value (post := fun v' w' => iK nt gl os ds gs X s0 e0 G0 w0 (fun j => L j || j == i) (a.put o.dst v') w' m (G.add (X i).id ⟨w.heap.size, 0, tot⟩)) b1 ?_).wp fun _ _ hh => hK _ _ _ _ hh
         exact hI.made h hiL ⟨f, h1, hnon, v1, hf⟩ b2 b4 (hput (Pl.gC hG) (by rw [hv1]; exact b3))
       · cases hst
     | e f =>
       have hE : bz ds i = true := by simp [bz, h1, OD.kX]
       obtain ⟨u1, u2, u3⟩ := hI.upto h hc hiL hwt' (hEcmp hE) hlt
       simp only [jG, ho] at hst
       split at hst
       · rename_i v1 s' hf
         have hv1 : vals X i = v1 := by show (X (i + 1)).v = v1; rw [← Option.some.inj hst]
         have hs1 : (X (i + 1)).s = s' := by rw [← Option.some.inj hst]
         have hb : ∀ a, a ∈ pq os ds i → L a = true := fun a ha => by
          unfold pq at ha
          rw [List.mem_filter, Bool.and_eq_true] at ha
          exact d_ hc i a ha.2.2 hwt'
         obtain ⟨f1, f2, f3, f4⟩ := hI.front h (Nat.le_of_lt hlt) u1 u2 u3 hb
         have hS : ∀ k s, f k (mR (gj os (vals X) L e0 os.size)) s = f k (X i).e s := hS
         have hf : f k (X i).e (rO (pq os ds i) (X i).ps (X i).s) = some (v1, s') := hf
         have hdid := hod k hk G _ a _ w v1 s' ((hS k _).trans hf) hI.env f1
         refine hdid.wp ?_
         rintro v' w' ⟨G', g1, g2, g3⟩
         exact hK _ _ _ _ (hI.tF h hlt ⟨hE, hnon⟩ u1 u2 u3 hb (hs1 ▸ g1) (hs1 ▸ g2) (hput g1.le (by rw [hv1]; exact g3)))
       · cases hst
theorem Kr.any (h : Kr P nt gl os ds us gs sl k X s0 e0) (hk : yT P gl k) {G0 : Pl} {w0 : World} {Q : Exit → Act → World → Prop} (hQ : ∀ L a w m G, (∀ i, i < os.size → L i = true) → iK nt gl os ds gs X s0 e0 G0 w0 L a w m G → Q .normal a w) :
 ∀ (fuel : Nat) (listed : Array Bool) (a : Act) (w : World) (m : Nat) (G : Pl), listed.size = os.size → cW os (fun j => listed.getD j false) → (listed.toList.filter (· == false)).length ≤ fuel → iK nt gl os ds gs X s0 e0 G0 w0 (fun j => listed.getD j false) a w m G →
   wpAny P .any os Q fuel listed a w := by
 have done : ∀ (listed : Array Bool) (a : Act) (w : World) (m : Nat) (G : Pl), listed.size = os.size → Region.ready .any os listed = [] → iK nt gl os ds gs X s0 e0 G0 w0 (fun j => listed.getD j false) a w m G → Q .normal a w := by
  intro listed a w m G hsz hr hC
  refine hQ _ a w m G ?_ hC
  intro i
  induction i using Nat.strongRecOn with
  | ind i ih =>
    intro hlt
    by_cases hb : listed.getD i false = true
    · exact hb
    · exfalso
      have : i ∈ Region.ready .any os listed := mem_ready.2 ⟨by
       have hlt' : i < listed.size := by omega
       simp [hlt'] at hb ⊢; exact hb, os[i], by simp [hlt], fun e he hbd => by
       have hlt2 := pZ h.st (j := i) (oj := os[i]) (by simp [hlt]) he hbd
       exact ih e.on hlt2 (by omega)⟩
      rw [hr] at this; cases this
 intro fuel
 induction fuel with
 | zero =>
   intro listed a w m G hsz hcl hf hC
   have hr : Region.ready .any os listed = [] := by
    by_cases he : Region.ready .any os listed = []
    · exact he
    · exfalso
      obtain ⟨j, hj⟩ := List.exists_mem_of_ne_nil _ he
      have h0 := (mem_ready.1 hj).1
      have hlt : j < listed.size := by
       rcases Nat.lt_or_ge j listed.size with h | h
       · exact h
       · simp [Array.getElem?_eq_none h] at h0
      have hm : listed[j] ∈ listed.toList.filter (· == false) := List.mem_filter.2 ⟨by simp, by simp [hlt] at h0; simp [h0]⟩
      have : 0 < (listed.toList.filter (· == false)).length := List.length_pos_of_mem hm
      omega
   exact ⟨hr, done listed a w m G hsz hr hC⟩
 | succ fuel ih =>
   intro listed a w m G hsz hcl hf hC
   refine ⟨fun hr => done listed a w m G hsz hr hC, fun i hi => ?_⟩
   obtain ⟨h0, o, ho, hall⟩ := mem_ready.1 hi
   have hlt : i < listed.size := by rw [hsz]; exact (Array.getElem?_eq_some_iff.1 ho).1
   have hiL : listed.getD i false = false := by simp [hlt] at h0 ⊢; exact h0
   have hset : (fun j => (listed.setIfInBounds i true).getD j false) = (fun j => listed.getD j false || j == i) := by
    funext j
    by_cases hij : i = j
    · subst hij; simp [hlt]
    · rw [getD_set_ne false hij]
      have : (j == i) = false := beq_eq_false_iff_ne.2 (Ne.symm hij)
      simp [this]
   refine h.adr hk hcl hC ho hiL hall fun a' w' m' G' hI' => ih (listed.setIfInBounds i true) a' w' m' G' (by simpa using hsz) ?_ ?_ (by rw [hset]; exact hI')
   · intro j oj hj hL e he hb
     rw [hset] at hL ⊢
     simp only [Bool.or_eq_true] at hL ⊢
     rcases hL with hL | hL
     · exact .inl (hcl j oj hj hL e he hb)
     · have : j = i := by simpa using hL
       subst this
       rw [ho] at hj; cases hj
       exact .inl (hall e he hb)
   · have hL : listed.toList = listed.toList.take i ++ listed[i] :: listed.toList.drop (i + 1) := by
      have hl : i < listed.toList.length := by rw [Array.length_toList]; exact hlt
      have h := List.getElem_cons_drop (h := hl)
      rw [show listed[i] = listed.toList[i] from by simp, h, List.take_append_drop]
     have hb : listed[i] = false := by simp [hlt] at hiL; exact hiL
     have h1 : (listed.toList.filter (· == false)).length = ((listed.toList.take i).filter (· == false)).length + 1 + ((listed.toList.drop (i + 1)).filter (· == false)).length := by
      conv => lhs; rw [hL, List.filter_append, List.filter_cons, hb]
      simp only [BEq.rfl, if_true, List.length_append, List.length_cons]; omega
     have h2 : ((listed.setIfInBounds i true).toList.filter (· == false)).length = ((listed.toList.take i).filter (· == false)).length + ((listed.toList.drop (i + 1)).filter (· == false)).length := by
      rw [Array.toList_setIfInBounds, List.set_eq_take_append_cons_drop, if_pos (by rw [Array.length_toList]; exact hlt), List.filter_append, List.filter_cons]; simp
     omega
end
theorem fY.aei {P : Program} {nt : Nat} {gl : List Nat} {os : Array Oper} {ds : List OD} {us : List (E → V → E)} {gs : List (Option (Nat × Bool))} {sl : List (List Nat)} {id : Nat} (hm : P.follows .mixedOrders = true)
 (hreg : k_ P nt gl os ds us gs sl) (hst : jS os sl = true) (hok : PF ds (br os) = true) : fY P nt gl (.region id os true) (jO (aT (cJ ds) ds.length) (e_ ds (br os) 0 ds us gs)) := by
 intro k hk G e a s w hne he hs
 unfold jO at hne ⊢
 cases hrun : uW k (e_ ds (br os) 0 ds us gs) 0 ⟨.undef, e, fI (aT (cJ ds) ds.length) s, [], s.next⟩ with
 | none => rw [hrun] at hne; exact absurd rfl hne
 | some rr =>
   rw [hrun] at hne
   simp only at hne ⊢
   cases hchk : fE (qY (fI (aT (cJ ds) ds.length) s) (e_ ds (br os) 0 ds us gs) rr) (e_ ds (br os) 0 ds us gs) ⟨.undef, e, fI (aT (cJ ds) ds.length) s, [], s.next⟩ rr with
   | false => rw [hchk] at hne; exact absurd rfl hne
   | true =>
   simp only
   clear hne
   obtain ⟨r1, rl, r3, r2⟩ := ZZ hrun
   have hll : (e_ ds (br os) 0 ds us gs).length = os.size := (r9 (hreg.len.2.1.trans hreg.len.1.symm) (hreg.len.2.2.trans hreg.len.1.symm)).trans hreg.len.1
   rw [hll] at r2 r3 rl
   have hmk : ∀ i d u g, ds[i]? = some d → us[i]? = some u → gs[i]? = some g → (e_ ds (br os) 0 ds us gs)[i]? = some (jG ds (br os) i d u g) := fun i d u g h1 h2 h3 => by have := vt (ds0 := ds) (ord := br os) (k := 0) h1 h2 h3; rwa [Nat.zero_add] at this
   have hgl : zD (lB ⟨.undef, e, fI (aT (cJ ds) ds.length) s, [], s.next⟩ rr) = zD (sD k (e_ ds (br os) 0 ds us gs) ⟨.undef, e, fI (aT (cJ ds) ds.length) s, [], s.next⟩ os.size) := by rw [r2]
   rw [hgl]
   have hEt : sS (e_ ds (br os) 0 ds us gs) = bz ds := by
    funext j
    by_cases hj : j < os.size
    · obtain ⟨d, u, g, s', h1, h2, h3, _⟩ := hreg.all j os[j] (by simp [hj])
      unfold sS bz
      rw [hmk j d u g h1 h2 h3, h1]
      cases d <;> rfl
    · have hl1 := hreg.len.1
      unfold sS bz
      rw [List.getElem?_eq_none (by omega), List.getElem?_eq_none (by omega)]
   have hxm : ∀ p, p ≤ os.size → OC (fI (aT (cJ ds) ds.length) s) rr p = (sD k (e_ ds (br os) 0 ds us gs) ⟨.undef, e, fI (aT (cJ ds) ds.length) s, [], s.next⟩ p).s := fun p hp => by
    cases p with
    | zero => rfl
    | succ p => simp only [OC, r3 p (by omega)]
   have hxs : ∀ (j : Nat) (t : oC) (y : dN), (e_ ds (br os) 0 ds us gs)[j]? = some t → rr[j]? = some y → t.k.kX = false → y.s = OC (fI (aT (cJ ds) ds.length) s) rr j := fun j t y h1 h2 h3 => by
    have hj : j < os.size := by have := (List.getElem?_eq_some_iff.1 h1).1; omega
    rw [hxm j (by omega)]
    rw [r3 j hj] at h2
    cases h2
    have hst := r1 j t h1
    unfold eu at hst
    split at hst
    · cases hst
    · have := Option.some.inj hst; rw [← this]
    · split at hst
      · split at hst <;> first | (cases hst; done) | (rw [← Option.some.inj hst])
      · split at hst <;> first | (cases hst; done) | (rw [← Option.some.inj hst])
      · split at hst <;> first | (cases hst; done) | (rw [← Option.some.inj hst])
      · rename_i hk; rw [hk] at h3; cases h3
   have hsn : ∀ p, p ≤ os.size → (qY (fI (aT (cJ ds) ds.length) s) (e_ ds (br os) 0 ds us gs) rr)[aT (bz ds) p]? = some (sD k (e_ ds (br os) 0 ds us gs) ⟨.undef, e, fI (aT (cJ ds) ds.length) s, [], s.next⟩ p).s := fun p hp => by
    rw [← hEt, Aq (rl.trans hll.symm) hxs p (by omega), hxm p hp]
   have D : Kr P nt gl os ds us gs sl k (sD k (e_ ds (br os) 0 ds us gs) ⟨.undef, e, fI (aT (cJ ds) ds.length) s, [], s.next⟩) s e := by
    refine ⟨hreg, hst, hok, rfl, fun i d u g h1 h2 h3 => r1 i _ (hmk i d u g h1 h2 h3), fun i f g h1 h3 ho hqk p hp hlo hhi => ?_⟩
    have hi : i < os.size := by have := (List.getElem?_eq_some_iff.1 h1).1; have := hreg.len.1; omega
    obtain ⟨d, u, g', s', h1', h2, h3', _⟩ := hreg.all i os[i] (by simp [hi])
    rw [h1] at h1'; cases h1'
    rw [h3] at h3'; cases h3'
    refine KM (lo := aT (fun j => bz ds j && br os j i) ds.length) (hi := aT (fun j => bz ds j && !br os i j) ds.length) (c := aT (bz ds) p) (uR hchk (hmk i _ u g h1 h2 h3) (r3 i hi) (y := sD k (e_ ds (br os) 0 ds us gs) ⟨.undef, e, fI (aT (cJ ds) ds.length) s, [], s.next⟩ i) ?_) ?_ ho (hsn p hp) hlo hhi
    · cases i with
      | zero => rfl
      | succ i => exact r3 i (by omega)
    · simp only [jG, hqk]; rfl
   clear hgl hxm hxs hsn r1 r3 r2 hchk hrun hEt
   generalize sD k (e_ ds (br os) 0 ds us gs) ⟨.undef, e, fI (aT (cJ ds) ds.length) s, [], s.next⟩ = X at D ⊢
   refine wp_region_any hm ?_
   have hfalse : (fun j => (Array.replicate os.size false).getD j false) = fun _ => false := by
    funext j
    rcases Nat.lt_or_ge j os.size with hj | hj
    · simp [hj]
    · have : (Array.replicate os.size false)[j]? = none := Array.getElem?_eq_none (by simpa using hj)
      simp [this]
   have hgf : ∀ n t, gj os (vals X) (fun _ => false) e n t = Gt t e := by
    intro n t
    induction n with
    | zero => rfl
    | succ n ih => simp [gj, ih]
   refine D.any hk (G0 := G) (w0 := w) (fun L a' w' m G' hall hI => ?_) os.size _ a _ 0 G (by simp) ?_ (by simp) ?_
   · have hmn := hI.mn
     have hE : ∀ j, m ≤ j → j < os.size → bz ds j = false := fun j j1 j2 => by
      cases hq : bz ds j with
      | false => rfl
      | true => have := hI.jZ j j1 hq; rw [hall j j2] at this; cases this
     have hXs := D.s_ (m := m) (os.size - m) (by omega) (fun j j1 j2 => hE j j1 (by omega))
     rw [show m + (os.size - m) = os.size by omega] at hXs
     unfold zD
     rw [MV]
     obtain ⟨f1, f2, f3, f4⟩ := hI.front D (bef := (X os.size).ps.map (·.i)) (Nat.le_refl _) hmn hE hXs (fun b hb => by
      obtain ⟨c, c1, c2⟩ := List.mem_map.1 hb
      subst c2
      exact hall _ (((D.CX os.size (Nat.le_refl _)).1 c).1 c1).1)
     refine ⟨rfl, G', hI.env.congr fun t ht => ?_, f1, f3⟩
     rw [gO _ _ ht, D.me os.size (Nat.le_refl _) t ht]
     have : ∀ n, n ≤ os.size → gj os (vals X) L e n t = gj os (vals X) (fun _ => true) e n t := by
      intro n
      induction n with
      | zero => intro _; rfl
      | succ n ih => intro hn; simp only [gj, hall n (by omega), ih (by omega)]
     exact this _ (Nat.le_refl _)
   · rw [hfalse]; intro j oj _ hL; cases hL
   · rw [hfalse]
     have hx0 : (X 0).s = fI (aT (cJ ds) ds.length) s := by rw [D.sE]
     obtain ⟨q1, q2, q3⟩ := SR.VT (n := aT (cJ ds) ds.length) (SR.drew hs)
     have q2 : (fI (aT (cJ ds) ds.length) s).next = s.next + aT (cJ ds) ds.length := q2
     refine ⟨Nat.zero_le _, .inl rfl, fun j hj => by omega, fun _ _ _ => rfl, he.congr fun t ht => ?_, hx0 ▸ q1, ?_, by rw [hx0, q2]; exact Nat.le_refl _, fun _ _ _ h => (by cases h), fun _ _ _ _ _ _ _ _ h => (by cases h), fun i hi hA _ => ?_⟩
     · rw [gO _ _ ht, hgf]
     · rw [hx0]
       have g0 := (fD.refl G s w).drew
       exact ⟨⟨g0.go.le, g0.go.os, g0.go.tape, g0.go.output, g0.go.size, fun mm kk hk => g0.go.new mm kk (q3 mm kk hk), g0.go.same, g0.go.row⟩, by rw [q2]; omega, g0.kp⟩
     · cases hq : G (X i).id with
       | none => rfl
       | some l =>
         have h1 := (hs.dom _ _ hq).1
         have h2 := D.HP hi hA
         omega
end
end Go.Proofs.YtcgdlgbomjnnnaaGreatLab
/- The jL: what is lowered stands for the code. On the program: that it follows mixed orders. -/
namespace Go.Proofs.YtcgdlgbomjnnnaaGreatLab
open Go
set_option linter.all false
noncomputable section
section
variable {P : Program} {tt : TT} (H : qW P tt) {nt : Nat} {gl : List Nat} {fok : T Bool} (hfok : ∀ f, fok.get f = some true → OI P f)
theorem rF : ∀ {l : List Oper} {ds : List OD}, nJ tt gl fok l = some ds → ds.length = l.length ∧ ∀ (i : Nat) (o : Oper), l[i]? = some o → ∃ d, dy fok (kq tt gl fok o) = some d ∧ ds[i]? = some d
 | [], ds, h => by cases h; exact ⟨rfl, fun i o hi => by simp at hi⟩
 | x :: l, ds, h => by
   unfold nJ at h
   split at h
   · rename_i d r h1 h2
     cases h
     obtain ⟨a1, a2⟩ := rF h2
     refine ⟨by simp [a1], fun i o hi => ?_⟩
     cases i with
     | zero => cases hi; exact ⟨d, h1, rfl⟩
     | succ i =>
       obtain ⟨d', b1, b2⟩ := a2 i o (by simpa using hi)
       exact ⟨d', b1, by simpa using b2⟩
   · cases h
theorem uB : ∀ {l : List Oper} {us : List (E → V → E)}, rU nt l = some us → us.length = l.length ∧ ∀ (i : Nat) (o : Oper), l[i]? = some o → ∃ u, us[i]? = some u ∧ iP nt o.dst u
 | [], us, h => by cases h; exact ⟨rfl, fun i o hi => by simp at hi⟩
 | x :: l, us, h => by
   unfold rU at h
   split at h
   · rename_i u r h1 h2
     cases h
     obtain ⟨a1, a2⟩ := uB h2
     refine ⟨by simp [a1], fun i o hi => ?_⟩
     cases i with
     | zero => cases hi; exact ⟨u, rfl, Q5 h1⟩
     | succ i =>
       obtain ⟨u', b1, b2⟩ := a2 i o (by simpa using hi)
       exact ⟨u', by simpa using b1, b2⟩
   · cases h
theorem vv {os : Array Oper} : ∀ {l : List Oper} {gs : List (Option (Nat × Bool))}, r_ os l = some gs → gs.length = l.length ∧ ∀ (i : Nat) (o : Oper), l[i]? = some o → ∃ g, gs[i]? = some g ∧ ir os o = some g
 | [], gs, h => by cases h; exact ⟨rfl, fun i o hi => by simp at hi⟩
 | x :: l, gs, h => by
   unfold r_ at h
   split at h
   · rename_i g r h1 h2
     cases h
     obtain ⟨a1, a2⟩ := vv h2
     refine ⟨by simp [a1], fun i o hi => ?_⟩
     cases i with
     | zero => cases hi; exact ⟨g, rfl, h1⟩
     | succ i =>
       obtain ⟨u', b1, b2⟩ := a2 i o (by simpa using hi)
       exact ⟨u', by simpa using b1, b2⟩
   · cases h
theorem uH : ∀ {l : List Oper} {gs : List (Option (Nat × Bool))} {i : Nat} {o : Oper} {g : Option (Nat × Bool)}, l[i]? = some o → gs[i]? = some g → (qE tt gl fok l gs)[i]? = some (slots (kq tt gl fok o) ++ slG g)
 | [], gs, i, o, g, h, _ => by simp at h
 | _ :: _, [], i, o, g, _, h => by simp at h
 | x :: l, y :: gs, 0, o, g, h1, h2 => by cases h1; cases h2; simp [qE]
 | x :: l, y :: gs, i + 1, o, g, h1, h2 => by
   have := uH (l := l) (gs := gs) (i := i) (by simpa using h1) (by simpa using h2)
   simpa [qE] using this
theorem Zr {d : Option Nat} {u : E → V → E} (h : DL nt d = some u) : u = D1 d := by
 cases d with
 | none => cases h; rfl
 | some t => simp only [DL] at h; split at h <;> cases h; rfl
theorem wm {os : Array Oper} : ∀ {l : List Oper} {ds : List OD} {us : List (E → V → E)} {gs : List (Option (Nat × Bool))}, nJ tt gl fok l = some ds → rU nt l = some us → r_ os l = some gs →
 seqItems ds us gs = List.zipWith nV ds (iW tt gl fok l gs) ∧ (∀ (i : Nat) (x : FI), (iW tt gl fok l gs)[i]? = some x → ∃ d, ds[i]? = some d ∧ dy fok x.lo = some d) ∧ ds.length = (iW tt gl fok l gs).length
 | [], ds, us, gs, h1, h2, h3 => by cases h1; cases h2; cases h3; exact ⟨rfl, fun i x h => by simp [iW] at h, rfl⟩
 | o :: l, ds, us, gs, h1, h2, h3 => by
   unfold nJ at h1
   unfold rU at h2
   unfold r_ at h3
   split at h1
   · rename_i d r e1 e2
     cases h1
     split at h2
     · rename_i u ru e3 e4
       cases h2
       split at h3
       · rename_i g rg e5 e6
         cases h3
         obtain ⟨a1, a2, a3⟩ := wm e2 e4 e6
         refine ⟨?_, fun i x hx => ?_, by simp [iW, a3]⟩
         · simp only [seqItems, iW, List.zipWith_cons_cons, a1, Zr e3]
           congr 1
         · cases i with
           | zero => cases hx; exact ⟨d, rfl, e1⟩
           | succ i => simpa using a2 i x (by simpa [iW] using hx)
       · cases h3
     · cases h2
   · cases h1
theorem kD.den {o : Oper} {d : OD} {u : E → V → E} (h : ot P nt gl o d) (hd : iP nt o.dst u) : kD P nt gl o (d.den u) := by
 cases d with
 | p f => exact kD.p h hd
 | d f => exact kD.d h hd
 | a f => exact kD.a h hd
 | e f => exact kD.e h hd
include H hfok in
theorem LG {os : Array Oper} : ∀ (l : List Oper) (ds : List OD) (us : List (E → V → E)) (gs : List (Option (Nat × Bool))), ds.length = l.length → us.length = l.length → gs.length = l.length → (∀ (i : Nat) (o : Oper), l[i]? = some o → ∃ d, dy fok (kq tt gl fok o) = some d ∧ ds[i]? = some d) → (∀ (i : Nat) (o : Oper), l[i]? = some o → ∃ u, us[i]? = some u ∧ iP nt o.dst u) → (∀ (i : Nat) (o : Oper), l[i]? = some o → ∃ g, gs[i]? = some g ∧ ir os o = some g) →
 lF P nt gl os l (seqItems ds us gs) := by
 intro l
 induction l with
 | nil => intro ds us gs l1 l2 l3 _ _ _; cases ds with | nil => exact .nil | cons => cases l1
 | cons o l ih =>
   intro ds us gs l1 l2 l3 p1 p2 p3
   cases ds with
   | nil => cases l1
   | cons d ds =>
     cases us with
     | nil => cases l2
     | cons u us =>
       cases gs with
       | nil => cases l3
       | cons g gs =>
         obtain ⟨d', x2, x3⟩ := p1 0 o rfl
         cases x3
         obtain ⟨u', y1, y2⟩ := p2 0 o rfl
         cases y1
         obtain ⟨g', z1, z2⟩ := p3 0 o rfl
         cases z1
         refine .cons ?_ (ih ds us gs (by simpa using l1) (by simpa using l2) (by simpa using l3) (fun i o hi => by simpa using p1 (i + 1) o (by simpa using hi)) (fun i o hi => by simpa using p2 (i + 1) o (by simpa using hi)) (fun i o hi => by simpa using p3 (i + 1) o (by simpa using hi)))
         have hdo := kD.den (sv H hfok x2) y2
         unfold ir at z2
         cases hg : o.guard with
         | none =>
           rw [hg] at z2; cases z2
           exact qO.plain hdo hg
         | some p =>
           obtain ⟨j, want⟩ := p
           rw [hg] at z2
           simp only at z2
           split at z2
           · rename_i t ht
             split at z2
             · rename_i ht2
               cases z2
               exact qO.guard hdo hg ht ht2 y2
             · cases z2
           · cases z2
theorem oZ {sn : List St} : ∀ {l : List DT} {e : E} {r : List (V × E × St)}, (∀ t, t ∈ l → match t.k with | .d lo hi _ => hi + 1 - lo = 0 | _ => True) → hO sn l e r = true
 | [], e, r, _ => by cases r <;> rfl
 | t :: l, e, [], _ => rfl
 | t :: l, e, (v, e', s') :: r, h => by
   have h1 : rq sn t e v = true := by
    have := h t List.mem_cons_self
    unfold rq
    split
    · rename_i lo hi f hk
      rw [hk] at this
      simp only at this
      rw [this]; rfl
    · rfl
   unfold hO
   rw [h1]
   exact oZ fun t ht => h t (List.mem_cons_of_mem _ ht)
theorem xL {ds0 : List OD} {ord : Nat → Nat → Bool} {k : KC} : ∀ (ds : List OD) (us : List (E → V → E)) (gs : List (Option (Nat × Bool))) (i : Nat) (e : E) (s : St), us.length = ds.length → gs.length = ds.length →
 (match cz k (eY ds0 ord i ds us gs) e s with | none => aE.bad | some r => fZ e s r) = ops (seqItems ds us gs) k e s
 | [], us, gs, i, e, s, _, _ => by cases us <;> cases gs <;> rfl
 | d :: ds, [], gs, i, e, s, h, _ => by cases h
 | d :: ds, u :: us, [], i, e, s, _, h => by cases h
 | d :: ds, u :: us, g :: gs, i, e, s, h1, h2 => by
   have ih : ∀ e s, (match cz k (eY ds0 ord (i + 1) ds us gs) e s with | none => aE.bad | some r => fZ e s r) = ops (seqItems ds us gs) k e s := fun e s => xL ds us gs (i + 1) e s (by simpa using h1) (by simpa using h2)
   have step : ∀ x : Option (V × St), (match (match x with | none => (none : Option (List (V × E × St))) | some (v, s') => match cz k (eY ds0 ord (i + 1) ds us gs) (u e v) s' with | none => none | some r => some ((v, u e v, s') :: r)) with | none => aE.bad | some r => fZ e s r) = (match x with | none => aE.bad | some (v, s') => ops (seqItems ds us gs) k (u e v) s') := by
    intro x
    cases x with
    | none => rfl
    | some p =>
      obtain ⟨v, s'⟩ := p
      simp only
      rw [← ih]
      cases cz k (eY ds0 ord (i + 1) ds us gs) (u e v) s' <;> rfl
   have hd : ∀ g : Option (Nat × Bool), (match cB k (fR ds0 ord i d u g) e s with | none => aE.bad | some (v, s') => aE.au (u e v) s') = (match g with | none => d.den u | some (t, want) => oG (Gt t) want (d.den u) u) k e s := by
    intro g
    have base : ∀ x : Option (V × St), x = (match (fR ds0 ord i d u g).k with
     | .p f => (match f e with | some v => some (v, s) | none => none)
     | .d _ _ f => (match f e s with | some v => some (v, s) | none => none)
     | .a f => (match f e s.next with | some (v, o) => some (v, s.new o) | none => none)
     | .e f => f k e s) → (match x with | none => aE.bad | some (v, s') => aE.au (u e v) s') = d.den u k e s := by
     intro x hx
     subst hx
     cases d with
     | p f => simp only [fR, OD.den, oP]; cases f e <;> rfl
     | d f => simp only [fR, OD.den, oD]; cases f e s <;> rfl
     | a f => simp only [fR, OD.den, oA]; cases f e s.next <;> rfl
     | e f => simp only [fR, OD.den, oE]; cases f k e s <;> rfl
    unfold cB iZ
    cases g with
    | none => exact base _ rfl
    | some p =>
      obtain ⟨t, w⟩ := p
      simp only [fR, oG]
      generalize Gt t e = q
      cases q with
      | bool b => cases b <;> cases w <;> first | exact base _ rfl | rfl
      | bH l => cases l <;> rfl
      | _ => rfl
   show (match (match cB k (fR ds0 ord i d u g) e s with | none => (none : Option (List (V × E × St))) | some (v, s') => match cz k (eY ds0 ord (i + 1) ds us gs) (u e v) s' with | none => none | some r => some ((v, u e v, s') :: r)) with | none => aE.bad | some r => fZ e s r) = aa _ (ops (seqItems ds us gs)) k e s
   rw [step]
   unfold aa
   have hd := hd g
   cases hx : cB k (fR ds0 ord i d u g) e s with
   | none => rw [hx] at hd; exact congrArg (fun r => aE.casesOn (motive := fun _ => aE) r (fun e s => ops (seqItems ds us gs) k e s) (fun id e s => .exit id e s) (fun e s => .ret e s) .bad) hd
   | some p => rw [hx] at hd; exact congrArg (fun r => aE.casesOn (motive := fun _ => aE) r (fun e s => ops (seqItems ds us gs) k e s) (fun id e s => .exit id e s) (fun e s => .ret e s) .bad) hd
theorem sA {ds0 : List OD} {ord : Nat → Nat → Bool} {t : DT} : ∀ (ds : List OD) (us : List (E → V → E)) (gs : List (Option (Nat × Bool))) (i : Nat), t ∈ eY ds0 ord i ds us gs → ∃ j d u g, ds[j]? = some d ∧ t = fR ds0 ord (i + j) d u g
 | [], us, gs, i, h => by cases us <;> cases gs <;> simp [eY] at h
 | d :: ds, [], gs, i, h => by simp [eY] at h
 | d :: ds, u :: us, [], i, h => by simp [eY] at h
 | d :: ds, u :: us, g :: gs, i, h => by
   simp only [eY, List.mem_cons] at h
   rcases h with rfl | h
   · exact ⟨0, d, u, g, rfl, rfl⟩
   · obtain ⟨j, d', u', g', h1, h2⟩ := sA ds us gs (i + 1) h
     exact ⟨j + 1, d', u', g', by simpa using h1, by rw [h2, Nat.add_assoc, Nat.add_comm 1 j]⟩
theorem yL {ord : Nat → Nat → Bool} {ds : List OD} {us : List (E → V → E)} {gs : List (Option (Nat × Bool))} (h1 : us.length = ds.length) (h2 : gs.length = ds.length) (hq : uf ds ord = true) : fK (eY ds ord 0 ds us gs) = ops (seqItems ds us gs) := by
 funext k e s
 rw [← xL (ds0 := ds) (ord := ord) ds us gs 0 e s h1 h2]
 unfold fK
 cases cz k (eY ds ord 0 ds us gs) e s with
 | none => rfl
 | some r =>
   simp only
   rw [oZ]
   intro t ht
   obtain ⟨j, d, u, g, e1, e2⟩ := sA ds us gs 0 ht
   rw [Nat.zero_add] at e2
   subst e2
   cases d with
   | d f =>
     have hj : j < ds.length := (List.getElem?_eq_some_iff.1 e1).1
     have := List.all_eq_true.1 hq j (List.mem_range.2 hj)
     rw [e1] at this
     simp only at this
     simp only [fR, this, if_true]
   | p f => trivial
   | a f => trivial
   | e f => trivial
include H hfok in
theorem sU {id : Nat} {os : Array Oper} {draw : Bool} {d : Den} (hm : P.follows .mixedOrders = true) (h : jy tt gl fok nt os draw = some d) : fY P nt gl (.region id os draw) d := by
 unfold jy at h
 split at h
 · rename_i ds us gs h1 h2 h3
   obtain ⟨a1, a2⟩ := rF h1
   obtain ⟨b1, b2⟩ := uB h2
   obtain ⟨c1, c2⟩ := vv h3
   cases draw with
   | true =>
     simp only [if_true] at h
     split at h
     · rename_i hh
       rw [Bool.and_eq_true] at hh
       obtain ⟨e2, e3⟩ := hh
       have hreg : k_ P nt gl os ds us gs (qE tt gl fok os.toList gs) := by
        refine ⟨fun i o hi => ?_, by simpa using a1, by simpa using b1, by simpa using c1⟩
        have hi' : os.toList[i]? = some o := by simpa using hi
        obtain ⟨d, f2, f3⟩ := a2 i o hi'
        obtain ⟨u, g1, g2⟩ := b2 i o hi'
        obtain ⟨g, q1, q2⟩ := c2 i o hi'
        have hsl := uH (tt := tt) (gl := gl) (fok := fok) hi' q1
        refine ⟨d, u, g, _, f3, g1, q1, hsl, sv H hfok f2, g2, q2, fun e e' hee => HE f2 (fun t ht => hee t (by simp [ht])), fun t ht => by simp [ht], fun t ht => ?_⟩
        have := List.all_eq_true.1 (List.all_eq_true.1 e3 _ (List.mem_of_getElem? hsl)) t ht
        rw [dD] at this
        simpa using this
       unfold xm at h
       split at h
       · rename_i e1
         have hs : fY P nt gl (.region id os true) (fK (eY ds (br os) 0 ds us gs)) := fY.draw hm hreg e2 e1
         split at h
         · rename_i q hq
           cases h
           split at hq
           · rename_i hq2
             rw [Bool.and_eq_true] at hq2
             cases hq
             obtain ⟨q1, q2, q3⟩ := wm h1 h2 h3
             have : mK fok (iW tt gl fok os.toList gs) [] = ops (seqItems ds us gs) := by
              funext k e s
              rw [tG k e _ ds [] s hq2.2 q3 q2 (fun p hp => by cases hp), q1]; rfl
             rw [this, ← yL (ord := br os) (b1.trans a1.symm) (c1.trans a1.symm) hq2.1]; exact hs
           · cases hq
         · cases h; exact hs
       · split at h
         · rename_i e1
           cases h
           exact fY.aei hm hreg e2 e1
         · cases h
     · cases h
   | false =>
     simp only [Bool.false_eq_true, if_false] at h
     have hs : fY P nt gl (.region id os false) (ops (seqItems ds us gs)) := fY.region (LG H hfok os.toList ds us gs a1 b1 c1 a2 b2 c2)
     split at h
     · rename_i hok
       cases h
       obtain ⟨q1, q2, q3⟩ := wm h1 h2 h3
       have : mK fok (iW tt gl fok os.toList gs) [] = ops (seqItems ds us gs) := by
        funext k e s
        rw [tG k e _ ds [] s hok q3 q2 (fun p hp => by cases hp), q1]; rfl
       rw [this]; exact hs
     · cases h; exact hs
 · cases h
theorem fY.label {l : Nat} : fY P nt gl (.label l) az := fun _ _ G e a s w _ he hs => wp_label ⟨rfl, G, he, hs, fD.refl _ _ _⟩
theorem fY.bad {c : Code} : fY P nt gl c Fy := fun _ _ _ _ _ _ _ h => absurd rfl h
theorem fY.scope {x : Code} {a : Den} (ha : fY P nt gl x a) : fY P nt gl (.scope x) a := by
 intro k hk G e ac s w hne he hs
 refine wp_scope_straight (wp_mono (ha k hk G e ac s w hne he hs) ?_)
 intro q a' w' h
 cases hr : a k e s with
 | au e' s' => rw [hr] at h; obtain ⟨rfl, h⟩ := h; exact ⟨rfl, h⟩
 | exit id e' s' => rw [hr] at h; obtain ⟨rfl, h⟩ := h; exact ⟨rfl, h⟩
 | ret e' s' => rw [hr] at h; obtain ⟨rfl, h⟩ := h; exact ⟨rfl, h⟩
 | bad => rw [hr] at h; exact h.elim
include H hfok in
include H hfok in
theorem Q0 (hm : P.follows .mixedOrders = true) : ∀ (c : Code) (d : Den), nj tt gl fok nt c = some d → fY P nt gl c d := by
 intro c
 induction c
 case skip => intro d h; cases h; exact fY.skip
 case region id os draw =>
  intro d h
  have h : some ((jy tt gl fok nt os draw).getD Fy) = some d := h
  cases hq : jy tt gl fok nt os draw with
  | none => rw [hq] at h; cases h; exact fY.bad
  | some r => rw [hq] at h; cases h; exact sU H hfok hm hq
 case seq a b iha ihb =>
  intro d h; unfold nj at h; split at h
  · rename_i h1 h2; cases h; exact fY.seq (iha _ h1) (ihb _ h2)
  · cases h
 case cond c a b iha ihb =>
  intro d h; unfold nj at h; split at h
  · rename_i h0 h1 h2; cases h; exact fY.cond h0 (iha _ h1) (ihb _ h2)
  · cases h; exact fY.bad
 case block id a iha =>
  intro d h; unfold nj at h; simp only [Option.map_eq_some_iff] at h
  obtain ⟨q, hq, rfl⟩ := h
  exact fY.block (iha _ hq)
 case loop a iha =>
  intro d h; unfold nj at h; simp only [Option.map_eq_some_iff] at h
  obtain ⟨q, hq, rfl⟩ := h
  exact fY.loop (iha _ hq)
 case scope a iha => exact fun d h => fY.scope (iha _ h)
 case exit id => intro d h; cases h; exact fY.exit id
 case ret => intro d h; cases h; exact fY.ret
 case label l => intro d h; cases h; exact fY.label
 all_goals (intro d h; cases h; exact fY.bad)
include H hfok in
theorem vR (hm : P.follows .mixedOrders = true) {c : Code} {d : Den} (h : yc tt gl fok nt c = some d) : fY P nt gl c d := Q0 H hfok hm c d h
include H hfok in
theorem aA (hm : P.follows .mixedOrders = true) {f : Nat} {fn : Func} {F : aX} (hf : P.funcs[f]? = some fn) (h : aH tt gl fok fn = some F) : aa4 P gl f F := by
 unfold aH at h
 split at h
 · rename_i c hc
   split at h
   · rename_i b gs h1 h2
     split at h
     · rename_i hh
       cases h
       exact ⟨tt, fn, c, _, gs, H, hf, hc, vR H hfok hm h1, rfl, hh.2, hh.1, h2, rfl⟩
     · cases h
   · cases h
 · cases h
end
end
end Go.Proofs.YtcgdlgbomjnnnaaGreatLab
/- The jL: a table of functions; what a run of it says of the program. No condition on the program. -/
namespace Go.Proofs.YtcgdlgbomjnnnaaGreatLab
open Go
set_option linter.all false
noncomputable section
def T.rM {α : Type} (p : Nat → α → Prop) (t : T α) : Prop := ∀ i x, t.get i = some x → p i x
theorem T.rM.nil {α : Type} {p : Nat → α → Prop} : T.rM p .nil := fun i x h => by cases h
theorem T.rM.ah {α : Type} {p : Nat → α → Prop} {v : α} {l r : T α} (h : p 0 v) (hl : T.rM (fun i => p (2 * i + 1)) l) (hr : T.rM (fun i => p (2 * i + 2)) r) : T.rM p (.ah v l r) := by
 intro i x hi
 cases i with
 | zero => cases hi; exact h
 | succ i =>
   rw [T.cq] at hi
   split at hi
   · have h' : p (2 * (i / 2) + 1) x := hl _ x hi
     rwa [show 2 * (i / 2) + 1 = i + 1 by omega] at h'
   · have h' : p (2 * (i / 2) + 2) x := hr _ x hi
     rwa [show 2 * (i / 2) + 2 = i + 1 by omega] at h'
section
variable {P : Program} {gl : List Nat}
def aI (P : Program) (gl : List Nat) (f : Nat) (F : aX) : Prop := ∀ k, yT P gl k → ∀ args s v s', bA F k args s = some (v, s') → ∀ G w args', GOk gl G → ew G args args' → SR G s w →
 Calls P f ⟨args'⟩ w (fun e w' => match e with | .returned v' => Post G s w v s' v' w' | _ => False)
theorem aI.of {f : Nat} {F : aX} (h : aa4 P gl f F) : aI P gl f F := fun k hk args s v s' hr G w args' hgl hargs hs => PI h hk hr hgl hargs hs
def jw : aX := ⟨[], fun _ _ _ => .bad, fun _ _ => none⟩
theorem aI.no (f : Nat) : aI P gl f jw := fun k hk args s v s' hr => by
 unfold bA jw at hr
 simp only at hr
 split at hr <;> cases hr
theorem sX {dS : T aX} (ht : T.rM (aI P gl) dS) (fuel : Nat) : ∀ n, yT P gl (kc dS fuel n)
 | 0 => fun f args s v s' h => by cases h
 | n + 1 => fun f args s v s' h G w args' hgl hargs hs => by
   have h : (match dS.get f with | some F => bA F (kc dS fuel n) args s | none => none) = some (v, s') := h
   split at h
   · rename_i F hF
     exact ht f F hF (kc dS fuel n) (sX ht fuel n) args s v s' h G w args' hgl hargs hs
   · cases h
def s0 : St := ⟨.nil, 0⟩
def isT (r : Option (V × St)) : Bool := match r with | some (.bool true, _) => true | _ => false
theorem NN {dS : T aX} (ht : T.rM (aI P []) dS) {fuel n f : Nat} {args : List V} {args' : List Value} (h : isT ((kc dS fuel n).call f args s0) = true) (hargs : ew (fun _ => none) args args') (w : World) :
 Calls P f ⟨args'⟩ w (fun e w' => e = .returned (.bool true) ∧ RowKit.Below w.heap.size w w') := by
 unfold isT at h
 split at h
 · rename_i s' hr
   have hs : SR (fun _ => none) s0 w := ⟨⟨(fun b o hb => by cases hb), (fun b b' o o' l l' hb => by cases hb)⟩, (fun b _ => rfl), (fun b l hb => by cases hb)⟩
   refine (sX ht fuel n f args s0 _ _ hr _ w args' (fun g hg => by cases hg) hargs hs).mono ?_
   intro e w' he
   match e, he with
   | .returned v', ⟨G', g1, g2, g3⟩ =>
     refine ⟨by rw [g3.j_], g1.go.os, g1.go.tape, g1.go.output, g1.go.size, fun k hk => g1.go.same k hk ?_⟩
     rintro ⟨b, o, l, hb, _⟩
     cases hb
 · cases h
end
end
end Go.Proofs.YtcgdlgbomjnnnaaGreatLab
