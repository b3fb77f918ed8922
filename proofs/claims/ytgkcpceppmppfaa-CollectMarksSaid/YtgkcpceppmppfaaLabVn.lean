/- The lab: a map's keys collected and sorted, by a contract. No condition on the program. Pruned. -/
import Derived.Test.YtgkcpceppmppfaaLm5
import Derived.Lib.SlKeysI
import Derived.Maps.Own
import Derived.Below
namespace Go.Proofs.YtgkcpceppmppfaaLab
open Go Go.RowKit Go.Maps Go.WideElems Go.WideShapes
set_option linter.unusedVariables false
noncomputable section
theorem SR.below {G : Pl} {s : St} {w w' : World} (hs : SR G s w) (hw : RowKit.Below w.heap.size w w') {ob : Ob} {l : Loc} (hl : w.heap.size ≤ l.blk) (hlt : l.blk < w'.heap.size) (ho : ObR (G.add s.next l) w' s.next ob) :
 SR (G.add s.next l) (s.new ob) w' ∧ GoS G s w (G.add s.next l) (s.new ob) w' := by
 have hid : G s.next = none := by
  cases h : G s.next with
  | none => rfl
  | some l => exact absurd (hs.dom _ _ h).1 (Nat.lt_irrefl _)
 have hle : G.le (G.add s.next l) := Pl.le_add hid
 have hg : ∀ b o, (s.new ob).heap.get b = some o → (b = s.next ∧ o = ob) ∨ (b ≠ s.next ∧ s.heap.get b = some o) := fun b o hb => by
  have := get_upd b o hb
  unfold upd at this
  by_cases e : b = s.next
  · rw [if_pos e] at this; cases this; exact .inl ⟨e, rfl⟩
  · rw [if_neg e] at this; exact .inr ⟨e, this⟩
 have hadd : ∀ b m, (G.add s.next l) b = some m → (b = s.next ∧ m = l) ∨ (b ≠ s.next ∧ G b = some m) := fun b m hb => by
  unfold Pl.add at hb
  by_cases e : b = s.next
  · rw [if_pos e] at hb; cases hb; exact .inl ⟨e, rfl⟩
  · rw [if_neg e] at hb; exact .inr ⟨e, hb⟩
 refine ⟨⟨⟨fun b o hb => ?_, fun b b' o o' m m' hb hb' lp lp' hm hm' he => ?_⟩, fun b hb => ?_, fun b m hb => ?_⟩, ⟨⟨hle, hw.os, hw.tape, hw.output, hw.size, fun mm k ⟨b, o, m, h1, h2, h3, h4⟩ => ?_, fun k hk _ => hw.block k hk, Rows.of hw.block⟩, Nat.le_succ _, fun b hb h => by unfold Pl.add; rw [if_neg (by omega)]; exact h⟩⟩
 · rcases hg b o hb with ⟨rfl, rfl⟩ | ⟨_, h⟩
   · exact ho
   · exact (hs.r.ob b o h).other hle (fun m hm _ => hw.block _ (hs.dom b m hm).2)
 · rcases hadd b m hm with ⟨e, em⟩ | ⟨e, hm2⟩
   · rcases hadd b' m' hm' with ⟨e', em'⟩ | ⟨e', hm2'⟩
     · rw [e, e']
     · have := (hs.dom b' m' hm2').2; rw [em] at he; omega
   · rcases hadd b' m' hm' with ⟨e', em'⟩ | ⟨e', hm2'⟩
     · have := (hs.dom b m hm2).2; rw [em'] at he; omega
     · rcases hg b o hb with ⟨h, _⟩ | ⟨_, h⟩
       · exact absurd h e
       · rcases hg b' o' hb' with ⟨h', _⟩ | ⟨_, h'⟩
         · exact absurd h' e'
         · exact hs.r.inj b b' o o' m m' h h' lp lp' hm2 hm2' he
 · cases h : (s.new ob).heap.get b with
   | none => rfl
   | some p =>
     simp only [St.new] at hb
     rcases hg b p h with ⟨e, _⟩ | ⟨_, h'⟩
     · omega
     · rw [hs.fresh b (by omega)] at h'; cases h'
 · simp only [St.new]
   rcases hadd b m hb with ⟨e, rfl⟩ | ⟨_, h⟩
   · omega
   · have := hs.dom b m h; have := hw.size; omega
 · rcases hadd b m h3 with ⟨e, rfl⟩ | ⟨e, h⟩
   · exact .inr (h4 ▸ hl)
   · rcases hg b o h1 with ⟨h', _⟩ | ⟨_, h'⟩
     · exact absurd h' e
     · exact .inl ⟨b, o, m, h', h2, h, h4⟩
def insI (x : Int) : List Int → List Int | [] => [x] | y :: l => Bool.casesOn (motive := fun _ => List Int) (ltI y x) (x :: y :: l) (y :: insI x l)
def srtI : List Int → List Int | [] => [] | x :: l => insI x (srtI l)
theorem insI_perm (x : Int) : ∀ l, (insI x l).Perm (x :: l)
 | [] => .refl _
 | y :: l => by
   unfold insI
   cases ltI y x with
   | false => exact .refl _
   | true => exact ((insI_perm x l).cons y).trans (.swap x y l)
theorem srtI_perm : ∀ l, (srtI l).Perm l
 | [] => .refl _
 | x :: l => (insI_perm x _).trans ((srtI_perm l).cons x)
theorem insI_sorted (x : Int) : ∀ l : List Int, l.Pairwise (· ≤ ·) → (insI x l).Pairwise (· ≤ ·)
 | [], _ => List.pairwise_singleton _ _
 | y :: l, h => by
   rw [List.pairwise_cons] at h
   unfold insI
   cases hq : ltI y x with
   | false =>
     rw [ltI_eq] at hq
     have hq : ¬ y < x := by simpa using hq
     refine List.pairwise_cons.2 ⟨fun z hz => ?_, List.pairwise_cons.2 h⟩
     rcases List.mem_cons.1 hz with rfl | hz
     · omega
     · have := h.1 z hz; omega
   | true =>
     rw [ltI_eq] at hq
     have hq : y < x := by simpa using hq
     refine List.pairwise_cons.2 ⟨fun z hz => ?_, insI_sorted x l h.2⟩
     rcases List.mem_cons.1 ((insI_perm x l).mem_iff.1 hz) with rfl | hz
     · omega
     · exact h.1 z hz
theorem srtI_sorted : ∀ l, (srtI l).Pairwise (· ≤ ·)
 | [] => .nil
 | x :: l => insI_sorted x _ (srtI_sorted l)
theorem srtI_eq {l ss : List Int} (h : ss.Perm l) : ss.mergeSort (fun x y => decide (x ≤ y)) = srtI l := by
 have tr : ∀ a b c : Int, decide (a ≤ b) = true → decide (b ≤ c) = true → decide (a ≤ c) = true := fun a b c h1 h2 => by simp only [decide_eq_true_eq] at *; exact Int.le_trans h1 h2
 have to : ∀ a b : Int, (decide (a ≤ b) || decide (b ≤ a)) = true := fun a b => by simp only [Bool.or_eq_true, decide_eq_true_eq]; exact Int.le_total a b
 refine List.Perm.eq_of_pairwise (le := fun a b => decide (a ≤ b) = true) (fun a b _ _ h1 h2 => ?_) (List.pairwise_mergeSort tr to ss) ((srtI_sorted l).imp fun h => by simpa using h) (((List.mergeSort_perm ss _).trans h).trans (srtI_perm l).symm)
 simp only [decide_eq_true_eq] at h1 h2
 exact Int.le_antisymm h1 h2
def incI : List Int → Bool | [] => true | x :: l => match l with | [] => true | y :: _ => and (ltI x y) (incI l)
theorem incI_ok : ∀ {l : List Int}, incI l = true → l.Pairwise (· < ·)
 | [], _ => .nil
 | [x], _ => List.pairwise_singleton _ _
 | x :: y :: l, h => by
   have h : and (ltI x y) (incI (y :: l)) = true := h
   rw [Bool.and_eq_true, ltI_eq] at h
   have ih := incI_ok h.2
   refine List.pairwise_cons.2 ⟨fun z hz => ?_, ih⟩
   have hxy : x < y := by simpa using h.1
   rcases List.mem_cons.1 hz with rfl | hz
   · exact hxy
   · exact Int.lt_trans hxy ((List.pairwise_cons.1 ih).1 z hz)
def incN (cl : Nat) : List Nat → Bool | [] => true | x :: l => match l with | [] => Nat.blt x cl | y :: _ => and (Nat.blt x y) (incN cl l)
theorem incN_ok {cl : Nat} : ∀ {l : List Nat}, incN cl l = true → l.Pairwise (· < ·) ∧ ∀ x, x ∈ l → x < cl
 | [], _ => ⟨.nil, fun x h => by cases h⟩
 | [x], h => by
   have h : Nat.blt x cl = true := h
   rw [nblt_eq] at h
   refine ⟨List.pairwise_singleton _ _, fun y hy => ?_⟩
   rw [List.mem_singleton] at hy
   subst hy; simpa using h
 | x :: y :: l, h => by
   have h : and (Nat.blt x y) (incN cl (y :: l)) = true := h
   rw [Bool.and_eq_true, nblt_eq] at h
   obtain ⟨ih1, ih2⟩ := incN_ok h.2
   have hxy : x < y := by simpa using h.1
   refine ⟨List.pairwise_cons.2 ⟨fun z hz => ?_, ih1⟩, fun z hz => ?_⟩
   · rcases List.mem_cons.1 hz with rfl | hz
     · exact hxy
     · exact Nat.lt_trans hxy ((List.pairwise_cons.1 ih1).1 z hz)
   · rcases List.mem_cons.1 hz with rfl | hz
     · exact Nat.lt_trans hxy (ih2 y List.mem_cons_self)
     · exact ih2 z hz
def wfI (n : Int) : Bool := and (ltI (-9223372036854775809) n) (ltI n 9223372036854775808)
def keysI : List (V × V) → Option (List Int)
 | [] => some []
 | p :: l => match p.1 with
   | .i n => Bool.casesOn (motive := fun _ => Option (List Int)) (wfI n) none (match keysI l with | some r => some (n :: r) | none => none)
   | _ => none
def metOf (off : Nat) (x : V) (s : St) : Option (List Int) := match x with
 | .ptr b o => (match blkOf s b with
   | some (n, xs) => Bool.casesOn (motive := fun _ => Option (List Int)) (Nat.blt (Nat.add o off) n) none (match xs.get (Nat.add o off) with
     | some (.map m) => (match s.heap.get m with
       | some (.map es bs cl) => (match keysI es with
         | some l => Bool.casesOn (motive := fun _ => Option (List Int)) (and (Nat.ble l.length 1048576) (and (incN cl bs) (incI (srtI l)))) none (some l)
         | none => none)
       | _ => none)
     | _ => none)
   | none => none)
 | _ => none
def noR {H : Type} (_ : Value) : Option (DataW H × List MemPlace) := some (.nil, [])
theorem keysI_ok {G : Pl} : ∀ {es : List (V × V)} {l : List Int} {ks : List Value}, keysI es = some l → VRs G (es.map (·.1)) ks → ks = l.map (Value.int .i64) ∧ ∀ z, z ∈ l → (Lit.int .i64 z).wf = true
 | [], l, ks, h, hv => by cases h; cases hv; exact ⟨rfl, fun z h => by cases h⟩
 | p :: es, l, ks, h, hv => by
   unfold keysI at h
   split at h
   · rename_i n hp
     cases hw : wfI n with
     | false => rw [hw] at h; cases h
     | true =>
       rw [hw] at h
       simp only at h
       split at h
       · rename_i r hr
         cases h
         rw [List.map_cons, hp] at hv
         cases hv with
         | cons _ x' _ ks' hx hv =>
           cases hx
           obtain ⟨a1, a2⟩ := keysI_ok hr hv
           refine ⟨by rw [a1]; rfl, fun z hz => ?_⟩
           rcases List.mem_cons.1 hz with rfl | hz
           · unfold wfI at hw
             rw [Bool.and_eq_true, ltI_eq, ltI_eq] at hw
             have h1 : IntKind.i64.min = -9223372036854775808 := rfl
             have h2 : IntKind.i64.max = 9223372036854775807 := rfl
             simp only [Lit.wf, h1, h2, Bool.and_eq_true, decide_eq_true_eq] at hw ⊢
             omega
           · exact a2 z hz
       · cases h
   · cases h
theorem metOf_ok {P : Program} {G : Pl} {s : St} {w : World} (hr : R G s.heap.get w) {off k : Nat} (hk : P.underlying k = some (.int .i64)) {x : V} {x' : Value} {l : List Int} (h : metOf off x s = some l) (hx : VR G x x') :
 ∃ mb mo b D0, x' = .pointer (some ⟨mb, mo, none⟩) ∧ w.cell? ⟨mb, mo + off, none⟩ = some (.map (some b)) ∧ w.ownsMap P k (noR (H := Unit)) b l.length D0 ∧ l.Perm (intKeys D0) ∧ Maps.size D0 = l.length ∧ l.length ≤ 1048576 := by
 unfold metOf at h
 split at h
 · rename_i b o
   split at h
   · rename_i n xs hbk
     have hbk := blkOf_inv hbk
     cases hlt : Nat.blt (Nat.add o off) n with
     | false => rw [hlt] at h; cases h
     | true =>
       rw [hlt] at h
       simp only at h
       rw [nblt_eq] at hlt
       have hlt : o + off < n := by simpa using hlt
       split at h
       · rename_i m hm
         split at h
         · rename_i es bs cl hmb
           split at h
           · rename_i l' hl'
             cases hc : and (Nat.ble l'.length 1048576) (and (incN cl bs) (incI (srtI l'))) with
             | false => rw [hc] at h; cases h
             | true =>
               rw [hc] at h
               cases h
               rw [Bool.and_eq_true, Bool.and_eq_true, nble_eq] at hc
               obtain ⟨c1, c2, c3⟩ := hc
               have c1 : l.length ≤ 1048576 := by simpa using c1
               obtain ⟨lc, rfl, hlc⟩ := hx.ptr_inv
               obtain ⟨l2, c, el, fz, h1, h2, h3, h4, h5, h6⟩ := hr.ob b _ hbk
               rw [hlc] at h1; cases h1
               obtain ⟨v', d1, d2, d3⟩ := h6 (o + off) _ hlt hm
               obtain ⟨lm, en, g1, g2, g3, g4, g5⟩ := hr.ob m _ hmb
               have hv' : v' = .map (some lm.blk) := by
                cases d2 with
                | map _ l3 hl3 => rw [g1] at hl3; cases hl3; rfl
               subst hv'
               obtain ⟨k1, k2⟩ := keysI_ok hl' g3
               obtain ⟨n1, n2⟩ := incN_ok c2
               have n3 : l.Nodup := ((srtI_perm l).nodup_iff).1 ((incI_ok c3).imp fun h => Int.ne_of_lt h)
               have hlen : en.toList.length = l.length := by have := congrArg List.length k1; simpa using this
               have hread : ∀ y ∈ en.toList, ∃ z, y.key = .int .i64 z ∧ z ∈ l := fun y hy => by
                have : y.key ∈ l.map (Value.int .i64) := k1 ▸ List.mem_map.2 ⟨y, hy, rfl⟩
                obtain ⟨z, hz, e⟩ := List.mem_map.1 this
                exact ⟨z, e.symm, hz⟩
               have hrd : ∀ y ∈ en.toList, ∀ z, y.key = .int .i64 z → z ∈ l → rd P k (noR (H := Unit)) y = some (.int .i64 z, .nil) := fun y hy z e hz => by
                obtain ⟨yk, yv, yb⟩ := y
                simp only at e
                subst e
                exact rd_mk (R := noR (H := Unit)) (yv := (.nil, [])) (Maps.keyOf_int_mk hk (k2 z hz)) rfl
               refine ⟨lc.blk, lc.base + o, lm.blk, _, rfl, ?_, ⟨en, cl, g2, ⟨?_, ⟨?_, ?_, ?_⟩, ?_⟩, ?_, rfl⟩, ?_, ?_, c1⟩
               · have : lc.base + o + off = lc.base + (o + off) := by omega
                 rw [this]; simp [World.cell?, h2, d1]
               · have := hlen; simp at this; rw [this]; unfold maxLen; omega
               · intro y hy
                 exact n2 _ (g5 ▸ List.mem_map.2 ⟨y, hy, rfl⟩)
               · rw [g5]; exact n1.imp fun h => Nat.ne_of_lt h
               · rw [k1]
                 exact List.pairwise_map.2 (n3.imp fun h e => h (by simpa using e))
               · intro y hy
                 obtain ⟨z, e, hz⟩ := hread y hy
                 exact ⟨_, hrd y hy z e hz⟩
               · have := hlen; simp at this; omega
               · show l.Perm ((((en.toList.map _).foldr DataW.insert [])).map fun p => intOf p.1)
                 refine List.Perm.symm (((sorted_perm _).map _).trans ?_)
                 rw [List.map_map]
                 have : en.toList.map ((fun p => intOf p.1) ∘ rg P k (noR (H := Unit))) = (en.toList.map (·.key)).map (fun v => match v with | .int _ z => z | _ => 0) := by
                  rw [List.map_map]
                  refine List.map_congr_left fun y hy => ?_
                  obtain ⟨z, e, hz⟩ := hread y hy
                  simp only [Function.comp, rg_of (hrd y hy z e hz), e, intOf]
                 rw [this, k1, List.map_map]
                 have : l.map ((fun v => match v with | Value.int _ z => z | _ => 0) ∘ Value.int .i64) = l := by
                  conv => rhs; rw [← List.map_id l]
                  exact List.map_congr_left fun _ _ => rfl
                 rw [this]
               · show ((en.toList.map _).foldr DataW.insert []).length = _
                 rw [(sorted_perm _).length_eq, List.length_map, hlen]
           · cases h
         · cases h
       · cases h
   · cases h
 · cases h
def allV (off : Nat) (x : V) (s : St) : Option (V × St) := match metOf off x s with
 | some l => some (.slice s.next 0 l.length none 1, s.new (.cells l.length (ofL ((srtI l).map V.i))))
 | none => none
def fOne (g : V → St → Option (V × St)) : FDen := ⟨[Ut 0], fun _ e s => match g (Gt 0 e) s with | some (v, s') => .nrm (Ut 0 e v) s' | none => .bad, resV [rT (Gt 0)]⟩
theorem fOne_inv {g : V → St → Option (V × St)} {k : KC} {args : List V} {s s' : St} {v : V} (h : runF (fOne g) k args s = some (v, s')) : ∃ x, args = [x] ∧ g x s = some (v, s') := by
 unfold runF fOne at h
 simp only at h
 split at h
 · rename_i e he
   match args, he with
   | [x], he =>
     cases he
     rw [Gt_Ut 0 0 (by omega) (by omega), if_pos rfl] at h
     refine ⟨x, rfl, ?_⟩
     cases hg : g x s with
     | none => rw [hg] at h; cases h
     | some p =>
       obtain ⟨v1, s1⟩ := p
       rw [hg] at h
       simp only [resV, rT] at h
       rw [Gt_Ut 0 0 (by omega) (by omega), if_pos rfl] at h
       cases h; rfl
   | [], he => cases he
   | _ :: _ :: _, he => cases he
 · cases h
theorem all_run {P : Program} {gl : List Nat} {f off k : Nat} (hk : P.underlying k = some (.int .i64))
 (hwalk : ∀ (mb mo b n : Nat) (D0 : DataW Unit) (w : World), w.cell? ⟨mb, mo + off, none⟩ = some (.map (some b)) → w.ownsMap P k noR b n D0 → Maps.size D0 ≤ maxLen → 8 * Maps.size D0 ≤ 140737488355328 →
  Calls P f #[.pointer (some ⟨mb, mo, none⟩)] w fun e w' => ∃ (g cap : Nat) (ss : List Int), e = .returned (.slice (some ⟨g, 0, none⟩) ss.length cap) ∧ ss.Perm (intKeys D0) ∧
   w'.ownsRow w.heap.size k 1 (.slice (some ⟨g, 0, none⟩) ss.length cap) ss.length ((ss.mergeSort (fun x y => decide (x ≤ y))).map encZ) ∧ RowKit.Below w.heap.size w w') : FRun P gl f (fOne (allV off)) := by
 intro kc _ args s v s' hr G w args' hgl hargs hs
 obtain ⟨x, rfl, hq⟩ := fOne_inv hr
 cases hargs with
 | cons _ x' _ l' hx hl =>
   cases hl
   unfold allV at hq
   split at hq
   · rename_i l hm
     cases hq
     obtain ⟨mb, mo, b, D0, rfl, q1, q2, q3, q4, q5⟩ := metOf_ok (P := P) hs.r hk hm hx
     refine (hwalk mb mo b _ D0 w q1 q2 (by unfold maxLen; omega) (by omega)).mono ?_
     rintro e w' ⟨g, cap, ss, rfl, hp, hrow, hb⟩
     have hpl : ss.Perm l := hp.trans q3.symm
     have hlen := hpl.length_eq
     rw [srtI_eq hpl] at hrow
     rcases hrow.2 with ⟨h, _⟩ | ⟨g', cap', cur, hv, hbase, hbl, h1, h2, h3, h4⟩
     · cases h
     cases hv
     rw [Nat.mul_one] at h3 h4
     have hglt := (Array.getElem?_eq_some_iff.1 hbl).1
     have hid : G s.next = none := by
      cases h : G s.next with
      | none => rfl
      | some l => exact absurd (hs.dom _ _ h).1 (Nat.lt_irrefl _)
     obtain ⟨r1, r2⟩ := hs.below (ob := .cells l.length (ofL ((srtI l).map V.i))) (l := ⟨g, 0, cap⟩) hb hbase hglt (by
      refine ⟨_, cur, k, (0, 0), by unfold Pl.add; rw [if_pos rfl], hbl, .inl rfl, h3, by simp only; omega, fun i y hi hy => ?_⟩
      have hy := ofL_get hy
      rw [List.getElem?_map] at hy
      cases hz : (srtI l)[i]? with
      | none => rw [hz] at hy; cases hy
      | some z =>
        rw [hz] at hy
        cases hy
        refine ⟨.int .i64 z, ?_, .i z, rfl⟩
        have h5 : (cur.toList.take ss.length)[i]? = some (.int .i64 z) := by rw [h4, List.getElem?_map, hz]; rfl
        rw [List.getElem?_take, if_pos (by omega)] at h5
        simpa using h5)
     exact ⟨_, r2, r1, by rw [hlen]; exact .slice _ _ _ _ _ _ _ _ (Pl.add_at _ _ _) (by omega) (fun k hk => by cases hk) (.inr (by simp)) (.inr (by simp only; omega))⟩
   · cases hq
/-! ### Words: a sum over a map's keys, of what a function that leaves memory alone gives -/
def Quiet (k : KC) (f : Nat) : Prop := ∀ args s v s', k.call f args s = some (v, s') → s' = s
def lenN (k : KC) (f : Nat) (h : V) (s : St) (x : Int) : Option Nat := match k.call f [h, .i x] s with
 | some (.i (.ofNat m), _) => Bool.casesOn (motive := fun _ => Option Nat) (Nat.ble m 1099511627776) none (some m)
 | _ => none
def sumN (k : KC) (f : Nat) (h : V) (s : St) : List Int → Option Nat
 | [] => some 0
 | x :: l => match lenN k f h s x with | some m => (match sumN k f h s l with | some t => some (Nat.add (Nat.add 3 m) t) | none => none) | none => none
def valsI : List (V × V) → Bool | [] => true | p :: l => match p.2 with | .i _ => valsI l | _ => false
def metB (off : Nat) (x : V) (s : St) : Option Bool := match x with
 | .ptr b o => (match blkOf s b with
   | some (_, xs) => (match xs.get (Nat.add o off) with
     | some (.map m) => (match s.heap.get m with | some (.map es _ _) => some (valsI es) | _ => none)
     | _ => none)
   | none => none)
 | _ => none
def wordsV (k : KC) (f off : Nat) (x : V) (s : St) : Option (V × St) := match metOf off x s, metB off x s, x with
 | some l, some true, .ptr b o => (match blkOf s b with
   | some (n, xs) => (match xs.get o with
     | some (.ptr hb ho) => (match sumN k f (.ptr hb ho) s l with | some t => some (.i (.ofNat t), s) | none => none)
     | _ => none)
   | none => none)
 | _, _, _ => none
theorem metOf_blk {G : Pl} {s : St} {w w' : World} (hr : R G s.heap.get w) (hr' : R G s.heap.get w') {off : Nat} {b o : Nat} (h : metB off (.ptr b o) s = some true) {mb mo mm : Nat} (hx : VR G (.ptr b o) (.pointer (some ⟨mb, mo, none⟩))) (hc : w.cell? ⟨mb, mo + off, none⟩ = some (.map (some mm))) {l : List Int} (hm : metOf off (.ptr b o) s = some l) : w'.heap[mm]? = w.heap[mm]? := by
 unfold metB at h
 unfold metOf at hm
 simp only at h hm
 cases hbk : blkOf s b with
 | none => rw [hbk] at h; cases h
 | some p =>
   obtain ⟨n, xs⟩ := p
   rw [hbk] at h hm
   simp only at h hm
   have hbk := blkOf_inv hbk
   cases hlt : Nat.blt (Nat.add o off) n with
   | false => rw [hlt] at hm; cases hm
   | true =>
     rw [hlt] at hm
     simp only at hm
     rw [nblt_eq] at hlt
     have hlt : o + off < n := by simpa using hlt
     split at h
     · rename_i m hx2
       split at h
       · rename_i es bs cl hmb
         rw [hx2] at hm
         simp only [hmb] at hm
         obtain ⟨lc, e1, hlc⟩ := hx.ptr_inv
         cases e1
         obtain ⟨l2, c, el, fz, h1, h2, h3, h4, h5, h6⟩ := hr.ob b _ hbk
         rw [hlc] at h1; cases h1
         obtain ⟨v', d1, d2, d3⟩ := h6 (o + off) _ hlt hx2
         obtain ⟨lm, en, g1, g2, g3, g4, g5⟩ := hr.ob m _ hmb
         obtain ⟨lm', en', g1', g2', g3', g4', g5'⟩ := hr'.ob m _ hmb
         rw [g1] at g1'; cases g1'
         have hv' : v' = .map (some lm.blk) := by
          cases d2 with
          | map _ l3 hl3 => rw [g1] at hl3; cases hl3; rfl
         subst hv'
         have hmm : mm = lm.blk := by
          have : lc.base + o + off = lc.base + (o + off) := by omega
          rw [this] at hc
          simp [World.cell?, h2, d1] at hc
          exact hc.symm
         subst hmm
         cases hk : keysI es with
         | none => rw [hk] at hm; cases hm
         | some lk =>
           rw [g2, g2']
           have key : ∀ (es : List (V × V)) (lk : List Int) (a a' : List MapEntry), keysI es = some lk → valsI es = true → VRs G (es.map (·.1)) (a.map (·.key)) → VRs G (es.map (·.1)) (a'.map (·.key)) → VRs G (es.map (·.2)) (a.map (·.val)) → VRs G (es.map (·.2)) (a'.map (·.val)) → a.map (·.born) = a'.map (·.born) → a' = a := by
            intro es
            induction es with
            | nil =>
              intro lk a a' _ _ v1 v1' _ _ _
              have := v1.length; have := v1'.length
              cases a with
              | nil => cases a' with
                | nil => rfl
                | cons => simp at *
              | cons => simp at *
            | cons p es ih =>
              intro lk a a' hk hv v1 v1' v2 v2' hb
              cases a with
              | nil => have := v1.length; simp at this
              | cons y a =>
                cases a' with
                | nil => have := v1'.length; simp at this
                | cons y' a' =>
                  rw [List.map_cons] at v1 v2
                  rw [List.map_cons] at v1' v2'
                  unfold keysI at hk
                  unfold valsI at hv
                  split at hk
                  · rename_i z hz
                    cases hw : wfI z with
                    | false => rw [hw] at hk; cases hk
                    | true =>
                      rw [hw] at hk
                      simp only at hk
                      split at hk
                      · rename_i r hr
                        split at hv
                        · rename_i z2 hz2
                          rw [hz] at v1 v1'
                          rw [hz2] at v2 v2'
                          cases v1 with
                          | cons _ _ _ _ x1 v1 =>
                          cases v1' with
                          | cons _ _ _ _ x1' v1' =>
                          cases v2 with
                          | cons _ _ _ _ x2 v2 =>
                          cases v2' with
                          | cons _ _ _ _ x2' v2' =>
                          obtain ⟨yk, yv, yb⟩ := y
                          obtain ⟨yk', yv', yb'⟩ := y'
                          simp only [List.map_cons, List.cons.injEq] at *
                          cases x1; cases x1'; cases x2; cases x2'
                          obtain ⟨hb1, hb2⟩ := hb
                          subst hb1
                          rw [ih r a a' hr hv v1 v1' v2 v2' hb2]
                          exact ⟨rfl, rfl⟩
                        · cases hv
                      · cases hk
                  · cases hk
           have hval : valsI es = true := by simpa using h
           have := key es lk en.toList en'.toList hk hval g3 g3' g4 g4' (by rw [g5, g5'])
           rw [Array.toList_inj.1 this]
       · cases h
     · cases h
theorem sum_perm {g : Int → Int} {l r : List Int} (h : l.Perm r) : (l.map g).sum = (r.map g).sum := by
 induction h with
 | nil => rfl
 | cons x _ ih => simp [ih]
 | swap x y l => simp; omega
 | trans _ _ h1 h2 => exact h1.trans h2
def lenF (k : KC) (f : Nat) (h : V) (s : St) (x : Int) : Int := match lenN k f h s x with | some m => (m : Int) | none => 0
theorem lenN_ok {k : KC} {f : Nat} {h : V} {s : St} {x : Int} {m : Nat} (e : lenN k f h s x = some m) : m ≤ 1099511627776 ∧ ∃ s', k.call f [h, .i x] s = some (.i (.ofNat m), s') := by
 unfold lenN at e
 split at e
 · rename_i m' s' hc
   cases hb : Nat.ble m' 1099511627776 with
   | false => rw [hb] at e; cases e
   | true =>
     rw [hb] at e; cases e
     rw [nble_eq] at hb
     exact ⟨by simpa using hb, s', hc⟩
 · cases e
theorem lenF_b (k : KC) (f : Nat) (h : V) (s : St) (x : Int) : 0 ≤ lenF k f h s x ∧ lenF k f h s x ≤ 1099511627776 := by
 unfold lenF
 split
 · rename_i m hm
   have := (lenN_ok hm).1
   omega
 · omega
theorem sumN_ok {k : KC} {f : Nat} {h : V} {s : St} : ∀ {l : List Int} {t : Nat}, sumN k f h s l = some t → (t : Int) = (l.map fun x => 3 + lenF k f h s x).sum ∧ ∀ x, x ∈ l → ∃ m, lenN k f h s x = some m
 | [], t, e => by cases e; exact ⟨rfl, fun x h => by cases h⟩
 | x :: l, t, e => by
   unfold sumN at e
   split at e
   · rename_i m hm
     split at e
     · rename_i t' ht
       cases e
       obtain ⟨a1, a2⟩ := sumN_ok ht
       refine ⟨?_, fun y hy => ?_⟩
       · have : lenF k f h s x = (m : Int) := by unfold lenF; rw [hm]
         rw [List.map_cons, List.sum_cons, ← a1, this]
         simp only [Nat.add_eq]; omega
       · rcases List.mem_cons.1 hy with rfl | hy
         · exact ⟨m, hm⟩
         · exact a2 y hy
     · cases e
   · cases e
theorem has_mem {H : Type} {D0 : DataW H} {x : Int} (h : Maps.has D0 (.int .i64 x) = true) : x ∈ intKeys D0 := by
 cases D0 <;> first | (simp [Maps.has] at h; done) | skip
 rename_i es
 rw [has_eq, List.any_eq_true] at h
 obtain ⟨p, hp, hs⟩ := h
 refine List.mem_map.2 ⟨p, hp, ?_⟩
 obtain ⟨kl, d⟩ := p
 cases kl <;> simp [Lit.sameKey, intOf] at hs ⊢
 exact hs.2
theorem words_run {P : Program} {gl : List Nat} {f fl off k : Nat} (hk : P.underlying k = some (.int .i64)) {k1 : KC} (hk1 : KOk P gl k1) (hq : Quiet k1 fl)
 (hwalk : ∀ (mb mo b n : Nat) (hv : Value) (D0 : DataW Unit) (lenf : Int → Int) (w : World) (J : World → Prop), w.cell? ⟨mb, mo + off, none⟩ = some (.map (some b)) → w.ownsMap P k noR b n D0 → J w → (∀ A B : World, J A → RowKit.Below w.heap.size A B → J B) → (∀ wr, J wr → wr.cell? ⟨mb, mo, none⟩ = some hv) →
  (∀ x, Maps.has D0 (.int .i64 x) = true → ∀ wr, J wr → Calls P fl #[hv, encZ x] wr fun e w' => e = .returned (.int .i64 (lenf x)) ∧ J w' ∧ wr.heap.size ≤ w'.heap.size ∧ w'.heap[b]? = wr.heap[b]? ∧ ∀ i, w.heap.size ≤ i → i < wr.heap.size → w'.heap[i]? = wr.heap[i]?) → (∀ x, 0 ≤ lenf x ∧ lenf x ≤ 1099511627776) → Maps.size D0 ≤ 1048576 →
  Calls P f #[.pointer (some ⟨mb, mo, none⟩)] w fun e w' => ∃ ss : List Int, ss.Perm (intKeys D0) ∧ e = .returned (.int .i64 ((ss.map fun x => 3 + lenf x).sum)) ∧ J w') : FRun P gl f (fOne (wordsV k1 fl off)) := by
 intro kc _ args s v s' hr G w args' hgl hargs hs
 obtain ⟨x, rfl, hv⟩ := fOne_inv hr
 cases hargs with
 | cons _ x' _ l' hx hl =>
   cases hl
   unfold wordsV at hv
   split at hv
   · rename_i l b o hm hb
     split at hv
     · rename_i n xs hbk0
       have hbk := blkOf_inv hbk0
       split at hv
       · rename_i hb' ho hxo
         split at hv
         · rename_i t ht
           cases hv
           obtain ⟨mb, mo, bm, D0, rfl, q1, q2, q3, q4, q5⟩ := metOf_ok (P := P) hs.r hk hm hx
           obtain ⟨lc, e1, hlc⟩ := hx.ptr_inv
           cases e1
           have hlt : o < n := by
            unfold metOf at hm
            simp only [hbk0] at hm
            cases hlt : Nat.blt (Nat.add o off) n with
            | false => rw [hlt] at hm; cases hm
            | true => rw [nblt_eq] at hlt; have : o + off < n := by simpa using hlt
                      omega
           obtain ⟨a1, a2⟩ := sumN_ok ht
           obtain ⟨lh, hlh, hcell⟩ : ∃ lh : Loc, G hb' = some lh ∧ ∀ wr, SR G s wr → wr.cell? ⟨lc.blk, lc.base + o, none⟩ = some (.pointer (some ⟨lh.blk, lh.base + ho, none⟩)) := by
            obtain ⟨l2, c, el, fz, h1, h2, h3, h4, h5, h6⟩ := hs.r.ob b _ hbk
            obtain ⟨v', d1, d2, d3⟩ := h6 o _ hlt hxo
            obtain ⟨lh, e2, hlh⟩ := d2.ptr_inv
            refine ⟨lh, hlh, fun wr hwr => ?_⟩
            obtain ⟨l2, c, el, fz, h1, h2, h3, h4, h5, h6⟩ := hwr.r.ob b _ hbk
            rw [hlc] at h1; cases h1
            obtain ⟨v', d1, d2, d3⟩ := h6 o _ hlt hxo
            obtain ⟨lh', e2, hlh'⟩ := d2.ptr_inv
            rw [hlh] at hlh'; cases hlh'
            simp [World.cell?, h2, d1, e2]
           have hown : ∀ i, own true G s.heap.get i → i < w.heap.size := fun i ⟨_, _, _, _, _, h3, h4⟩ => h4 ▸ (hs.dom _ _ h3).2
           refine (hwalk lc.blk (lc.base + o) bm _ (.pointer (some ⟨lh.blk, lh.base + ho, none⟩)) D0 (lenF k1 fl (.ptr hb' ho) s) w (fun wr => SR G s wr ∧ GoS G s w G s wr) q1 q2 ⟨hs, GoS.refl _ _ _⟩ (fun A B hA hB => ?_) (fun wr hwr => hcell wr hwr.1) (fun z hz wr hwr => ?_) (lenF_b _ _ _ _) (by omega)).mono ?_
           · refine ⟨⟨⟨fun b' ob hob => (hA.1.r.ob b' ob hob).other (Pl.le_refl G) (fun m hm' _ => hB.block _ (hs.dom b' m hm').2), hA.1.r.inj⟩, hs.fresh, fun b' m hm' => ⟨(hs.dom b' m hm').1, Nat.lt_of_lt_of_le (hA.1.dom b' m hm').2 hB.size⟩⟩, ⟨⟨Pl.le_refl G, hB.os.trans hA.2.go.os, hB.tape.trans hA.2.go.tape, hB.output.trans hA.2.go.output, Nat.le_trans hA.2.size hB.size, fun _ k' hk' => .inl hk', fun k' hk' hn => (hB.block k' hk').trans (hA.2.go.same k' hk' hn), fun k' c el fz hc => let ⟨c', hc'⟩ := hA.2.go.row k' c el fz hc; ⟨c', (hB.block k' (Array.getElem?_eq_some_iff.1 hc).1).trans hc'⟩⟩, Nat.le_refl _, fun _ _ h => h⟩⟩
           · obtain ⟨m, hlm⟩ := a2 z (q3.mem_iff.2 (has_mem hz))
             obtain ⟨_, s1, hcall⟩ := lenN_ok hlm
             have hs1 := hq _ _ _ _ hcall
             rw [hs1] at hcall
             refine (hk1 fl _ s _ s hcall G wr [.pointer (some ⟨lh.blk, lh.base + ho, none⟩), encZ z] hgl (.cons _ _ _ _ (.ptr _ _ _ hlh) (.cons _ _ _ _ (.i z) .nil)) hwr.1).mono ?_
             intro e w' he
             match e, he with
             | .returned v', ⟨G', g1, g2, g3⟩ =>
               have hG : G' = G := by
                funext b'
                by_cases hlt' : b' < s.next
                · cases hg : G b' with
                  | none => exact g1.kp b' hlt' hg
                  | some l3 => exact g1.le b' l3 hg
                · have h1 : G b' = none := by
                   cases hg : G b' with
                   | none => rfl
                   | some l3 => exact absurd (hs.dom _ _ hg).1 hlt'
                  have h2 : G' b' = none := by
                   cases hg : G' b' with
                   | none => rfl
                   | some l3 => exact absurd (g2.dom _ _ hg).1 hlt'
                  rw [h1, h2]
               subst hG
               refine ⟨?_, ⟨g2, hwr.2.trans g1⟩, g1.size, metOf_blk hwr.1.r g2.r hb hx ?_ hm, fun i hi hi2 => g1.go.same i hi2 (fun ho' => absurd (hown i ho') (by omega))⟩
               · have : lenF k1 fl (.ptr hb' ho) s z = (m : Int) := by unfold lenF; rw [hlm]
                 rw [this]
                 cases g3
                 rfl
               · -- the map's cell, as it was
                 unfold metOf at hm
                 simp only [hbk0] at hm
                 cases hlt2 : Nat.blt (Nat.add o off) n with
                 | false => rw [hlt2] at hm; cases hm
                 | true =>
                   rw [hlt2] at hm
                   simp only at hm
                   rw [nblt_eq] at hlt2
                   have hlt2 : o + off < n := by simpa using hlt2
                   split at hm
                   · rename_i mm hmm
                     have get : ∀ wq, SR G' s wq → ∃ lm : Loc, G' mm = some lm ∧ wq.cell? ⟨lc.blk, lc.base + o + off, none⟩ = some (.map (some lm.blk)) := fun wq hwq => by
                      obtain ⟨l2, c, el, fz, h1, h2, h3, h4, h5, h6⟩ := hwq.r.ob b _ hbk
                      rw [hlc] at h1; cases h1
                      obtain ⟨v', d1, d2, d3⟩ := h6 (o + off) _ hlt2 hmm
                      cases d2 with
                      | map _ lm hlm' =>
                        refine ⟨lm, hlm', ?_⟩
                        have : lc.base + o + off = lc.base + (o + off) := by omega
                        rw [this]; simp [World.cell?, h2, d1]
                     obtain ⟨lm, u1, u2⟩ := get w hs
                     obtain ⟨lm', u1', u2'⟩ := get wr hwr.1
                     rw [u1] at u1'; cases u1'
                     rw [u2'] ; rw [u2] at q1; exact q1
                   · cases hm
           · rintro e w' ⟨ss, hp, rfl, hJ1, hJ2⟩
             refine ⟨G, hJ2, hJ1, ?_⟩
             rw [sum_perm (hp.trans q3.symm), ← a1]
             exact .i _
         · cases hv
       · cases hv
     · cases hv
   · cases hv
def RQ (s : St) (r : Res) : Prop := match r with | .nrm _ s' => s' = s | .exit _ _ s' => s' = s | .ret _ s' => s' = s | .bad => True
theorem RQ.bP {s : St} {x : Option V} {k : V → Res} (h : ∀ v, RQ s (k v)) : RQ s (bP x k) := by
 cases x with
 | none => exact trivial
 | some v => exact h v
theorem RQ.bE {s : St} {x : Option (V × St)} {k : V → St → Res} (hx : ∀ v s', x = some (v, s') → s' = s) (h : ∀ v, RQ s (k v s)) : RQ s (bE x k) := by
 cases x with
 | none => exact trivial
 | some p =>
   obtain ⟨v, s'⟩ := p
   have := hx v s' rfl
   subst this
   exact h v
theorem RQ.seq {s : St} {a b : Den} {k : KC} {e : E} (ha : RQ s (a k e s)) (hb : ∀ e, RQ s (b k e s)) : RQ s (dSeq a b k e s) := by
 unfold dSeq
 cases h : a k e s with
 | nrm e' s' => rw [h] at ha; have ha : s' = s := ha; subst ha; exact hb e'
 | exit id e' s' => rw [h] at ha; exact ha
 | ret e' s' => rw [h] at ha; exact ha
 | bad => exact trivial
theorem RQ.cond {s : St} {g : E → V} {a b : Den} {k : KC} {e : E} (ha : RQ s (a k e s)) (hb : RQ s (b k e s)) : RQ s (dCond g a b k e s) := by
 unfold dCond
 cases g e with
 | bool t => cases t; exact hb; exact ha
 | _ => exact trivial
theorem RQ.block {s : St} {id : Nat} {a : Den} {k : KC} {e : E} (ha : RQ s (a k e s)) : RQ s (dBlock id a k e s) := by
 unfold dBlock
 cases h : a k e s with
 | nrm e' s' => rw [h] at ha; exact ha
 | exit id' e' s' =>
   rw [h] at ha
   simp only
   cases Nat.beq id' id <;> exact ha
 | ret e' s' => rw [h] at ha; exact ha
 | bad => exact trivial
theorem RQ.ret {s : St} {k : KC} {e : E} : RQ s (dRet k e s) := rfl
theorem RQ.skip {s : St} {k : KC} {e : E} : RQ s (dSkip k e s) := rfl
theorem RQ.exit {s : St} {id : Nat} {k : KC} {e : E} : RQ s (dExit id k e s) := rfl
theorem RQ.nrm {s : St} {e : E} : RQ s (.nrm e s) := rfl
theorem runF_q {F : FDen} {k : KC} (h : ∀ e s, RQ s (F.body k e s)) {args : List V} {s s' : St} {v : V} (hr : runF F k args s = some (v, s')) : s' = s := by
 unfold runF at hr
 split at hr
 · rename_i e _
   have := h e s
   split at hr
   · rename_i e' s1 hb
     rw [hb] at this
     split at hr
     · cases hr; exact this
     · cases hr
   · rename_i e' s1 hb
     rw [hb] at this
     split at hr
     · cases hr; exact this
     · cases hr
   · cases hr
 · cases hr
theorem kc_q {tbl : T FDen} {fuel n f : Nat} {F : FDen} (hf : tbl.get f = some F) (h : ∀ e s, RQ s (F.body (kc tbl fuel n) e s)) : Quiet (kc tbl fuel (n + 1)) f := fun args s v s' hr => by
 have hr : (match tbl.get f with | some F => runF F (kc tbl fuel n) args s | none => none) = some (v, s') := hr
 rw [hf] at hr
 exact runF_q h hr
end
end Go.Proofs.YtgkcpceppmppfaaLab
