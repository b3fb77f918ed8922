/- The lab, part 2 of 5. No condition on the program. Pruned. -/
import Derived.Test.YtcgdlgbomjnnnaaGreatLm1
import Derived.Deep.DeepAppendWide
import Derived.LoopN
/- The jL: append, copy, make. No condition on the program. -/
namespace Go.Proofs.YtcgdlgbomjnnnaaGreatLab
open Go
set_option linter.all false
noncomputable section
/-! ### What a slice or a text holds -/
def gJ (es : Nat) (s : St) : V → Option (Nat × List V)
 | .ay => some (0, [])
 | .slice b o len _ es' => Bool.casesOn (motive := fun _ => Option (Nat × List V)) (Nat.beq es' es) none
  (Nat.rec (motive := fun _ => Option (Nat × List V)) (some (0, [])) (fun _ _ => match fQ s b with
   | some (n, xs) => Bool.casesOn (motive := fun _ => Option (Nat × List V)) (Nat.ble (Nat.add o (Nat.mul len es)) n) none (match qA xs (Nat.mul len es) o with | some l => some (len, l) | none => none)
   | none => none) len)
 | .str l => Bool.casesOn (motive := fun _ => Option (Nat × List V)) (Nat.beq es 1) none (some (l.length, l.map fun c => .int .u8 (Int.ofNat c)))
 | _ => none
theorem nG {P : Program} {G : Pl} {s : St} {w : World} (hr : R G s.heap.get w) {es n : Nat} {x : V} {x' : Value} {l : List V} (h : gJ es s x = some (n, l)) (hx : VR G x x') :
 (Builtin.lenOf x').run P w = .ok n w ∧ ∃ l', (∀ w2 : World, w2.heap = w.heap → (Builtin.firstCells es n x').run P w2 = .ok ⟨l'⟩ w2) ∧ ew G l l' ∧ (∀ v ∈ l', v.oneCell' = true) ∧ l'.length = n * es := by
 unfold gJ at h
 split at h
 · cases h; cases hx
   exact ⟨rfl, [], fun _ _ => rfl, .nil, (fun v h => by cases h), by simp⟩
 · rename_i b o len cap es'
   obtain ⟨l0, a, c, rfl, hl, hc, _, ha, _⟩ := hx.fG
   cases e1 : Nat.beq es' es with
   | false => rw [e1] at h; cases h
   | true =>
     rw [e1] at h
     have := Nat.eq_of_beq_eq_true e1
     subst this
     cases len with
     | zero =>
       cases h
       exact ⟨rfl, [], fun _ _ => by simp [Builtin.firstCells, loadCells, loadCellsFrom], .nil, (fun v h => by cases h), by simp⟩
     | succ k =>
       simp only at h
       split at h
       · rename_i m xs hb
         rw [cr] at h
         by_cases hle : o + (k + 1) * es' ≤ m
         · simp only [Nat.add_eq, Nat.mul_eq, hle, decide_true] at h
           split at h
           · rename_i vs hvs
             cases h
             have ha : a = ⟨l0.blk, l0.base + o, none⟩ := ha.resolve_left (by omega)
             subst ha
             obtain ⟨vs', a1, a2, a3⟩ := sK (P := P) hr hb hl hvs hle
             refine ⟨rfl, vs', fun w2 hw2 => by simp only [Builtin.firstCells]; exact a1 w2 hw2, a2, a3, ?_⟩
             rw [← a2.length]; exact (pN hvs).1
           · cases h
         · simp only [Nat.add_eq, Nat.mul_eq, hle, decide_false] at h; cases h
       · cases h
 · rename_i l0
   cases e1 : Nat.beq es 1 with
   | false => rw [e1] at h; cases h
   | true =>
     rw [e1] at h
     have := Nat.eq_of_beq_eq_true e1
     subst this
     cases h
     obtain ⟨bs, rfl, rfl⟩ := hx.iL
     have hsz : (bs.data.toList.map UInt8.toNat).length = bs.size := by rw [List.length_map, Array.length_toList]; rfl
     refine ⟨by rw [hsz]; rfl, bs.data.toList.map (fun b => .int .u8 b.toNat), ?_, ?_, ?_, ?_⟩
     · intro w2 _
       rw [hsz]
       have : bs.extract 0 bs.size = bs := ByteArray.extract_zero_size
       simp only [Builtin.firstCells, this, Sem.run_pure]
       congr 1
       cases bs.data; simp
     · have key : ∀ l : List UInt8, ew G ((l.map UInt8.toNat).map fun c => V.int .u8 (Int.ofNat c)) (l.map fun b => .int .u8 b.toNat) := by
        intro l
        induction l with
        | nil => exact .nil
        | cons c l ih => exact .cons _ _ _ _ (.int _ _) ih
       exact key _
     · intro v hv
       obtain ⟨c, _, rfl⟩ := List.mem_map.1 hv
       rfl
     · simp
 · cases h
theorem rE {es n b o len es' : Nat} {cap : Option Nat} {s : St} {l : List V} (h : gJ es s (.slice b o len cap es') = some (n, l)) : n = len ∧ l.length = len * es ∧ ∀ m xs, fQ s b = some (m, xs) → ∀ i x, l[i]? = some x → xs (o + i) = some x ∧ o + i < m := by
 unfold gJ at h
 simp only at h
 cases e1 : Nat.beq es' es with
 | false => rw [e1] at h; cases h
 | true =>
   rw [e1] at h
   cases len with
   | zero => cases h; exact ⟨rfl, by simp, fun m xs _ i x hi => by simp at hi⟩
   | succ k =>
     simp only at h
     split at h
     · rename_i m xs hb
       rw [cr] at h
       by_cases hle : o + (k + 1) * es ≤ m
       · simp only [Nat.add_eq, Nat.mul_eq, hle, decide_true] at h
         split at h
         · rename_i vs hvs
           cases h
           obtain ⟨h1, h2⟩ := pN hvs
           refine ⟨rfl, h1, fun m' xs' hb' i x hi => ?_⟩
           rw [hb] at hb'; cases hb'
           have hlt := (List.getElem?_eq_some_iff.1 hi).1
           obtain ⟨y, a1, a2⟩ := h2 i (by omega)
           rw [hi] at a1; cases a1
           exact ⟨a2, by omega⟩
         · cases h
       · simp only [Nat.add_eq, Nat.mul_eq, hle, decide_false] at h; cases h
     · cases h
/-! ### Append -/
def xH (es n : Nat) (old new : List V) (s : St) : Option (V × St) :=
 some (.slice s.next 0 n none es, s.new (.cells (Nat.mul n es) (cK (old ++ new))))
def wF (es n b : Nat) (old new : List V) (s : St) : Option (V × St) :=
 some (.slice s.next 0 n none es, (s.put b .dead).new (.cells (Nat.mul n es) (cK (old ++ new))))
def zV (es : Nat) (x : V) (n : Nat) (new : List V) (s : St) : Option (V × St) := match x with
 | .ay => Nat.rec (motive := fun _ => Option (V × St)) (some (.ay, s)) (fun _ _ => xH es n [] new s) n
 | .slice b o len cap es' => Bool.casesOn (motive := fun _ => Option (V × St)) (Nat.beq es' es) none
  (Nat.rec (motive := fun _ => Option (V × St)) (some (.slice b o len cap es, s)) (fun _ _ =>
   match cap with
   | some c => Bool.casesOn (motive := fun _ => Option (V × St)) (Nat.ble (Nat.add len n) c)
    (match gJ es s x with | some (_, old) => xH es (Nat.add len n) old new s | none => none)
    (match fC s b with
     | some (m, xs) => Bool.casesOn (motive := fun _ => Option (V × St)) (Nat.ble (Nat.add (Nat.add o (Nat.mul len es)) (Nat.mul n es)) m) none (some (.slice b o (Nat.add len n) (some c) es, s.put b (.cells m (gG xs (Nat.add o (Nat.mul len es)) new))))
     | none => none)
   | none => match fC s b with | some _ => (match gJ es s x with | some (_, old) => wF es (Nat.add len n) b old new s | none => none) | none => none) n)
 | _ => none
def ZB (lim es : Nat) (g h : E → V) (_ : KC) (e : E) (s : St) : Option (V × St) := match gJ es s (h e) with
 | some (n, new) => Bool.casesOn (motive := fun _ => Option (V × St)) (bn new) none (Bool.casesOn (motive := fun _ => Option (V × St)) (Nat.ble n 100000000) none (match (g e) with
  | .slice b o len cap es' => Bool.casesOn (motive := fun _ => Option (V × St)) (Nat.ble len lim) none (zV es (.slice b o len cap es') n new s)
  | x => zV es x n new s))
 | none => none
def kF (es : Nat) (g h : E → V) (k : KC) (e : E) (s : St) : Option (V × St) := ZB 17596481011712 es g h k e s
def iX (es : Nat) (g h : E → V) (k : KC) (e : E) (s : St) : Option (V × St) := ZB 100000000 es g h k e s
section
variable {P : Program} {tt : TT} (H : qW P tt) {nt : Nat} {gl : List Nat} {o : Oper} {x y : Operand} {g h : E → V}
theorem gS {w w' : World} {t1 t2 ty el es n : Nat} {a : Addr} {len cap : Nat} {y' : Value} {new : Array Value} (h1 : (underlying t1).run P w = .ok (.slice el) w) {d2 : TypeDesc} (h2 : (underlying t2).run P w = .ok d2 w) (hd2 : ∀ k, d2 ≠ .int k) (hz : (sizeOf el).run P w = .ok es w)
 (hl : (Builtin.lenOf y').run P w = .ok n w) (hf : (Builtin.firstCells es n y').run P w = .ok new w) (hcap : len + n ≤ cap) (hst : (storeCells (a.add (len * es)) new.toList).run P w = .ok () w') :
 (Builtin.append_ #[t1, t2] ty #[.slice (some a) len cap, y']).run P w = .ok (.slice (some a) (len + n) cap) w' := by
 have hm : (match d2 with | .int _ => true | _ => false) = false := by cases d2 <;> first | rfl | exact absurd rfl (hd2 _)
 simp [Builtin.append_, h1, h2, hz, hl, hf, hcap, hst]
theorem oh {w : World} {t1 t2 ty el es n : Nat} {ti : TypeInfo} {zv : Value} {b : Option Addr} {len cap : Nat} {y' : Value} {old new : Array Value} (h1 : (underlying t1).run P w = .ok (.slice el) w) {d2 : TypeDesc} (h2 : (underlying t2).run P w = .ok d2 w) (hd2 : ∀ k, d2 ≠ .int k) (hz : (sizeOf el).run P w = .ok es w)
 (hti : ∀ w, (typeInfo el).run P w = .ok ti w) (hzv : ti.zero = some zv) (hby : 0 < ti.bytes) (hfit : (len + n + (len + n) / 4 + 192) * ti.bytes ≤ 281474976710656)
 (hl : (Builtin.lenOf y').run P w = .ok n w) (hf : ∀ k, (Builtin.firstCells es n y').run P { w with drawn := k } = .ok new { w with drawn := k }) (hcap : ¬ len + n ≤ cap) (ho : ∀ k, (Builtin.firstCells es len (.slice b len cap)).run P { w with drawn := k } = .ok old { w with drawn := k }) :
 ∃ c rest k, len + n ≤ c ∧ (Builtin.append_ #[t1, t2] ty #[.slice b len cap, y']).run P w = .ok (.slice (some ⟨w.heap.size, 0, none⟩) (len + n) c) (World.alloc { w with drawn := k } (.cells (old ++ new ++ rest) el)) ∧ rest.size = (c - (len + n)) * zv.cells.size := by
 have hm : (match d2 with | .int _ => true | _ => false) = false := by cases d2 <;> first | rfl | exact absurd rfl (hd2 _)
 have hov : ¬ (281474976710656 < Builtin.nextslicecap (len + n) cap * ti.bytes) := by
  have := growslice_fits_wide (need := len + n) (old := cap) (bytes := ti.bytes) (by omega) hfit
  omega
 have hb0 : ¬ ti.bytes = 0 := by omega
 have hq : (Question.appendCap (len + n) cap el).forced = false := rfl
 refine ⟨(Question.appendCap (len + n) cap el).cut (w.tape w.drawn (.appendCap (len + n) cap el)), Builtin.zeroCells zv.cells ((Question.appendCap (len + n) cap el).cut (w.tape w.drawn (.appendCap (len + n) cap el)) - (len + n)), w.drawn + 1, Nat.le_add_right _ _, ?_, size_zeroCells _ _⟩
 have hf' := hf (w.drawn + 1)
 have ho' := ho (w.drawn + 1)
 have hf' : (Builtin.firstCells es n y').run P w.drew = .ok new w.drew := hf (w.drawn + 1)
 have ho' : (Builtin.firstCells es len (.slice b len cap)).run P w.drew = .ok old w.drew := ho (w.drawn + 1)
 simp [Builtin.append_, h1, h2, hz, hl, hcap, hti, hb0, hov, hq, zeroValue, hzv, newRow, hf', ho']
theorem ew.wM {l r : List Value} (h1 : ∀ v ∈ l, v.oneCell' = true) (h2 : ∀ v ∈ r, v.oneCell' = true) : ∀ v ∈ l ++ r, v.oneCell' = true := by
 intro v hv
 rcases List.mem_append.1 hv with h | h
 · exact h1 v h
 · exact h2 v h
theorem j6.rowOf {G : Pl} {w w' : World} {id el : Nat} {l : List V} {l' : List Value} {rest : Array Value} {c : Array Value} (hc : c = ⟨l'⟩ ++ rest) (hw : gT (.cells c el) w w') (hl : ew G l l') (h1 : ∀ v ∈ l', v.oneCell' = true) (hid : G id = some ⟨w.heap.size, 0, c.size⟩) {n : Nat} (hn : n = l.length) : j6 G w' id (.cells n (cK l)) := by
 subst hn
 refine ⟨_, c, el, (0, 0), hid, hw.new, .inl rfl, rfl, by rw [hc]; simp [hl.length], fun i x hi hx => ?_⟩
 obtain ⟨x', a1, a2⟩ := hl.get (tR hx)
 refine ⟨x', ?_, a2, h1 x' (List.mem_of_getElem? a1)⟩
 have hlt := (List.getElem?_eq_some_iff.1 a1).1
 simp only [Nat.zero_add, hc]
 rw [Array.getElem?_append_left (by simpa using hlt)]
 simpa using a1
include H in
theorem aah {t1 t2 el es lim : Nat} {ti : TypeInfo} {zv : Value} {d2 : TypeDesc} (ho : Zy o .append t1 t2 x y) (ht1 : tt.ud t1 = some (.slice el)) (ht2 : tt.ud t2 = some d2) (hd2 : ∀ k, d2 ≠ .int k) (hz : tt.sz el = some es)
 (hti : tt.ti el = some ti) (hzv : ti.zero = some zv) (hzs : zv.cells.size = es) (hby : 0 < ti.bytes) (hby2 : (lim + 100000000 + (lim + 100000000) / 4 + 192) * ti.bytes ≤ 281474976710656) (hg : eV gl x = some g) (hh : eV gl y = some h) : Z9 P o nt gl (ZB lim es g h) := by
 intro k _ G e a s w v s' hv he hs
 have hx := cA hg he
 have hy := cA hh he
 have hex : execOp a.eval o = (do pure (.value (← Builtin.append_ #[t1, t2] o.type #[a.eval x, a.eval y]))) := by
  simp [execOp, Zy] at *; simp [ho, resolve, invoke, builtin]
 unfold ZB at hv
 split at hv
 · rename_i n new hsrc
   obtain ⟨s1, new', s2, s3, s4, s5⟩ := nG (P := P) hs.r hsrc hy
   cases e1 : bn new with
   | false => rw [e1] at hv; cases hv
   | true =>
     rw [e1, cr] at hv
     by_cases hnn : n ≤ 100000000
     · simp only [hnn, decide_true] at hv
       have grow : ∀ (b : Option Addr) (len cap : Nat) (old : List V) (old' : List Value), a.eval x = .slice b len cap → len ≤ lim → ¬ len + n ≤ cap → (∀ w2 : World, w2.heap = w.heap → (Builtin.firstCells es len (.slice b len cap)).run P w2 = .ok ⟨old'⟩ w2) → ew G old old' → (∀ v ∈ old', v.oneCell' = true) → old'.length = len * es →
        ∀ s0 : St, s0.next = s.next → SR G s0 w → fD G s w G s0 w →
        iV P o a w (Post G s w (.slice s0.next 0 (len + n) none es) (s0.new (.cells ((len + n) * es) (cK (old ++ new))))) := by
        intro b len cap old old' hax hlen hcap hold hvo hvo1 holen s0 hnx hs0 hgo
        obtain ⟨c, rest, kk, hc1, hc2, hc3⟩ := oh (P := P) (w := w) (t1 := t1) (t2 := t2) (ty := o.type) (el := el) (es := es) (n := n) (b := b) (len := len) (cap := cap) (y' := a.eval y) (old := ⟨old'⟩) (new := ⟨new'⟩) (bW H w ht1) (bW H w ht2) hd2 (eG H w hz) (fun w => qw H w hti) hzv hby
         (Nat.le_trans (Nat.mul_le_mul_right _ (by omega)) hby2) s1 (fun kk => s2 _ rfl) hcap (fun kk => hold _ rfl)
        have hlen3 := s3.length
        have hlen4 := hvo.length
        have hgw : gT (.cells ((⟨old'⟩ : Array Value) ++ ⟨new'⟩ ++ rest) el) w (World.alloc { w with drawn := kk } (.cells ((⟨old'⟩ : Array Value) ++ ⟨new'⟩ ++ rest) el)) := (gT.alloc _ _).drawn
        have hcells : ((⟨old'⟩ : Array Value) ++ ⟨new'⟩ ++ rest) = ⟨old' ++ new'⟩ ++ rest := by simp
        have hid : G s0.next = none := by
         cases hq : G s0.next with
         | none => rfl
         | some l => exact absurd (hs0.dom _ _ hq).1 (Nat.lt_irrefl _)
        obtain ⟨r1, r2⟩ := hs0.CD (tot := ((⟨old'⟩ : Array Value) ++ ⟨new'⟩ ++ rest).size) hgw (j6.rowOf (n := (len + n) * es) hcells hgw ((hvo.append s3).mono (Pl.gC hid)) (ew.wM hvo1 s4) (Pl.dM _ _ _) (by simp only [List.length_append]; rw [Nat.add_mul]; omega))
        refine iV.value (w' := _) (v := .slice (some ⟨w.heap.size, 0, none⟩) (len + n) c) (by rw [hex, hax]; simp only [Sem.run_bind, hc2, Result.andThen_ok, Sem.run_pure]) ⟨_, hgo.trans r2, r1, ?_⟩
        refine .slice _ _ _ _ _ _ _ _ (Pl.dM _ _ _) hc1 (fun k hk => by cases hk) (.inr (by simp)) (.inr ?_)
        have : (len + n) * es + (c - (len + n)) * es = c * es := by rw [← Nat.add_mul]; congr 1; omega
        have h5 : len * es + n * es = (len + n) * es := (Nat.add_mul _ _ _).symm
        simp [hc3, hzs]
        omega
       split at hv
       · rename_i b o' len cap es' hge
         rw [hge] at hx
         obtain ⟨l, a', c, hax, hl, hc, hcap, ha, htot⟩ := hx.fG
         rw [cr] at hv
         by_cases hll : len ≤ lim
         · simp only [hll, decide_true] at hv
           unfold zV at hv
           simp only at hv
           cases e2 : Nat.beq es' es with
           | false => rw [e2] at hv; cases hv
           | true =>
             rw [e2] at hv
             have := Nat.eq_of_beq_eq_true e2
             subst this
             have hlen3 := s3.length
             cases n with
             | zero =>
               cases hv
               have hn0 : new' = [] := by cases new' with | nil => rfl | cons _ _ => simp at s5
               subst hn0
               refine iV.value (w' := w) (v := .slice (some a') (len + 0) c) ?_ ⟨G, fD.refl _ _ _, hs, by rw [Nat.add_zero, ← hax]; exact hx⟩
               rw [hex, hax]
               simp only [Sem.run_bind, gS (ty := o.type) (bW H w ht1) (bW H w ht2) hd2 (eG H w hz) s1 (s2 w rfl) (show len + 0 ≤ c by omega) rfl, Result.andThen_ok, Sem.run_pure]
             | succ n' =>
               simp only at hv
               cases cap with
               | some c0 =>
                 have := hcap c0 rfl
                 subst this
                 simp only at hv
                 rw [cr] at hv
                 by_cases hroom : len + (n' + 1) ≤ c
                 · simp only [Nat.add_eq, hroom, decide_true] at hv
                   split at hv
                   · rename_i m xs hbk
                     have hbk := ig hbk
                     rw [cr] at hv
                     by_cases hfit : o' + len * es' + (n' + 1) * es' ≤ m
                     · simp only [Nat.mul_eq, hfit, decide_true] at hv
                       cases hv
                       obtain ⟨w', c1, c2, c3⟩ := hs.cells (P := P) (o := o' + len * es') hbk hl s3 s4 (by omega)
                       have ha := ha.resolve_left (by omega)
                       refine iV.value (w' := w') (v := .slice (some a') (len + (n' + 1)) c) ?_ ⟨G, c3, c2, .slice _ _ _ _ _ _ l _ hl hroom (fun k hk => Option.some.inj hk) (.inr ha) htot⟩
                       rw [hex, hax]
                       have hst : (storeCells (a'.add (len * es')) new').run P w = .ok () w' := by rw [ha, dM, Nat.add_assoc]; exact c1
                       simp only [Sem.run_bind, gS (ty := o.type) (bW H w ht1) (bW H w ht2) hd2 (eG H w hz) s1 (s2 w rfl) hroom hst, Result.andThen_ok, Sem.run_pure]
                     · simp only [Nat.mul_eq, hfit, decide_false] at hv; cases hv
                   · cases hv
                 · simp only [Nat.add_eq, hroom, decide_false] at hv
                   split at hv
                   · rename_i old hso
                     cases hv
                     obtain ⟨_, old', p2, p3, p4, p5⟩ := nG (P := P) hs.r hso hx
                     obtain ⟨q1, _⟩ := rE hso
                     have q1 := q1.symm; subst q1
                     rw [hax] at p2
                     exact grow _ _ _ old old' hax hll hroom p2 p3 p4 p5 s rfl hs (fD.refl _ _ _)
                   · cases hv
               | none =>
                 simp only at hv
                 split at hv
                 · rename_i bk hbk0
                   obtain ⟨m, xs⟩ := bk
                   have hbk := ig hbk0
                   split at hv
                   · rename_i old hso
                     cases hv
                     obtain ⟨_, old', p2, p3, p4, p5⟩ := nG (P := P) hs.r hso hx
                     obtain ⟨q1, q2, q3⟩ := rE hso
                     have q1 := q1.symm; subst q1
                     by_cases hroom : len + (n' + 1) ≤ c
                     · have ha := ha.resolve_left (by omega)
                       have htot := htot.resolve_left (by omega)
                       obtain ⟨l2, carr, elm, fz, a1, a2, a3, a4, a5, a6⟩ := hs.r.ob b _ hbk
                       rw [hl] at a1; cases a1
                       have hmul : len * es' + (n' + 1) * es' = (len + (n' + 1)) * es' := (Nat.add_mul _ _ _).symm
                       have hmul2 : (len + (n' + 1)) * es' ≤ c * es' := Nat.mul_le_mul_right _ hroom
                       have hrun := iF (P := P) l.blk (l.base + o' + len * es') elm fz new' 0 carr w a2 a3 (by omega) s4
                       simp only [Nat.add_zero] at hrun
                       have hid : G s.next = none := by
                        cases hq : G s.next with
                        | none => rfl
                        | some l => exact absurd (hs.dom _ _ hq).1 (Nat.lt_irrefl _)
                       have hcl : carr.toList.length = carr.size := by simp
                       obtain ⟨r1, r2⟩ := hs.move (l' := ⟨l.blk, l.base + o', l.tot⟩) (o' := .cells ((len + (n' + 1)) * es') (cK (old ++ new))) (w' := w.setRow l.blk (carr.toList.take (l.base + o' + len * es') ++ new' ++ carr.toList.drop (l.base + o' + len * es' + new'.length)).toArray) hbk rfl hl rfl Touch.setRow (by
                        refine ⟨_, _, elm, fz, Pl.dM _ _ _, setRow_heap w l.blk carr _ elm fz a2, ?_, ?_, by simp only; omega, fun i x hi hx => ?_⟩
                        · rcases a3 with a3 | a3
                          · exact .inl a3
                          · right; simp; omega
                        · rw [← a4]; simp; omega
                        · have hx := tR hx
                          by_cases hio : i < len * es'
                          · rw [List.getElem?_append_left (by omega)] at hx
                            obtain ⟨g1, g2⟩ := q3 m xs.get (fq (ig hbk0)) i x hx
                            obtain ⟨x', c1, c2, c3⟩ := a6 (o' + i) x g2 g1
                            refine ⟨x', ?_, c2.mono (Pl.gC hid), c3⟩
                            simp only [List.getElem?_toArray]
                            have c1' : carr.toList[l.base + (o' + i)]? = some x' := by simpa using c1
                            rw [List.append_assoc, List.getElem?_append_left (by simp; omega), List.getElem?_take, if_pos (by omega), Nat.add_assoc]
                            exact c1'
                          · rw [List.getElem?_append_right (by omega), q2] at hx
                            obtain ⟨x', c1, c2⟩ := s3.get hx
                            have hlt := (List.getElem?_eq_some_iff.1 c1).1
                            refine ⟨x', ?_, c2.mono (Pl.gC hid), s4 x' (List.mem_of_getElem? c1)⟩
                            simp only [List.getElem?_toArray]
                            rw [List.append_assoc, List.getElem?_append_right (by simp; omega), List.getElem?_append_left (by simp; omega)]
                            rw [← c1]; congr 1; simp; omega)
                       refine iV.value (w' := _) (v := .slice (some a') (len + (n' + 1)) c) ?_ ⟨_, r2, r1, .slice _ _ _ _ _ _ _ _ (Pl.dM _ _ _) hroom (fun k hk => by cases hk) (.inr (by rw [ha]; simp)) (.inr (by simp only; omega))⟩
                       rw [hex, hax]
                       have hst : (storeCells (a'.add (len * es')) new').run P w = .ok () (w.setRow l.blk (carr.toList.take (l.base + o' + len * es') ++ new' ++ carr.toList.drop (l.base + o' + len * es' + new'.length)).toArray) := by rw [ha, dM]; exact hrun
                       simp only [Sem.run_bind, gS (ty := o.type) (bW H w ht1) (bW H w ht2) hd2 (eG H w hz) s1 (s2 w rfl) hroom hst, Result.andThen_ok, Sem.run_pure]
                     · rw [hax] at p2
                       obtain ⟨k1, k2⟩ := hs.kill (id := b) (hs.dom b l hl).1
                       exact grow _ _ _ old old' hax hll hroom p2 p3 p4 p5 (s.put b .dead) rfl k1 k2
                   · cases hv
                 · cases hv
         · simp only [hll, decide_false] at hv; cases hv
       · rename_i u hnot
         unfold zV at hv
         split at hv
         · rename_i hge
           rw [hge] at hx
           generalize hax : a.eval x = x' at hx
           cases hx
           cases n with
           | zero =>
             cases hv
             have hn0 : new' = [] := by cases new' with | nil => rfl | cons _ _ => simp at s5
             subst hn0
             refine iV.value (w' := w) (v := .slice none 0 0) ?_ ⟨G, fD.refl _ _ _, hs, .ay⟩
             rw [hex, hax]
             simp [Builtin.append_, bW H w ht1, bW H w ht2, eG H w hz, s1, s2 w rfl]
           | succ n' =>
             cases hv
             have := grow none 0 0 [] [] hax (by omega) (by omega) (fun w2 _ => by simp [Builtin.firstCells]) .nil (fun v h => by cases h) (by simp) s rfl hs (fD.refl _ _ _)
             simpa using this
         · exact absurd ‹_› (hnot _ _ _ _ _)
         · cases hv
     · simp only [hnn, decide_false] at hv; cases hv
 · cases hv
end
end
end Go.Proofs.YtcgdlgbomjnnnaaGreatLab
/- The jL: maps. No condition on the program. -/
namespace Go.Proofs.YtcgdlgbomjnnnaaGreatLab
open Go
set_option linter.all false
noncomputable section
def abQ (x y : V) : Option Bool := match y_ x, y_ y with
 | some (k, a), some (k', b) => Bool.casesOn (motive := fun _ => Option Bool) (Nat.beq (kn k) (kn k')) none (some (j7 a b))
 | _, _ => none
def aek (x y : V) : Option Bool := match x, y with | .str a, .str b => some (iM a b) | _, _ => none
def ad' (x y : V) : Option Bool := match x, y with | .bool a, .bool b => some (a == b) | _, _ => none
theorem wg {P : Program} {w : World} {r : Nat} {en : Array MapEntry} {cl : Nat} (h : w.heap[r]? = some (.map en cl)) : (getObj r).run P w = .ok (.map en cl) w := by simp [getObj, Sem.run, h]
section
variable {P : Program} {tt : TT} (H : qW P tt) {nt : Nat} {gl : List Nat} {o : Oper} {x y z : Operand} {g h i : E → V}
include H in
include H in
include H in
include H in
include H in
end
end
end Go.Proofs.YtcgdlgbomjnnnaaGreatLab
/- The jL: rows made with a length that is reckoned; copies; rows that are cleared. No condition on the program. -/
namespace Go.Proofs.YtcgdlgbomjnnnaaGreatLab
open Go
set_option linter.all false
noncomputable section
section
variable {P : Program} {tt : TT} (H : qW P tt) {nt : Nat} {gl : List Nat} {o : Oper} {x y : Operand} {g h : E → V}
def qV (es bytes : Nat) (z : List V) (g h : E → V) (e : E) (id : Nat) : Option (V × Ob) := match OB (g e), OB (h e) with
 | some (.ofNat l), some (.ofNat c) => Bool.casesOn (motive := fun _ => Option (V × Ob)) (Nat.ble l c) none (Bool.casesOn (motive := fun _ => Option (V × Ob)) (Nat.ble (Nat.mul c bytes) 16777216) none (Bool.casesOn (motive := fun _ => Option (V × Ob)) (Nat.ble c 16777216) none
  (some (.slice id 0 l (some c) es, .cells (Nat.mul c es) (cK (vA (Nat.mul c es) z))))))
 | _, _ => none
theorem xR {z : List V} {n : Nat} (h : bn z = true) (hz : 0 < n → z ≠ []) : bn (vA n z) = true := by
 have key : ∀ (l : List V), (∀ v ∈ l, v.one = true) → bn l = true := by
  intro l
  induction l with
  | nil => intro _; rfl
  | cons v l ih => intro hl; unfold bn; rw [hl v (by simp)]; exact ih (fun u hu => hl u (by simp [hu]))
 have key2 : ∀ (l : List V), bn l = true → ∀ v ∈ l, v.one = true := by
  intro l
  induction l with
  | nil => intro _ v hv; cases hv
  | cons u l ih =>
    intro hl v hv
    unfold bn at hl
    cases e : u.one with
    | false => rw [e] at hl; cases hl
    | true =>
      rw [e] at hl
      rcases List.mem_cons.1 hv with rfl | hv
      · exact e
      · exact ih hl v hv
 refine key _ fun v hv => ?_
 obtain ⟨i, hi, rfl⟩ := List.mem_map.1 hv
 have hz := hz (by have := List.mem_range.1 hi; omega)
 have hlt : i % z.length < z.length := Nat.mod_lt _ (List.length_pos_iff.2 hz)
 rw [List.getElem?_eq_getElem hlt, Option.getD_some]
 exact key2 z h _ (List.getElem_mem hlt)
theorem tD (n : Nat) (z : List V) : (vA n z).length = n := by simp [vA]
include H in
theorem Pb {t el es : Nat} {ti : TypeInfo} {zv : Value} {z0 : V} {z : List V} (ho : o.op = .makeSlice t x y) (ht : tt.ud t = some (.slice el)) (hti : tt.ti el = some ti) (hz : ti.zero = some zv) (hzv : jY 300 zv = some z0) (hzc : dG z0 = some z) (h1 : bn z = true)
 (hn : tt.sz el = some es) (hne : es = 0 ∨ z ≠ []) (hg : eV gl x = some g) (hh : eV gl y = some h) : OAs P o nt gl (qV es ti.bytes z g h) := by
 intro G e a id w v ob hv he hid
 have hx := cA hg he
 have hy := cA hh he
 unfold qV at hv
 split at hv
 · rename_i l c hl hc
   obtain ⟨k1, hx⟩ := mc hl hx
   obtain ⟨k2, hy⟩ := mc hc hy
   rw [cr, cr, cr] at hv
   by_cases e1 : l ≤ c
   · by_cases e2 : Nat.mul c ti.bytes ≤ 16777216
     · by_cases e3 : c ≤ 16777216
       · simp only [e1, e2, e3, decide_true] at hv
         cases hv
         simp only [Nat.mul_eq] at e2 ⊢
         obtain ⟨z', b1, b2⟩ := gD hzc (g_ hzv G)
         have w1 : IntKind.i64.wrap (Int.ofNat l) = (l : Int) := IntWalk.i64_in _ (by simp only [Int.ofNat_eq_natCast]; omega)
         have w2 : IntKind.i64.wrap (Int.ofNat c) = (c : Int) := IntWalk.i64_in _ (by simp only [Int.ofNat_eq_natCast]; omega)
         have hb : (ti.bytes : Int) * (c : Int) ≤ 16777216 := by
          have : ((c * ti.bytes : Nat) : Int) ≤ 16777216 := Int.ofNat_le.2 e2
          rw [Int.natCast_mul, Int.mul_comm] at this; exact this
         have hroom : ¬ c * ti.bytes > roomBytes := by have : roomBytes = 140737488355328 := rfl; omega
         have hbig : ¬ (ti.bytes : Int) * (c : Int) > 2 ^ 48 := by omega
         have hlc : ¬ ((l : Int) > (c : Int)) := by omega
         obtain ⟨q, hq1, hq2⟩ : ∃ q : Array Value, (if c * es = 0 then (pure #[] : Sem (Array Value)) else do pure (← zeroValue el).cells).run P w = .ok q w ∧ ew G (vA (c * es) z) ((Array.range (c * es)).map (fun i => q[i % q.size]!)).toList := by
          by_cases h0 : c * es = 0
          · rw [if_pos h0, h0]; exact ⟨#[], rfl, by simpa [vA] using ew.nil⟩
          · rw [if_neg h0]; exact ⟨zv.cells, by simp only [Sem.run_bind, fJ H w hti hz, Result.andThen_ok, Sem.run_pure], by rw [b1]; exact we b2 _⟩
         obtain ⟨r', hr'⟩ : ∃ r' : List Value, ((Array.range (c * es)).map (fun i => q[i % q.size]!)) = ⟨r'⟩ := ⟨_, (Array.toArray_toList).symm⟩
         rw [hr'] at hq2
         have hone := gw (xR h1 (n := c * es) (fun hp => by
          rcases hne with h0 | h0
          · rw [h0] at hp; simp at hp
          · exact h0)) hq2
         have hlen := hq2.length
         rw [tD] at hlen
         have hob := j6.row (G := G.add id ⟨w.heap.size, 0, r'.length⟩) (gT.alloc w (.cells ⟨r'⟩ el)) (hq2.mono (Pl.gC hid)) hone (Pl.dM _ _ _)
         rw [tD] at hob
         refine ⟨.slice (some ⟨w.heap.size, 0, none⟩) l c, _, r'.length, w.alloc (.cells ⟨r'⟩ el), ?_, gT.alloc _ _, .slice id 0 l es c (some c) _ _ (Pl.dM _ _ _) e1 (fun k hk => Option.some.inj hk) (.inr (by simp)) (.inr (by simp only [Nat.zero_add]; exact Nat.le_of_eq hlen)), hob⟩
         have a1 : ∀ (k : IntKind) (m : Int), (asInt (.int k m)).run P w = .ok m w := fun k m => by simp [asInt, asIntOf]
         have c1 : ¬ ((c : Int) < 0) := by omega
         have c2 : ¬ ((l : Int) < 0) := by omega
         have c3 : (decide ((c : Int) < 0) || decide ((ti.bytes : Int) * (c : Int) > 2 ^ 48)) = false := by rw [decide_eq_false c1, decide_eq_false hbig]; rfl
         simp only [execOp, ho, Instr.makeSlice, Sem.run_bind, Result.andThen_ok, bW H w ht, hx, hy, a1, qw H w hti, w1, w2, c3, decide_eq_false c2, decide_eq_false hlc, Bool.or_false, Bool.false_eq_true, if_false, Sem.run_pure, askRoom, Int.toNat_natCast, if_neg hroom, eG H w hn]
         by_cases h0 : c * es = 0
         · rw [if_pos h0] at hq1; cases hq1
           simp only [if_pos h0, Sem.run_bind, Sem.run_pure, Result.andThen_ok, hr']
           simp [newRow]
         · rw [if_neg h0] at hq1
           simp only [Sem.run_bind, fJ H w hti hz, Result.andThen_ok, Sem.run_pure] at hq1
           cases hq1
           simp only [if_neg h0, Sem.run_bind, fJ H w hti hz, Sem.run_pure, Result.andThen_ok, hr']
           simp [newRow]
       · simp only [e1, e2, e3, decide_true, decide_false] at hv; cases hv
     · simp only [e1, e2, decide_true, decide_false] at hv; cases hv
   · simp only [e1, decide_false] at hv; cases hv
 · cases hv
include H in
def tK (z : List V) (g : E → V) (_ : KC) (e : E) (s : St) : Option (V × St) := match g e with
 | .ay => some (.bH [], s)
 | .slice b o len _ _ => Bool.casesOn (motive := fun _ => Option (V × St)) (Nat.beq len 0)
  (match fC s b with | some (n, xs) => Bool.casesOn (motive := fun _ => Option (V × St)) (Nat.ble (Nat.add o (Nat.mul len z.length)) n) none (some (.bH [], s.put b (.cells n (gG xs o (vA (Nat.mul len z.length) z))))) | none => none) (some (.bH [], s))
 | _ => none
include H in
theorem QB {t el : Nat} {ti : TypeInfo} {zv : Value} {z0 : V} {z : List V} (ho : wU o .clear t x) (ht : tt.ud t = some (.slice el)) (hti : tt.ti el = some ti) (hz : ti.zero = some zv) (hzv : jY 300 zv = some z0) (hzc : dG z0 = some z) (h1 : bn z = true) (hg : eV gl x = some g) : Z9 P o nt gl (tK z g) := by
 intro k _ G e a s w v s' hv he hs
 have hx := cA hg he
 have hex : execOp a.eval o = (do pure (.value (← Builtin.clear_ #[t] o.type #[a.eval x]))) := by
  simp [execOp, wU] at *; simp [ho, resolve, invoke, builtin]
 unfold tK at hv
 split at hv
 · rename_i hge
   rw [hge] at hx
   generalize hax : a.eval x = x' at hx
   cases hx
   cases hv
   refine iV.value (v := .tuple #[]) (w' := w) (by rw [hex, hax]; simp [Builtin.clear_, bW H w ht]) ⟨G, fD.refl _ _ _, hs, .bH _ _ .nil⟩
 · rename_i b o' len cap es hge
   rw [hge] at hx
   obtain ⟨l, a', c, hax, hl, hc, hcap, ha, htot⟩ := hx.fG
   cases e1 : Nat.beq len 0 with
   | true =>
     rw [e1] at hv; cases hv
     have := Nat.eq_of_beq_eq_true e1
     subst this
     refine iV.value (v := .tuple #[]) (w' := w) (by rw [hex, hax]; simp [Builtin.clear_, bW H w ht]) ⟨G, fD.refl _ _ _, hs, .bH _ _ .nil⟩
   | false =>
     rw [e1] at hv
     have hlen : len ≠ 0 := fun e => by rw [e] at e1; cases e1
     simp only at hv
     split at hv
     · rename_i n xs hbk
       have hbk := ig hbk
       rw [cr] at hv
       by_cases hlt : Nat.add o' (Nat.mul len z.length) ≤ n
       · simp only [hlt, decide_true] at hv
         cases hv
         simp only [Nat.mul_eq, Nat.add_eq] at hlt ⊢
         obtain ⟨z', b1, b2⟩ := gD hzc (g_ hzv G)
         have hzl := b2.length
         have hz' := we b2 (len * z.length)
         have hone := gw (xR h1 (n := len * z.length) (fun hp e => by rw [e] at hp; simp at hp)) hz'
         have haa : a' = ⟨l.blk, l.base + o', none⟩ := by
          rcases ha with h0 | h0
          · omega
          · exact h0
         obtain ⟨w', c1, c2, c3⟩ := hs.cells (P := P) (o := o') hbk hl hz' hone (by rw [tD]; exact hlt)
         refine iV.value (v := .tuple #[]) (w' := w') ?_ ⟨G, c3, c2, .bH _ _ .nil⟩
         have hzc' : (Builtin.zeroCells zv.cells len).toList = ((Array.range (len * z.length)).map (fun i => (⟨z'⟩ : Array Value)[i % (⟨z'⟩ : Array Value).size]!)).toList := by
          unfold Builtin.zeroCells
          rw [b1]; simp [hzl]
         rw [hex, hax, haa]
         match len, hlen with
         | len + 1, _ =>
           rw [← hzc'] at c1
           simp [Builtin.clear_, bW H w ht, fJ H w hti hz, c1]
       · simp only [hlt, decide_false] at hv; cases hv
     · cases hv
 · cases hv
include H in
end
end
end Go.Proofs.YtcgdlgbomjnnnaaGreatLab
/- The jL: walks through maps. No condition on the program. -/
namespace Go.Proofs.YtcgdlgbomjnnnaaGreatLab
open Go
set_option linter.all false
noncomputable section
abbrev Tr := Nat × V × V
def uQ : List (V × V) → List Nat → List Tr | (k, v) :: es, b :: bs => (b, k, v) :: uQ es bs | _, _ => []
inductive R3 (G : Pl) : List Tr → List MapEntry → Prop where
 | nil : R3 G [] []
 | cons {b : Nat} {k v : V} {e : MapEntry} {l : List Tr} {r : List MapEntry} : e.born = b → VR G k e.key → VR G v e.val → R3 G l r → R3 G ((b, k, v) :: l) (e :: r)
theorem R3.mk {G : Pl} : ∀ {es : List (V × V)} {bs : List Nat} {en : List MapEntry}, ew G (es.map (·.1)) (en.map (·.key)) → ew G (es.map (·.2)) (en.map (·.val)) → en.map (·.born) = bs → R3 G (uQ es bs) en
 | [], bs, [], _, _, h => by subst h; exact .nil
 | (k, v) :: es, bs, e :: en, h1, h2, h3 => by
   subst h3
   simp only [List.map_cons] at h1 h2
   cases h1 with
   | cons _ _ _ _ a1 a2 =>
     cases h2 with
     | cons _ _ _ _ b1 b2 => exact .cons rfl a1 b1 (R3.mk a2 b2 rfl)
 | [], _, _ :: _, h, _, _ => by cases h
 | _ :: _, _, [], h, _, _ => by cases h
def fT (p : Nat → Bool) : List Tr → List Tr | [] => [] | t :: l => Bool.casesOn (motive := fun _ => List Tr) (p t.1) (fT p l) (t ::  fT p l)
theorem R3.keep {G : Pl} (p : Nat → Bool) : ∀ {l : List Tr} {r : List MapEntry}, R3 G l r → R3 G (fT p l) (r.filter fun e => p e.born)
 | _, _, .nil => .nil
 | _, _, .cons (b := b) h1 h2 h3 h4 => by
   subst h1
   have ih := R3.keep p h4
   unfold fT
   simp only [List.filter_cons]
   cases p _ with
   | true => simpa using R3.cons rfl h2 h3 ih
   | false => simpa using ih
theorem R3.append {G : Pl} : ∀ {l l2 : List Tr} {r r2 : List MapEntry}, R3 G l r → R3 G l2 r2 → R3 G (l ++ l2) (r ++ r2)
 | _, _, _, _, .nil, h => h
 | _, _, _, _, .cons h1 h2 h3 h4, h => .cons h1 h2 h3 (h4.append h)
theorem R3.len {G : Pl} : ∀ {l : List Tr} {r : List MapEntry}, R3 G l r → l.length = r.length
 | _, _, .nil => rfl
 | _, _, .cons _ _ _ h => congrArg (· + 1) h.len
theorem R3.get {G : Pl} : ∀ {l : List Tr} {r : List MapEntry} {i : Nat} {e : MapEntry}, R3 G l r → r[i]? = some e → ∃ k v, l[i]? = some (e.born, k, v) ∧ VR G k e.key ∧ VR G v e.val
 | _, _, _, _, .nil, h => by simp at h
 | _, _, 0, _, .cons h1 h2 h3 h4, h => by cases h; subst h1; exact ⟨_, _, rfl, h2, h3⟩
 | _, _, i + 1, _, .cons h1 h2 h3 h4, h => h4.get (i := i) (by simpa using h)
def Qi (p : Nat → Bool) : List Tr → Bool | [] => true | t :: l => Bool.casesOn (motive := fun _ => Bool) (p t.1) false (Qi p l)
theorem R3.abh {G : Pl} (p : Nat → Bool) : ∀ {l : List Tr} {r : List MapEntry}, R3 G l r → Qi p l = r.all fun e => p e.born
 | _, _, .nil => rfl
 | _, _, .cons h1 h2 h3 h4 => by
   subst h1
   unfold Qi
   simp only [List.all_cons, h4.abh p]
   cases p _ <;> rfl
def jE (n : Nat) : List Nat → Bool | [] => false | x :: l => Bool.casesOn (motive := fun _ => Bool) (Nat.beq n x) (jE n l) true
theorem yA (n : Nat) : ∀ l : List Nat, jE n l = l.contains n
 | [] => rfl
 | x :: l => by
   unfold jE
   rw [List.contains_cons, yA n l, oJ]
   by_cases h : n = x
   · subst h; simp
   · have : (n == x) = false := beq_eq_false_iff_ne.2 h
     simp [h]
def isNil {α : Type} : List α → Bool | [] => true | _ => false
def pL (tr : List Tr) (since : Nat) (seen : List Nat) : List (Option Tr) :=
 let left := fT (fun b => not (jE b seen)) tr
 let old := fT (fun b => Nat.blt b since) left
 let new := fT (fun b => Nat.ble since b) left
 (Bool.casesOn (motive := fun _ => List (Option Tr)) (isNil old) [] [none]) ++ (old ++ new).map some
def gone (tr : List Tr) (seen : List Nat) (last : Nat) : Bool := and (not (isNil seen)) (and (not (isNil tr)) (Qi (fun b => Nat.ble last b) tr))
def kB (en : List MapEntry) (since : Nat) (seen : List Nat) : List (Option MapEntry) :=
 let left := en.filter fun e => !seen.contains e.born
 let old := left.filter (·.born < since)
 let new := left.filter (·.born ≥ since)
 (if old.isEmpty then [none] else []) ++ (old ++ new).map some
theorem HN {G : Pl} {tr : List Tr} {en : List MapEntry} (h : R3 G tr en) (since : Nat) (seen : List Nat) : (pL tr since seen).length = (kB en since seen).length ∧
 ∀ (i : Nat) (c : Option MapEntry), (kB en since seen)[i]? = some c → (c = none ∧ none ∈ pL tr since seen) ∨ ∃ e k v, c = some e ∧ some (e.born, k, v) ∈ pL tr since seen ∧ VR G k e.key ∧ VR G v e.val := by
 have h1 : R3 G (fT (fun b => not (jE b seen)) tr) (en.filter fun e => !seen.contains e.born) := by
  have := h.keep (fun b => not (jE b seen))
  simpa only [yA] using this
 have h2 : R3 G (fT (fun b => Nat.blt b since) (fT (fun b => not (jE b seen)) tr)) ((en.filter fun e => !seen.contains e.born).filter (·.born < since)) := by
  have := h1.keep (fun b => Nat.blt b since)
  simpa only [dD] using this
 have h3 : R3 G (fT (fun b => Nat.ble since b) (fT (fun b => not (jE b seen)) tr)) ((en.filter fun e => !seen.contains e.born).filter (·.born ≥ since)) := by
  have := h1.keep (fun b => Nat.ble since b)
  simpa only [cr] using this
 have h4 := h2.append h3
 unfold pL kB
 simp only
 generalize fT (fun b => Nat.blt b since) (fT (fun b => not (jE b seen)) tr) = old at *
 generalize fT (fun b => Nat.ble since b) (fT (fun b => not (jE b seen)) tr) = new at *
 generalize (en.filter fun e => !seen.contains e.born).filter (·.born < since) = oldM at *
 generalize (en.filter fun e => !seen.contains e.born).filter (·.born ≥ since) = newM at *
 have hn : isNil old = oldM.isEmpty := by
  have := h2.len
  cases old <;> cases oldM <;> first | rfl | simp at this
 rw [hn]
 have hm : ∀ (i : Nat) (c : Option MapEntry), ((oldM ++ newM).map some)[i]? = some c → ∃ e k v, c = some e ∧ some (e.born, k, v) ∈ (old ++ new).map some ∧ VR G k e.key ∧ VR G v e.val := by
  intro i c hi
  rw [List.getElem?_map, Option.map_eq_some_iff] at hi
  obtain ⟨e, he, rfl⟩ := hi
  obtain ⟨k, v, a1, a2, a3⟩ := h4.get he
  exact ⟨e, k, v, rfl, List.mem_map.2 ⟨_, List.mem_of_getElem? a1, rfl⟩, a2, a3⟩
 have hl := h4.len
 cases oldM.isEmpty with
 | true =>
   refine ⟨by simpa using hl, fun i c hi => ?_⟩
   cases i with
   | zero => cases hi; exact .inl ⟨rfl, by simp⟩
   | succ i =>
     obtain ⟨e, k, v, a1, a2, a3⟩ := hm i c (by simpa using hi)
     exact .inr ⟨e, k, v, a1, List.mem_append_right _ a2, a3⟩
 | false =>
   refine ⟨by simpa using hl, fun i c hi => ?_⟩
   obtain ⟨e, k, v, a1, a2, a3⟩ := hm i c (by simpa using hi)
   exact .inr ⟨e, k, v, a1, by simpa using a2, a3⟩
theorem Dg (tr : List Tr) (since : Nat) (seen : List Nat) : pL tr since seen ≠ [] := by
 unfold pL
 simp only
 generalize fT (fun b => Nat.blt b since) (fT (fun b => not (jE b seen)) tr) = old
 cases old <;> simp [isNil]
section
variable {P : Program} {tt : TT} (H : qW P tt) {nt : Nat} {gl : List Nat} {o : Oper} {x y : Operand} {g h : E → V}
include H in
def zS (it : Nat) (m : Option Nat) (since : Nat) (seen : List Nat) (cl pref : Nat) (s : St) : Option Tr → V × St
 | none => (.bH [.bool false], s)
 | some (b, k, v) => (.bH [.bool true, k, v], s.put it (.iter m since (seen ++ [b]) cl pref))
def sG (s : St) : V → Option (Nat × Option Nat × Nat × List Nat × Nat × Nat × List (Option Tr))
 | .ptr it 0 => (match s.heap.get it with
   | some (.iter none since seen last pref) => some (it, none, since, seen, 0, pref, [none])
   | some (.iter (some mb) since seen last pref) => (match s.heap.get mb with
     | some (.map es bs cl) => Bool.casesOn (motive := fun _ => Option (Nat × Option Nat × Nat × List Nat × Nat × Nat × List (Option Tr))) (gone (uQ es bs) seen last) (some (it, some mb, since, seen, cl, pref, pL (uQ es bs) since seen)) none
     | _ => none)
   | _ => none)
 | _ => none
theorem ue {P : Program} {w : World} {r : Nat} {mo : Option Nat} {since last : Nat} {seen : Array Nat} (h : w.heap[r]? = some (.mapIter mo since seen last)) : (getObj r).run P w = .ok (.mapIter mo since seen last) w := by simp [getObj, Sem.run, h]
theorem vg {P : Program} {w : World} {r : Nat} {mo : Option Nat} {since last : Nat} {seen : Array Nat} {o : Obj} (h : w.heap[r]? = some (.mapIter mo since seen last)) : (setObj r o).run P w = .ok () { w with heap := w.heap.setIfInBounds r o } := by simp [setObj, Sem.run, h]
theorem wD {P : Program} {w : World} {n : Nat} (hn : 0 < n) : ∃ i k, i < n ∧ (choose (.mapNext n)).run P w = .ok i { w with drawn := k } := by
 by_cases h : (Question.mapNext n).forced = true
 · refine ⟨0, w.drawn, hn, ?_⟩
   simp [choose, Sem.run, h]
 · refine ⟨(Question.mapNext n).cut (w.tape w.drawn (.mapNext n)), w.drawn + 1, Nat.mod_lt _ hn, ?_⟩
   simp [choose, Sem.run, h]
theorem PL {G : Pl} {e : E} {a : Act} {s : St} {w : World} {it : Nat} {m : Option Nat} {since : Nat} {seen : List Nat} {cl pref : Nat} {cs : List (Option Tr)} (ho : o.op = .next x false) (hg : eV gl x = some g) (he : cU nt gl G e a) (hs : SR G s w) (hn : sG s (g e) = some (it, m, since, seen, cl, pref, cs)) :
 iV P o a w (fun v' w' => ∃ c, c ∈ cs ∧ ∀ pref', Post G s w (zS it m since seen cl pref' s c).1 (zS it m since seen cl pref' s c).2 v' w') := by
 have hx := cA hg he
 unfold sG at hn
 split at hn
 · rename_i it' hge
   rw [hge] at hx
   obtain ⟨l, hax, hl⟩ := hx.iU
   split at hn
   · rename_i since' seen' last' pref' hb
     cases hn
     obtain ⟨l2, mo, c1, c0, c2, c3⟩ := hs.r.ob _ _ hb
     rw [hl] at c1; cases c1
     subst c3
     rw [c0] at hax
     refine iV.value (v := .tuple #[.bool false]) (w' := w) (by simp [execOp, ho, hax, Instr.next, ue c2]) ⟨none, by simp, fun _ => ⟨G, fD.refl _ _ _, hs, .bH _ _ (.cons _ _ _ _ (.bool _) .nil)⟩⟩
   · rename_i mb since' seen' last' pref' hb
     split at hn
     · rename_i es bs cl' hmb
       cases hgn : gone (uQ es bs) seen' last' with
       | true => rw [hgn] at hn; cases hn
       | false =>
         rw [hgn] at hn; cases hn
         obtain ⟨l2, mo, c1, c0, c2, lm, c4, c5⟩ := hs.r.ob _ _ hb
         rw [hl] at c1; cases c1
         subst c5
         rw [c0] at hax
         obtain ⟨l3, en, d1, d2, d3, d4, d5⟩ := hs.r.ob _ _ hmb
         rw [c4] at d1; cases d1
         have hR := R3.mk d3 d4 d5
         obtain ⟨k1, k2⟩ := HN hR since seen
         have hpos : 0 < (kB en.toList since seen).length := by
          rw [← k1]
          exact List.length_pos_iff.2 (Dg _ _ _)
         obtain ⟨i, dr, hi, hch⟩ := wD (P := P) (w := w) hpos
         have hg1 : (seen.isEmpty = false ∧ en.isEmpty = false ∧ en.all (fun e => decide (e.born ≥ last')) = true) = False := by
          refine eq_false fun hh => ?_
          obtain ⟨e1, e2, e3⟩ := hh
          unfold gone at hgn
          rw [hR.abh] at hgn
          have n1 : isNil seen = false := by cases seen with | nil => cases e1 | cons => rfl
          have n2 : isNil (uQ es bs) = false := by
           have := hR.len
           cases hq : uQ es bs with
           | nil =>
             rw [hq] at this
             have : en.size = 0 := by simpa using this.symm
             have : en = #[] := Array.eq_empty_of_size_eq_zero this
             rw [this] at e2; cases e2
           | cons => rfl
          rw [n1, n2] at hgn
          simp only [Bool.not_false, Bool.true_and, cr] at hgn
          rw [Array.all_toList] at hgn
          simp only [ge_iff_le] at e3
          rw [e3] at hgn; cases hgn
         have hcand : ((if ((en.filter fun e => !(⟨seen⟩ : Array Nat).contains e.born).filter (·.born < since)).isEmpty then (#[none] : Array (Option MapEntry)) else #[]) ++ (((en.filter fun e => !(⟨seen⟩ : Array Nat).contains e.born).filter (·.born < since)) ++ ((en.filter fun e => !(⟨seen⟩ : Array Nat).contains e.born).filter (·.born ≥ since))).map some) = (kB en.toList since seen).toArray := by
          apply Array.ext'
          unfold kB
          simp only [Array.toList_append, Array.toList_map, Array.toList_filter, List.contains_toArray]
          congr 1
          rw [← Array.isEmpty_toList]
          simp only [Array.toList_filter]
          split <;> rfl
         have hrun : ∀ c, (kB en.toList since seen)[i]? = some c → (execOp a.eval o).run P w = (match c with
          | none => .ok (.value (.tuple #[.bool false])) { w with drawn := dr }
          | some e => .ok (.value (.tuple #[.bool true, e.key, e.val])) { w with drawn := dr, heap := w.heap.setIfInBounds l.blk (.mapIter (some lm.blk) since ((⟨seen⟩ : Array Nat).push e.born) cl) }) := by
          intro c hc
          have hun : (!(⟨seen⟩ : Array Nat).isEmpty && !en.isEmpty && en.all (fun e => decide (e.born ≥ last'))) = false := by
           cases q1 : (⟨seen⟩ : Array Nat).isEmpty <;> cases q2 : en.isEmpty <;> cases q3 : en.all (fun e => decide (e.born ≥ last')) <;> first | rfl | skip
           exfalso
           rw [← hg1]
           exact ⟨by rw [← q1]; simp, q2, q3⟩
          simp only [execOp, ho, hax, Instr.next, Sem.run_bind, Nat.add_zero, ue c2, wg d2, Result.andThen_ok, hun, Bool.false_eq_true, if_false, Sem.run_pure]
          rw [hcand]
          simp only [List.size_toArray, hch, Result.andThen_ok, List.getElem?_toArray, hc]
          cases c with
          | none => rfl
          | some e1 =>
            have : (setObj l.blk (Obj.mapIter (some lm.blk) since ((⟨seen⟩ : Array Nat).push e1.born) cl)).run P { w with drawn := dr } = .ok () { w with drawn := dr, heap := w.heap.setIfInBounds l.blk (.mapIter (some lm.blk) since ((⟨seen⟩ : Array Nat).push e1.born) cl) } := vg (w := { w with drawn := dr }) c2
            simp only [Sem.run_bind, this, Result.andThen_ok, Sem.run_pure]
         obtain ⟨c, hc⟩ : ∃ c, (kB en.toList since seen)[i]? = some c := ⟨_, List.getElem?_eq_getElem hi⟩
         have hrun := hrun c hc
         rcases k2 i c hc with ⟨rfl, a1⟩ | ⟨e', k, v, rfl, a1, a2, a3⟩
         · exact iV.value hrun ⟨none, a1, fun _ => ⟨G, fD.drawn _ _ _ _, hs.drew, .bH _ _ (.cons _ _ _ _ (.bool _) .nil)⟩⟩
         · refine iV.value hrun ⟨_, a1, fun pref' => ?_⟩
           obtain ⟨r1, r2⟩ := (hs.drew (n := dr)).yW (w' := { w with drawn := dr, heap := w.heap.setIfInBounds l.blk (.mapIter (some lm.blk) since ((⟨seen⟩ : Array Nat).push e'.born) cl) }) (o' := .iter (some mb) since (seen ++ [e'.born]) cl pref') hb rfl hl (Touch.setObj c2 (fun _ _ _ h => nomatch h)) ⟨l, _, hl, c0, by simp [(Array.getElem?_eq_some_iff.1 c2).1], lm, c4, rfl⟩
           exact ⟨G, (fD.drawn _ _ _ dr).trans r2, r1, .bH _ _ (.cons _ _ _ _ (.bool _) (.cons _ _ _ _ a2 (.cons _ _ _ _ a3 .nil)))⟩
     · cases hn
   · cases hn
 · cases hn
def Ex : List (Option Tr) → Nat → Option (Option Tr) | [], _ => none | c :: l, n => Nat.rec (motive := fun _ => Option (Option Tr)) (some c) (fun n _ => Ex l n) n
theorem xT : ∀ (l : List (Option Tr)) (n : Nat), Ex l n = l[n]?
 | [], n => by simp [Ex]
 | c :: l, 0 => rfl
 | c :: l, n + 1 => by show Ex l n = _; rw [xT l n]; simp
def YK (g : E → V) (_ : KC) (e : E) (s : St) : Option (V × St) := match sG s (g e) with
 | some (it, m, since, seen, cl, pref, cs) => (match Ex cs pref with | some c => some (zS it m since seen cl pref s c) | none => none)
 | _ => none
end
end
end Go.Proofs.YtcgdlgbomjnnnaaGreatLab
/- The jL: code: sequences, tests, loops, regions in the text's order; calls. No condition on the program. -/
namespace Go.Proofs.YtcgdlgbomjnnnaaGreatLab
open Go
set_option linter.all false
noncomputable section
inductive aE where
 | au (e : E) (s : St)
 | exit (id : Nat) (e : E) (s : St)
 | ret (e : E) (s : St)
 | bad
abbrev Den := KC → E → St → aE
def tick (r : aE) : aE := r
def az : Den := fun _ e s => .au e s
def aS : Den := fun _ e s => .ret e s
def bB (id : Nat) : Den := fun _ e s => .exit id e s
def aa (a b : Den) : Den := fun k e s => aE.casesOn (motive := fun _ => aE) (a k e s) (fun e s => b k e s) (fun id e s => .exit id e s) (fun e s => .ret e s) .bad
def av (g : E → V) (a b : Den) : Den := fun k e s => match g e with
 | .bool t => Bool.casesOn (motive := fun _ => aE) t (b k e s) (a k e s)
 | _ => .bad
def aG (id : Nat) (a : Den) : Den := fun k e s => aE.casesOn (motive := fun _ => aE) (a k e s) (fun e s => .au e s) (fun id' e s => Bool.casesOn (motive := fun _ => aE) (Nat.beq id' id) (.exit id' e s) (.au e s)) (fun e s => .ret e s) .bad
def pS (a : E → St → aE) (n : Nat) : E → St → aE := Nat.rec (motive := fun _ => E → St → aE) (fun _ _ => .bad) (fun _ ih e s => aE.casesOn (motive := fun _ => aE) (a e s) (fun e s => tick (ih e s)) (fun id e s => .exit id e s) (fun e s => .ret e s) .bad) n
def bT (a : Den) : Den := fun k e s => pS (a k) k.fuel e s
def oP (f : E → Option V) (u : E → V → E) : Den := fun _ e s => match f e with | some v => .au (u e v) s | none => .bad
def oD (f : E → St → Option V) (u : E → V → E) : Den := fun _ e s => match f e s with | some v => .au (u e v) s | none => .bad
def oA (f : E → Nat → Option (V × Ob)) (u : E → V → E) : Den := fun _ e s => match f e s.next with | some (v, o) => .au (u e v) (s.new o) | none => .bad
def oE (f : KC → E → St → Option (V × St)) (u : E → V → E) : Den := fun k e s => match f k e s with | some (v, s') => .au (u e v) s' | none => .bad
def oG (g : E → V) (want : Bool) (a : Den) (u : E → V → E) : Den := fun k e s => match g e with
 | .bool b => Bool.casesOn (motive := fun _ => aE) (Bool.casesOn (motive := fun _ => Bool) want (not b) b) (.au (u e (.bH [])) s) (a k e s)
 | .bH [] => .au (u e (.bH [])) s
 | _ => .bad
def nW (e : E) (_ : V) : E := e
def ops : List Den → Den | [] => az | a :: l => aa a (ops l)
def Ends (r : aE) (nt : Nat) (gl : List Nat) (G : Pl) (s : St) (w : World) (x : Exit) (a' : Act) (w' : World) : Prop :=
 match r with
 | .au e' s' => x = .normal ∧ ∃ G', cU nt gl G' e' a' ∧ SR G' s' w' ∧ fD G s w G' s' w'
 | .exit id e' s' => x = .exit id ∧ ∃ G', cU nt gl G' e' a' ∧ SR G' s' w' ∧ fD G s w G' s' w'
 | .ret e' s' => x = .ret ∧ ∃ G', cU nt gl G' e' a' ∧ SR G' s' w' ∧ fD G s w G' s' w'
 | .bad => False
theorem Ends.from {r : aE} {nt : Nat} {gl : List Nat} {G G1 : Pl} {s s1 : St} {w w1 : World} {x : Exit} {a' : Act} {w' : World} (hg : fD G s w G1 s1 w1) (h : Ends r nt gl G1 s1 w1 x a' w') : Ends r nt gl G s w x a' w' := by
 cases r with
 | au e' s' => obtain ⟨h1, G', h2, h3, h4⟩ := h; exact ⟨h1, G', h2, h3, hg.trans h4⟩
 | exit id e' s' => obtain ⟨h1, G', h2, h3, h4⟩ := h; exact ⟨h1, G', h2, h3, hg.trans h4⟩
 | ret e' s' => obtain ⟨h1, G', h2, h3, h4⟩ := h; exact ⟨h1, G', h2, h3, hg.trans h4⟩
 | bad => exact h
def fY (P : Program) (nt : Nat) (gl : List Nat) (c : Code) (d : Den) : Prop :=
 ∀ k, yT P gl k → ∀ G e a s w, d k e s ≠ .bad → cU nt gl G e a → SR G s w → c.wp P (Ends (d k e s) nt gl G s w) a w
theorem yM {K K' : Act → World → Prop} {Q Q' : Exit → Act → World → Prop} (hK : ∀ a w, K a w → K' a w) (hQ : ∀ x a w, Q x a w → Q' x a w) : ∀ x a w, Exit.then K Q x a w → Exit.then K' Q' x a w := by
 intro x a w h
 cases x <;> first | exact hK _ _ h | exact hQ _ _ _ h
theorem nX {P : Program} {c : Code} {Q Q' : Exit → Act → World → Prop} (hQ : ∀ x a w, Q x a w → Q' x a w) : ∀ {n : Nat} {a : Act} {w : World}, Code.rounds P c Q n a w → Code.rounds P c Q' n a w
 | 0, _, _, h => h
 | _ + 1, _, _, h => wp_mono h (yM (fun _ _ h => nX hQ h) hQ)
theorem zP {P : Program} {o : Oper} {a : Act} {K K' : Act → World → Prop} {Q Q' : Exit → Act → World → Prop} (hK : ∀ a w, K a w → K' a w) (hQ : ∀ x a w, Q x a w → Q' x a w) {r : Result Next} (h : o.upon P a K Q r) : o.upon P a K' Q' r := by
 cases r with
 | ok n w' =>
   cases n <;> simp only [Oper.upon] at h ⊢ <;>
    first
     | exact hK _ _ h
     | exact Calls.mono h (fun e w'' he => by
      cases e with
      | returned v => exact hK _ _ he
      | panicked ch => exact hQ _ _ _ he
      | outgrown => obtain ⟨a0, w0, he⟩ := he; exact ⟨a0, w0, hQ _ _ _ he⟩)
     | exact Rows.mono h (fun _ _ he => hK _ _ he)
 | halt x w' => cases x <;> simp only [Oper.upon] at h ⊢ <;> first | exact hQ _ _ _ h | exact h
theorem iH {P : Program} {os : Array Oper} {Q Q' : Exit → Act → World → Prop} (hQ : ∀ x a w, Q x a w → Q' x a w) : ∀ {l : List Nat} {a : Act} {w : World}, wpOps P os Q l a w → wpOps P os Q' l a w
 | [], _, _, h => hQ _ _ _ h
 | i :: l, a, w, h => by
   simp only [wpOps] at h ⊢
   cases ho : os[i]? with
   | none => rw [ho] at h; exact iH hQ h
   | some o =>
     rw [ho] at h
     simp only at h ⊢
     by_cases hw : Region.wanted o (yielded os a.tmps) = true
     · rw [if_pos hw] at h ⊢
       rcases h with h | ⟨h1, a0, w0, h2⟩
       · exact .inl (zP (fun _ _ h => iH hQ h) hQ h)
       · exact .inr ⟨h1, a0, w0, hQ _ _ _ h2⟩
     · rw [if_neg hw] at h ⊢; exact iH hQ h
section
variable {P : Program} {nt : Nat} {gl : List Nat}
theorem fY.skip : fY P nt gl .skip az := fun _ _ G e a s w _ he hs => wp_skip ⟨rfl, G, he, hs, fD.refl _ _ _⟩
theorem fY.ret : fY P nt gl .ret aS := fun _ _ G e a s w _ he hs => wp_ret ⟨rfl, G, he, hs, fD.refl _ _ _⟩
theorem fY.exit (id : Nat) : fY P nt gl (.exit id) (bB id) := fun _ _ G e a s w _ he hs => wp_exit ⟨rfl, G, he, hs, fD.refl _ _ _⟩
theorem fY.seq {x y : Code} {a b : Den} (ha : fY P nt gl x a) (hb : fY P nt gl y b) : fY P nt gl (.seq x y) (aa a b) := by
 intro k hk G e ac s w hne he hs
 refine wp_seq (wp_mono (ha k hk G e ac s w (fun h => hne (by unfold aa; rw [h])) he hs) ?_)
 intro q a' w' h
 unfold aa at hne ⊢
 cases hr : a k e s with
 | au e' s' =>
   rw [hr] at h hne
   obtain ⟨rfl, G', h2, h3, h4⟩ := h
   exact wp_mono (hb k hk G' e' a' s' w' hne h2 h3) (fun _ _ _ hq => Ends.from h4 hq)
 | exit id e' s' => rw [hr] at h; obtain ⟨rfl, h⟩ := h; exact ⟨rfl, h⟩
 | ret e' s' => rw [hr] at h; obtain ⟨rfl, h⟩ := h; exact ⟨rfl, h⟩
 | bad => rw [hr] at h; exact h.elim
theorem fY.cond {c : Operand} {g : E → V} {x y : Code} {a b : Den} (hc : eV gl c = some g) (ha : fY P nt gl x a) (hb : fY P nt gl y b) : fY P nt gl (.cond c x y) (av g a b) := by
 intro k hk G e ac s w hne he hs
 unfold av at hne ⊢
 split at hne
 · rename_i t ht
   have h1 := cA hc he
   rw [ht] at h1
   have h1 := h1.j_
   cases t
   · exact wp_cond_false h1 (hb k hk G e ac s w hne he hs)
   · exact wp_cond_true h1 (ha k hk G e ac s w hne he hs)
 · exact absurd rfl hne
theorem fY.block {id : Nat} {x : Code} {a : Den} (ha : fY P nt gl x a) : fY P nt gl (.block id x) (aG id a) := by
 intro k hk G e ac s w hne he hs
 refine wp_block (wp_mono (ha k hk G e ac s w (fun h => hne (by unfold aG; rw [h])) he hs) ?_)
 intro q a' w' h
 unfold aG at hne ⊢
 cases hr : a k e s with
 | au e' s' => rw [hr] at h; obtain ⟨rfl, h⟩ := h; exact ⟨rfl, h⟩
 | exit id' e' s' =>
   rw [hr] at h
   obtain ⟨rfl, h⟩ := h
   simp only [Exit.inBlock]
   cases hb : Nat.beq id' id with
   | true => have := Nat.eq_of_beq_eq_true hb; rw [if_pos this]; exact ⟨rfl, h⟩
   | false => rw [if_neg (fun e => by subst e; simp at hb)]; exact ⟨rfl, h⟩
 | ret e' s' => rw [hr] at h; obtain ⟨rfl, h⟩ := h; exact ⟨rfl, h⟩
 | bad => rw [hr] at h; exact h.elim
theorem vP (a : E → St → aE) (n : Nat) (e : E) (s : St) : pS a (n + 1) e s = aE.casesOn (motive := fun _ => aE) (a e s) (fun e s => pS a n e s) (fun id e s => .exit id e s) (fun e s => .ret e s) .bad := rfl
theorem fY.loop {x : Code} {a : Den} (ha : fY P nt gl x a) : fY P nt gl (.loop x) (bT a) := by
 intro k hk G e ac s w hne he hs
 refine wp_loop_rounds k.fuel ?_
 unfold bT at hne ⊢
 generalize k.fuel = n at hne ⊢
 induction n generalizing G e ac s w with
 | zero => exact absurd rfl hne
 | succ n ih =>
   rw [vP] at hne ⊢
   show x.wp P (Exit.then (Code.rounds P x _ n) _) ac w
   refine wp_mono (ha k hk G e ac s w (fun h => hne (by rw [h])) he hs) ?_
   intro q a' w' h
   cases hr : a k e s with
   | au e' s' =>
     rw [hr] at h hne
     obtain ⟨rfl, G', h2, h3, h4⟩ := h
     have := ih G' e' a' s' w' h2 h3 hne
     exact nX (fun _ _ _ hq => Ends.from h4 hq) this
   | exit id e' s' => rw [hr] at h; obtain ⟨rfl, h⟩ := h; exact ⟨rfl, h⟩
   | ret e' s' => rw [hr] at h; obtain ⟨rfl, h⟩ := h; exact ⟨rfl, h⟩
   | bad => rw [hr] at h; exact h.elim
def qO (P : Program) (nt : Nat) (gl : List Nat) (os : Array Oper) (o : Oper) (d : Den) : Prop :=
 ∀ k, yT P gl k → ∀ G e a s w, d k e s ≠ .bad → cU nt gl G e a → SR G s w → ∃ e' s', d k e s = .au e' s' ∧
   ((Region.wanted o (yielded os a.tmps) = true ∧ iV P o a w (fun v' w' => ∃ G', cU nt gl G' e' (a.put o.dst v') ∧ SR G' s' w' ∧ fD G s w G' s' w')) ∨
    (Region.wanted o (yielded os a.tmps) = false ∧ s' = s ∧ cU nt gl G e' (a.put o.dst undef)))
inductive lF (P : Program) (nt : Nat) (gl : List Nat) (os : Array Oper) : List Oper → List Den → Prop where
 | nil : lF P nt gl os [] []
 | cons {o : Oper} {d : Den} {l : List Oper} {ds : List Den} : qO P nt gl os o d → lF P nt gl os l ds → lF P nt gl os (o :: l) (d :: ds)
theorem tN {os : Array Oper} {k : KC} (hk : yT P gl k) : ∀ {l : List Oper} {ds : List Den} (i : Nat), (∀ j, l[j]? = os[i + j]?) → lF P nt gl os l ds → ∀ {G e a s w}, ops ds k e s ≠ .bad → cU nt gl G e a → SR G s w →
 wpOps P os (Ends (ops ds k e s) nt gl G s w) (List.range' i l.length) a w
 | [], _, i, _, .nil, G, e, a, s, w, _, he, hs => ⟨rfl, G, he, hs, fD.refl _ _ _⟩
 | o :: l, d :: ds, i, hi, .cons h hl, G, e, a, s, w, hne, he, hs => by
   have h0 : os[i]? = some o := by have := hi 0; simpa using this.symm
   obtain ⟨e', s', hd, hcase⟩ := h k hk G e a s w (fun h => hne (by simp only [ops]; unfold aa; rw [h])) he hs
   have hstep : ops (d :: ds) k e s = ops ds k e' s' := by simp only [ops]; unfold aa; rw [hd]
   rw [hstep] at hne ⊢
   have hi' : ∀ j, l[j]? = os[i + 1 + j]? := fun j => by have := hi (j + 1); simpa [Nat.add_assoc, Nat.add_comm 1 j] using this
   simp only [List.length_cons, List.range'_succ, wpOps, h0]
   rcases hcase with ⟨hw, hdid⟩ | ⟨hw, rfl, he'⟩
   · rw [if_pos hw]
     refine .inl (hdid.wp ?_)
     intro v' w' ⟨G', a1, a2, a3⟩
     have := tN hk (i + 1) hi' hl hne a1 a2
     exact iH (fun _ _ _ hq => Ends.from a3 hq) this
   · rw [if_neg (by rw [hw]; simp)]
     exact tN hk (i + 1) hi' hl hne he' hs
theorem fY.region {id : Nat} {os : Array Oper} {ds : List Den} (h : lF P nt gl os os.toList ds) : fY P nt gl (.region id os false) (ops ds) := by
 intro k hk G e a s w hne he hs
 refine wp_region ?_
 have := tN hk (os := os) 0 (fun j => by simp) h hne he hs
 rw [List.range_eq_range']
 simpa using this
end
end
end Go.Proofs.YtcgdlgbomjnnnaaGreatLab
/- The jL: operations in a region; guards; calls; functions. No condition on the program. -/
namespace Go.Proofs.YtcgdlgbomjnnnaaGreatLab
open Go
set_option linter.all false
noncomputable section
section
variable {P : Program} {nt : Nat} {gl : List Nat} {os : Array Oper} {o : Oper}
def iP (nt : Nat) (d : Option Tmp) (u : E → V → E) : Prop := (d = none ∧ u = nW) ∨ ∃ t, d = some t ∧ t < nt ∧ t < 256 ∧ u = Ut t
def DL (nt : Nat) : Option Tmp → Option (E → V → E)
 | none => some nW
 | some t => if t < nt ∧ t < 256 then some (Ut t) else none
theorem Q5 {nt : Nat} {d : Option Tmp} {u : E → V → E} (h : DL nt d = some u) : iP nt d u := by
 cases d with
 | none => cases h; exact .inl ⟨rfl, rfl⟩
 | some t =>
   simp only [DL] at h
   split at h
   · rename_i ht; cases h; exact .inr ⟨t, rfl, ht.1, ht.2, rfl⟩
   · cases h
theorem cU.dst {G : Pl} {e : E} {a : Act} (he : cU nt gl G e a) {d : Option Tmp} {u : E → V → E} (hd : iP nt d u) {v : V} {v' : Value} (hv : VR G v v') : cU nt gl G (u e v) (a.put d v') := by
 rcases hd with ⟨rfl, rfl⟩ | ⟨t, rfl, h1, h2, rfl⟩
 · exact he
 · exact he.put h1 h2 hv
def kD (P : Program) (nt : Nat) (gl : List Nat) (o : Oper) (d : Den) : Prop :=
 ∀ k, yT P gl k → ∀ G e a s w, d k e s ≠ .bad → cU nt gl G e a → SR G s w → ∃ e' s', d k e s = .au e' s' ∧
   iV P o a w (fun v' w' => ∃ G', cU nt gl G' e' (a.put o.dst v') ∧ SR G' s' w' ∧ fD G s w G' s' w')
theorem kD.p {f : E → Option V} {u : E → V → E} (h : l8 P o nt gl f) (hd : iP nt o.dst u) : kD P nt gl o (oP f u) := by
 intro k hk G e a s w hne he hs
 unfold oP at hne ⊢
 cases hf : f e with
 | none => rw [hf] at hne; exact absurd rfl hne
 | some v =>
   obtain ⟨v', h1, h2⟩ := h G e a w v hf he
   exact ⟨_, _, rfl, iV.value h1 ⟨G, he.dst hd h2, hs, fD.refl _ _ _⟩⟩
theorem kD.d {f : E → St → Option V} {u : E → V → E} (h : ODs P o nt gl f) (hd : iP nt o.dst u) : kD P nt gl o (oD f u) := by
 intro k hk G e a s w hne he hs
 unfold oD at hne ⊢
 cases hf : f e s with
 | none => rw [hf] at hne; exact absurd rfl hne
 | some v =>
   obtain ⟨v', h1, h2⟩ := h G e a s w v hf he hs.r
   exact ⟨_, _, rfl, iV.value h1 ⟨G, he.dst hd h2, hs, fD.refl _ _ _⟩⟩
theorem kD.a {f : E → Nat → Option (V × Ob)} {u : E → V → E} (h : OAs P o nt gl f) (hd : iP nt o.dst u) : kD P nt gl o (oA f u) := by
 intro k hk G e a s w hne he hs
 unfold oA at hne ⊢
 cases hf : f e s.next with
 | none => rw [hf] at hne; exact absurd rfl hne
 | some p =>
   obtain ⟨v, ob⟩ := p
   have hid : G s.next = none := by
    cases hq : G s.next with
    | none => rfl
    | some l => exact absurd (hs.dom _ _ hq).1 (Nat.lt_irrefl _)
   obtain ⟨v', obj, tot, w', h1, h2, h3, h4⟩ := h G e a s.next w v ob hf he hid
   obtain ⟨r1, r2⟩ := hs.CD h2 h4
   exact ⟨_, _, rfl, iV.value h1 ⟨_, (he.mono (Pl.gC hid)).dst hd h3, r1, r2⟩⟩
theorem kD.e {f : KC → E → St → Option (V × St)} {u : E → V → E} (h : Z9 P o nt gl f) (hd : iP nt o.dst u) : kD P nt gl o (oE f u) := by
 intro k hk G e a s w hne he hs
 unfold oE at hne ⊢
 cases hf : f k e s with
 | none => rw [hf] at hne; exact absurd rfl hne
 | some p =>
   obtain ⟨v, s'⟩ := p
   have hdid := h k hk G e a s w v s' hf he hs
   refine ⟨_, _, rfl, ?_⟩
   have key : ∀ v' w', Post G s w v s' v' w' → ∃ G', cU nt gl G' (u e v) (a.put o.dst v') ∧ SR G' s' w' ∧ fD G s w G' s' w' := by
    intro v' w' ⟨G', h1, h2, h3⟩
    exact ⟨G', (he.mono h1.le).dst hd h3, h2, h1⟩
   exact hdid.mono key
theorem qO.plain {d : Den} (h : kD P nt gl o d) (hg : o.guard = none) : qO P nt gl os o d := by
 intro k hk G e a s w hne he hs
 obtain ⟨e', s', h1, h2⟩ := h k hk G e a s w hne he hs
 exact ⟨e', s', h1, .inl ⟨by simp [Region.wanted, hg], h2⟩⟩
theorem qO.guard {d : Den} {u : E → V → E} {j t : Nat} {want : Bool} (h : kD P nt gl o d) (hg : o.guard = some (j, want)) (ht : (os[j]?).bind (·.dst) = some t) (ht2 : t < 256) (hd : iP nt o.dst u) : qO P nt gl os o (oG (Gt t) want d u) := by
 intro k hk G e a s w hne he hs
 have hx := he.tm t ht2
 have hy : ∀ b, a.tmps.getD t undef = .bool b → yielded os a.tmps j = some b := by
  intro b hb
  unfold yielded
  rw [ht]
  simp only [Option.bind_some]
  rw [Array.getD_eq_getD_getElem?] at hb
  cases hq : a.tmps[t]? with
  | none => rw [hq] at hb; cases hb
  | some q => rw [hq] at hb; simp only [Option.getD_some] at hb; rw [hb]
 have hy2 : a.tmps.getD t undef = .tuple #[] → yielded os a.tmps j = none := by
  intro hb
  unfold yielded
  rw [ht]
  simp only [Option.bind_some]
  rw [Array.getD_eq_getD_getElem?] at hb
  cases hq : a.tmps[t]? with
  | none => rfl
  | some q => rw [hq] at hb; simp only [Option.getD_some] at hb; rw [hb]
 unfold oG at hne ⊢
 split at hne
 · rename_i b hb
   rw [hb] at hx
   have hyb := hy b hx.j_
   have hw : Region.wanted o (yielded os a.tmps) = (b == want) := by
    simp only [Region.wanted, hg, hyb]; cases b <;> cases want <;> rfl
   cases b <;> cases want
   · obtain ⟨e', s', h1, h2⟩ := h k hk G e a s w hne he hs
     exact ⟨e', s', h1, .inl ⟨hw, h2⟩⟩
   · exact ⟨_, _, rfl, .inr ⟨hw, rfl, he.dst hd (.bH _ _ .nil)⟩⟩
   · exact ⟨_, _, rfl, .inr ⟨hw, rfl, he.dst hd (.bH _ _ .nil)⟩⟩
   · obtain ⟨e', s', h1, h2⟩ := h k hk G e a s w hne he hs
     exact ⟨e', s', h1, .inl ⟨hw, h2⟩⟩
 · rename_i hb
   rw [hb] at hx
   obtain ⟨l', hl, hvs⟩ := hx.tB
   cases hvs
   have hyb := hy2 hl
   exact ⟨_, _, rfl, .inr ⟨by simp [Region.wanted, hg, hyb], rfl, he.dst hd (.bH _ _ .nil)⟩⟩
 · exact absurd rfl hne
/-! ### Calls -/
def OI (P : Program) (f : Nat) : Prop := ∀ (args : Array Value) (w : World), (callFunc f args).run P w = .ok (.enter f args) w
theorem mC {f : Nat} (h : OI P f) (args : Array Value) (w : World) : (callFunc f args).run P w = .ok (.enter f args) w := h args w
def aq (f : Nat) (gs : List (E → V)) (k : KC) (e : E) (s : St) : Option (V × St) := k.call f (pV gs e) s
theorem KH {f : Nat} {args : Array Operand} {ats : Array Nat} {gs : List (E → V)} (ho : o.op = .call { callee := .value (.func f), args := args, argTypes := ats }) (hf : OI P f) (hg : q_ gl args.toList = some gs) : Z9 P o nt gl (aq f gs) := by
 intro k hk G e a s w v s' hv he hs
 have hargs := mU he hg
 refine iV.enter (f := f) (args := ⟨args.toList.map a.eval⟩) (w' := w) ?_ (hk f _ s v s' hv G w _ he.gl hargs hs)
 have h1 : args.map a.eval = ⟨args.toList.map a.eval⟩ := by cases args; simp
 simp [execOp, ho, resolve, Act.eval, Deferred.ofValue, invoke, h1, mC hf]
def fP (fok : T Bool) (g : E → V) (gs : List (E → V)) (k : KC) (e : E) (s : St) : Option (V × St) := match g e with
 | .func f a b => (match fok.get f with | some true => k.call f (a ++ (pV gs e) ++ b) s | _ => none)
 | _ => none
theorem yC {fok : T Bool} (hfok : ∀ f, fok.get f = some true → OI P f) {x : Operand} {g : E → V} {args : Array Operand} {ats : Array Nat} {gs : List (E → V)} (ho : o.op = .call { callee := .value x, args := args, argTypes := ats }) (hx : eV gl x = some g) (hg : q_ gl args.toList = some gs) : Z9 P o nt gl (fP fok g gs) := by
 intro k hk G e a s w v s' hv he hs
 have hargs := mU he hg
 have hxv := cA hx he
 unfold fP at hv
 split at hv
 · rename_i f p q hge
   rw [hge] at hxv
   split at hv
   · rename_i hf
     generalize hax : a.eval x = x' at hxv
     cases hxv with
     | func _ _ _ p' q' hp hq =>
       refine iV.enter (f := f) (args := ⟨p' ++ args.toList.map a.eval ++ q'⟩) (w' := w) ?_ (hk f _ s v s' hv G w _ he.gl ((hp.append hargs).append hq) hs)
       have h1 : args.map a.eval = ⟨args.toList.map a.eval⟩ := by cases args; simp
       simp [execOp, ho, resolve, hax, Deferred.ofValue, invoke, h1, mC (hfok f hf)]
   · cases hv
 · cases hv
end
structure aX where
 us : List (E → V → E)
 body : Den
 res : E → St → Option V
def jV : ax V := ⟨.bH [], .bH [], .bH [], .bH [], .bH [], .bH [], .bH [], .bH [], .bH [], .bH [], .bH [], .bH [], .bH [], .bH [], .bH [], .bH []⟩
def e0 : E := ⟨jV, jV, jV, jV, jV, jV, jV, jV, jV, jV, jV, jV, jV, jV, jV, jV⟩
def ldV (ag : Bool) (m : Nat) (v : V) (s : St) : Option V := Bool.casesOn (motive := fun _ => Option V) ag (aQ (fun _ => v) e0 s) (dh m (fun _ => v) e0 s)
theorem Qf {P : Program} {tt : TT} (H : qW P tt) {G : Pl} {s : St} {w : World} (hr : R G s.heap.get w) {t m : Nat} {d : TypeDesc} (hd : tt.ud t = some d) (hz : tt.sz t = some m) {v u : V} {v' : Value} (h : ldV (tT d) m v s = some u) (hv : VR G v v') :
 ∃ l b o', v = .ptr b o' ∧ v' = .pointer (some ⟨(l : Loc).blk, l.base + o', none⟩) ∧ ∃ u', (loadVar t ⟨l.blk, l.base + o', none⟩).run P w = .ok u' w ∧ VR G u u' := by
 unfold ldV at h
 cases hb : tT d with
 | false =>
   rw [hb] at h
   simp only [aQ] at h
   split at h
   · rename_i b o'
     obtain ⟨l, rfl, hl⟩ := hv.iU
     refine ⟨l, b, o', rfl, rfl, ?_⟩
     split at h
     · rename_i n xs hbk
       rw [dD] at h
       by_cases hlt : o' < n
       · simp only [hlt, decide_true] at h
         obtain ⟨l2, c, el, fz, h1, h2, h4, h5, h6⟩ := sO hbk hr
         rw [hl] at h1; cases h1
         obtain ⟨v', c1, c2, c3⟩ := h6 o' u hlt h
         exact ⟨v', by simp [loadVar, ie H w hd, hb, World.cell?, h2, c1], c2⟩
       · simp only [hlt, decide_false] at h; cases h
     · cases h
   · cases h
 | true =>
   rw [hb] at h
   simp only [dh] at h
   split at h
   · rename_i b o'
     obtain ⟨l, rfl, hl⟩ := hv.iU
     refine ⟨l, b, o', rfl, rfl, ?_⟩
     split at h
     · rename_i n xs hbk
       rw [cr] at h
       by_cases hlt : o' + m ≤ n
       · simp only [Nat.add_eq, hlt, decide_true] at h
         split at h
         · rename_i vs hvs
           cases h
           obtain ⟨vs', a1, a2, _⟩ := sK (P := P) hr hbk hl hvs hlt
           exact ⟨.agg ⟨vs'⟩, by simp [loadVar, ie H w hd, hb, eG H w hz, a1 w rfl], .agg _ _ a2⟩
         · cases h
       · simp only [Nat.add_eq, hlt, decide_false] at h; cases h
     · cases h
   · cases h
def l7 : List (E → V → E) → List V → E → Option E
 | [], [], e => some e
 | u :: us, v :: vs, e => l7 us vs (u e v)
 | _, _, _ => none
def bA (F : aX) (k : KC) (args : List V) (s : St) : Option (V × St) := match l7 F.us args e0 with
 | some e => (match F.body k e s with | .au e' s' => (match F.res e' s' with | some v => some (v, s') | none => none) | .ret e' s' => (match F.res e' s' with | some v => some (v, s') | none => none) | _ => none)
 | none => none
def kc (dS : T aX) (fuel n : Nat) : KC := Nat.rec (motive := fun _ => KC) ⟨fuel, fun _ _ _ => none⟩ (fun _ ih => ⟨fuel, fun f args s => match dS.get f with | some F => bA F ih args s | none => none⟩) n
def rT (g : E → V) (e : E) (_ : St) : Option V := some (g e)
def rC (ag : Bool) (n : Nat) (g : E → V) (e : E) (s : St) : Option V := ldV ag n (g e) s
def qT (tt : TT) : List ResultVar → Option (List (E → St → Option V))
 | [] => some []
 | .tmp t :: l => if t < 256 then (qT tt l).map (rT (Gt t) :: ·) else none
 | .cell a t :: l => if a < 256 then (match tt.ud t, tt.sz t with | some d, some n => (qT tt l).map (rC (tT d) n (Gt a) :: ·) | _, _ => none) else none
def OG (l : List (E → St → Option V)) (e : E) (s : St) : Option (List V) := match l with
 | [] => some []
 | g :: l => match g e s with | some v => (match OG l e s with | some r => some (v :: r) | none => none) | none => none
def aL (gs : List (E → St → Option V)) (e : E) (s : St) : Option V := match gs with | [g] => g e s | gs => match OG gs e s with | some l => some (.bH l) | none => none
def lP : Nat → Nat → List (E → V → E) | _, 0 => [] | i, n + 1 => Ut i :: lP (i + 1) n
def aa4 (P : Program) (gl : List Nat) (f : Nat) (F : aX) : Prop := ∃ tt fn c np gs, qW P tt ∧ P.funcs[f]? = some fn ∧ fn.body = some c ∧ fY P fn.ntmps gl c F.body ∧ F.us = lP 0 np ∧ np ≤ fn.ntmps ∧ np ≤ 256 ∧ qT tt fn.results.toList = some gs ∧ F.res = aL gs
theorem ada (t : Nat) : Gt t e0 = .bH [] := by
 unfold Gt
 have h1 : ∀ i, ax.get i e0 = jV := by
  intro i
  match i with
  | 0 | 1 | 2 | 3 | 4 | 5 | 6 | 7 | 8 | 9 | 10 | 11 | 12 | 13 | 14 | 15 | _ + 16 => rfl
 have h2 : ∀ i, ax.get i jV = .bH [] := by
  intro i
  match i with
  | 0 | 1 | 2 | 3 | 4 | 5 | 6 | 7 | 8 | 9 | 10 | 11 | 12 | 13 | 14 | 15 | _ + 16 => rfl
 rw [h1, h2]
theorem rZ {nt : Nat} {gl : List Nat} {G : Pl} (hgl : GOk gl G) : ∀ {np i : Nat} {args : List V} {args' : List Value} {pre : List Value} {e e' : E}, l7 (lP i np) args e = some e' → ew G args args' → pre.length = i → i + np ≤ 256 → pre.length + args'.length ≤ nt →
 (∀ t, t < 256 → VR G (Gt t e) ((pre ++ List.replicate (nt - pre.length) undef).getD t undef)) → (∀ t, t < 256 → VR G (Gt t e') ((pre ++ args' ++ List.replicate (nt - (pre.length + args'.length)) undef).getD t undef))
 | 0, i, args, args', pre, e, e', h, hv, hp, hn, hl, he => by
   cases hv with
   | nil => cases h; simpa using he
   | cons => cases h
 | np + 1, i, args, args', pre, e, e', h, hv, hp, hn, hl, he => by
   cases hv with
   | nil => cases h
   | cons x x' l l' hx hv =>
     simp only [lP, l7] at h
     have hl' : pre.length + (l'.length + 1) ≤ nt := by simpa using hl
     have := rZ (nt := nt) hgl (pre := pre ++ [x']) h hv (by simp [hp]) (by omega) (by simp; omega) (fun t ht => by
      rw [iT t i ht (by omega)]
      by_cases hti : t = i
      · subst hti
        rw [if_pos rfl]
        have : (pre ++ [x'] ++ List.replicate (nt - (pre ++ [x']).length) undef).getD t undef = x' := by
         rw [List.getD_eq_getElem?_getD, List.append_assoc, List.getElem?_append_right (by omega)]; simp [hp]
        rw [this]; exact hx
      · rw [if_neg hti]
        have : (pre ++ [x'] ++ List.replicate (nt - (pre ++ [x']).length) undef).getD t undef = (pre ++ List.replicate (nt - pre.length) undef).getD t undef := by
         rw [List.getD_eq_getElem?_getD, List.getD_eq_getElem?_getD]
         by_cases hlt : t < pre.length
         · rw [List.append_assoc, List.getElem?_append_left hlt, List.getElem?_append_left hlt]
         · rw [List.getElem?_append_right (by simp; omega), List.getElem?_append_right (by omega)]
           simp only [List.getElem?_replicate, List.length_append, List.length_cons, List.length_nil]
           split <;> split <;> rfl
        rw [this]; exact he t ht)
     simpa [List.append_assoc, Nat.add_assoc, Nat.add_comm 1] using this
theorem wI (a : Addr) : asAddr (.pointer (some a)) = pure a := rfl
theorem sR {P : Program} {tt : TT} (H : qW P tt) {G : Pl} {e : E} {s : St} {tmps : Array Value} (he : ∀ t, t < 256 → VR G (Gt t e) (tmps.getD t undef)) {w : World} (hr : R G s.heap.get w) : ∀ {l : List ResultVar} {gs : List (E → St → Option V)} {us : List V}, qT tt l = some gs → OG gs e s = some us → ∃ vs, (l.mapM (m := Sem) fun | .tmp t => pure (tmps.getD t undef) | .cell a t => do loadVar t (← asAddr (tmps.getD a undef))).run P w = .ok vs w ∧ ew G us vs
 | [], gs, us, h, hu => by cases h; cases hu; exact ⟨[], by simp, .nil⟩
 | .tmp t :: l, gs, us, h, hu => by
   simp only [qT] at h
   split at h
   · rename_i ht
     cases hq : qT tt l with
     | none => rw [hq] at h; cases h
     | some gs' =>
       rw [hq] at h; cases h
       simp only [OG, rT] at hu
       split at hu
       · rename_i r hr'
         cases hu
         obtain ⟨vs, h1, h2⟩ := sR H he hr hq hr'
         exact ⟨tmps.getD t undef :: vs, by simp only [List.mapM_cons, Sem.run_bind, Sem.run_pure, Result.andThen_ok, h1], .cons _ _ _ _ (he t ht) h2⟩
       · cases hu
   · cases h
 | .cell a t :: l, gs, us, h, hu => by
   simp only [qT] at h
   split at h
   · rename_i ha
     split at h
     · rename_i d n hd hz
       cases hq : qT tt l with
       | none => rw [hq] at h; cases h
       | some gs' =>
         rw [hq] at h; cases h
         simp only [OG, rC] at hu
         split at hu
         · rename_i v hv
           split at hu
           · rename_i r hr'
             cases hu
             obtain ⟨vs, h1, h2⟩ := sR H he hr hq hr'
             obtain ⟨lo, b, o', e1, e2, u', hl, hvr⟩ := Qf H hr hd hz hv (he a ha)
             exact ⟨u' :: vs, by simp only [List.mapM_cons, Sem.run_bind, Sem.run_pure, Result.andThen_ok, h1, e2, wI, hl], .cons _ _ _ _ hvr h2⟩
           · cases hu
         · cases hu
     · cases h
   · cases h
theorem yx {e : E} {s : St} : ∀ {l : List (E → St → Option V)} {r : List V}, OG l e s = some r → r.length = l.length
 | [], r, h => by cases h; rfl
 | g :: l, r, h => by
   simp only [OG] at h
   split at h
   · split at h
     · rename_i r' hr; cases h; simp [yx hr]
     · cases h
   · cases h
theorem uE {P : Program} {tt : TT} (H : qW P tt) {G : Pl} {e : E} {s : St} {fn : Func} {tmps : Array Value} (he : ∀ t, t < 256 → VR G (Gt t e) (tmps.getD t undef)) {w : World} (hr : R G s.heap.get w) {gs : List (E → St → Option V)} (h : qT tt fn.results.toList = some gs) {u : V} (hu : aL gs e s = some u) : ∃ v, (results fn tmps).run P w = .ok v w ∧ VR G u v := by
 have key : ∃ us, OG gs e s = some us ∧ (match us with | [x] => u = x | us => u = .bH us) := by
  unfold aL at hu
  split at hu
  · rename_i g; exact ⟨[u], by simp [OG, hu], rfl⟩
  · rename_i hne
    split at hu
    · rename_i l hl
      cases hu
      refine ⟨l, hl, ?_⟩
      have := yx hl
      split
      · rename_i x
        exfalso
        match gs, this with
        | [g], _ => exact hne g rfl
      · rfl
    · cases hu
 obtain ⟨us, hus, hform⟩ := key
 obtain ⟨vs, h1, h2⟩ := sR H he hr h hus
 have h3 : (fn.results.mapM (m := Sem) fun | .tmp t => pure (tmps.getD t undef) | .cell a t => do loadVar t (← asAddr (tmps.getD a undef))).run P w = .ok vs.toArray w := by
  simp only [Array.mapM_eq_mapM_toList, Sem.run_map, h1, Result.andThen_ok]
 have h4 : (results fn tmps).run P w = .ok (if h : vs.toArray.size = 1 then vs.toArray[0] else .tuple vs.toArray) w := by
  unfold results
  rw [Sem.run_bind]
  erw [h3]
  rfl
 rw [h4]
 match us, vs, h2, hform with
 | [], [], _, hform => cases hform; exact ⟨_, rfl, .bH _ _ .nil⟩
 | [x], [v], .cons _ _ _ _ hv _, hform => cases hform; exact ⟨v, rfl, hv⟩
 | x1 :: x2 :: us, v1 :: v2 :: vs, h2, hform => cases hform; exact ⟨.tuple (v1 :: v2 :: vs).toArray, by simp, .bH _ _ h2⟩
theorem PI {P : Program} {gl : List Nat} {f : Nat} {F : aX} (hF : aa4 P gl f F) {k : KC} (hk : yT P gl k) {args : List V} {s s' : St} {v : V} (h : bA F k args s = some (v, s')) {G : Pl} {w : World} {args' : List Value} (hgl : GOk gl G) (hargs : ew G args args') (hs : SR G s w) :
 Calls P f ⟨args'⟩ w (fun e w' => match e with | .returned v' => Post G s w v s' v' w' | _ => False) := by
 obtain ⟨tt, fn, c, np, gs, H, hf, hb, hsnd, hus, hnp, hnp2, hres, hFres⟩ := hF
 unfold bA at h
 split at h
 · rename_i e he
   rw [hus] at he
   have hlen : args.length = np := by
    have : ∀ (np i : Nat) (args : List V) (e e' : E), l7 (lP i np) args e = some e' → args.length = np := by
     intro np
     induction np with
     | zero => intro i args e e' h; cases args with | nil => rfl | cons => cases h
     | succ np ih => intro i args e e' h; cases args with | nil => cases h | cons x l => simp only [lP, l7] at h; simp [ih _ _ _ _ h]
    exact this _ _ _ _ _ he
   have hlen2 := hargs.length
   have hE : cU fn.ntmps gl G e { tmps := (⟨args'⟩ : Array Value) ++ Array.replicate (fn.ntmps - (⟨args'⟩ : Array Value).size) undef, defers := [] } := by
    refine ⟨fun t ht => ?_, by simp; omega, rfl, hgl⟩
    have := rZ (nt := fn.ntmps) (pre := []) hgl he hargs rfl (by omega) (by simp; omega) (fun t ht => by
     rw [ada t]
     have : ([] ++ List.replicate (fn.ntmps - ([] : List Value).length) undef).getD t undef = undef := by
      rw [List.getD_eq_getElem?_getD]; simp only [List.nil_append, List.getElem?_replicate]; split <;> rfl
     rw [this]; exact .bH _ _ .nil) t ht
    simpa [Array.getD_eq_getD_getElem?, List.getD_eq_getElem?_getD, Array.getElem?_append, List.getElem?_append, List.getElem?_replicate, Array.getElem?_replicate] using this
   refine calls_of_wp hf hb (wp_mono (hsnd k hk G e _ s w (fun hbad => by rw [hbad] at h; cases h) hE hs) ?_)
   intro x a' w' hx
   cases hr : F.body k e s with
   | au e' s2 =>
     rw [hr] at h hx
     simp only at h
     split at h
     · rename_i u hu
       cases h
       obtain ⟨rfl, G', h2, h3, h4⟩ := hx
       rw [hFres] at hu
       obtain ⟨v', q1, q2⟩ := uE H h2.tm h3.r hres hu
       exact ⟨h2.df, v', q1, ⟨G', h4, h3, q2⟩⟩
     · cases h
   | exit id e' s2 => rw [hr] at h; cases h
   | ret e' s2 =>
     rw [hr] at h hx
     simp only at h
     split at h
     · rename_i u hu
       cases h
       obtain ⟨rfl, G', h2, h3, h4⟩ := hx
       rw [hFres] at hu
       obtain ⟨v', q1, q2⟩ := uE H h2.tm h3.r hres hu
       exact ⟨h2.df, v', q1, ⟨G', h4, h3, q2⟩⟩
     · cases h
   | bad => rw [hr] at h; cases h
 · cases h
end
end Go.Proofs.YtcgdlgbomjnnnaaGreatLab
/- The jL: loops through maps, whatever comes next: every way is gone; what they agree on is kept. No condition on the program. -/
namespace Go.Proofs.YtcgdlgbomjnnnaaGreatLab
open Go
set_option linter.all false
noncomputable section
mutual
def dO : Nat → V → V → Bool
 | _, .bool a, .bool b => a == b
 | _, .i a, .i b => j7 a b
 | _, .int k a, .int k' b => and (Nat.beq (kn k) (kn k')) (j7 a b)
 | _, .str a, .str b => iM a b
 | _, .jQ, .jQ | _, .ay, .ay | _, .lY, .lY | _, .rj, .rj | _, .rz, .rz => true
 | _, .ptr a b, .ptr c d => and (Nat.beq a c) (Nat.beq b d)
 | _, .slice a b c x y, .slice a' b' c' x' y' => and (and (Nat.beq a a') (Nat.beq b b')) (and (and (Nat.beq c c') (Nat.beq y y')) (x == x'))
 | _, .map a, .map b => Nat.beq a b
 | n + 1, .iface t v, .iface t' v' => and (Nat.beq t t') (dO n v v')
 | n + 1, .agg l, .agg l' => vh n l l'
 | n + 1, .bH l, .bH l' => vh n l l'
 | _, _, _ => false
def vh : Nat → List V → List V → Bool
 | _, [], [] => true
 | n + 1, a :: l, b :: r => and (dO n a b) (vh n l r)
 | _, _, _ => false
end
mutual
theorem mD : ∀ {n : Nat} {a b : V}, dO n a b = true → a = b := by
 intro n a b h
 unfold dO at h
 split at h
 · rw [eq_of_beq h]
 · rw [eP] at h; rw [eq_of_beq h]
 · rw [Bool.and_eq_true] at h; obtain ⟨h1, h2⟩ := h
   rw [eP] at h2; rw [lU (Nat.eq_of_beq_eq_true h1), eq_of_beq h2]
 · rw [pH] at h; rw [eq_of_beq h]
 · rfl
 · rfl
 · rfl
 · rfl
 · rfl
 · rw [Bool.and_eq_true] at h; obtain ⟨h1, h2⟩ := h
   rw [Nat.eq_of_beq_eq_true h1, Nat.eq_of_beq_eq_true h2]
 · simp only [Bool.and_eq_true] at h; obtain ⟨⟨h1, h2⟩, ⟨h3, h4⟩, h5⟩ := h
   rw [Nat.eq_of_beq_eq_true h1, Nat.eq_of_beq_eq_true h2, Nat.eq_of_beq_eq_true h3, Nat.eq_of_beq_eq_true h4, eq_of_beq h5]
 · rw [Nat.eq_of_beq_eq_true h]
 · rw [Bool.and_eq_true] at h; obtain ⟨h1, h2⟩ := h
   rw [Nat.eq_of_beq_eq_true h1, mD h2]
 · rw [pO h]
 · rw [pO h]
 · cases h
theorem pO : ∀ {n : Nat} {a b : List V}, vh n a b = true → a = b := by
 intro n a b h
 unfold vh at h
 split at h
 · rfl
 · rw [Bool.and_eq_true] at h; obtain ⟨h1, h2⟩ := h
   rw [mD h1, pO h2]
 · cases h
end
theorem T.set_set {α : Type} : ∀ (t : T α) (i : Nat) (x y : α), (t.set i x).set i y = t.set i y
 | .nil, 0, x, y => rfl
 | .nil, i + 1, x, y => rfl
 | .ah v l r, 0, x, y => rfl
 | .ah v l r, i + 1, x, y => by
   rw [T.gI, T.gI]
   by_cases h : i % 2 = 0
   · rw [if_pos h, if_pos h, T.gI, if_pos h, T.set_set l]
   · rw [if_neg h, if_neg h, T.gI, if_neg h, T.set_set r]
/-! ### Which comes next -/
def ji (s : St) (it i : Nat) : St := match s.heap.get it with
 | some (.iter m since seen last _) => s.put it (.iter m since seen last i)
 | _ => s
theorem yN {s : St} {v : V} {it : Nat} {m : Option Nat} {since : Nat} {seen : List Nat} {cl pref : Nat} {cs : List (Option Tr)} (h : sG s v = some (it, m, since, seen, cl, pref, cs)) :
 v = .ptr it 0 ∧ ∃ last, s.heap.get it = some (.iter m since seen last pref) ∧ ∀ i, sG (s.put it (.iter m since seen last i)) v = some (it, m, since, seen, cl, i, cs) := by
 unfold sG at h
 split at h
 · rename_i it'
   split at h
   · rename_i since' seen' last' pref' hb
     cases h
     refine ⟨rfl, _, hb, fun i => ?_⟩
     have : (s.put it (.iter none since seen last' i)).heap.get it = some (.iter none since seen last' i) := T.mB hb
     simp only [sG, this]
   · rename_i mb since' seen' last' pref' hb
     split at h
     · rename_i es bs cl' hmb
       cases hg : gone (uQ es bs) seen' last' with
       | true => rw [hg] at h; cases h
       | false =>
         rw [hg] at h; cases h
         refine ⟨rfl, _, hb, fun i => ?_⟩
         have h1 : (s.put it (.iter (some mb) since seen last' i)).heap.get it = some (.iter (some mb) since seen last' i) := T.mB hb
         have hne : it ≠ mb := fun e => by rw [e, hmb] at hb; cases hb
         have h2 : (s.put it (.iter (some mb) since seen last' i)).heap.get mb = some (.map es bs cl) := T.i_ hmb hne
         simp only [sG, h1, h2, hg]
     · cases h
   · cases h
 · cases h
theorem Touch.refl (k : Nat) (w : World) : Touch k w w := ⟨rfl, rfl, rfl, rfl, fun _ _ => rfl, Rows.refl w⟩
theorem j6.pref {G : Pl} {w : World} {b : Nat} {m : Option Nat} {since : Nat} {seen : List Nat} {last p p' : Nat} (h : j6 G w b (.iter m since seen last p)) : j6 G w b (.iter m since seen last p') := h
def ax.zip {α : Type} (f : α → α → α) (e e' : ax α) : ax α := ⟨f e.a0 e'.a0, f e.a1 e'.a1, f e.a2 e'.a2, f e.a3 e'.a3, f e.a4 e'.a4, f e.a5 e'.a5, f e.a6 e'.a6, f e.a7 e'.a7, f e.a8 e'.a8, f e.a9 e'.a9, f e.a10 e'.a10, f e.a11 e'.a11, f e.a12 e'.a12, f e.a13 e'.a13, f e.a14 e'.a14, f e.a15 e'.a15⟩
def Wk (o o' : Ob) : Prop := (∀ G w b, j6 G w b o → j6 G w b o') ∧ (∀ m, o'.lv m = true → o.lv m = true)
theorem Wk.dead (o : Ob) : Wk o .dead := ⟨fun _ _ _ _ => trivial, fun m h => (Ob.oy h).elim⟩
section
variable {P : Program} {nt : Nat} {gl : List Nat}
def Gp (P : Program) (nt : Nat) (gl : List Nat) (c : Code) (d : Den) (g : E → V) : Prop :=
 ∀ k, yT P gl k → ∀ G e a s w it m since seen cl pref cs, sG s (g e) = some (it, m, since, seen, cl, pref, cs) → (∀ i, i < cs.length → d k e (ji s it i) ≠ .bad) → cU nt gl G e a → SR G s w →
   c.wp P (fun x a' w' => ∃ i, i < cs.length ∧ Ends (d k e (ji s it i)) nt gl G s w x a' w') a w
theorem Gp.seq {x y : Code} {a b : Den} {g : E → V} (ha : Gp P nt gl x a g) (hb : fY P nt gl y b) : Gp P nt gl (.seq x y) (aa a b) g := by
 intro k hk G e ac s w it m since seen cl pref cs hn hne he hs
 refine wp_seq (wp_mono (ha k hk G e ac s w it m since seen cl pref cs hn (fun i hi h => hne i hi (by unfold aa; rw [h])) he hs) ?_)
 rintro q a' w' ⟨i, hi, h⟩
 have hne := hne i hi
 unfold aa at hne
 cases hr : a k e (ji s it i) with
 | au e' s' =>
   rw [hr] at h hne
   obtain ⟨rfl, G', h2, h3, h4⟩ := h
   exact wp_mono (hb k hk G' e' a' s' w' hne h2 h3) (fun _ _ _ hq => ⟨i, hi, by unfold aa; rw [hr]; exact Ends.from h4 hq⟩)
 | exit id e' s' => rw [hr] at h; obtain ⟨rfl, h⟩ := h; exact ⟨i, hi, by unfold aa; rw [hr]; exact ⟨rfl, h⟩⟩
 | ret e' s' => rw [hr] at h; obtain ⟨rfl, h⟩ := h; exact ⟨i, hi, by unfold aa; rw [hr]; exact ⟨rfl, h⟩⟩
 | bad => rw [hr] at h; exact h.elim
theorem Gp.region {id : Nat} {os : Array Oper} {o : Oper} {l : List Oper} {ds : List Den} {x : Operand} {g : E → V} {u : E → V → E} (hl : os.toList = o :: l) (ho : o.op = .next x false) (hg : eV gl x = some g) (hgd : o.guard = none) (hd : iP nt o.dst u) (h : lF P nt gl os l ds) :
 Gp P nt gl (.region id os false) (ops (oE (YK g) u :: ds)) g := by
 intro k hk G e a s w it m since seen cl pref cs hn hne he hs
 refine wp_region ?_
 have hsz : os.size = l.length + 1 := by have := congrArg List.length hl; simpa using this
 have h0 : os[0]? = some o := by rw [← Array.getElem?_toList, hl]; rfl
 rw [List.range_eq_range', hsz, List.range'_succ]
 simp only [wpOps, h0]
 rw [if_pos (by simp [Region.wanted, hgd])]
 refine .inl ((PL (P := P) ho hg he hs hn).wp ?_)
 rintro v' w' ⟨c, hc, hp⟩
 obtain ⟨i, hi⟩ := List.mem_iff_getElem?.1 hc
 have hlt := (List.getElem?_eq_some_iff.1 hi).1
 obtain ⟨hge, last, hit, hset⟩ := yN hn
 have hpf : ji s it i = s.put it (.iter m since seen last i) := by unfold ji; rw [hit]
 obtain ⟨G', g1, g2, g3⟩ := hp i
 have hval : (zS it m since seen cl i (ji s it i) c).1 = (zS it m since seen cl i s c).1 := by
  cases c with
  | none => rfl
  | some t => rfl
 have hstep : ops (oE (YK g) u :: ds) k e (ji s it i) = ops ds k (u e (zS it m since seen cl i s c).1) (zS it m since seen cl i (ji s it i) c).2 := by
  simp only [ops]
  unfold aa oE YK
  rw [hpf, hset i]
  simp only [xT, hi]
  rw [← hpf, hval]
 have hne := hne i hlt
 rw [hstep] at hne
 have hst : SR G' (zS it m since seen cl i (ji s it i) c).2 w' ∧ fD G s w G' (zS it m since seen cl i (ji s it i) c).2 w' := by
  cases c with
  | none =>
    have g1 : fD G s w G' s w' := g1
    have g2 : SR G' s w' := g2
    show SR G' (ji s it i) w' ∧ fD G s w G' (ji s it i) w'
    rw [hpf]
    obtain ⟨l', mo, c1, _⟩ := g2.r.ob _ _ hit
    obtain ⟨b1, b2⟩ := g2.yW hit rfl c1 (Touch.refl _ _) ((g2.r.ob _ _ hit).pref (p' := i))
    exact ⟨b1, g1.trans b2⟩
  | some t =>
    have : (zS it m since seen cl i (ji s it i) (some t)).2 = (zS it m since seen cl i s (some t)).2 := by
     rw [hpf]
     unfold zS St.put
     simp only [T.set_set]
    rw [this]
    exact ⟨g2, g1⟩
 have hop := tN hk (os := os) 1 (fun j => by
  have : os.toList[j + 1]? = l[j]? := by rw [hl]; rfl
  rw [← this, Array.getElem?_toList, Nat.add_comm]) h hne ((he.mono g1.le).dst hd g3) hst.1
 exact iH (fun _ _ _ hq => ⟨i, hlt, by rw [hstep]; exact Ends.from hst.2 hq⟩) hop
end
end
end Go.Proofs.YtcgdlgbomjnnnaaGreatLab
/- The jL: strings of bytes, bytes of strings; structs held against one another; slices of an array's address; calls through interfaces; entries of maps; deletions. No condition on the program. -/
namespace Go.Proofs.YtcgdlgbomjnnnaaGreatLab
open Go
set_option linter.all false
noncomputable section
section
variable {P : Program} {tt : TT} (H : qW P tt) {nt : Nat} {gl : List Nat} {o : Oper} {x y z : Operand} {g h i : E → V}
include H in
/-! ### Calls through interfaces -/
inductive RM where
 | self
 | ld (ag : Bool) (n : Nat)
include H in
include H in
include H in
def QN (v : V) : List (V × V) → Nat → List (V × V)
 | [], _ => []
 | p :: es, n => Nat.rec (motive := fun _ => List (V × V)) ((p.1, v) :: es) (fun n _ => p :: QN v es n) n
end
end
end Go.Proofs.YtcgdlgbomjnnnaaGreatLab
