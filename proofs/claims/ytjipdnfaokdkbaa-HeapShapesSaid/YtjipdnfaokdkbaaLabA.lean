/- The lab: append, copy, make. No condition on the program. -/
import Derived.Test.YtjipdnfaokdkbaaLab9
namespace Go.Proofs.YtjipdnfaokdkbaaLab
open Go
set_option linter.unusedVariables false
noncomputable section

/-! ### What a slice or a text holds -/
/-- How many elements; their cells. -/
def srcOf (es : Nat) (s : St) : V → Option (Nat × List V)
  | .nils => some (0, [])
  | .slice b o len _ es' => Bool.casesOn (motive := fun _ => Option (Nat × List V)) (Nat.beq es' es) none
      (Nat.rec (motive := fun _ => Option (Nat × List V)) (some (0, [])) (fun _ _ => match rdOf s b with
        | some (n, xs) => Bool.casesOn (motive := fun _ => Option (Nat × List V)) (Nat.ble (Nat.add o (Nat.mul len es)) n) none (match ldc xs (Nat.mul len es) o with | some l => some (len, l) | none => none)
        | none => none) len)
  | .str l => Bool.casesOn (motive := fun _ => Option (Nat × List V)) (Nat.beq es 1) none (some (l.length, l.map fun c => .int .u8 (Int.ofNat c)))
  | _ => none
theorem srcOf_run {P : Program} {G : Pl} {s : St} {w : World} (hr : R G s.heap.get w) {es n : Nat} {x : V} {x' : Value} {l : List V} (h : srcOf es s x = some (n, l)) (hx : VR G x x') :
    (Builtin.lenOf x').run P w = .ok n w ∧ ∃ l', (∀ w2 : World, w2.heap = w.heap → (Builtin.firstCells es n x').run P w2 = .ok ⟨l'⟩ w2) ∧ VRs G l l' ∧ (∀ v ∈ l', v.oneCell' = true) ∧ l'.length = n * es := by
  unfold srcOf at h
  split at h
  · cases h; cases hx
    exact ⟨rfl, [], fun _ _ => rfl, .nil, (fun v h => by cases h), by simp⟩
  · rename_i b o len cap es'
    obtain ⟨l0, a, c, rfl, hl, hc, _, ha, _⟩ := hx.slice_inv
    cases e1 : Nat.beq es' es with
    | false => rw [e1] at h; cases h
    | true =>
      rw [e1] at h
      have := Nat.eq_of_beq_eq_true e1
      subst this
      cases len with
      | zero =>
        cases h
        exact ⟨rfl, [], fun _ _ => by simp [Builtin.firstCells, loadCells, loadCellsFrom], .nil, (fun v h => by cases h), by simp⟩
      | succ k =>
        simp only at h
        split at h
        · rename_i m xs hb
          rw [nble_eq] at h
          by_cases hle : o + (k + 1) * es' ≤ m
          · simp only [Nat.add_eq, Nat.mul_eq, hle, decide_true] at h
            split at h
            · rename_i vs hvs
              cases h
              have ha : a = ⟨l0.blk, l0.base + o, none⟩ := ha.resolve_left (by omega)
              subst ha
              obtain ⟨vs', a1, a2, a3⟩ := ldc_run (P := P) hr hb hl hvs hle
              refine ⟨rfl, vs', fun w2 hw2 => by simp only [Builtin.firstCells]; exact a1 w2 hw2, a2, a3, ?_⟩
              rw [← a2.length]; exact (ldc_ok hvs).1
            · cases h
          · simp only [Nat.add_eq, Nat.mul_eq, hle, decide_false] at h; cases h
        · cases h
  · rename_i l0
    cases e1 : Nat.beq es 1 with
    | false => rw [e1] at h; cases h
    | true =>
      rw [e1] at h
      have := Nat.eq_of_beq_eq_true e1
      subst this
      cases h
      obtain ⟨bs, rfl, rfl⟩ := hx.str_inv
      have hsz : (bs.data.toList.map UInt8.toNat).length = bs.size := by rw [List.length_map, Array.length_toList]; rfl
      refine ⟨by rw [hsz]; rfl, bs.data.toList.map (fun b => .int .u8 b.toNat), ?_, ?_, ?_, ?_⟩
      · intro w2 _
        rw [hsz]
        have : bs.extract 0 bs.size = bs := ByteArray.extract_zero_size
        simp only [Builtin.firstCells, this, Sem.run_pure]
        congr 1
        cases bs.data; simp
      · have key : ∀ l : List UInt8, VRs G ((l.map UInt8.toNat).map fun c => V.int .u8 (Int.ofNat c)) (l.map fun b => .int .u8 b.toNat) := by
          intro l
          induction l with
          | nil => exact .nil
          | cons c l ih => exact .cons _ _ _ _ (.int _ _) ih
        exact key _
      · intro v hv
        obtain ⟨c, _, rfl⟩ := List.mem_map.1 hv
        rfl
      · simp
  · cases h

theorem srcOf_inv {es n b o len es' : Nat} {cap : Option Nat} {s : St} {l : List V} (h : srcOf es s (.slice b o len cap es') = some (n, l)) : n = len ∧ l.length = len * es ∧ ∀ m xs, rdOf s b = some (m, xs) → ∀ i x, l[i]? = some x → xs (o + i) = some x ∧ o + i < m := by
  unfold srcOf at h
  simp only at h
  cases e1 : Nat.beq es' es with
  | false => rw [e1] at h; cases h
  | true =>
    rw [e1] at h
    cases len with
    | zero => cases h; exact ⟨rfl, by simp, fun m xs _ i x hi => by simp at hi⟩
    | succ k =>
      simp only at h
      split at h
      · rename_i m xs hb
        rw [nble_eq] at h
        by_cases hle : o + (k + 1) * es ≤ m
        · simp only [Nat.add_eq, Nat.mul_eq, hle, decide_true] at h
          split at h
          · rename_i vs hvs
            cases h
            obtain ⟨h1, h2⟩ := ldc_ok hvs
            refine ⟨rfl, h1, fun m' xs' hb' i x hi => ?_⟩
            rw [hb] at hb'; cases hb'
            have hlt := (List.getElem?_eq_some_iff.1 hi).1
            obtain ⟨y, a1, a2⟩ := h2 i (by omega)
            rw [hi] at a1; cases a1
            exact ⟨a2, by omega⟩
          · cases h
        · simp only [Nat.add_eq, Nat.mul_eq, hle, decide_false] at h; cases h
      · cases h

/-! ### Append -/
/-- A new row for what was there and what comes. -/
def apNew (es n : Nat) (old new : List V) (s : St) : Option (V × St) :=
  some (.slice s.next 0 n none es, s.new (.cells (Nat.mul n es) (ofL (old ++ new))))
/-- The row goes on under a new name; the old one is given up. -/
def apMove (es n b : Nat) (old new : List V) (s : St) : Option (V × St) :=
  some (.slice s.next 0 n none es, (s.put b .dead).new (.cells (Nat.mul n es) (ofL (old ++ new))))
def apV (es : Nat) (x : V) (n : Nat) (new : List V) (s : St) : Option (V × St) := match x with
  | .nils => Nat.rec (motive := fun _ => Option (V × St)) (some (.nils, s)) (fun _ _ => apNew es n [] new s) n
  | .slice b o len cap es' => Bool.casesOn (motive := fun _ => Option (V × St)) (Nat.beq es' es) none
      (Nat.rec (motive := fun _ => Option (V × St)) (some (.slice b o len cap es, s)) (fun _ _ =>
        match cap with
        | some c => Bool.casesOn (motive := fun _ => Option (V × St)) (Nat.ble (Nat.add len n) c)
            (match srcOf es s x with | some (_, old) => apNew es (Nat.add len n) old new s | none => none)
            (match blkOf s b with
             | some (m, xs) => Bool.casesOn (motive := fun _ => Option (V × St)) (Nat.ble (Nat.add (Nat.add o (Nat.mul len es)) (Nat.mul n es)) m) none (some (.slice b o (Nat.add len n) (some c) es, s.put b (.cells m (setL xs (Nat.add o (Nat.mul len es)) new))))
             | none => none)
        | none => match blkOf s b with | some _ => (match srcOf es s x with | some (_, old) => apMove es (Nat.add len n) b old new s | none => none) | none => none) n)
  | _ => none
def eAp (es : Nat) (g h : E → V) (_ : KC) (e : E) (s : St) : Option (V × St) := match srcOf es s (h e) with
  | some (n, new) => Bool.casesOn (motive := fun _ => Option (V × St)) (allOne new) none (Bool.casesOn (motive := fun _ => Option (V × St)) (Nat.ble n 100000000) none (match (g e) with
      | .slice b o len cap es' => Bool.casesOn (motive := fun _ => Option (V × St)) (Nat.ble len 100000000) none (apV es (.slice b o len cap es') n new s)
      | x => apV es x n new s))
  | none => none

section
variable {P : Program} {tt : TT} (H : TOk P tt) {nt : Nat} {gl : List Nat} {o : Oper} {x y : Operand} {g h : E → V}
/-- The run of append, as far as it hangs on the room alone. -/
theorem append_room_run {w w' : World} {t1 t2 ty el es n : Nat} {a : Addr} {len cap : Nat} {y' : Value} {new : Array Value} (h1 : (underlying t1).run P w = .ok (.slice el) w) {d2 : TypeDesc} (h2 : (underlying t2).run P w = .ok d2 w) (hd2 : ∀ k, d2 ≠ .int k) (hz : (sizeOf el).run P w = .ok es w)
    (hl : (Builtin.lenOf y').run P w = .ok n w) (hf : (Builtin.firstCells es n y').run P w = .ok new w) (hcap : len + n ≤ cap) (hst : (storeCells (a.add (len * es)) new.toList).run P w = .ok () w') :
    (Builtin.append_ #[t1, t2] ty #[.slice (some a) len cap, y']).run P w = .ok (.slice (some a) (len + n) cap) w' := by
  have hm : (match d2 with | .int _ => true | _ => false) = false := by cases d2 <;> first | rfl | exact absurd rfl (hd2 _)
  simp [Builtin.append_, h1, h2, hz, hl, hf, hcap, hst]
theorem append_grow_run {w : World} {t1 t2 ty el es n : Nat} {ti : TypeInfo} {zv : Value} {b : Option Addr} {len cap : Nat} {y' : Value} {old new : Array Value} (h1 : (underlying t1).run P w = .ok (.slice el) w) {d2 : TypeDesc} (h2 : (underlying t2).run P w = .ok d2 w) (hd2 : ∀ k, d2 ≠ .int k) (hz : (sizeOf el).run P w = .ok es w)
    (hti : ∀ w, (typeInfo el).run P w = .ok ti w) (hzv : ti.zero = some zv) (hby : 0 < ti.bytes) (hfit : (len + n) * ti.bytes ≤ 140737488355328)
    (hl : (Builtin.lenOf y').run P w = .ok n w) (hf : ∀ k, (Builtin.firstCells es n y').run P { w with drawn := k } = .ok new { w with drawn := k }) (hcap : ¬ len + n ≤ cap) (ho : ∀ k, (Builtin.firstCells es len (.slice b len cap)).run P { w with drawn := k } = .ok old { w with drawn := k }) :
    ∃ c rest k, len + n ≤ c ∧ (Builtin.append_ #[t1, t2] ty #[.slice b len cap, y']).run P w = .ok (.slice (some ⟨w.heap.size, 0, none⟩) (len + n) c) (World.alloc { w with drawn := k } (.cells (old ++ new ++ rest) el)) ∧ rest.size = (c - (len + n)) * zv.cells.size := by
  have hm : (match d2 with | .int _ => true | _ => false) = false := by cases d2 <;> first | rfl | exact absurd rfl (hd2 _)
  have hov : ¬ (281474976710656 < Builtin.nextslicecap (len + n) cap * ti.bytes) := by
    have := growslice_fits (need := len + n) (old := cap) (bytes := ti.bytes) (by omega) hfit
    omega
  have hb0 : ¬ ti.bytes = 0 := by omega
  have hq : (Question.appendCap (len + n) cap el).forced = false := rfl
  refine ⟨(Question.appendCap (len + n) cap el).cut (w.tape w.drawn (.appendCap (len + n) cap el)), Builtin.zeroCells zv.cells ((Question.appendCap (len + n) cap el).cut (w.tape w.drawn (.appendCap (len + n) cap el)) - (len + n)), w.drawn + 1, Nat.le_add_right _ _, ?_, size_zeroCells _ _⟩
  have hf' := hf (w.drawn + 1)
  have ho' := ho (w.drawn + 1)
  have hf' : (Builtin.firstCells es n y').run P w.drew = .ok new w.drew := hf (w.drawn + 1)
  have ho' : (Builtin.firstCells es len (.slice b len cap)).run P w.drew = .ok old w.drew := ho (w.drawn + 1)
  simp [Builtin.append_, h1, h2, hz, hl, hcap, hti, hb0, hov, hq, zeroValue, hzv, newRow, hf', ho']

theorem VRs.one_append {l r : List Value} (h1 : ∀ v ∈ l, v.oneCell' = true) (h2 : ∀ v ∈ r, v.oneCell' = true) : ∀ v ∈ l ++ r, v.oneCell' = true := by
  intro v hv
  rcases List.mem_append.1 hv with h | h
  · exact h1 v h
  · exact h2 v h
/-- A new row whose first cells are known. -/
theorem ObR.rowOf {G : Pl} {w w' : World} {id el : Nat} {l : List V} {l' : List Value} {rest : Array Value} {c : Array Value} (hc : c = ⟨l'⟩ ++ rest) (hw : Grew (.cells c el) w w') (hl : VRs G l l') (h1 : ∀ v ∈ l', v.oneCell' = true) (hid : G id = some ⟨w.heap.size, 0, c.size⟩) {n : Nat} (hn : n = l.length) : ObR G w' id (.cells n (ofL l)) := by
  subst hn
  refine ⟨_, c, el, (0, 0), hid, hw.new, .inl rfl, rfl, by rw [hc]; simp [hl.length], fun i x hi hx => ?_⟩
  obtain ⟨x', a1, a2⟩ := hl.get (ofL_get hx)
  refine ⟨x', ?_, a2, h1 x' (List.mem_of_getElem? a1)⟩
  have hlt := (List.getElem?_eq_some_iff.1 a1).1
  simp only [Nat.zero_add, hc]
  rw [Array.getElem?_append_left (by simpa using hlt)]
  simpa using a1

include H in
theorem eAp_ok {t1 t2 el es : Nat} {ti : TypeInfo} {zv : Value} {d2 : TypeDesc} (ho : isB2 o .append t1 t2 x y) (ht1 : tt.ud t1 = some (.slice el)) (ht2 : tt.ud t2 = some d2) (hd2 : ∀ k, d2 ≠ .int k) (hz : tt.sz el = some es)
    (hti : tt.ti el = some ti) (hzv : ti.zero = some zv) (hzs : zv.cells.size = es) (hby : 0 < ti.bytes) (hby2 : ti.bytes ≤ 65536) (hg : opd gl x = some g) (hh : opd gl y = some h) : OEs P o nt gl (eAp es g h) := by
  intro k _ G e a s w v s' hv he hs
  have hx := opd_ok hg he
  have hy := opd_ok hh he
  have hex : execOp a.eval o = (do pure (.value (← Builtin.append_ #[t1, t2] o.type #[a.eval x, a.eval y]))) := by
    simp [execOp, isB2] at *; simp [ho, resolve, invoke, builtin]
  unfold eAp at hv
  split at hv
  · rename_i n new hsrc
    obtain ⟨s1, new', s2, s3, s4, s5⟩ := srcOf_run (P := P) hs.r hsrc hy
    cases e1 : allOne new with
    | false => rw [e1] at hv; cases hv
    | true =>
      rw [e1, nble_eq] at hv
      by_cases hnn : n ≤ 100000000
      · simp only [hnn, decide_true] at hv
        -- a row made anew
        have grow : ∀ (b : Option Addr) (len cap : Nat) (old : List V) (old' : List Value), a.eval x = .slice b len cap → len ≤ 100000000 → ¬ len + n ≤ cap → (∀ w2 : World, w2.heap = w.heap → (Builtin.firstCells es len (.slice b len cap)).run P w2 = .ok ⟨old'⟩ w2) → VRs G old old' → (∀ v ∈ old', v.oneCell' = true) → old'.length = len * es →
            ∀ s0 : St, s0.next = s.next → SR G s0 w → GoS G s w G s0 w →
            Did P o a w (Post G s w (.slice s0.next 0 (len + n) none es) (s0.new (.cells ((len + n) * es) (ofL (old ++ new))))) := by
          intro b len cap old old' hax hlen hcap hold hvo hvo1 holen s0 hnx hs0 hgo
          obtain ⟨c, rest, kk, hc1, hc2, hc3⟩ := append_grow_run (P := P) (w := w) (t1 := t1) (t2 := t2) (ty := o.type) (el := el) (es := es) (n := n) (b := b) (len := len) (cap := cap) (y' := a.eval y) (old := ⟨old'⟩) (new := ⟨new'⟩) (ud_run H w ht1) (ud_run H w ht2) hd2 (sz_run H w hz) (fun w => ti_run H w hti) hzv hby
            (by have : (len + n) * ti.bytes ≤ 200000000 * 65536 := Nat.mul_le_mul (by omega) hby2; omega) s1 (fun kk => s2 _ rfl) hcap (fun kk => hold _ rfl)
          have hlen3 := s3.length
          have hlen4 := hvo.length
          have hgw : Grew (.cells ((⟨old'⟩ : Array Value) ++ ⟨new'⟩ ++ rest) el) w (World.alloc { w with drawn := kk } (.cells ((⟨old'⟩ : Array Value) ++ ⟨new'⟩ ++ rest) el)) := (Grew.alloc _ _).drawn
          have hcells : ((⟨old'⟩ : Array Value) ++ ⟨new'⟩ ++ rest) = ⟨old' ++ new'⟩ ++ rest := by simp
          have hid : G s0.next = none := by
            cases hq : G s0.next with
            | none => rfl
            | some l => exact absurd (hs0.dom _ _ hq).1 (Nat.lt_irrefl _)
          obtain ⟨r1, r2⟩ := hs0.grew (tot := ((⟨old'⟩ : Array Value) ++ ⟨new'⟩ ++ rest).size) hgw (ObR.rowOf (n := (len + n) * es) hcells hgw ((hvo.append s3).mono (Pl.le_add hid)) (VRs.one_append hvo1 s4) (Pl.add_at _ _ _) (by simp only [List.length_append]; rw [Nat.add_mul]; omega))
          refine Did.value (w' := _) (v := .slice (some ⟨w.heap.size, 0, none⟩) (len + n) c) (by rw [hex, hax]; simp only [Sem.run_bind, hc2, Result.andThen_ok, Sem.run_pure]) ⟨_, hgo.trans r2, r1, ?_⟩
          refine .slice _ _ _ _ _ _ _ _ (Pl.add_at _ _ _) hc1 (fun k hk => by cases hk) (.inr (by simp)) (.inr ?_)
          have : (len + n) * es + (c - (len + n)) * es = c * es := by rw [← Nat.add_mul]; congr 1; omega
          have h5 : len * es + n * es = (len + n) * es := (Nat.add_mul _ _ _).symm
          simp [hc3, hzs]
          omega
        split at hv
        · rename_i b o' len cap es' hge
          rw [hge] at hx
          obtain ⟨l, a', c, hax, hl, hc, hcap, ha, htot⟩ := hx.slice_inv
          rw [nble_eq] at hv
          by_cases hll : len ≤ 100000000
          · simp only [hll, decide_true] at hv
            unfold apV at hv
            simp only at hv
            cases e2 : Nat.beq es' es with
            | false => rw [e2] at hv; cases hv
            | true =>
              rw [e2] at hv
              have := Nat.eq_of_beq_eq_true e2
              subst this
              have hlen3 := s3.length
              cases n with
              | zero =>
                cases hv
                have hn0 : new' = [] := by cases new' with | nil => rfl | cons _ _ => simp at s5
                subst hn0
                refine Did.value (w' := w) (v := .slice (some a') (len + 0) c) ?_ ⟨G, GoS.refl _ _ _, hs, by rw [Nat.add_zero, ← hax]; exact hx⟩
                rw [hex, hax]
                simp only [Sem.run_bind, append_room_run (ty := o.type) (ud_run H w ht1) (ud_run H w ht2) hd2 (sz_run H w hz) s1 (s2 w rfl) (show len + 0 ≤ c by omega) rfl, Result.andThen_ok, Sem.run_pure]
              | succ n' =>
                simp only at hv
                cases cap with
                | some c0 =>
                  have := hcap c0 rfl
                  subst this
                  simp only at hv
                  rw [nble_eq] at hv
                  by_cases hroom : len + (n' + 1) ≤ c
                  · simp only [Nat.add_eq, hroom, decide_true] at hv
                    split at hv
                    · rename_i m xs hbk
                      have hbk := blkOf_inv hbk
                      rw [nble_eq] at hv
                      by_cases hfit : o' + len * es' + (n' + 1) * es' ≤ m
                      · simp only [Nat.mul_eq, hfit, decide_true] at hv
                        cases hv
                        obtain ⟨w', c1, c2, c3⟩ := hs.cells (P := P) (o := o' + len * es') hbk hl s3 s4 (by omega)
                        have ha := ha.resolve_left (by omega)
                        refine Did.value (w' := w') (v := .slice (some a') (len + (n' + 1)) c) ?_ ⟨G, c3, c2, .slice _ _ _ _ _ _ l _ hl hroom (fun k hk => Option.some.inj hk) (.inr ha) htot⟩
                        rw [hex, hax]
                        have hst : (storeCells (a'.add (len * es')) new').run P w = .ok () w' := by rw [ha, add_at, Nat.add_assoc]; exact c1
                        simp only [Sem.run_bind, append_room_run (ty := o.type) (ud_run H w ht1) (ud_run H w ht2) hd2 (sz_run H w hz) s1 (s2 w rfl) hroom hst, Result.andThen_ok, Sem.run_pure]
                      · simp only [Nat.mul_eq, hfit, decide_false] at hv; cases hv
                    · cases hv
                  · simp only [Nat.add_eq, hroom, decide_false] at hv
                    split at hv
                    · rename_i old hso
                      cases hv
                      obtain ⟨_, old', p2, p3, p4, p5⟩ := srcOf_run (P := P) hs.r hso hx
                      obtain ⟨q1, _⟩ := srcOf_inv hso
                      have q1 := q1.symm; subst q1
                      rw [hax] at p2
                      exact grow _ _ _ old old' hax hll hroom p2 p3 p4 p5 s rfl hs (GoS.refl _ _ _)
                    · cases hv
                | none =>
                  simp only at hv
                  split at hv
                  · rename_i bk hbk0
                    obtain ⟨m, xs⟩ := bk
                    have hbk := blkOf_inv hbk0
                    split at hv
                    · rename_i old hso
                      cases hv
                      obtain ⟨_, old', p2, p3, p4, p5⟩ := srcOf_run (P := P) hs.r hso hx
                      obtain ⟨q1, q2, q3⟩ := srcOf_inv hso
                      have q1 := q1.symm; subst q1
                      by_cases hroom : len + (n' + 1) ≤ c
                      · have ha := ha.resolve_left (by omega)
                        have htot := htot.resolve_left (by omega)
                        obtain ⟨l2, carr, elm, fz, a1, a2, a3, a4, a5, a6⟩ := hs.r.ob b _ hbk
                        rw [hl] at a1; cases a1
                        have hmul : len * es' + (n' + 1) * es' = (len + (n' + 1)) * es' := (Nat.add_mul _ _ _).symm
                        have hmul2 : (len + (n' + 1)) * es' ≤ c * es' := Nat.mul_le_mul_right _ hroom
                        have hrun := storeCells_run (P := P) l.blk (l.base + o' + len * es') elm fz new' 0 carr w a2 a3 (by omega) s4
                        simp only [Nat.add_zero] at hrun
                        have hid : G s.next = none := by
                          cases hq : G s.next with
                          | none => rfl
                          | some l => exact absurd (hs.dom _ _ hq).1 (Nat.lt_irrefl _)
                        have hcl : carr.toList.length = carr.size := by simp
                        obtain ⟨r1, r2⟩ := hs.move (l' := ⟨l.blk, l.base + o', l.tot⟩) (o' := .cells ((len + (n' + 1)) * es') (ofL (old ++ new))) (w' := w.setRow l.blk (carr.toList.take (l.base + o' + len * es') ++ new' ++ carr.toList.drop (l.base + o' + len * es' + new'.length)).toArray) hbk rfl hl rfl Touch.setRow (by
                          refine ⟨_, _, elm, fz, Pl.add_at _ _ _, setRow_heap w l.blk carr _ elm fz a2, ?_, ?_, by simp only; omega, fun i x hi hx => ?_⟩
                          · rcases a3 with a3 | a3
                            · exact .inl a3
                            · right; simp; omega
                          · rw [← a4]; simp; omega
                          · have hx := ofL_get hx
                            by_cases hio : i < len * es'
                            · rw [List.getElem?_append_left (by omega)] at hx
                              obtain ⟨g1, g2⟩ := q3 m xs.get (rdOf_cells (blkOf_inv hbk0)) i x hx
                              obtain ⟨x', c1, c2, c3⟩ := a6 (o' + i) x g2 g1
                              refine ⟨x', ?_, c2.mono (Pl.le_add hid), c3⟩
                              simp only [List.getElem?_toArray]
                              have c1' : carr.toList[l.base + (o' + i)]? = some x' := by simpa using c1
                              rw [List.append_assoc, List.getElem?_append_left (by simp; omega), List.getElem?_take, if_pos (by omega), Nat.add_assoc]
                              exact c1'
                            · rw [List.getElem?_append_right (by omega), q2] at hx
                              obtain ⟨x', c1, c2⟩ := s3.get hx
                              have hlt := (List.getElem?_eq_some_iff.1 c1).1
                              refine ⟨x', ?_, c2.mono (Pl.le_add hid), s4 x' (List.mem_of_getElem? c1)⟩
                              simp only [List.getElem?_toArray]
                              rw [List.append_assoc, List.getElem?_append_right (by simp; omega), List.getElem?_append_left (by simp; omega)]
                              rw [← c1]; congr 1; simp; omega)
                        refine Did.value (w' := _) (v := .slice (some a') (len + (n' + 1)) c) ?_ ⟨_, r2, r1, .slice _ _ _ _ _ _ _ _ (Pl.add_at _ _ _) hroom (fun k hk => by cases hk) (.inr (by rw [ha]; simp)) (.inr (by simp only; omega))⟩
                        rw [hex, hax]
                        have hst : (storeCells (a'.add (len * es')) new').run P w = .ok () (w.setRow l.blk (carr.toList.take (l.base + o' + len * es') ++ new' ++ carr.toList.drop (l.base + o' + len * es' + new'.length)).toArray) := by rw [ha, add_at]; exact hrun
                        simp only [Sem.run_bind, append_room_run (ty := o.type) (ud_run H w ht1) (ud_run H w ht2) hd2 (sz_run H w hz) s1 (s2 w rfl) hroom hst, Result.andThen_ok, Sem.run_pure]
                      · rw [hax] at p2
                        obtain ⟨k1, k2⟩ := hs.kill (id := b) (hs.dom b l hl).1
                        exact grow _ _ _ old old' hax hll hroom p2 p3 p4 p5 (s.put b .dead) rfl k1 k2
                    · cases hv
                  · cases hv
          · simp only [hll, decide_false] at hv; cases hv
        · rename_i u hnot
          unfold apV at hv
          split at hv
          · rename_i hge
            rw [hge] at hx
            generalize hax : a.eval x = x' at hx
            cases hx
            cases n with
            | zero =>
              cases hv
              have hn0 : new' = [] := by cases new' with | nil => rfl | cons _ _ => simp at s5
              subst hn0
              refine Did.value (w' := w) (v := .slice none 0 0) ?_ ⟨G, GoS.refl _ _ _, hs, .nils⟩
              rw [hex, hax]
              simp [Builtin.append_, ud_run H w ht1, ud_run H w ht2, sz_run H w hz, s1, s2 w rfl]
            | succ n' =>
              cases hv
              have := grow none 0 0 [] [] hax (by omega) (by omega) (fun w2 _ => by simp [Builtin.firstCells]) .nil (fun v h => by cases h) (by simp) s rfl hs (GoS.refl _ _ _)
              simpa using this
          · exact absurd ‹_› (hnot _ _ _ _ _)
          · cases hv
      · simp only [hnn, decide_false] at hv; cases hv
  · cases hv
end
end
end Go.Proofs.YtjipdnfaokdkbaaLab
