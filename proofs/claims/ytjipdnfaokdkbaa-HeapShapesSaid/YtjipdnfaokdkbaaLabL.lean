/- The lab: rows made with a length that is reckoned; copies; rows that are cleared. No condition on the program. -/
import Derived.Test.YtjipdnfaokdkbaaLabB
namespace Go.Proofs.YtjipdnfaokdkbaaLab
open Go
set_option linter.unusedVariables false
noncomputable section
section
variable {P : Program} {tt : TT} (H : TOk P tt) {nt : Nat} {gl : List Nat} {o : Oper} {x y : Operand} {g h : E → V}

/-- make([]T, l, c). -/
def aMkS (es bytes : Nat) (z : List V) (g h : E → V) (e : E) (id : Nat) : Option (V × Ob) := match asN (g e), asN (h e) with
  | some (.ofNat l), some (.ofNat c) => Bool.casesOn (motive := fun _ => Option (V × Ob)) (Nat.ble l c) none (Bool.casesOn (motive := fun _ => Option (V × Ob)) (Nat.ble (Nat.mul c bytes) 16777216) none (Bool.casesOn (motive := fun _ => Option (V × Ob)) (Nat.ble c 16777216) none
      (some (.slice id 0 l (some c) es, .cells (Nat.mul c es) (ofL (zer (Nat.mul c es) z))))))
  | _, _ => none
theorem zer_one {z : List V} {n : Nat} (h : allOne z = true) (hz : 0 < n → z ≠ []) : allOne (zer n z) = true := by
  have key : ∀ (l : List V), (∀ v ∈ l, v.one = true) → allOne l = true := by
    intro l
    induction l with
    | nil => intro _; rfl
    | cons v l ih => intro hl; unfold allOne; rw [hl v (by simp)]; exact ih (fun u hu => hl u (by simp [hu]))
  have key2 : ∀ (l : List V), allOne l = true → ∀ v ∈ l, v.one = true := by
    intro l
    induction l with
    | nil => intro _ v hv; cases hv
    | cons u l ih =>
      intro hl v hv
      unfold allOne at hl
      cases e : u.one with
      | false => rw [e] at hl; cases hl
      | true =>
        rw [e] at hl
        rcases List.mem_cons.1 hv with rfl | hv
        · exact e
        · exact ih hl v hv
  refine key _ fun v hv => ?_
  obtain ⟨i, hi, rfl⟩ := List.mem_map.1 hv
  have hz := hz (by have := List.mem_range.1 hi; omega)
  have hlt : i % z.length < z.length := Nat.mod_lt _ (List.length_pos_iff.2 hz)
  rw [List.getElem?_eq_getElem hlt, Option.getD_some]
  exact key2 z h _ (List.getElem_mem hlt)
theorem zer_len (n : Nat) (z : List V) : (zer n z).length = n := by simp [zer]
include H in
theorem aMkS_ok {t el es : Nat} {ti : TypeInfo} {zv : Value} {z0 : V} {z : List V} (ho : o.op = .makeSlice t x y) (ht : tt.ud t = some (.slice el)) (hti : tt.ti el = some ti) (hz : ti.zero = some zv) (hzv : lowV 300 zv = some z0) (hzc : cellsV z0 = some z) (h1 : allOne z = true)
    (hn : tt.sz el = some es) (hne : es = 0 ∨ z ≠ []) (hg : opd gl x = some g) (hh : opd gl y = some h) : OAs P o nt gl (aMkS es ti.bytes z g h) := by
  intro G e a id w v ob hv he hid
  have hx := opd_ok hg he
  have hy := opd_ok hh he
  unfold aMkS at hv
  split at hv
  · rename_i l c hl hc
    obtain ⟨k1, hx⟩ := asN_ok hl hx
    obtain ⟨k2, hy⟩ := asN_ok hc hy
    rw [nble_eq, nble_eq, nble_eq] at hv
    by_cases e1 : l ≤ c
    · by_cases e2 : Nat.mul c ti.bytes ≤ 16777216
      · by_cases e3 : c ≤ 16777216
        · simp only [e1, e2, e3, decide_true] at hv
          cases hv
          simp only [Nat.mul_eq] at e2 ⊢
          obtain ⟨z', b1, b2⟩ := cellsV_ok hzc (lowV_ok hzv G)
          have w1 : IntKind.i64.wrap (Int.ofNat l) = (l : Int) := IntWalk.i64_in _ (by simp only [Int.ofNat_eq_natCast]; omega)
          have w2 : IntKind.i64.wrap (Int.ofNat c) = (c : Int) := IntWalk.i64_in _ (by simp only [Int.ofNat_eq_natCast]; omega)
          have hb : (ti.bytes : Int) * (c : Int) ≤ 16777216 := by
            have : ((c * ti.bytes : Nat) : Int) ≤ 16777216 := Int.ofNat_le.2 e2
            rw [Int.natCast_mul, Int.mul_comm] at this; exact this
          have hroom : ¬ c * ti.bytes > roomBytes := by have : roomBytes = 140737488355328 := rfl; omega
          have hbig : ¬ (ti.bytes : Int) * (c : Int) > 2 ^ 48 := by omega
          have hlc : ¬ ((l : Int) > (c : Int)) := by omega
          obtain ⟨q, hq1, hq2⟩ : ∃ q : Array Value, (if c * es = 0 then (pure #[] : Sem (Array Value)) else do pure (← zeroValue el).cells).run P w = .ok q w ∧ VRs G (zer (c * es) z) ((Array.range (c * es)).map (fun i => q[i % q.size]!)).toList := by
            by_cases h0 : c * es = 0
            · rw [if_pos h0, h0]; exact ⟨#[], rfl, by simpa [zer] using VRs.nil⟩
            · rw [if_neg h0]; exact ⟨zv.cells, by simp only [Sem.run_bind, zero_run H w hti hz, Result.andThen_ok, Sem.run_pure], by rw [b1]; exact zer_ok b2 _⟩
          obtain ⟨r', hr'⟩ : ∃ r' : List Value, ((Array.range (c * es)).map (fun i => q[i % q.size]!)) = ⟨r'⟩ := ⟨_, (Array.toArray_toList).symm⟩
          rw [hr'] at hq2
          have hone := allOne_ok (zer_one h1 (n := c * es) (fun hp => by
            rcases hne with h0 | h0
            · rw [h0] at hp; simp at hp
            · exact h0)) hq2
          have hlen := hq2.length
          rw [zer_len] at hlen
          have hob := ObR.row (G := G.add id ⟨w.heap.size, 0, r'.length⟩) (Grew.alloc w (.cells ⟨r'⟩ el)) (hq2.mono (Pl.le_add hid)) hone (Pl.add_at _ _ _)
          rw [zer_len] at hob
          refine ⟨.slice (some ⟨w.heap.size, 0, none⟩) l c, _, r'.length, w.alloc (.cells ⟨r'⟩ el), ?_, Grew.alloc _ _, .slice id 0 l es c (some c) _ _ (Pl.add_at _ _ _) e1 (fun k hk => Option.some.inj hk) (.inr (by simp)) (.inr (by simp only [Nat.zero_add]; exact Nat.le_of_eq hlen)), hob⟩
          have a1 : ∀ (k : IntKind) (m : Int), (asInt (.int k m)).run P w = .ok m w := fun k m => by simp [asInt, asIntOf]
          have c1 : ¬ ((c : Int) < 0) := by omega
          have c2 : ¬ ((l : Int) < 0) := by omega
          have c3 : (decide ((c : Int) < 0) || decide ((ti.bytes : Int) * (c : Int) > 2 ^ 48)) = false := by rw [decide_eq_false c1, decide_eq_false hbig]; rfl
          simp only [execOp, ho, Instr.makeSlice, Sem.run_bind, Result.andThen_ok, ud_run H w ht, hx, hy, a1, ti_run H w hti, w1, w2, c3, decide_eq_false c2, decide_eq_false hlc, Bool.or_false, Bool.false_eq_true, if_false, Sem.run_pure, askRoom, Int.toNat_natCast, if_neg hroom, sz_run H w hn]
          by_cases h0 : c * es = 0
          · rw [if_pos h0] at hq1; cases hq1
            simp only [if_pos h0, Sem.run_bind, Sem.run_pure, Result.andThen_ok, hr']
            simp [newRow]
          · rw [if_neg h0] at hq1
            simp only [Sem.run_bind, zero_run H w hti hz, Result.andThen_ok, Sem.run_pure] at hq1
            cases hq1
            simp only [if_neg h0, Sem.run_bind, zero_run H w hti hz, Sem.run_pure, Result.andThen_ok, hr']
            simp [newRow]
        · simp only [e1, e2, e3, decide_true, decide_false] at hv; cases hv
      · simp only [e1, e2, decide_true, decide_false] at hv; cases hv
    · simp only [e1, decide_false] at hv; cases hv
  · cases hv

/-- append(nil, make([]T, n)...). -/
def aApZ (es bytes : Nat) (z : List V) (g h : E → V) (e : E) (id : Nat) : Option (V × Ob) := match g e, asN (h e) with
  | .nils, some (.ofNat n) => Bool.casesOn (motive := fun _ => Option (V × Ob)) (Nat.beq n 0) (Bool.casesOn (motive := fun _ => Option (V × Ob)) (Nat.ble (Nat.mul n bytes) 16777216) none (Bool.casesOn (motive := fun _ => Option (V × Ob)) (Nat.ble n 16777216) none
      (some (.slice id 0 n none es, .cells (Nat.mul n es) (ofL (zer (Nat.mul n es) z)))))) none
  | _, _ => none
include H in
theorem aApZ_ok {t1 t2 el es : Nat} {kk : IntKind} {ti : TypeInfo} {zv : Value} {z0 : V} {z : List V} (ho : isB2 o .append t1 t2 x y) (ht1 : tt.ud t1 = some (.slice el)) (ht2 : tt.ud t2 = some (.int kk)) (hti : tt.ti el = some ti) (hz : ti.zero = some zv) (hzv : lowV 300 zv = some z0) (hzc : cellsV z0 = some z) (h1 : allOne z = true)
    (hn : tt.sz el = some es) (hzs : zv.cells.size = es) (hes : 0 < es) (hby : 0 < ti.bytes) (hne : z ≠ []) (hg : opd gl x = some g) (hh : opd gl y = some h) : OAs P o nt gl (aApZ es ti.bytes z g h) := by
  intro G e a id w v ob hv he hid
  have hx := opd_ok hg he
  have hy := opd_ok hh he
  have hex : execOp a.eval o = (do pure (.value (← Builtin.append_ #[t1, t2] o.type #[a.eval x, a.eval y]))) := by
    simp [execOp, isB2] at *; simp [ho, resolve, invoke, builtin]
  unfold aApZ at hv
  split at hv
  · rename_i n hge hc
    rw [hge] at hx
    obtain ⟨k2, hy⟩ := asN_ok hc hy
    generalize hax : a.eval x = x' at hx
    cases hx
    rw [nble_eq, nble_eq] at hv
    cases e0 : Nat.beq n 0 with
    | true => rw [e0] at hv; cases hv
    | false =>
      rw [e0] at hv
      have hn0 : 0 < n := Nat.pos_of_ne_zero (fun e => by rw [e] at e0; cases e0)
      by_cases e2 : Nat.mul n ti.bytes ≤ 16777216
      · by_cases e3 : n ≤ 16777216
        · simp only [e2, e3, decide_true] at hv
          cases hv
          simp only [Nat.mul_eq] at e2 ⊢
          obtain ⟨z', b1, b2⟩ := cellsV_ok hzc (lowV_ok hzv G)
          have w1 : IntKind.i64.wrap (n : Int) = (n : Int) := IntWalk.i64_in _ (by omega)
          have hb : (n : Int) * (ti.bytes : Int) ≤ 16777216 := by
            have : ((n * ti.bytes : Nat) : Int) ≤ 16777216 := Int.ofNat_le.2 e2
            rw [Int.natCast_mul] at this; exact this
          have hbig : ¬ ((281474976710656 : Int) < (n : Int) * (ti.bytes : Int)) := by omega
          have hov : ¬ (281474976710656 < Builtin.nextslicecap n 0 * ti.bytes) := by
            have := growslice_fits (need := n) (old := 0) (bytes := ti.bytes) (by omega) (by omega)
            omega
          have hmax : ¬ ((9223372036854775807 : Int) < (n : Int)) := by omega
          have hn1 : ¬ n = 0 := by omega
          have hq : (Question.appendCap n 0 el).forced = false := rfl
          have hnes : ¬ n * es = 0 := by have := Nat.mul_pos hn0 hes; omega
          have hcap : n ≤ (Question.appendCap n 0 el).cut (w.tape w.drawn (.appendCap n 0 el)) := Nat.le_add_right _ _
          generalize hcc : (Question.appendCap n 0 el).cut (w.tape w.drawn (.appendCap n 0 el)) = c at hcap
          have hzc' : Builtin.zeroCells zv.cells n = ((Array.range (n * es)).map (fun i => (⟨z'⟩ : Array Value)[i % (⟨z'⟩ : Array Value).size]!)) := by
            unfold Builtin.zeroCells; rw [← b1, hzs]
          have hq2 := zer_ok b2 (n * es)
          obtain ⟨r', hr'⟩ : ∃ r' : List Value, Builtin.zeroCells zv.cells n = ⟨r'⟩ := ⟨_, (Array.toArray_toList).symm⟩
          rw [← hzc', hr'] at hq2
          have hone := allOne_ok (zer_one h1 (n := n * es) (fun _ => hne)) hq2
          have hlen := hq2.length
          rw [zer_len] at hlen
          have hgw : Grew (.cells ((⟨r'⟩ : Array Value) ++ Builtin.zeroCells zv.cells (c - n)) el) w (World.alloc { w with drawn := w.drawn + 1 } (.cells ((⟨r'⟩ : Array Value) ++ Builtin.zeroCells zv.cells (c - n)) el)) := (Grew.alloc _ _).drawn
          have hsz : ((⟨r'⟩ : Array Value) ++ Builtin.zeroCells zv.cells (c - n)).size = c * es := by
            have := size_zeroCells zv.cells (c - n)
            rw [Array.size_append, this, hzs]
            simp only [List.size_toArray]
            rw [← hlen, ← Nat.add_mul]; congr 1; omega
          refine ⟨.slice (some ⟨w.heap.size, 0, none⟩) n c, _, ((⟨r'⟩ : Array Value) ++ Builtin.zeroCells zv.cells (c - n)).size, _, ?_, hgw, .slice _ _ _ _ _ _ _ _ (Pl.add_at _ _ _) hcap (fun k hk => by cases hk) (.inr (by simp)) (.inr (by simp only [Nat.zero_add]; omega)), ObR.rowOf rfl hgw (hq2.mono (Pl.le_add hid)) hone (Pl.add_at _ _ _) (by rw [zer_len])⟩
          have a1 : ∀ (k : IntKind) (m : Int), (asInt (.int k m)).run P w = .ok m w := fun k m => by simp [asInt, asIntOf]
          rw [Int.ofNat_eq_natCast] at hy
          rw [hex, hax, hy]
          have hb0 : ¬ ti.bytes = 0 := by omega
          have hti' : ∀ w, (typeInfo el).run P w = .ok ti w := fun w => ti_run H w hti
          have hfc : (Builtin.firstCells es 0 (.slice none 0 0)).run P w.drew = .ok #[] w.drew := by simp [Builtin.firstCells]
          simp [Builtin.append_, ud_run H w ht1, ud_run H w ht2, sz_run H w hn, a1, w1, hti', hbig, hb0, hov, hq, zeroValue, hz, newRow, hfc, hnes, hcc, hr', hmax, hn1]
          exact fun hq0 => absurd hq0 (by omega)
        · simp only [e2, e3, decide_true, decide_false] at hv; cases hv
      · simp only [e2, decide_false] at hv; cases hv
  · cases hv

/-- clear(s). -/
def eClr (z : List V) (g : E → V) (_ : KC) (e : E) (s : St) : Option (V × St) := match g e with
  | .nils => some (.tup [], s)
  | .slice b o len _ _ => Bool.casesOn (motive := fun _ => Option (V × St)) (Nat.beq len 0)
      (match blkOf s b with | some (n, xs) => Bool.casesOn (motive := fun _ => Option (V × St)) (Nat.ble (Nat.add o (Nat.mul len z.length)) n) none (some (.tup [], s.put b (.cells n (setL xs o (zer (Nat.mul len z.length) z))))) | none => none) (some (.tup [], s))
  | _ => none
include H in
theorem eClr_ok {t el : Nat} {ti : TypeInfo} {zv : Value} {z0 : V} {z : List V} (ho : isB1 o .clear t x) (ht : tt.ud t = some (.slice el)) (hti : tt.ti el = some ti) (hz : ti.zero = some zv) (hzv : lowV 300 zv = some z0) (hzc : cellsV z0 = some z) (h1 : allOne z = true) (hg : opd gl x = some g) : OEs P o nt gl (eClr z g) := by
  intro k _ G e a s w v s' hv he hs
  have hx := opd_ok hg he
  have hex : execOp a.eval o = (do pure (.value (← Builtin.clear_ #[t] o.type #[a.eval x]))) := by
    simp [execOp, isB1] at *; simp [ho, resolve, invoke, builtin]
  unfold eClr at hv
  split at hv
  · rename_i hge
    rw [hge] at hx
    generalize hax : a.eval x = x' at hx
    cases hx
    cases hv
    refine Did.value (v := .tuple #[]) (w' := w) (by rw [hex, hax]; simp [Builtin.clear_, ud_run H w ht]) ⟨G, GoS.refl _ _ _, hs, .tup _ _ .nil⟩
  · rename_i b o' len cap es hge
    rw [hge] at hx
    obtain ⟨l, a', c, hax, hl, hc, hcap, ha, htot⟩ := hx.slice_inv
    cases e1 : Nat.beq len 0 with
    | true =>
      rw [e1] at hv; cases hv
      have := Nat.eq_of_beq_eq_true e1
      subst this
      refine Did.value (v := .tuple #[]) (w' := w) (by rw [hex, hax]; simp [Builtin.clear_, ud_run H w ht]) ⟨G, GoS.refl _ _ _, hs, .tup _ _ .nil⟩
    | false =>
      rw [e1] at hv
      have hlen : len ≠ 0 := fun e => by rw [e] at e1; cases e1
      simp only at hv
      split at hv
      · rename_i n xs hbk
        have hbk := blkOf_inv hbk
        rw [nble_eq] at hv
        by_cases hlt : Nat.add o' (Nat.mul len z.length) ≤ n
        · simp only [hlt, decide_true] at hv
          cases hv
          simp only [Nat.mul_eq, Nat.add_eq] at hlt ⊢
          obtain ⟨z', b1, b2⟩ := cellsV_ok hzc (lowV_ok hzv G)
          have hzl := b2.length
          have hz' := zer_ok b2 (len * z.length)
          have hone := allOne_ok (zer_one h1 (n := len * z.length) (fun hp e => by rw [e] at hp; simp at hp)) hz'
          have haa : a' = ⟨l.blk, l.base + o', none⟩ := by
            rcases ha with h0 | h0
            · omega
            · exact h0
          obtain ⟨w', c1, c2, c3⟩ := hs.cells (P := P) (o := o') hbk hl hz' hone (by rw [zer_len]; exact hlt)
          refine Did.value (v := .tuple #[]) (w' := w') ?_ ⟨G, c3, c2, .tup _ _ .nil⟩
          have hzc' : (Builtin.zeroCells zv.cells len).toList = ((Array.range (len * z.length)).map (fun i => (⟨z'⟩ : Array Value)[i % (⟨z'⟩ : Array Value).size]!)).toList := by
            unfold Builtin.zeroCells
            rw [b1]; simp [hzl]
          rw [hex, hax, haa]
          match len, hlen with
          | len + 1, _ =>
            rw [← hzc'] at c1
            simp [Builtin.clear_, ud_run H w ht, zero_run H w hti hz, c1]
        · simp only [hlt, decide_false] at hv; cases hv
      · cases hv
  · cases hv

/-- copy(d, s). -/
def eCp (es : Nat) (g h : E → V) (_ : KC) (e : E) (s : St) : Option (V × St) := match g e, h e with
  | .slice b o len _ _, .slice b2 o2 len2 _ _ => Bool.casesOn (motive := fun _ => Option (V × St)) (Nat.beq (min len2 len) 0)
      (match rdOf s b2 with
       | some (n2, xs2) => Bool.casesOn (motive := fun _ => Option (V × St)) (Nat.ble (Nat.add o2 (Nat.mul (min len2 len) es)) n2) none
          (match ldc xs2 (Nat.mul (min len2 len) es) o2 with
           | some l => (match blkOf s b with
              | some (n, xs) => Bool.casesOn (motive := fun _ => Option (V × St)) (Nat.ble (Nat.add o (Nat.mul (min len2 len) es)) n) none (some (.i (.ofNat (min len2 len)), s.put b (.cells n (setL xs o l))))
              | none => none)
           | none => none)
       | none => none) (some (.i 0, s))
  | .nils, .nils => some (.i 0, s)
  | .slice _ _ _ _ _, .nils => some (.i 0, s)
  | .nils, .slice _ _ _ _ _ => some (.i 0, s)
  | _, _ => none
include H in
theorem eCp_ok {t1 t2 el es : Nat} (ho : isB2 o .copy t1 t2 x y) (ht : tt.ud t1 = some (.slice el)) (hn : tt.sz el = some es) (hg : opd gl x = some g) (hh : opd gl y = some h) : OEs P o nt gl (eCp es g h) := by
  intro k _ G e a s w v s' hv he hs
  have hx := opd_ok hg he
  have hy := opd_ok hh he
  have hex : execOp a.eval o = (do pure (.value (← Builtin.copy_ #[t1, t2] o.type #[a.eval x, a.eval y]))) := by
    simp [execOp, isB2] at *; simp [ho, resolve, invoke, builtin]
  have zero : ∀ (b1 : Option Addr) (n1 c1 : Nat) (b2 : Option Addr) (n2 c2 : Nat), a.eval x = .slice b1 n1 c1 → a.eval y = .slice b2 n2 c2 → min n2 n1 = 0 → (execOp a.eval o).run P w = .ok (.value (.int .i64 0)) w := by
    intro b1 n1 c1 b2 n2 c2 h1 h2 h0
    have h0 : Nat.min n2 n1 = 0 := h0
    rw [hex, h1, h2]
    cases b1 <;> cases b2 <;> simp [Builtin.copy_, ud_run H w ht, sz_run H w hn, Builtin.lenOf, h0, Builtin.firstCells, loadCells, loadCellsFrom, storeCells, goInt]
  unfold eCp at hv
  split at hv
  · rename_i b o' len cap es1 b2 o2 len2 cap2 es2 hge hhe
    rw [hge] at hx; rw [hhe] at hy
    obtain ⟨l, a', c, hax, hl, hc, hcap, ha, htot⟩ := hx.slice_inv
    obtain ⟨l2, a2', c2, hay, hl2, hc2, hcap2, ha2, htot2⟩ := hy.slice_inv
    cases e1 : Nat.beq (min len2 len) 0 with
    | true =>
      rw [e1] at hv; cases hv
      exact Did.value (zero _ _ _ _ _ _ hax hay (Nat.eq_of_beq_eq_true e1)) ⟨G, GoS.refl _ _ _, hs, .i _⟩
    | false =>
      rw [e1] at hv
      have hm : min len2 len ≠ 0 := fun e => by rw [e] at e1; cases e1
      simp only at hv
      split at hv
      · rename_i n2 xs2 hbk2
        rw [nble_eq] at hv
        by_cases hlt2 : Nat.add o2 (Nat.mul (min len2 len) es) ≤ n2
        · simp only [hlt2, decide_true] at hv
          split at hv
          · rename_i vs hvs
            split at hv
            · rename_i n xs hbk
              have hbk := blkOf_inv hbk
              rw [nble_eq] at hv
              by_cases hlt : Nat.add o' (Nat.mul (min len2 len) es) ≤ n
              · simp only [hlt, decide_true] at hv
                cases hv
                simp only [Nat.mul_eq, Nat.add_eq] at hlt hlt2 hvs
                have haa : a' = ⟨l.blk, l.base + o', none⟩ := by
                  rcases ha with h0 | h0
                  · omega
                  · exact h0
                have haa2 : a2' = ⟨l2.blk, l2.base + o2, none⟩ := by
                  rcases ha2 with h0 | h0
                  · omega
                  · exact h0
                obtain ⟨vs', p1, p2, p3⟩ := ldc_run (P := P) hs.r hbk2 hl2 hvs hlt2
                have hlen := (ldc_ok hvs).1
                obtain ⟨w', c1, c2, c3⟩ := hs.cells (P := P) (o := o') hbk hl p2 p3 (by rw [hlen]; exact hlt)
                refine Did.value (v := .int .i64 (min len2 len : Nat)) (w' := w') ?_ ⟨G, c3, c2, .i _⟩
                rw [hex, hax, hay, haa, haa2]
                have hmm : Nat.min len2 len = min len2 len := rfl
                simp [Builtin.copy_, ud_run H w ht, sz_run H w hn, Builtin.lenOf, Builtin.firstCells, hmm, p1 w rfl, c1, goInt]
              · simp only [hlt, decide_false] at hv; cases hv
            · cases hv
          · cases hv
        · simp only [hlt2, decide_false] at hv; cases hv
      · cases hv
  · rename_i hge hhe
    rw [hge] at hx; rw [hhe] at hy
    generalize hax : a.eval x = x' at hx
    generalize hay : a.eval y = y' at hy
    cases hx; cases hy; cases hv
    exact Did.value (zero _ _ _ _ _ _ hax hay (by simp)) ⟨G, GoS.refl _ _ _, hs, .i _⟩
  · rename_i b o' len cap es1 hge hhe
    rw [hge] at hx; rw [hhe] at hy
    obtain ⟨l, a', c, hax, hl, hc, hcap, ha, htot⟩ := hx.slice_inv
    generalize hay : a.eval y = y' at hy
    cases hy; cases hv
    exact Did.value (zero _ _ _ _ _ _ hax hay (by simp)) ⟨G, GoS.refl _ _ _, hs, .i _⟩
  · rename_i b o' len cap es1 hge hhe
    rw [hge] at hx; rw [hhe] at hy
    obtain ⟨l, a', c, hay, hl, hc, hcap, ha, htot⟩ := hy.slice_inv
    generalize hax : a.eval x = x' at hx
    cases hx; cases hv
    exact Did.value (zero _ _ _ _ _ _ hax hay (by simp)) ⟨G, GoS.refl _ _ _, hs, .i _⟩
  · cases hv
end
end
end Go.Proofs.YtjipdnfaokdkbaaLab
