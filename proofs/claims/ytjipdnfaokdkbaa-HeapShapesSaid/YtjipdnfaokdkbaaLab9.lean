/- The lab: structs and slices put together; what is made; append, copy. No condition on the program. -/
import Derived.Test.YtjipdnfaokdkbaaLab8
namespace Go.Proofs.YtjipdnfaokdkbaaLab
open Go
set_option linter.unusedVariables false
noncomputable section

/-! ### Parts put into a row -/
def splice {α : Type} (l : List α) (off : Nat) (vc : List α) : List α := l.take off ++ (vc ++ l.drop (Nat.add off vc.length))
theorem VRs.splice {G : Pl} {l : List V} {l' : List Value} {off : Nat} {vc : List V} {vc' : List Value} (h : VRs G l l') (hv : VRs G vc vc') : VRs G (splice l off vc) (splice l' off vc') := by
  unfold YtjipdnfaokdkbaaLab.splice; rw [hv.length]; exact (h.take off).append (hv.append (h.drop _))
theorem foldl_set {α : Type} : ∀ (vc : List α) (k off : Nat) (cells : Array α), off + k + vc.length ≤ cells.size → ((vc.zipIdx k).foldl (fun cs x => cs.setIfInBounds (off + x.2) x.1) cells).toList = splice cells.toList (off + k) vc
  | [], k, off, cells, _ => by simp [splice]
  | v :: vc, k, off, cells, h => by
    simp only [List.zipIdx_cons, List.foldl_cons]
    rw [foldl_set vc (k + 1) off (cells.setIfInBounds (off + k) v) (by simp at h ⊢; omega)]
    have hk : off + k < cells.toList.length := by simp at h ⊢; omega
    simp only [splice, Array.toList_setIfInBounds, Nat.add_eq, List.length_cons]
    rw [show off + (k + 1) = off + k + 1 by omega, List.take_add_one, List.take_set_of_le (by omega)]
    simp only [List.getElem?_set_self hk, Option.toList_some, List.append_assoc, List.cons_append, List.nil_append]
    rw [List.drop_set_of_lt (by omega), show off + k + 1 + vc.length = off + k + (vc.length + 1) by omega]

/-- Parts: where each lies, how many cells it has, what it is. -/
def fillV (cells : List V) : List (Nat × Nat × V) → Option (List V)
  | [] => some cells
  | (off, size, v) :: rest => match cellsV v with
    | some vc => Bool.casesOn (motive := fun _ => Option (List V)) (Nat.beq vc.length size) none (Bool.casesOn (motive := fun _ => Option (List V)) (Nat.ble (Nat.add off size) cells.length) none (fillV (splice cells off vc) rest))
    | none => none
/-- The parts of the operation: number, where, how many, which operand. -/
def partsG (gl : List Nat) (place : Nat → Option (Nat × Nat)) : List (Nat × Operand) → Option (List (Nat × Nat × (E → V)))
  | [] => some []
  | (i, x) :: l => match place i, opd gl x, partsG gl place l with
    | some (off, size), some g, some r => some ((off, size, g) :: r)
    | _, _, _ => none
def evP (l : List (Nat × Nat × (E → V))) (e : E) : List (Nat × Nat × V) := match l with | [] => [] | (a, b, g) :: l => (a, b, g e) :: evP l e
theorem fill_ok {nt : Nat} {gl : List Nat} {G : Pl} {e : E} {a : Act} (he : EnvR nt gl G e a) {place : Nat → Option (Nat × Nat)} : ∀ {l : List (Nat × Operand)} {gs : List (Nat × Nat × (E → V))} {cells : List V} {cells' : List Value} {r : List V}, partsG gl place l = some gs → VRs G cells cells' →
    fillV cells (evP gs e) = some r → ∃ r', Instr.fill place ⟨cells'⟩ (l.map fun (i, x) => (i, a.eval x)) = some ⟨r'⟩ ∧ VRs G r r'
  | [], gs, cells, cells', r, hg, hc, hr => by
    cases hg; cases hr; exact ⟨cells', rfl, hc⟩
  | (i, x) :: l, gs, cells, cells', r, hg, hc, hr => by
    unfold partsG at hg
    split at hg
    · rename_i off size g gs' h1 h2 h3
      cases hg
      simp only [evP, fillV] at hr
      split at hr
      · rename_i vc hvc
        obtain ⟨vc', b1, b2⟩ := cellsV_ok hvc (opd_ok h2 he)
        cases e1 : Nat.beq vc.length size with
        | false => rw [e1] at hr; cases hr
        | true =>
          rw [e1] at hr
          have e1 := Nat.eq_of_beq_eq_true e1
          rw [nble_eq] at hr
          by_cases hle : off + size ≤ cells.length
          · simp only [Nat.add_eq, hle, decide_true] at hr
            obtain ⟨r', c1, c2⟩ := fill_ok he h3 (hc.splice b2 (off := off)) hr
            refine ⟨r', ?_, c2⟩
            have hl1 := b2.length
            have hl2 := hc.length
            simp only [List.map_cons, Instr.fill, h1, b1]
            rw [if_neg (by simp; omega)]
            rw [← c1]
            congr 1
            rw [← Array.foldl_toList, Array.toList_zipIdx]
            have := foldl_set vc' 0 off ⟨cells'⟩ (by simp; omega)
            simp only [Nat.add_zero] at this
            rw [← this]
          · simp only [Nat.add_eq, hle, decide_false] at hr; cases hr
      · cases hr
    · cases hg

def pBuild (z : List V) (gs : List (Nat × Nat × (E → V))) (e : E) : Option V := match fillV z (evP gs e) with | some l => some (.agg l) | none => none
/-- Where the fields of a struct lie. -/
def placesOf (tt : TT) : List Field → Option (List (Nat × Nat))
  | [] => some []
  | f :: fs => match tt.sz f.type, placesOf tt fs with
    | some n, some r => some ((f.offset, n) :: r)
    | _, _ => none

section
variable {P : Program} {tt : TT} (H : TOk P tt) {nt : Nat} {gl : List Nat} {o : Oper} {x y : Operand} {g h : E → V}
include H in
theorem zero_run (w : World) {t : Nat} {ti : TypeInfo} {zv : Value} (h : tt.ti t = some ti) (hz : ti.zero = some zv) : (zeroValue t).run P w = .ok zv w := by
  simp [zeroValue, ti_run H w h, hz]
include H in
theorem places_run (w : World) : ∀ {fs : List Field} {ps : List (Nat × Nat)}, placesOf tt fs = some ps → (fs.mapM (m := Sem) fun f => do pure (f.offset, ← sizeOf f.type)).run P w = .ok ps w
  | [], ps, h => by cases h; simp only [List.mapM_nil, Sem.run_pure]
  | f :: fs, ps, h => by
    unfold placesOf at h
    split at h
    · rename_i n r h1 h2
      cases h
      have ih := places_run w h2
      simp only [List.mapM_cons, Sem.run_bind, sz_run H w h1, ih, Result.andThen_ok, Sem.run_pure]
    · cases h
include H in
theorem pBuild_ok {t : Nat} {ti : TypeInfo} {zv : Value} {z : List V} {fs : Array Field} {ps : List (Nat × Nat)} {parts : Array (Nat × Operand)} {gs : List (Nat × Nat × (E → V))} (ho : o.op = .build t parts) (ht : tt.ud t = some (.struct fs)) (hti : tt.ti t = some ti) (hz : ti.zero = some zv)
    (hzv : lowV 300 zv = some (.agg z)) (hp : placesOf tt fs.toList = some ps) (hgs : partsG gl (fun i => ps[i]?) parts.toList = some gs) : OPs P o nt gl (pBuild z gs) := by
  intro G e a w v hv he
  unfold pBuild at hv
  split at hv
  · rename_i l hl
    cases hv
    obtain ⟨z', rfl, hz'⟩ := (lowV_ok hzv G).agg_inv
    obtain ⟨r', c1, c2⟩ := fill_ok he hgs hz' hl
    refine ⟨.agg ⟨r'⟩, ?_, .agg _ _ c2⟩
    have hpr : (fs.mapM (m := Sem) fun f => do pure (f.offset, ← sizeOf f.type)).run P w = .ok ps.toArray w := by
      simp only [Array.mapM_eq_mapM_toList, Sem.run_map, places_run H w hp, Result.andThen_ok]
    have hfill : Instr.fill (fun i => ps.toArray[i]?) ⟨z'⟩ ((parts.map fun (i, x) => (i, a.eval x)).toList) = some ⟨r'⟩ := by
      rw [← c1]; congr 1
      · funext i; simp
      · simp
    simp only [execOp, ho, Instr.build, Sem.run_bind, Result.andThen_ok, zero_run H w hti hz, ud_run H w ht, hpr, Value.cells, hfill, Sem.run_pure]
  · cases hv
include H in
theorem pBuildA_ok {t el len n : Nat} {ti : TypeInfo} {zv : Value} {z : List V} {parts : Array (Nat × Operand)} {gs : List (Nat × Nat × (E → V))} (ho : o.op = .build t parts) (ht : tt.ud t = some (.array len el)) (hti : tt.ti t = some ti) (hz : ti.zero = some zv)
    (hzv : lowV 300 zv = some (.agg z)) (hn : tt.sz el = some n) (hgs : partsG gl (fun i => some (i * n, n)) parts.toList = some gs) : OPs P o nt gl (pBuild z gs) := by
  intro G e a w v hv he
  unfold pBuild at hv
  split at hv
  · rename_i l hl
    cases hv
    obtain ⟨z', rfl, hz'⟩ := (lowV_ok hzv G).agg_inv
    obtain ⟨r', c1, c2⟩ := fill_ok he hgs hz' hl
    refine ⟨.agg ⟨r'⟩, ?_, .agg _ _ c2⟩
    have hfill : Instr.fill (fun i => some (i * n, n)) ⟨z'⟩ ((parts.map fun (i, x) => (i, a.eval x)).toList) = some ⟨r'⟩ := by
      rw [← c1]; congr 1; simp
    simp only [execOp, ho, Instr.build, Sem.run_bind, Result.andThen_ok, zero_run H w hti hz, ud_run H w ht, sz_run H w hn, Value.cells, hfill, Sem.run_pure]
  · cases hv

/-! ### Rows of zeros -/
def zer (n : Nat) (z : List V) : List V := (List.range n).map fun i => (z[i % z.length]?).getD .undef
theorem zer_ok {G : Pl} {z : List V} {z' : List Value} (h : VRs G z z') (n : Nat) : VRs G (zer n z) ((Array.range n).map (fun i => (⟨z'⟩ : Array Value)[i % (⟨z'⟩ : Array Value).size]!)).toList := by
  have key : ∀ l : List Nat, VRs G (l.map fun i => (z[i % z.length]?).getD .undef) (l.map fun i => (⟨z'⟩ : Array Value)[i % (⟨z'⟩ : Array Value).size]!) := by
    intro l
    induction l with
    | nil => exact .nil
    | cons i l ih =>
      refine .cons _ _ _ _ ?_ ih
      cases hq : z[i % z.length]? with
      | none => simp only [hq, Option.getD_none]; exact .undef _
      | some v =>
        obtain ⟨v', h1, h2⟩ := h.get hq
        have : (⟨z'⟩ : Array Value)[i % (⟨z'⟩ : Array Value).size]! = v' := by
          simp only [getElem!_def]
          have hl := h.length
          simp only [List.getElem?_toArray, List.size_toArray, ← hl, h1]
        simp only [hq, Option.getD_some, this]; exact h2
  have := key (List.range n)
  simpa [zer] using this

def aBSl (len size : Nat) (z : List V) (gs : List (Nat × Nat × (E → V))) (e : E) (id : Nat) : Option (V × Ob) := match fillV z (evP gs e) with
  | some l => Bool.casesOn (motive := fun _ => Option (V × Ob)) (allOne l) none (Bool.casesOn (motive := fun _ => Option (V × Ob)) (Nat.beq l.length (Nat.mul len size)) none (some (.slice id 0 len (some len) size, .cells l.length (ofL l))))
  | none => none
include H in
theorem aBSl_ok {t el len size : Nat} {ti : TypeInfo} {zv : Value} {z0 : V} {z : List V} {parts : Array (Nat × Operand)} {gs : List (Nat × Nat × (E → V))} (ho : o.op = .buildSlice t len parts) (ht : tt.ud t = some (.slice el)) (hti : tt.ti el = some ti) (hz : ti.zero = some zv)
    (hzv : lowV 300 zv = some z0) (hzc : cellsV z0 = some z) (hn : tt.sz el = some size) (hsm : len * size ≤ 2 ^ 24) (hgs : partsG gl (fun i => some (i * size, size)) parts.toList = some gs) : OAs P o nt gl (aBSl len size (if len * size = 0 then [] else zer (len * size) z) gs) := by
  intro G e a id w v ob hv he hid
  unfold aBSl at hv
  split at hv
  · rename_i l hl
    cases e1 : allOne l with
    | false => rw [e1] at hv; cases hv
    | true =>
      rw [e1] at hv
      simp only at hv
      cases e2 : Nat.beq l.length (Nat.mul len size) with
      | false => rw [e2] at hv; cases hv
      | true =>
        rw [e2] at hv; cases hv
        have e2 := Nat.eq_of_beq_eq_true e2
        obtain ⟨z', b1, b2⟩ := cellsV_ok hzc (lowV_ok hzv G)
        obtain ⟨q, hq1, hq2⟩ : ∃ q : Array Value, (if len * size = 0 then (pure #[] : Sem (Array Value)) else do pure (← zeroValue el).cells).run P w = .ok q w ∧ VRs G (if len * size = 0 then [] else zer (len * size) z) ((Array.range (len * size)).map (fun i => q[i % q.size]!)).toList := by
          by_cases h0 : len * size = 0
          · rw [if_pos h0, if_pos h0, h0]; exact ⟨#[], rfl, by simpa using VRs.nil⟩
          · rw [if_neg h0, if_neg h0]; exact ⟨zv.cells, by simp [zero_run H w hti hz], by rw [b1]; exact zer_ok b2 _⟩
        obtain ⟨r', c1, c2⟩ := fill_ok he hgs hq2 hl
        have h1 := allOne_ok e1 c2
        have hsz : l.length = r'.length := c2.length
        have hfill : Instr.fill (fun i => some (i * size, size)) ((Array.range (len * size)).map (fun i => q[i % q.size]!)) ((parts.map fun (i, x) => (i, a.eval x)).toList) = some ⟨r'⟩ := by
          rw [← c1]; congr 1; simp
        refine ⟨.slice (some ⟨w.heap.size, 0, none⟩) len len, _, r'.length, w.alloc (.cells ⟨r'⟩ el), ?_, Grew.alloc _ _, .slice id 0 len size len (some len) _ _ (Pl.add_at _ _ _) (Nat.le_refl _) (fun k hk => Option.some.inj hk) (.inr (by simp)) (.inr (by simp; simp only [Nat.mul_eq] at e2; omega)), ObR.row (Grew.alloc _ _) (c2.mono (Pl.le_add hid)) h1 (Pl.add_at _ _ _)⟩
        have hsm' : ¬ len * size > 2 ^ 24 := by omega
        by_cases h0 : len * size = 0
        · rw [if_pos h0] at hq1
          cases hq1
          simp only [execOp, ho, Instr.buildSlice, Sem.run_bind, Result.andThen_ok, ud_run H w ht, sz_run H w hn, if_neg hsm', if_pos h0, pure_bind, hfill]
          simp [newRow]
        · rw [if_neg h0] at hq1
          simp only [Sem.run_bind, zero_run H w hti hz, Result.andThen_ok, Sem.run_pure] at hq1
          cases hq1
          simp only [execOp, ho, Instr.buildSlice, Sem.run_bind, Result.andThen_ok, ud_run H w ht, sz_run H w hn, if_neg hsm', if_neg h0, zero_run H w hti hz, Sem.run_pure, hfill]
          simp [newRow]
  · cases hv
end
end
end Go.Proofs.YtjipdnfaokdkbaaLab
