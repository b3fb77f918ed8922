/- The lab: loads, stores, new variables, slices, structs. No condition on the program. -/
import Derived.Test.YtjipdnfaokdkbaaLab7
namespace Go.Proofs.YtjipdnfaokdkbaaLab
open Go
set_option linter.unusedVariables false
noncomputable section

/-- How calls are done. -/
structure KC where
  fuel : Nat
  call : Nat → List V → St → Option (V × St)

/-- What comes of an operation. -/
def Did (P : Program) (o : Oper) (a : Act) (w : World) (post : Value → World → Prop) : Prop :=
  match (execOp a.eval o).run P w with
  | .ok (.value v) w' => post v w'
  | .ok .skip w' => post undef w'
  | .ok (.enter f args) w' => Calls P f args w' (fun e w'' => match e with | .returned v => post v w'' | _ => False)
  | _ => False
theorem Did.wp {P : Program} {o : Oper} {a : Act} {w : World} {post : Value → World → Prop} {K : Act → World → Prop} {Q : Exit → Act → World → Prop} (h : Did P o a w post) (hK : ∀ v w', post v w' → K (a.put o.dst v) w') : o.wp P a w K Q := by
  unfold Did at h
  unfold Oper.wp
  generalize (execOp a.eval o).run P w = r at *
  match r, h with
  | .ok (.value v) w', h => exact hK _ _ h
  | .ok .skip w', h => exact hK _ _ h
  | .ok (.enter f args) w', h =>
    refine Calls.mono h ?_
    intro e w'' he
    match e, he with
    | .returned v, he => exact hK _ _ he
theorem Did.mono {P : Program} {o : Oper} {a : Act} {w : World} {post post' : Value → World → Prop} (h : Did P o a w post) (hp : ∀ v w', post v w' → post' v w') : Did P o a w post' := by
  unfold Did at h ⊢
  generalize (execOp a.eval o).run P w = r at *
  match r, h with
  | .ok (.value v) w', h => exact hp _ _ h
  | .ok .skip w', h => exact hp _ _ h
  | .ok (.enter f args) w', h =>
    refine Calls.mono h ?_
    intro e w'' he
    match e, he with
    | .returned v, he => exact hp _ _ he
theorem Did.value {P : Program} {o : Oper} {a : Act} {w w' : World} {v : Value} {post : Value → World → Prop} (h : (execOp a.eval o).run P w = .ok (.value v) w') (hp : post v w') : Did P o a w post := by unfold Did; rw [h]; exact hp
theorem Did.skip {P : Program} {o : Oper} {a : Act} {w w' : World} {post : Value → World → Prop} (h : (execOp a.eval o).run P w = .ok .skip w') (hp : post undef w') : Did P o a w post := by unfold Did; rw [h]; exact hp
theorem Did.enter {P : Program} {o : Oper} {a : Act} {w w' : World} {f : FuncId} {args : Array Value} {post : Value → World → Prop} (h : (execOp a.eval o).run P w = .ok (.enter f args) w') (hp : Calls P f args w' (fun e w'' => match e with | .returned v => post v w'' | _ => False)) : Did P o a w post := by unfold Did; rw [h]; exact hp

/-- What a step comes to: more places, our memory turned as told, the value as told. -/
def Post (G : Pl) (s : St) (w : World) (v : V) (s' : St) (v' : Value) (w' : World) : Prop := ∃ G', GoS G s w G' s' w' ∧ SR G' s' w' ∧ VR G' v v'

/-- The variables of packages that are known. -/
def GOk (gl : List Nat) (G : Pl) : Prop := ∀ g, g ∈ gl → ∃ n, G g = some ⟨g, 0, n⟩
/-- Calls are done as the program does them. -/
def KOk (P : Program) (gl : List Nat) (k : KC) : Prop :=
  ∀ f args s v s', k.call f args s = some (v, s') → ∀ G w args', GOk gl G → VRs G args args' → SR G s w → Calls P f ⟨args'⟩ w (fun e w' => match e with | .returned v' => Post G s w v s' v' w' | _ => False)

/-- An operation that looks at memory; one that makes a block; one that does anything. -/
def ODs (P : Program) (o : Oper) (nt : Nat) (gl : List Nat) (f : E → St → Option V) : Prop :=
  ∀ G e a s w v, f e s = some v → EnvR nt gl G e a → R G s.heap.get w → ∃ v', (execOp a.eval o).run P w = .ok (.value v') w ∧ VR G v v'
def OAs (P : Program) (o : Oper) (nt : Nat) (gl : List Nat) (f : E → Nat → Option (V × Ob)) : Prop :=
  ∀ G e a id w v ob, f e id = some (v, ob) → EnvR nt gl G e a → G id = none → ∃ v' obj tot w', (execOp a.eval o).run P w = .ok (.value v') w' ∧ Grew obj w w' ∧ VR (G.add id ⟨w.heap.size, 0, tot⟩) v v' ∧ ObR (G.add id ⟨w.heap.size, 0, tot⟩) w' id ob
def OEs (P : Program) (o : Oper) (nt : Nat) (gl : List Nat) (f : KC → E → St → Option (V × St)) : Prop :=
  ∀ k, KOk P gl k → ∀ G e a s w v s', f k e s = some (v, s') → EnvR nt gl G e a → SR G s w → Did P o a w (Post G s w v s')

/-! ### Cells -/
theorem V.one_ok {G : Pl} {x : V} {x' : Value} (h1 : x.one = true) (h : VR G x x') : x'.oneCell' = true := by
  cases h <;> first | rfl | (simp [V.one] at h1)
/-- A value's cells. -/
def cellsV : V → Option (List V)
  | .agg l => some l
  | .tup _ | .undef => none
  | v => some [v]
theorem cellsV_ok {G : Pl} {x : V} {x' : Value} {l : List V} (h : cellsV x = some l) (hx : VR G x x') : ∃ l', x'.cells = ⟨l'⟩ ∧ VRs G l l' := by
  cases hx <;> simp only [cellsV, Option.some.injEq, reduceCtorEq] at h <;> subst h <;> first
    | exact ⟨_, rfl, by assumption⟩
    | exact ⟨_, rfl, .cons _ _ _ _ (by constructor <;> assumption) .nil⟩
def allOne : List V → Bool | [] => true | v :: l => Bool.casesOn (motive := fun _ => Bool) v.one false (allOne l)
theorem allOne_ok {G : Pl} : ∀ {l : List V} {l' : List Value}, allOne l = true → VRs G l l' → ∀ v ∈ l', v.oneCell' = true
  | [], [], _, .nil, v, hv => by cases hv
  | x :: l, x' :: l', h, .cons _ _ _ _ hx hl, v, hv => by
    unfold allOne at h
    cases e : x.one with
    | false => rw [e] at h; cases h
    | true =>
      rw [e] at h
      rcases List.mem_cons.1 hv with rfl | hv
      · exact V.one_ok e hx
      · exact allOne_ok h hl v hv
def setL (xs : T V) (o : Nat) : List V → T V | [] => xs | v :: l => setL (xs.set o v) (Nat.succ o) l
theorem setL_get : ∀ {l : List V} {xs : T V} {o i : Nat} {x : V}, (setL xs o l).get i = some x → (o ≤ i ∧ i < o + l.length ∧ l[i - o]? = some x) ∨ (¬ (o ≤ i ∧ i < o + l.length) ∧ xs.get i = some x)
  | [], xs, o, i, x, h => .inr ⟨by simp, h⟩
  | v :: l, xs, o, i, x, h => by
    rcases setL_get (l := l) h with ⟨h1, h2, h3⟩ | ⟨h1, h2⟩
    · left
      refine ⟨by omega, by simp; omega, ?_⟩
      have : i - o = (i - (o + 1)) + 1 := by omega
      rw [this]; simpa using h3
    · rcases T.get_set h2 with ⟨rfl, rfl⟩ | ⟨hne, h2⟩
      · left; exact ⟨Nat.le_refl _, by simp, by simp⟩
      · right; refine ⟨?_, h2⟩; simp only [List.length_cons]; simp only [Nat.succ_eq_add_one] at h1; omega
def ofL (l : List V) : T V := setL .nil 0 l
theorem ofL_get {l : List V} {i : Nat} {x : V} (h : (ofL l).get i = some x) : l[i]? = some x := by
  rcases setL_get h with ⟨_, _, h3⟩ | ⟨_, h⟩
  · simpa using h3
  · cases h
/-- So many cells from a place on. -/
def ldc (xs : Nat → Option V) (n : Nat) : Nat → Option (List V) :=
  Nat.rec (fun _ => some []) (fun _ ih o => match xs o with | none => none | some x => match ih (Nat.succ o) with | none => none | some l => some (x :: l)) n
theorem ldc_zero (xs : Nat → Option V) (o : Nat) : ldc xs 0 o = some [] := rfl
theorem ldc_succ (xs : Nat → Option V) (n o : Nat) : ldc xs (n + 1) o = match xs o with | none => none | some x => match ldc xs n (o + 1) with | none => none | some l => some (x :: l) := rfl
theorem ldc_ok {xs : Nat → Option V} : ∀ {n o : Nat} {l : List V}, ldc xs n o = some l → l.length = n ∧ ∀ i, i < n → ∃ x, l[i]? = some x ∧ xs (o + i) = some x
  | 0, o, l, h => by rw [ldc_zero] at h; cases h; exact ⟨rfl, fun i hi => by omega⟩
  | n + 1, o, l, h => by
    rw [ldc_succ] at h
    split at h
    · cases h
    · rename_i x hx
      split at h
      · cases h
      · rename_i l' hl
        cases h
        obtain ⟨h1, h2⟩ := ldc_ok hl
        refine ⟨by simp [h1], fun i hi => ?_⟩
        cases i with
        | zero => exact ⟨x, rfl, hx⟩
        | succ i =>
          obtain ⟨y, a1, a2⟩ := h2 i (by omega)
          exact ⟨y, by simpa using a1, by rw [show o + (i + 1) = o + 1 + i by omega]; exact a2⟩

/-- The block behind an address: how many cells, which. -/
def blkOf (s : St) (b : Nat) : Option (Nat × T V) := match s.heap.get b with | some (.cells n xs) => some (n, xs) | _ => none
theorem blkOf_inv {s : St} {b n : Nat} {xs : T V} (h : blkOf s b = some (n, xs)) : s.heap.get b = some (.cells n xs) := by
  unfold blkOf at h
  split at h
  · rename_i h1; cases h; exact h1
  · cases h

/-- A block that is looked at: how many cells, what they hold. -/
def rdOf (s : St) (b : Nat) : Option (Nat × (Nat → Option V)) := match s.heap.get b with | some (.cells n xs) => some (n, xs.get) | some (.ro n f) => some (n, f) | _ => none
theorem rd_held {s : St} {b n : Nat} {f : Nat → Option V} (h : rdOf s b = some (n, f)) {G : Pl} {w : World} (hr : R G s.heap.get w) :
    ∃ l c el fz, G b = some l ∧ w.heap[l.blk]? = some (.cells c el fz) ∧ c.size = l.tot ∧ l.base + n ≤ l.tot ∧ ∀ i x, i < n → f i = some x → ∃ x', c[l.base + i]? = some x' ∧ VR G x x' ∧ x'.oneCell' = true := by
  unfold rdOf at h
  split at h
  · rename_i h1; cases h
    obtain ⟨l, c, el, fz, a1, a2, _, a3⟩ := hr.ob b _ h1
    exact ⟨l, c, el, fz, a1, a2, a3⟩
  · rename_i h1; cases h
    exact hr.ob b _ h1
  · cases h
theorem rdOf_cells {s : St} {b n : Nat} {xs : T V} (h : s.heap.get b = some (.cells n xs)) : rdOf s b = some (n, xs.get) := by unfold rdOf; rw [h]
theorem rdOf_ro {s : St} {b n : Nat} {f : Nat → Option V} (h : s.heap.get b = some (.ro n f)) : rdOf s b = some (n, f) := by unfold rdOf; rw [h]

/-- What is in the world where cells of ours are. -/
theorem ldc_run {P : Program} {G : Pl} {s : St} {w : World} (hr : R G s.heap.get w) {b n : Nat} {xs : Nat → Option V} (hb : rdOf s b = some (n, xs)) {l : Loc} (hl : G b = some l) {m o : Nat} {vs : List V} (hv : ldc xs m o = some vs) (hm : o + m ≤ n) :
    ∃ vs', (∀ w2 : World, w2.heap = w.heap → (loadCells ⟨l.blk, l.base + o, none⟩ m).run P w2 = .ok ⟨vs'⟩ w2) ∧ VRs G vs vs' ∧ ∀ v ∈ vs', v.oneCell' = true := by
  obtain ⟨l2, c, el, fz, h1, h2, h4, h5, h6⟩ := rd_held hb hr
  rw [hl] at h1; cases h1
  obtain ⟨hlen, hget⟩ := ldc_ok hv
  have key : ∀ (m o : Nat) (vs : List V), vs.length = m → o + m ≤ n → (∀ i, i < m → ∃ x, vs[i]? = some x ∧ xs (o + i) = some x) → ∃ vs', vs'.length = m ∧ VRs G vs vs' ∧ (∀ j v, vs'[j]? = some v → c[l.base + (o + j)]? = some v) ∧ ∀ v ∈ vs', v.oneCell' = true := by
    intro m
    induction m with
    | zero => intro o vs hl _ _; cases vs with | nil => exact ⟨[], rfl, .nil, (fun j v h => by cases h), (fun v h => by cases h)⟩ | cons _ _ => cases hl
    | succ m ih =>
      intro o vs hl hm hg
      cases vs with
      | nil => cases hl
      | cons v vs =>
        obtain ⟨vs', a1, a2, a3, a4⟩ := ih (o + 1) vs (by simpa using hl) (by omega) (fun i hi => by
          obtain ⟨x, b1, b2⟩ := hg (i + 1) (by omega)
          exact ⟨x, by simpa using b1, by rw [show o + 1 + i = o + (i + 1) by omega]; exact b2⟩)
        obtain ⟨x, b1, b2⟩ := hg 0 (by omega)
        cases b1
        obtain ⟨x', c1, c2, c3⟩ := h6 o v (by omega) b2
        refine ⟨x' :: vs', by simp [a1], .cons _ _ _ _ c2 a2, fun j u hj => ?_, fun u hu => ?_⟩
        · cases j with
          | zero => cases hj; exact c1
          | succ j => rw [show o + (j + 1) = o + 1 + j by omega]; exact a3 j u (by simpa using hj)
        · rcases List.mem_cons.1 hu with rfl | hu
          · exact c3
          · exact a4 u hu
  obtain ⟨vs', a1, a2, a3, a4⟩ := key m o vs hlen hm hget
  refine ⟨vs', fun w2 hw2 => ?_, a2, a4⟩
  rw [← a1]
  exact run_loadCells_list w2 ⟨l.blk, l.base + o, none⟩ vs' (fun j v hj => by
    rw [add_at]
    simp only [World.cell?, hw2, h2, Option.isSome_none, Bool.false_eq_true, if_false]
    rw [Nat.add_assoc]; exact a3 j v hj)

section
variable {P : Program} {tt : TT} (H : TOk P tt) {nt : Nat} {gl : List Nat} {o : Oper} {x y : Operand} {g h : E → V}

/-! ### Loads -/
def dLd (g : E → V) (e : E) (s : St) : Option V := match g e with
  | .ptr b o => (match rdOf s b with | some (n, xs) => Bool.casesOn (motive := fun _ => Option V) (Nat.blt o n) none (xs o) | none => none)
  | _ => none
include H in
theorem dLd_ok {t : Nat} {d : TypeDesc} (ho : o.op = .load t x) (hd : tt.ud t = some d) (hb : aggB d = false) (hg : opd gl x = some g) : ODs P o nt gl (dLd g) := by
  intro G e a s w v hv he hr
  have hx := opd_ok hg he
  unfold dLd at hv
  split at hv
  · rename_i b o' hge
    rw [hge] at hx
    obtain ⟨l, hx', hl⟩ := hx.ptr_inv
    split at hv
    · rename_i n xs hbk
      rw [nblt_eq] at hv
      by_cases hlt : o' < n
      · simp only [hlt, decide_true] at hv
        obtain ⟨l2, c, el, fz, h1, h2, h4, h5, h6⟩ := rd_held hbk hr
        rw [hl] at h1; cases h1
        obtain ⟨v', c1, c2, c3⟩ := h6 o' v hlt hv
        refine ⟨v', ?_, c2⟩
        simp [execOp, ho, hx', Instr.loadAt, Instr.sureAddr, loadVar, isAgg_run H w hd, hb, World.cell?, h2, c1]
      · simp only [hlt, decide_false] at hv; cases hv
    · cases hv
  · cases hv
def dLdN (m : Nat) (g : E → V) (e : E) (s : St) : Option V := match g e with
  | .ptr b o => (match rdOf s b with | some (n, xs) => Bool.casesOn (motive := fun _ => Option V) (Nat.ble (Nat.add o m) n) none (match ldc xs m o with | some l => some (.agg l) | none => none) | none => none)
  | _ => none
include H in
theorem dLdN_ok {t m : Nat} {d : TypeDesc} (ho : o.op = .load t x) (hd : tt.ud t = some d) (hb : aggB d = true) (hz : tt.sz t = some m) (hg : opd gl x = some g) : ODs P o nt gl (dLdN m g) := by
  intro G e a s w v hv he hr
  have hx := opd_ok hg he
  unfold dLdN at hv
  split at hv
  · rename_i b o' hge
    rw [hge] at hx
    obtain ⟨l, hx', hl⟩ := hx.ptr_inv
    split at hv
    · rename_i n xs hbk
      rw [nble_eq] at hv
      by_cases hlt : o' + m ≤ n
      · simp only [Nat.add_eq, hlt, decide_true] at hv
        split at hv
        · rename_i vs hvs
          cases hv
          obtain ⟨vs', a1, a2, _⟩ := ldc_run (P := P) hr hbk hl hvs hlt
          exact ⟨.agg ⟨vs'⟩, by simp [execOp, ho, hx', Instr.loadAt, Instr.sureAddr, loadVar, isAgg_run H w hd, hb, sz_run H w hz, a1 w rfl], .agg _ _ a2⟩
        · cases hv
      · simp only [Nat.add_eq, hlt, decide_false] at hv; cases hv
    · cases hv
  · cases hv

/-! ### Stores -/
theorem storeCells_run {P : Program} (g o : Nat) (t : TypeId) (fz : Nat × Nat) : ∀ (vs : List Value) (i : Nat) (cur : Array Value) (w : World), w.heap[g]? = some (.cells cur t fz) → fzOk fz cur.size → o + i + vs.length ≤ cur.size → (∀ v ∈ vs, v.oneCell' = true) →
    (storeCells ⟨g, o, none⟩ vs i).run P w = .ok () (w.setRow g (cur.toList.take (o + i) ++ vs ++ cur.toList.drop (o + i + vs.length)).toArray)
  | [], i, cur, w, hg, _, _, _ => by
    simp only [storeCells, List.append_nil, List.length_nil, Nat.add_zero, List.take_append_drop, Array.toArray_toList]
    rw [setRow_self w g cur t fz hg]
    rfl
  | v :: rest, i, cur, w, hg, hf, hl, h1 => by
    have hi : o + i < cur.size := by simp at hl; omega
    have hcell : w.cell? ⟨g, o + i, none⟩ = some cur[o + i] := by simp [World.cell?, hg, hi]
    have hfro : w.frozen? ⟨g, o + i, none⟩ = false := by
      simp only [World.frozen?, hg]
      rcases hf with rfl | hf
      · simp
      · simp; omega
    have hst : (store ((⟨g, o, none⟩ : Addr).add i) v).run P w = .ok () (w.setRow g (cur.setIfInBounds (o + i) v)) := by
      rw [add_at, run_store P w _ v _ (h1 v (by simp)), hcell]
      simp [hfro, setCell_eq_setRow w g (o + i) cur t fz v hg]
    have ih := storeCells_run (P := P) g o t fz rest (i + 1) (cur.setIfInBounds (o + i) v) (w.setRow g (cur.setIfInBounds (o + i) v)) (setRow_heap w g cur _ t _ hg) (by simpa using hf) (by simp at hl ⊢; omega) (fun x hx => h1 x (by simp [hx]))
    simp only [storeCells, Sem.run_bind, hst, Result.andThen_ok, ih, setRow_setRow]
    congr 3
    have e := list_seg_step cur.toList (o + i) v rest (by simp at hl ⊢; omega)
    simpa [Array.toList_setIfInBounds, Nat.add_assoc] using e

/-- Cells of a row of ours turned. -/
theorem SR.cells {P : Program} {G : Pl} {s : St} {w : World} (hs : SR G s w) {b n : Nat} {xs : T V} (hb : s.heap.get b = some (.cells n xs)) {l : Loc} (hl : G b = some l) {o : Nat} {vs : List V} {vs' : List Value} (hvs : VRs G vs vs') (h1 : ∀ v ∈ vs', v.oneCell' = true) (hm : o + vs.length ≤ n) :
    ∃ w', (storeCells ⟨l.blk, l.base + o, none⟩ vs').run P w = .ok () w' ∧ SR G (s.put b (.cells n (setL xs o vs))) w' ∧ GoS G s w G (s.put b (.cells n (setL xs o vs))) w' := by
  obtain ⟨l2, c, el, fz, a1, a2, a3, a4, a5, a6⟩ := hs.r.ob b _ hb
  rw [hl] at a1; cases a1
  have hlen := hvs.length
  have hrun := storeCells_run (P := P) l.blk (l.base + o) el fz vs' 0 c w a2 a3 (by omega) h1
  simp only [Nat.add_zero] at hrun
  refine ⟨_, hrun, ?_⟩
  refine hs.turn hb rfl hl Touch.setRow ?_
  have hcl : c.toList.length = c.size := by simp
  refine ⟨l, _, el, fz, hl, setRow_heap w l.blk c _ el fz a2, ?_, ?_, a5, fun i x hi hx => ?_⟩
  · rcases a3 with a3 | a3
    · exact .inl a3
    · right; simp; omega
  · rw [← a4]; simp; omega
  · rcases setL_get hx with ⟨b1, b2, b3⟩ | ⟨b1, b2⟩
    · obtain ⟨x', c1, c2⟩ := hvs.get b3
      refine ⟨x', ?_, c2, h1 x' (List.mem_of_getElem? c1)⟩
      have hlt := (List.getElem?_eq_some_iff.1 c1).1
      simp only [List.getElem?_toArray]
      rw [List.append_assoc, List.getElem?_append_right (by simp; omega), List.getElem?_append_left (by simp; omega)]
      have : l.base + i - (c.toList.take (l.base + o)).length = i - o := by simp; omega
      rw [this]; exact c1
    · obtain ⟨x', c1, c2, c3⟩ := a6 i x hi b2
      refine ⟨x', ?_, c2, c3⟩
      simp only [List.getElem?_toArray]
      have c1' : c.toList[l.base + i]? = some x' := by simpa using c1
      by_cases hlo : i < o
      · rw [List.append_assoc, List.getElem?_append_left (by simp; omega), List.getElem?_take, if_pos (by omega)]
        exact c1'
      · rw [List.append_assoc, List.getElem?_append_right (by simp; omega), List.getElem?_append_right (by simp; omega), List.getElem?_drop]
        rw [← c1']; congr 1; simp; omega

def eSt (m : Nat) (g h : E → V) (_ : KC) (e : E) (s : St) : Option (V × St) := match g e with
  | .ptr b o => (match cellsV (h e) with
    | some l => Bool.casesOn (motive := fun _ => Option (V × St)) (Nat.beq l.length m) none (Bool.casesOn (motive := fun _ => Option (V × St)) (allOne l) none
        (match blkOf s b with | some (n, xs) => Bool.casesOn (motive := fun _ => Option (V × St)) (Nat.ble (Nat.add o m) n) none (some (.tup [], s.put b (.cells n (setL xs o l)))) | none => none))
    | none => none)
  | _ => none
include H in
theorem eSt_ok {t m : Nat} (ho : o.op = .store t x y) (hz : tt.sz t = some m) (hg : opd gl x = some g) (hh : opd gl y = some h) : OEs P o nt gl (eSt m g h) := by
  intro k _ G e a s w v s' hv he hs
  have hx := opd_ok hg he
  have hy := opd_ok hh he
  unfold eSt at hv
  split at hv
  · rename_i b o' hge
    rw [hge] at hx
    obtain ⟨l, hx', hl⟩ := hx.ptr_inv
    split at hv
    · rename_i vs hvs
      obtain ⟨vs', b1, b2⟩ := cellsV_ok hvs hy
      cases e1 : Nat.beq vs.length m with
      | false => rw [e1] at hv; cases hv
      | true =>
        rw [e1] at hv
        have e1 := Nat.eq_of_beq_eq_true e1
        cases e2 : allOne vs with
        | false => rw [e2] at hv; cases hv
        | true =>
          rw [e2] at hv
          simp only at hv
          split at hv
          · rename_i n xs hbk
            have hbk := blkOf_inv hbk
            rw [nble_eq] at hv
            by_cases hlt : o' + m ≤ n
            · simp only [Nat.add_eq, hlt, decide_true] at hv
              cases hv
              obtain ⟨w', c1, c2, c3⟩ := hs.cells (P := P) (o := o') hbk hl b2 (allOne_ok e2 b2) (by omega)
              refine Did.skip (w' := w') ?_ ⟨G, c3, c2, .tup _ _ .nil⟩
              have hlen := b2.length
              simp [execOp, ho, hx', Instr.storeAt, Instr.sureAddr, storeVar, sz_run H w hz, b1, c1, ← hlen, e1]
            · simp only [Nat.add_eq, hlt, decide_false] at hv; cases hv
          · cases hv
    · cases hv
  · cases hv

/-! ### New blocks -/
theorem Grew.push (w : World) (o : Obj) : Grew o w { w with heap := w.heap.push o } := Grew.alloc w o
/-- A new row of cells. -/
theorem ObR.row {G : Pl} {w w' : World} {id el : Nat} {l : List V} {l' : List Value} (hw : Grew (.cells ⟨l'⟩ el) w w') (hl : VRs G l l') (h1 : ∀ v ∈ l', v.oneCell' = true) (hid : G id = some ⟨w.heap.size, 0, l'.length⟩) : ObR G w' id (.cells l.length (ofL l)) := by
  refine ⟨_, ⟨l'⟩, el, (0, 0), hid, hw.new, .inl rfl, by simp, by simp [hl.length], fun i x hi hx => ?_⟩
  obtain ⟨x', a1, a2⟩ := hl.get (ofL_get hx)
  exact ⟨x', by simpa using a1, a2, h1 x' (List.mem_of_getElem? a1)⟩
theorem aNew_of {id : Nat} {l : List V} {G : Pl} {e : E} {a : Act} {w : World} {el : Nat} {l' : List Value} (hl : VRs G l l') (h1 : ∀ v ∈ l', v.oneCell' = true) (hid : G id = none)
    (hrun : (execOp a.eval o).run P w = .ok (.value (.pointer (some ⟨w.heap.size, 0, none⟩))) (w.alloc (.cells ⟨l'⟩ el))) :
    ∃ v' obj tot w', (execOp a.eval o).run P w = .ok (.value v') w' ∧ Grew obj w w' ∧ VR (G.add id ⟨w.heap.size, 0, tot⟩) (.ptr id 0) v' ∧ ObR (G.add id ⟨w.heap.size, 0, tot⟩) w' id (.cells l.length (ofL l)) :=
  ⟨_, _, l'.length, _, hrun, Grew.alloc _ _, .ptr id 0 _ (Pl.add_at _ _ _), ObR.row (Grew.alloc _ _) (hl.mono (Pl.le_add hid)) h1 (Pl.add_at _ _ _)⟩

def aAl (n : Nat) (t : T V) (_ : E) (id : Nat) : Option (V × Ob) := some (.ptr id 0, .cells n t)
include H in
theorem aAl_ok {t : Nat} {ti : TypeInfo} {zv : Value} {z : V} {l : List V} (ho : o.op = .alloc t) (hti : tt.ti t = some ti) (hz : ti.zero = some zv) (hzv : lowV 300 zv = some z) (hl : cellsV z = some l) (h1 : allOne l = true) : OAs P o nt gl (aAl l.length (ofL l)) := by
  intro G e a id w v ob hv he hid
  cases hv
  obtain ⟨l', b1, b2⟩ := cellsV_ok hl (lowV_ok hzv G)
  refine aNew_of (el := t) (l' := l') (e := e) b2 (allOne_ok h1 b2) hid ?_
  simp [execOp, ho, Instr.alloc, zeroValue, ti_run H w hti, hz, newVar, newRow, b1]
def aBox (g : E → V) (e : E) (id : Nat) : Option (V × Ob) := match cellsV (g e) with
  | some l => Bool.casesOn (motive := fun _ => Option (V × Ob)) (allOne l) none (some (.ptr id 0, .cells l.length (ofL l)))
  | none => none
theorem aBox_ok {t : Nat} (ho : o.op = .box t x) (hg : opd gl x = some g) : OAs P o nt gl (aBox g) := by
  intro G e a id w v ob hv he hid
  have hx := opd_ok hg he
  unfold aBox at hv
  split at hv
  · rename_i l hl
    cases e1 : allOne l with
    | false => rw [e1] at hv; cases hv
    | true =>
      rw [e1] at hv; cases hv
      obtain ⟨l', b1, b2⟩ := cellsV_ok hl hx
      refine aNew_of (el := t) (l' := l') (e := e) b2 (allOne_ok e1 b2) hid ?_
      simp [execOp, ho, Instr.box, newVar, newRow, b1]
  · cases hv
end
end
end Go.Proofs.YtjipdnfaokdkbaaLab
