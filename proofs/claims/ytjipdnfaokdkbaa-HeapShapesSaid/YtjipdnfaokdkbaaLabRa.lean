/- The lab: rules to reckon a run of ours by hand: how pieces of code end, step by step. No condition on the program. -/
import Derived.Test.YtjipdnfaokdkbaaLabK
namespace Go.Proofs.YtjipdnfaokdkbaaLab
open Go
set_option linter.unusedVariables false
noncomputable section

/-! ### Shapes -/
/-- A value that is named. -/
def lt {α β : Type} (x : α) (f : α → β) : β := f x
/-- A constant that is named. -/
def ltc {α β : Type} (x : α) (f : α → β) : β := f x
def rem64 : V → V → Option V := dv .rem .i64 fun a b => Bool.casesOn (motive := fun _ => Option V) (eqI b 0) (some (mkI .i64 (Int.tmod a b))) none
def quo64 : V → V → Option V := dv .quo .i64 fun a b => Bool.casesOn (motive := fun _ => Option V) (eqI b 0) (some (mkW .i64 (Int.tdiv a b))) none
def seqR (r : Res) (b : E → St → Res) : Res := Res.casesOn (motive := fun _ => Res) r (fun e s => b e s) (fun id e s => .exit id e s) (fun e s => .ret e s) .bad
def condR (v : V) (a b : E → St → Res) (e : E) (s : St) : Res := match v with
  | .bool t => Bool.casesOn (motive := fun _ => Res) t (b e s) (a e s)
  | _ => .bad
def blkR (id : Nat) (r : Res) : Res := Res.casesOn (motive := fun _ => Res) r (fun e s => .nrm e s) (fun id' e s => Bool.casesOn (motive := fun _ => Res) (Nat.beq id' id) (.exit id' e s) (.nrm e s)) (fun e s => .ret e s) .bad
/-- How a function ends. -/
def retR (res : E → St → Option V) (r : Res) : Option (V × St) := match r with
  | .nrm e' s' => (match res e' s' with | some v => some (v, s') | none => none)
  | .ret e' s' => (match res e' s' with | some v => some (v, s') | none => none)
  | _ => none
@[congr] theorem lt_congr {α β : Type} {x x' : α} {f : α → β} (h : x = x') : lt x f = lt x' f := by rw [h]
@[congr] theorem bP_congr {x x' : Option V} {k : V → Res} (h : x = x') : bP x k = bP x' k := by rw [h]
@[congr] theorem bE_congr {x x' : Option (V × St)} {k : V → St → Res} (h : x = x') : bE x k = bE x' k := by rw [h]
@[congr] theorem seqR_congr {r r' : Res} {b : E → St → Res} (h : r = r') : seqR r b = seqR r' b := by rw [h]
@[congr] theorem condR_congr {v v' : V} {a b : E → St → Res} {e : E} {s : St} (h : v = v') : condR v a b e s = condR v' a b e s := by rw [h]
@[congr] theorem blkR_congr {id : Nat} {r r' : Res} (h : r = r') : blkR id r = blkR id r' := by rw [h]
@[congr] theorem retR_congr {res : E → St → Option V} {r r' : Res} (h : r = r') : retR res r = retR res r' := by rw [h]

/-! ### Steps -/
section
variable {k : KC} {e : E} {s : St} {a b : Den} {f : V → Res} {f2 : V → St → Res} {v : V} {id id' : Nat} {B : E → St → Res}
theorem lt_eq {α β : Type} (x : α) (f : α → β) : lt x f = f x := (rfl)
theorem ltc_eq {α β : Type} (x : α) (f : α → β) : ltc x f = f x := (rfl)
theorem bP_some (v : V) (f : V → Res) : bP (some v) f = f v := (rfl)
theorem bE_some (v : V) (s : St) (f2 : V → St → Res) : bE (some (v, s)) f2 = f2 v s := (rfl)
theorem aSt_some (v : V) (o : Ob) (s : St) : aSt (some (v, o)) s = some (v, s.new o) := (rfl)
theorem dSeq_eq : dSeq a b k e s = seqR (a k e s) (b k) := (rfl)
theorem seqR_nrm : seqR (.nrm e s) B = B e s := (rfl)
theorem seqR_exit : seqR (.exit id e s) B = .exit id e s := (rfl)
theorem seqR_ret : seqR (.ret e s) B = .ret e s := (rfl)
theorem dRet_eq : dRet k e s = .ret e s := (rfl)
theorem dSkip_eq : dSkip k e s = .nrm e s := (rfl)
theorem dExit_eq : dExit id k e s = .exit id e s := (rfl)
theorem dCond_eq {g : E → V} : dCond g a b k e s = condR (g e) (a k) (b k) e s := by unfold dCond condR; rfl
theorem condR_true {a b : E → St → Res} : condR (.bool true) a b e s = a e s := (rfl)
theorem condR_false {a b : E → St → Res} : condR (.bool false) a b e s = b e s := (rfl)
theorem condR_dec {a b : E → St → Res} {t : Bool} : condR (.bool t) a b e s = if t = true then a e s else b e s := by cases t <;> rfl
theorem dBlock_eq : dBlock id a k e s = blkR id (a k e s) := (rfl)
theorem blkR_nrm : blkR id (.nrm e s) = .nrm e s := (rfl)
theorem blkR_ret : blkR id (.ret e s) = .ret e s := (rfl)
theorem blkR_exit : blkR id (.exit id e s) = .nrm e s := by show Bool.casesOn (motive := fun _ => Res) (Nat.beq id id) _ _ = _; rw [Nat.beq_refl]
theorem blkR_exit_ne (h : id' ≠ id) : blkR id (.exit id' e s) = .exit id' e s := by show Bool.casesOn (motive := fun _ => Res) (Nat.beq id' id) _ _ = _; rw [nbeq_false h]
theorem dLoop_eq : dLoop a k e s = loopN (a k) k.fuel e s := (rfl)
theorem oP_eq {f : E → Option V} {u : E → V → E} : oP f u k e s = bP (f e) fun v => .nrm (u e v) s := by unfold oP bP; cases f e <;> rfl
theorem oD_eq {f : E → St → Option V} {u : E → V → E} : oD f u k e s = bP (f e s) fun v => .nrm (u e v) s := by unfold oD bP; cases f e s <;> rfl
theorem oE_eq {f : KC → E → St → Option (V × St)} {u : E → V → E} : oE f u k e s = bE (f k e s) fun v s => .nrm (u e v) s := by unfold oE bE; cases f k e s <;> rfl
theorem oA_eq {f : E → Nat → Option (V × Ob)} {u : E → V → E} : oA f u k e s = bE (aSt (f e s.next) s) fun v s => .nrm (u e v) s := by unfold oA bE aSt; cases f e s.next <;> rfl
theorem ops_nil : ops [] k e s = .nrm e s := (rfl)
theorem ops_cons {l : List Den} : ops (a :: l) k e s = seqR (a k e s) (ops l k) := (rfl)
theorem uNone_eq : uNone e v = e := (rfl)
theorem gdV_tt (x : Option V) : gdV (.bool true) true x = x := (rfl)
theorem gdV_ff (x : Option V) : gdV (.bool false) false x = x := (rfl)
theorem gdV_tf (x : Option V) : gdV (.bool true) false x = some (.tup []) := (rfl)
theorem gdV_ft (x : Option V) : gdV (.bool false) true x = some (.tup []) := (rfl)
theorem gdV_nil (w : Bool) (x : Option V) : gdV (.tup []) w x = some (.tup []) := (rfl)
theorem gdW_tt (x : Option (V × St)) : gdW (.bool true) true s x = x := (rfl)
theorem gdW_ff (x : Option (V × St)) : gdW (.bool false) false s x = x := (rfl)
theorem gdW_tf (x : Option (V × St)) : gdW (.bool true) false s x = some (.tup [], s) := (rfl)
theorem gdW_ft (x : Option (V × St)) : gdW (.bool false) true s x = some (.tup [], s) := (rfl)
theorem gdW_nil (w : Bool) (x : Option (V × St)) : gdW (.tup []) w s x = some (.tup [], s) := (rfl)
theorem retR_nrm {res : E → St → Option V} (h : res e s = some v) : retR res (.nrm e s) = some (v, s) := by show (match res e s with | some v => some (v, s) | none => none) = _; rw [h]
theorem retR_ret {res : E → St → Option V} (h : res e s = some v) : retR res (.ret e s) = some (v, s) := by show (match res e s with | some v => some (v, s) | none => none) = _; rw [h]
theorem retR_nrm' {res : E → St → Option V} : retR res (.nrm e s) = (res e s).map fun v => (v, s) := by show (match res e s with | some v => some (v, s) | none => none) = _; cases res e s <;> rfl
theorem retR_ret' {res : E → St → Option V} : retR res (.ret e s) = (res e s).map fun v => (v, s) := by show (match res e s with | some v => some (v, s) | none => none) = _; cases res e s <;> rfl
theorem runF_eq {F : FDen} {args : List V} (h : setAll F.us args e0 = some e) : runF F k args s = retR F.res (F.body k e s) := by unfold runF; rw [h]; rfl
theorem setAll_nil (e : E) : setAll [] [] e = some e := (rfl)
theorem setAll_cons (u : E → V → E) (us : List (E → V → E)) (v : V) (vs : List V) (e : E) : setAll (u :: us) (v :: vs) e = setAll us vs (u e v) := (rfl)
theorem e0_eq : e0 = ⟨e16, e16, e16, e16, e16, e16, e16, e16, e16, e16, e16, e16, e16, e16, e16, e16⟩ := (rfl)
theorem e16_eq : e16 = ⟨.tup [], .tup [], .tup [], .tup [], .tup [], .tup [], .tup [], .tup [], .tup [], .tup [], .tup [], .tup [], .tup [], .tup [], .tup [], .tup []⟩ := (rfl)
theorem rT_eq (g : E → V) : rT g e s = some (g e) := (rfl)
theorem resV_one (g : E → St → Option V) : resV [g] e s = g e s := (rfl)
theorem resV_nil : resV [] e s = some (.tup []) := (rfl)
theorem resV_two {g h : E → St → Option V} {x y : V} (h1 : g e s = some x) (h2 : h e s = some y) : resV [g, h] e s = some (.tup [x, y]) := by simp only [resV, evR, h1, h2]
theorem resV_tt {g h : E → V} : resV [rT g, rT h] e s = some (.tup [g e, h e]) := (rfl)
theorem resV_ttt {g h i : E → V} : resV [rT g, rT h, rT i] e s = some (.tup [g e, h e, i e]) := (rfl)

/-! ### Frames: slots turned, by the parts of a frame that need not be known -/
theorem N16.k0e {α β : Type} (e : N16 α) (v : α) (k : N16 α → β) : N16.k0 e v k = k ⟨v, e.a1, e.a2, e.a3, e.a4, e.a5, e.a6, e.a7, e.a8, e.a9, e.a10, e.a11, e.a12, e.a13, e.a14, e.a15⟩ := (rfl)
theorem N16.u0e {α : Type} (sk : N16 α → α → (N16 α → N16 (N16 α)) → N16 (N16 α)) (e : N16 (N16 α)) (v : α) : N16.u0 sk e v = sk e.a0 v (fun y => ⟨y, e.a1, e.a2, e.a3, e.a4, e.a5, e.a6, e.a7, e.a8, e.a9, e.a10, e.a11, e.a12, e.a13, e.a14, e.a15⟩) := (rfl)
theorem rw0e (e : E) (k : V → V → V → V → V → V → V → V → V → V → V → V → V → V → V → V → N16 V) : rw0 e k = ⟨k e.a0.a0 e.a0.a1 e.a0.a2 e.a0.a3 e.a0.a4 e.a0.a5 e.a0.a6 e.a0.a7 e.a0.a8 e.a0.a9 e.a0.a10 e.a0.a11 e.a0.a12 e.a0.a13 e.a0.a14 e.a0.a15, e.a1, e.a2, e.a3, e.a4, e.a5, e.a6, e.a7, e.a8, e.a9, e.a10, e.a11, e.a12, e.a13, e.a14, e.a15⟩ := (rfl)
theorem N16.k1e {α β : Type} (e : N16 α) (v : α) (k : N16 α → β) : N16.k1 e v k = k ⟨e.a0, v, e.a2, e.a3, e.a4, e.a5, e.a6, e.a7, e.a8, e.a9, e.a10, e.a11, e.a12, e.a13, e.a14, e.a15⟩ := (rfl)
theorem N16.u1e {α : Type} (sk : N16 α → α → (N16 α → N16 (N16 α)) → N16 (N16 α)) (e : N16 (N16 α)) (v : α) : N16.u1 sk e v = sk e.a1 v (fun y => ⟨e.a0, y, e.a2, e.a3, e.a4, e.a5, e.a6, e.a7, e.a8, e.a9, e.a10, e.a11, e.a12, e.a13, e.a14, e.a15⟩) := (rfl)
theorem rw1e (e : E) (k : V → V → V → V → V → V → V → V → V → V → V → V → V → V → V → V → N16 V) : rw1 e k = ⟨e.a0, k e.a1.a0 e.a1.a1 e.a1.a2 e.a1.a3 e.a1.a4 e.a1.a5 e.a1.a6 e.a1.a7 e.a1.a8 e.a1.a9 e.a1.a10 e.a1.a11 e.a1.a12 e.a1.a13 e.a1.a14 e.a1.a15, e.a2, e.a3, e.a4, e.a5, e.a6, e.a7, e.a8, e.a9, e.a10, e.a11, e.a12, e.a13, e.a14, e.a15⟩ := (rfl)
theorem N16.k2e {α β : Type} (e : N16 α) (v : α) (k : N16 α → β) : N16.k2 e v k = k ⟨e.a0, e.a1, v, e.a3, e.a4, e.a5, e.a6, e.a7, e.a8, e.a9, e.a10, e.a11, e.a12, e.a13, e.a14, e.a15⟩ := (rfl)
theorem N16.u2e {α : Type} (sk : N16 α → α → (N16 α → N16 (N16 α)) → N16 (N16 α)) (e : N16 (N16 α)) (v : α) : N16.u2 sk e v = sk e.a2 v (fun y => ⟨e.a0, e.a1, y, e.a3, e.a4, e.a5, e.a6, e.a7, e.a8, e.a9, e.a10, e.a11, e.a12, e.a13, e.a14, e.a15⟩) := (rfl)
theorem rw2e (e : E) (k : V → V → V → V → V → V → V → V → V → V → V → V → V → V → V → V → N16 V) : rw2 e k = ⟨e.a0, e.a1, k e.a2.a0 e.a2.a1 e.a2.a2 e.a2.a3 e.a2.a4 e.a2.a5 e.a2.a6 e.a2.a7 e.a2.a8 e.a2.a9 e.a2.a10 e.a2.a11 e.a2.a12 e.a2.a13 e.a2.a14 e.a2.a15, e.a3, e.a4, e.a5, e.a6, e.a7, e.a8, e.a9, e.a10, e.a11, e.a12, e.a13, e.a14, e.a15⟩ := (rfl)
theorem N16.k3e {α β : Type} (e : N16 α) (v : α) (k : N16 α → β) : N16.k3 e v k = k ⟨e.a0, e.a1, e.a2, v, e.a4, e.a5, e.a6, e.a7, e.a8, e.a9, e.a10, e.a11, e.a12, e.a13, e.a14, e.a15⟩ := (rfl)
theorem N16.u3e {α : Type} (sk : N16 α → α → (N16 α → N16 (N16 α)) → N16 (N16 α)) (e : N16 (N16 α)) (v : α) : N16.u3 sk e v = sk e.a3 v (fun y => ⟨e.a0, e.a1, e.a2, y, e.a4, e.a5, e.a6, e.a7, e.a8, e.a9, e.a10, e.a11, e.a12, e.a13, e.a14, e.a15⟩) := (rfl)
theorem rw3e (e : E) (k : V → V → V → V → V → V → V → V → V → V → V → V → V → V → V → V → N16 V) : rw3 e k = ⟨e.a0, e.a1, e.a2, k e.a3.a0 e.a3.a1 e.a3.a2 e.a3.a3 e.a3.a4 e.a3.a5 e.a3.a6 e.a3.a7 e.a3.a8 e.a3.a9 e.a3.a10 e.a3.a11 e.a3.a12 e.a3.a13 e.a3.a14 e.a3.a15, e.a4, e.a5, e.a6, e.a7, e.a8, e.a9, e.a10, e.a11, e.a12, e.a13, e.a14, e.a15⟩ := (rfl)
theorem N16.k4e {α β : Type} (e : N16 α) (v : α) (k : N16 α → β) : N16.k4 e v k = k ⟨e.a0, e.a1, e.a2, e.a3, v, e.a5, e.a6, e.a7, e.a8, e.a9, e.a10, e.a11, e.a12, e.a13, e.a14, e.a15⟩ := (rfl)
theorem N16.u4e {α : Type} (sk : N16 α → α → (N16 α → N16 (N16 α)) → N16 (N16 α)) (e : N16 (N16 α)) (v : α) : N16.u4 sk e v = sk e.a4 v (fun y => ⟨e.a0, e.a1, e.a2, e.a3, y, e.a5, e.a6, e.a7, e.a8, e.a9, e.a10, e.a11, e.a12, e.a13, e.a14, e.a15⟩) := (rfl)
theorem rw4e (e : E) (k : V → V → V → V → V → V → V → V → V → V → V → V → V → V → V → V → N16 V) : rw4 e k = ⟨e.a0, e.a1, e.a2, e.a3, k e.a4.a0 e.a4.a1 e.a4.a2 e.a4.a3 e.a4.a4 e.a4.a5 e.a4.a6 e.a4.a7 e.a4.a8 e.a4.a9 e.a4.a10 e.a4.a11 e.a4.a12 e.a4.a13 e.a4.a14 e.a4.a15, e.a5, e.a6, e.a7, e.a8, e.a9, e.a10, e.a11, e.a12, e.a13, e.a14, e.a15⟩ := (rfl)
theorem N16.k5e {α β : Type} (e : N16 α) (v : α) (k : N16 α → β) : N16.k5 e v k = k ⟨e.a0, e.a1, e.a2, e.a3, e.a4, v, e.a6, e.a7, e.a8, e.a9, e.a10, e.a11, e.a12, e.a13, e.a14, e.a15⟩ := (rfl)
theorem N16.u5e {α : Type} (sk : N16 α → α → (N16 α → N16 (N16 α)) → N16 (N16 α)) (e : N16 (N16 α)) (v : α) : N16.u5 sk e v = sk e.a5 v (fun y => ⟨e.a0, e.a1, e.a2, e.a3, e.a4, y, e.a6, e.a7, e.a8, e.a9, e.a10, e.a11, e.a12, e.a13, e.a14, e.a15⟩) := (rfl)
theorem rw5e (e : E) (k : V → V → V → V → V → V → V → V → V → V → V → V → V → V → V → V → N16 V) : rw5 e k = ⟨e.a0, e.a1, e.a2, e.a3, e.a4, k e.a5.a0 e.a5.a1 e.a5.a2 e.a5.a3 e.a5.a4 e.a5.a5 e.a5.a6 e.a5.a7 e.a5.a8 e.a5.a9 e.a5.a10 e.a5.a11 e.a5.a12 e.a5.a13 e.a5.a14 e.a5.a15, e.a6, e.a7, e.a8, e.a9, e.a10, e.a11, e.a12, e.a13, e.a14, e.a15⟩ := (rfl)
theorem N16.k6e {α β : Type} (e : N16 α) (v : α) (k : N16 α → β) : N16.k6 e v k = k ⟨e.a0, e.a1, e.a2, e.a3, e.a4, e.a5, v, e.a7, e.a8, e.a9, e.a10, e.a11, e.a12, e.a13, e.a14, e.a15⟩ := (rfl)
theorem N16.u6e {α : Type} (sk : N16 α → α → (N16 α → N16 (N16 α)) → N16 (N16 α)) (e : N16 (N16 α)) (v : α) : N16.u6 sk e v = sk e.a6 v (fun y => ⟨e.a0, e.a1, e.a2, e.a3, e.a4, e.a5, y, e.a7, e.a8, e.a9, e.a10, e.a11, e.a12, e.a13, e.a14, e.a15⟩) := (rfl)
theorem rw6e (e : E) (k : V → V → V → V → V → V → V → V → V → V → V → V → V → V → V → V → N16 V) : rw6 e k = ⟨e.a0, e.a1, e.a2, e.a3, e.a4, e.a5, k e.a6.a0 e.a6.a1 e.a6.a2 e.a6.a3 e.a6.a4 e.a6.a5 e.a6.a6 e.a6.a7 e.a6.a8 e.a6.a9 e.a6.a10 e.a6.a11 e.a6.a12 e.a6.a13 e.a6.a14 e.a6.a15, e.a7, e.a8, e.a9, e.a10, e.a11, e.a12, e.a13, e.a14, e.a15⟩ := (rfl)
theorem N16.k7e {α β : Type} (e : N16 α) (v : α) (k : N16 α → β) : N16.k7 e v k = k ⟨e.a0, e.a1, e.a2, e.a3, e.a4, e.a5, e.a6, v, e.a8, e.a9, e.a10, e.a11, e.a12, e.a13, e.a14, e.a15⟩ := (rfl)
theorem N16.u7e {α : Type} (sk : N16 α → α → (N16 α → N16 (N16 α)) → N16 (N16 α)) (e : N16 (N16 α)) (v : α) : N16.u7 sk e v = sk e.a7 v (fun y => ⟨e.a0, e.a1, e.a2, e.a3, e.a4, e.a5, e.a6, y, e.a8, e.a9, e.a10, e.a11, e.a12, e.a13, e.a14, e.a15⟩) := (rfl)
theorem rw7e (e : E) (k : V → V → V → V → V → V → V → V → V → V → V → V → V → V → V → V → N16 V) : rw7 e k = ⟨e.a0, e.a1, e.a2, e.a3, e.a4, e.a5, e.a6, k e.a7.a0 e.a7.a1 e.a7.a2 e.a7.a3 e.a7.a4 e.a7.a5 e.a7.a6 e.a7.a7 e.a7.a8 e.a7.a9 e.a7.a10 e.a7.a11 e.a7.a12 e.a7.a13 e.a7.a14 e.a7.a15, e.a8, e.a9, e.a10, e.a11, e.a12, e.a13, e.a14, e.a15⟩ := (rfl)
theorem N16.k8e {α β : Type} (e : N16 α) (v : α) (k : N16 α → β) : N16.k8 e v k = k ⟨e.a0, e.a1, e.a2, e.a3, e.a4, e.a5, e.a6, e.a7, v, e.a9, e.a10, e.a11, e.a12, e.a13, e.a14, e.a15⟩ := (rfl)
theorem N16.u8e {α : Type} (sk : N16 α → α → (N16 α → N16 (N16 α)) → N16 (N16 α)) (e : N16 (N16 α)) (v : α) : N16.u8 sk e v = sk e.a8 v (fun y => ⟨e.a0, e.a1, e.a2, e.a3, e.a4, e.a5, e.a6, e.a7, y, e.a9, e.a10, e.a11, e.a12, e.a13, e.a14, e.a15⟩) := (rfl)
theorem rw8e (e : E) (k : V → V → V → V → V → V → V → V → V → V → V → V → V → V → V → V → N16 V) : rw8 e k = ⟨e.a0, e.a1, e.a2, e.a3, e.a4, e.a5, e.a6, e.a7, k e.a8.a0 e.a8.a1 e.a8.a2 e.a8.a3 e.a8.a4 e.a8.a5 e.a8.a6 e.a8.a7 e.a8.a8 e.a8.a9 e.a8.a10 e.a8.a11 e.a8.a12 e.a8.a13 e.a8.a14 e.a8.a15, e.a9, e.a10, e.a11, e.a12, e.a13, e.a14, e.a15⟩ := (rfl)
theorem N16.k9e {α β : Type} (e : N16 α) (v : α) (k : N16 α → β) : N16.k9 e v k = k ⟨e.a0, e.a1, e.a2, e.a3, e.a4, e.a5, e.a6, e.a7, e.a8, v, e.a10, e.a11, e.a12, e.a13, e.a14, e.a15⟩ := (rfl)
theorem N16.u9e {α : Type} (sk : N16 α → α → (N16 α → N16 (N16 α)) → N16 (N16 α)) (e : N16 (N16 α)) (v : α) : N16.u9 sk e v = sk e.a9 v (fun y => ⟨e.a0, e.a1, e.a2, e.a3, e.a4, e.a5, e.a6, e.a7, e.a8, y, e.a10, e.a11, e.a12, e.a13, e.a14, e.a15⟩) := (rfl)
theorem rw9e (e : E) (k : V → V → V → V → V → V → V → V → V → V → V → V → V → V → V → V → N16 V) : rw9 e k = ⟨e.a0, e.a1, e.a2, e.a3, e.a4, e.a5, e.a6, e.a7, e.a8, k e.a9.a0 e.a9.a1 e.a9.a2 e.a9.a3 e.a9.a4 e.a9.a5 e.a9.a6 e.a9.a7 e.a9.a8 e.a9.a9 e.a9.a10 e.a9.a11 e.a9.a12 e.a9.a13 e.a9.a14 e.a9.a15, e.a10, e.a11, e.a12, e.a13, e.a14, e.a15⟩ := (rfl)
theorem N16.k10e {α β : Type} (e : N16 α) (v : α) (k : N16 α → β) : N16.k10 e v k = k ⟨e.a0, e.a1, e.a2, e.a3, e.a4, e.a5, e.a6, e.a7, e.a8, e.a9, v, e.a11, e.a12, e.a13, e.a14, e.a15⟩ := (rfl)
theorem N16.u10e {α : Type} (sk : N16 α → α → (N16 α → N16 (N16 α)) → N16 (N16 α)) (e : N16 (N16 α)) (v : α) : N16.u10 sk e v = sk e.a10 v (fun y => ⟨e.a0, e.a1, e.a2, e.a3, e.a4, e.a5, e.a6, e.a7, e.a8, e.a9, y, e.a11, e.a12, e.a13, e.a14, e.a15⟩) := (rfl)
theorem rw10e (e : E) (k : V → V → V → V → V → V → V → V → V → V → V → V → V → V → V → V → N16 V) : rw10 e k = ⟨e.a0, e.a1, e.a2, e.a3, e.a4, e.a5, e.a6, e.a7, e.a8, e.a9, k e.a10.a0 e.a10.a1 e.a10.a2 e.a10.a3 e.a10.a4 e.a10.a5 e.a10.a6 e.a10.a7 e.a10.a8 e.a10.a9 e.a10.a10 e.a10.a11 e.a10.a12 e.a10.a13 e.a10.a14 e.a10.a15, e.a11, e.a12, e.a13, e.a14, e.a15⟩ := (rfl)
theorem N16.k11e {α β : Type} (e : N16 α) (v : α) (k : N16 α → β) : N16.k11 e v k = k ⟨e.a0, e.a1, e.a2, e.a3, e.a4, e.a5, e.a6, e.a7, e.a8, e.a9, e.a10, v, e.a12, e.a13, e.a14, e.a15⟩ := (rfl)
theorem N16.u11e {α : Type} (sk : N16 α → α → (N16 α → N16 (N16 α)) → N16 (N16 α)) (e : N16 (N16 α)) (v : α) : N16.u11 sk e v = sk e.a11 v (fun y => ⟨e.a0, e.a1, e.a2, e.a3, e.a4, e.a5, e.a6, e.a7, e.a8, e.a9, e.a10, y, e.a12, e.a13, e.a14, e.a15⟩) := (rfl)
theorem rw11e (e : E) (k : V → V → V → V → V → V → V → V → V → V → V → V → V → V → V → V → N16 V) : rw11 e k = ⟨e.a0, e.a1, e.a2, e.a3, e.a4, e.a5, e.a6, e.a7, e.a8, e.a9, e.a10, k e.a11.a0 e.a11.a1 e.a11.a2 e.a11.a3 e.a11.a4 e.a11.a5 e.a11.a6 e.a11.a7 e.a11.a8 e.a11.a9 e.a11.a10 e.a11.a11 e.a11.a12 e.a11.a13 e.a11.a14 e.a11.a15, e.a12, e.a13, e.a14, e.a15⟩ := (rfl)
theorem N16.k12e {α β : Type} (e : N16 α) (v : α) (k : N16 α → β) : N16.k12 e v k = k ⟨e.a0, e.a1, e.a2, e.a3, e.a4, e.a5, e.a6, e.a7, e.a8, e.a9, e.a10, e.a11, v, e.a13, e.a14, e.a15⟩ := (rfl)
theorem N16.u12e {α : Type} (sk : N16 α → α → (N16 α → N16 (N16 α)) → N16 (N16 α)) (e : N16 (N16 α)) (v : α) : N16.u12 sk e v = sk e.a12 v (fun y => ⟨e.a0, e.a1, e.a2, e.a3, e.a4, e.a5, e.a6, e.a7, e.a8, e.a9, e.a10, e.a11, y, e.a13, e.a14, e.a15⟩) := (rfl)
theorem rw12e (e : E) (k : V → V → V → V → V → V → V → V → V → V → V → V → V → V → V → V → N16 V) : rw12 e k = ⟨e.a0, e.a1, e.a2, e.a3, e.a4, e.a5, e.a6, e.a7, e.a8, e.a9, e.a10, e.a11, k e.a12.a0 e.a12.a1 e.a12.a2 e.a12.a3 e.a12.a4 e.a12.a5 e.a12.a6 e.a12.a7 e.a12.a8 e.a12.a9 e.a12.a10 e.a12.a11 e.a12.a12 e.a12.a13 e.a12.a14 e.a12.a15, e.a13, e.a14, e.a15⟩ := (rfl)
theorem N16.k13e {α β : Type} (e : N16 α) (v : α) (k : N16 α → β) : N16.k13 e v k = k ⟨e.a0, e.a1, e.a2, e.a3, e.a4, e.a5, e.a6, e.a7, e.a8, e.a9, e.a10, e.a11, e.a12, v, e.a14, e.a15⟩ := (rfl)
theorem N16.u13e {α : Type} (sk : N16 α → α → (N16 α → N16 (N16 α)) → N16 (N16 α)) (e : N16 (N16 α)) (v : α) : N16.u13 sk e v = sk e.a13 v (fun y => ⟨e.a0, e.a1, e.a2, e.a3, e.a4, e.a5, e.a6, e.a7, e.a8, e.a9, e.a10, e.a11, e.a12, y, e.a14, e.a15⟩) := (rfl)
theorem rw13e (e : E) (k : V → V → V → V → V → V → V → V → V → V → V → V → V → V → V → V → N16 V) : rw13 e k = ⟨e.a0, e.a1, e.a2, e.a3, e.a4, e.a5, e.a6, e.a7, e.a8, e.a9, e.a10, e.a11, e.a12, k e.a13.a0 e.a13.a1 e.a13.a2 e.a13.a3 e.a13.a4 e.a13.a5 e.a13.a6 e.a13.a7 e.a13.a8 e.a13.a9 e.a13.a10 e.a13.a11 e.a13.a12 e.a13.a13 e.a13.a14 e.a13.a15, e.a14, e.a15⟩ := (rfl)
theorem N16.k14e {α β : Type} (e : N16 α) (v : α) (k : N16 α → β) : N16.k14 e v k = k ⟨e.a0, e.a1, e.a2, e.a3, e.a4, e.a5, e.a6, e.a7, e.a8, e.a9, e.a10, e.a11, e.a12, e.a13, v, e.a15⟩ := (rfl)
theorem N16.u14e {α : Type} (sk : N16 α → α → (N16 α → N16 (N16 α)) → N16 (N16 α)) (e : N16 (N16 α)) (v : α) : N16.u14 sk e v = sk e.a14 v (fun y => ⟨e.a0, e.a1, e.a2, e.a3, e.a4, e.a5, e.a6, e.a7, e.a8, e.a9, e.a10, e.a11, e.a12, e.a13, y, e.a15⟩) := (rfl)
theorem rw14e (e : E) (k : V → V → V → V → V → V → V → V → V → V → V → V → V → V → V → V → N16 V) : rw14 e k = ⟨e.a0, e.a1, e.a2, e.a3, e.a4, e.a5, e.a6, e.a7, e.a8, e.a9, e.a10, e.a11, e.a12, e.a13, k e.a14.a0 e.a14.a1 e.a14.a2 e.a14.a3 e.a14.a4 e.a14.a5 e.a14.a6 e.a14.a7 e.a14.a8 e.a14.a9 e.a14.a10 e.a14.a11 e.a14.a12 e.a14.a13 e.a14.a14 e.a14.a15, e.a15⟩ := (rfl)
theorem N16.k15e {α β : Type} (e : N16 α) (v : α) (k : N16 α → β) : N16.k15 e v k = k ⟨e.a0, e.a1, e.a2, e.a3, e.a4, e.a5, e.a6, e.a7, e.a8, e.a9, e.a10, e.a11, e.a12, e.a13, e.a14, v⟩ := (rfl)
theorem N16.u15e {α : Type} (sk : N16 α → α → (N16 α → N16 (N16 α)) → N16 (N16 α)) (e : N16 (N16 α)) (v : α) : N16.u15 sk e v = sk e.a15 v (fun y => ⟨e.a0, e.a1, e.a2, e.a3, e.a4, e.a5, e.a6, e.a7, e.a8, e.a9, e.a10, e.a11, e.a12, e.a13, e.a14, y⟩) := (rfl)
theorem rw15e (e : E) (k : V → V → V → V → V → V → V → V → V → V → V → V → V → V → V → V → N16 V) : rw15 e k = ⟨e.a0, e.a1, e.a2, e.a3, e.a4, e.a5, e.a6, e.a7, e.a8, e.a9, e.a10, e.a11, e.a12, e.a13, e.a14, k e.a15.a0 e.a15.a1 e.a15.a2 e.a15.a3 e.a15.a4 e.a15.a5 e.a15.a6 e.a15.a7 e.a15.a8 e.a15.a9 e.a15.a10 e.a15.a11 e.a15.a12 e.a15.a13 e.a15.a14 e.a15.a15⟩ := (rfl)

/-! ### Operations of operands alone -/
theorem cV_eq (v : V) (e : E) : cV v e = v := (rfl)
theorem pMove_eq (g : E → V) (e : E) : pMove g e = some (g e) := (rfl)
theorem pUn_eq (f : V → Option V) (g : E → V) (e : E) : pUn f g e = f (g e) := (rfl)
theorem pBin_eq (f : V → V → Option V) (g h : E → V) (e : E) : pBin f g h e = f (g e) (h e) := (rfl)
theorem pPick_tt {c g h : E → V} (hc : c e = .bool true) : pPick c g h e = some (g e) := by unfold pPick; rw [hc]
theorem pPick_ff {c g h : E → V} (hc : c e = .bool false) : pPick c g h e = some (h e) := by unfold pPick; rw [hc]
/-- One of two values. -/
def pkV (c x y : V) : Option V := match c with | .bool b => some (Bool.casesOn (motive := fun _ => V) b y x) | _ => none
theorem pPick_eq (c g h : E → V) (e : E) : pPick c g h e = pkV (c e) (g e) (h e) := by unfold pPick pkV; cases c e <;> rfl
theorem pkV_tt (x y : V) : pkV (.bool true) x y = some x := (rfl)
theorem pkV_ff (x y : V) : pkV (.bool false) x y = some y := (rfl)
theorem evs_nil (e : E) : evs [] e = [] := (rfl)
theorem evs_cons (g : E → V) (l : List (E → V)) (e : E) : evs (g :: l) e = g e :: evs l e := (rfl)
theorem evP_nil (e : E) : evP [] e = [] := (rfl)
theorem evP_cons (a b : Nat) (g : E → V) (l : List (Nat × Nat × (E → V))) (e : E) : evP ((a, b, g) :: l) e = (a, b, g e) :: evP l e := (rfl)
theorem eCall_eq (f : Nat) (gs : List (E → V)) : eCall f gs k e s = k.call f (evs gs e) s := (rfl)
/-- A number that an int may be. -/
def I64 (n : Int) : Prop := -9223372036854775808 ≤ n ∧ n < 9223372036854775808
theorem w64_of {n : Int} (h : I64 n) : w64 n = n := by
  rw [w64_eq]
  unfold I64 at h
  show (let m := n % 2 ^ 64; if decide True && decide (2 ^ (64 - 1) ≤ m) then m - 2 ^ 64 else m) = n
  simp only [decide_true, Bool.true_and, decide_eq_true_eq]
  split <;> omega
theorem fAdd_eq {a b : Int} (h1 : -9223372036854775808 ≤ a + b) (h2 : a + b < 9223372036854775808) : bI fAdd (.i a) (.i b) = some (.i (a + b)) := by show some (V.i (w64 (a + b))) = _; rw [w64_of ⟨h1, h2⟩]
theorem fAdd_w (a b : Int) : bI fAdd (.i a) (.i b) = some (.i (w64 (a + b))) := (rfl)
theorem fSub_w (a b : Int) : bI fSub (.i a) (.i b) = some (.i (w64 (a - b))) := (rfl)
theorem fSub_eq {a b : Int} (h1 : -9223372036854775808 ≤ a - b) (h2 : a - b < 9223372036854775808) : bI fSub (.i a) (.i b) = some (.i (a - b)) := by show some (V.i (w64 (a - b))) = _; rw [w64_of ⟨h1, h2⟩]
theorem fMul_eq {a b : Int} (h1 : -9223372036854775808 ≤ a * b) (h2 : a * b < 9223372036854775808) : bI fMul (.i a) (.i b) = some (.i (a * b)) := by show some (V.i (w64 (a * b))) = _; rw [w64_of ⟨h1, h2⟩]
theorem rem64_eq {a b : Int} (h : b ≠ 0) : rem64 (.i a) (.i b) = some (.i (a.tmod b)) := by
  have : eqI b 0 = false := by rw [eqI_eq]; simpa using h
  show (Bool.casesOn (motive := fun _ => Option V) (eqI b 0) (some (mkI .i64 (Int.tmod a b))) none) = _
  rw [this]; rfl
theorem fEq_eq (a b : Int) : bI fEq (.i a) (.i b) = some (.bool (decide (a = b))) := by show some (V.bool (eqI a b)) = _; rw [eqI_eq]; by_cases h : a = b <;> simp [h]
theorem fNe_eq (a b : Int) : bI fNe (.i a) (.i b) = some (.bool (!decide (a = b))) := by show some (V.bool (not (eqI a b))) = _; rw [eqI_eq]; by_cases h : a = b <;> simp [h]
theorem fLt_eq (a b : Int) : bI fLt (.i a) (.i b) = some (.bool (decide (a < b))) := by show some (V.bool (ltI a b)) = _; rw [ltI_eq]
theorem fLe_eq (a b : Int) : bI fLe (.i a) (.i b) = some (.bool (decide (a ≤ b))) := by show some (V.bool (leI a b)) = _; rw [leI_eq]
theorem fGt_eq (a b : Int) : bI fGt (.i a) (.i b) = some (.bool (decide (b < a))) := by show some (V.bool (ltI b a)) = _; rw [ltI_eq]
theorem fGe_eq (a b : Int) : bI fGe (.i a) (.i b) = some (.bool (decide (b ≤ a))) := by show some (V.bool (leI b a)) = _; rw [leI_eq]
theorem uNot_eq (t : Bool) : uNot (.bool t) = some (.bool (!t)) := (rfl)
theorem uLenS_slice (b o n es : Nat) (c : Option Nat) : uLenS (.slice b o n c es) = some (.i (n : Int)) := (rfl)
theorem uLenS_nil : uLenS .nils = some (.i 0) := (rfl)
theorem uFld_eq (n b o : Nat) : uFld n (.ptr b o) = some (.ptr b (o + n)) := (rfl)
theorem uChk_eq (b o : Nat) : uChk (.ptr b o) = some (.ptr b o) := (rfl)
theorem uExt_eq (i : Nat) (l : List V) : uExt i (.tup l) = l[i]? := (rfl)
theorem bNil_ptr (ng : Bool) (b o : Nat) : bNil ng nilP (.ptr b o) .nilp = some (.bool ng) := by cases ng <;> rfl
theorem bNil_nilp (ng : Bool) : bNil ng nilP .nilp .nilp = some (.bool (!ng)) := by cases ng <;> rfl
theorem bIdx_eq {es b o len : Nat} {c : Option Nat} {n : Int} (h0 : 0 ≤ n) (h1 : n < len) : bIdx es (.slice b o len c es) (.i n) = some (.ptr b (o + n.toNat * es)) := by
  show (Bool.casesOn (motive := fun _ => Option V) (Nat.beq es es) none (Bool.casesOn (motive := fun _ => Option V) (leI 0 n) none (Bool.casesOn (motive := fun _ => Option V) (Nat.blt n.toNat len) none (some (.ptr b (Nat.add o (Nat.mul n.toNat es))))))) = _
  rw [Nat.beq_refl, leI_eq, decide_eq_true h0, nblt_eq, decide_eq_true (by omega)]; rfl
theorem bIdx1_eq {b o len : Nat} {c : Option Nat} {n : Int} (h0 : 0 ≤ n) (h1 : n < len) : bIdx 1 (.slice b o len c 1) (.i n) = some (.ptr b (o + n.toNat)) := by rw [bIdx_eq h0 h1, Nat.mul_one]
theorem call_eq {tbl : T FDen} {fuel n f : Nat} {F : FDen} {args : List V} (h : tbl.get f = some F) : (kc tbl fuel (n + 1)).call f args s = runF F (kc tbl fuel n) args s := by
  show (match tbl.get f with | some F => runF F (kc tbl fuel n) args s | none => none) = _
  rw [h]
theorem fuel_eq {tbl : T FDen} {fuel n : Nat} : (kc tbl fuel n).fuel = fuel := by cases n <;> rfl
end

/-! ### Loops -/
/-- What holds ahead of a round and is nearer to the end behind it: how the loop ends. -/
theorem loop_ind {a : E → St → Res} (I : Nat → E → St → Prop) (Q : Res → Prop)
    (step : ∀ n e s, I n e s → (∃ e' s' m, a e s = .nrm e' s' ∧ m < n ∧ I m e' s') ∨ ((∃ id e' s', a e s = .exit id e' s') ∨ (∃ e' s', a e s = .ret e' s')) ∧ Q (a e s)) :
    ∀ (n N : Nat) (e : E) (s : St), n < N → I n e s → Q (loopN a N e s) := by
  intro n
  induction n using Nat.strongRecOn with
  | ind n ih =>
    intro N e s hN hI
    cases N with
    | zero => omega
    | succ N =>
      show Q (Res.casesOn (motive := fun _ => Res) (a e s) (fun e s => tick (loopN a N e s)) (fun id e s => .exit id e s) (fun e s => .ret e s) .bad)
      rcases step n e s hI with ⟨e', s', m, h, hm, hI'⟩ | ⟨h, hQ⟩
      · rw [h]; exact ih m hm N e' s' (by omega) hI'
      · rcases h with ⟨id, e', s', h⟩ | ⟨e', s', h⟩ <;> rw [h] at hQ ⊢ <;> exact hQ
/-- How a round ends. -/
def rnd (r : Res) (N : E → St → Prop) (Q : Res → Prop) : Prop := match r with
  | .nrm e s => N e s
  | .exit id e s => Q (.exit id e s)
  | .ret e s => Q (.ret e s)
  | .bad => False
@[congr] theorem rnd_congr {r r' : Res} {N : E → St → Prop} {Q : Res → Prop} (h : r = r') : rnd r N Q = rnd r' N Q := by rw [h]
theorem rnd_nrm (e : E) (s : St) (N : E → St → Prop) (Q : Res → Prop) : rnd (.nrm e s) N Q = N e s := (rfl)
theorem rnd_exit (id : Nat) (e : E) (s : St) (N : E → St → Prop) (Q : Res → Prop) : rnd (.exit id e s) N Q = Q (.exit id e s) := (rfl)
theorem rnd_ret (e : E) (s : St) (N : E → St → Prop) (Q : Res → Prop) : rnd (.ret e s) N Q = Q (.ret e s) := (rfl)
/-- A loop: what holds ahead of each round, with a number that falls. -/
theorem loop_at {a : E → St → Res} (I : Nat → E → St → Prop) (Q : Res → Prop) (step : ∀ n e s, I n e s → rnd (a e s) (fun e' s' => ∃ m, m < n ∧ I m e' s') Q) {n N : Nat} {e : E} {s : St} (hN : n < N) (h : I n e s) : Q (loopN a N e s) := by
  refine loop_ind I Q (fun n e s hI => ?_) n N e s hN h
  have := step n e s hI
  unfold rnd at this
  cases hr : a e s with
  | nrm e' s' => rw [hr] at this; obtain ⟨m, h1, h2⟩ := this; exact .inl ⟨e', s', m, rfl, h1, h2⟩
  | exit id e' s' => rw [hr] at this; exact .inr ⟨.inl ⟨id, e', s', rfl⟩, this⟩
  | ret e' s' => rw [hr] at this; exact .inr ⟨.inr ⟨e', s', rfl⟩, this⟩
  | bad => rw [hr] at this; exact this.elim
/-- What comes of a call. -/
def Ret (r : Option (V × St)) (Q : V → St → Prop) : Prop := ∃ v s', r = some (v, s') ∧ Q v s'
@[congr] theorem Ret_congr {r r' : Option (V × St)} {Q : V → St → Prop} (h : r = r') : Ret r Q = Ret r' Q := by rw [h]
theorem Ret_some (v : V) (s : St) (Q : V → St → Prop) : Ret (some (v, s)) Q = Q v s := by
  refine propext ⟨fun ⟨v', s', h, hq⟩ => by cases h; exact hq, fun h => ⟨v, s, rfl, h⟩⟩
theorem Ret.mono {r : Option (V × St)} {Q Q' : V → St → Prop} (h : Ret r Q) (hq : ∀ v s, Q v s → Q' v s) : Ret r Q' := let ⟨v, s, h1, h2⟩ := h; ⟨v, s, h1, hq v s h2⟩
end
end Go.Proofs.YtjipdnfaokdkbaaLab
