/- The lab, part 5 of 5. No condition on the program. Pruned. -/
import Derived.Test.YtcgdlgbomjnnnaaLm4
import Derived.ChangeSlices
import Derived.WideShapes
import Derived.Below
/- The lab: rules to reckon a run of ours by hand: how pieces of code end, step by step. No condition on the program. -/
namespace Go.Proofs.YtcgdlgbomjnnnaaLab
open Go
set_option linter.unusedVariables false
noncomputable section
/-! ### Shapes -/
def lt {α β : Type} (x : α) (f : α → β) : β := f x
def ltc {α β : Type} (x : α) (f : α → β) : β := f x
def rem64 : V → V → Option V := dv .rem .i64 fun a b => Bool.casesOn (motive := fun _ => Option V) (eqI b 0) (some (mkI .i64 (Int.tmod a b))) none
def seqR (r : Res) (b : E → St → Res) : Res := Res.casesOn (motive := fun _ => Res) r (fun e s => b e s) (fun id e s => .exit id e s) (fun e s => .ret e s) .bad
def condR (v : V) (a b : E → St → Res) (e : E) (s : St) : Res := match v with
 | .bool t => Bool.casesOn (motive := fun _ => Res) t (b e s) (a e s)
 | _ => .bad
def blkR (id : Nat) (r : Res) : Res := Res.casesOn (motive := fun _ => Res) r (fun e s => .nrm e s) (fun id' e s => Bool.casesOn (motive := fun _ => Res) (Nat.beq id' id) (.exit id' e s) (.nrm e s)) (fun e s => .ret e s) .bad
def retR (res : E → St → Option V) (r : Res) : Option (V × St) := match r with
 | .nrm e' s' => (match res e' s' with | some v => some (v, s') | none => none)
 | .ret e' s' => (match res e' s' with | some v => some (v, s') | none => none)
 | _ => none
@[congr] theorem lt_congr {α β : Type} {x x' : α} {f : α → β} (h : x = x') : lt x f = lt x' f := by rw [h]
@[congr] theorem bP_congr {x x' : Option V} {k : V → Res} (h : x = x') : bP x k = bP x' k := by rw [h]
@[congr] theorem bE_congr {x x' : Option (V × St)} {k : V → St → Res} (h : x = x') : bE x k = bE x' k := by rw [h]
@[congr] theorem seqR_congr {r r' : Res} {b : E → St → Res} (h : r = r') : seqR r b = seqR r' b := by rw [h]
@[congr] theorem condR_congr {v v' : V} {a b : E → St → Res} {e : E} {s : St} (h : v = v') : condR v a b e s = condR v' a b e s := by rw [h]
@[congr] theorem blkR_congr {id : Nat} {r r' : Res} (h : r = r') : blkR id r = blkR id r' := by rw [h]
@[congr] theorem retR_congr {res : E → St → Option V} {r r' : Res} (h : r = r') : retR res r = retR res r' := by rw [h]
section
variable {k : KC} {e : E} {s : St} {a b : Den} {f : V → Res} {f2 : V → St → Res} {v : V} {id id' : Nat} {B : E → St → Res}
theorem lt_eq {α β : Type} (x : α) (f : α → β) : lt x f = f x := (rfl)
theorem ltc_eq {α β : Type} (x : α) (f : α → β) : ltc x f = f x := (rfl)
theorem bP_some (v : V) (f : V → Res) : bP (some v) f = f v := (rfl)
theorem bE_some (v : V) (s : St) (f2 : V → St → Res) : bE (some (v, s)) f2 = f2 v s := (rfl)
theorem aSt_some (v : V) (o : Ob) (s : St) : aSt (some (v, o)) s = some (v, s.new o) := (rfl)
theorem dSeq_eq : dSeq a b k e s = seqR (a k e s) (b k) := (rfl)
theorem seqR_nrm : seqR (.nrm e s) B = B e s := (rfl)
theorem seqR_exit : seqR (.exit id e s) B = .exit id e s := (rfl)
theorem seqR_ret : seqR (.ret e s) B = .ret e s := (rfl)
theorem dRet_eq : dRet k e s = .ret e s := (rfl)
theorem dSkip_eq : dSkip k e s = .nrm e s := (rfl)
theorem dExit_eq : dExit id k e s = .exit id e s := (rfl)
theorem dCond_eq {g : E → V} : dCond g a b k e s = condR (g e) (a k) (b k) e s := by unfold dCond condR; rfl
theorem condR_true {a b : E → St → Res} : condR (.bool true) a b e s = a e s := (rfl)
theorem condR_false {a b : E → St → Res} : condR (.bool false) a b e s = b e s := (rfl)
theorem dBlock_eq : dBlock id a k e s = blkR id (a k e s) := (rfl)
theorem blkR_nrm : blkR id (.nrm e s) = .nrm e s := (rfl)
theorem blkR_ret : blkR id (.ret e s) = .ret e s := (rfl)
theorem blkR_exit : blkR id (.exit id e s) = .nrm e s := by show Bool.casesOn (motive := fun _ => Res) (Nat.beq id id) _ _ = _; rw [Nat.beq_refl]
theorem blkR_exit_ne (h : id' ≠ id) : blkR id (.exit id' e s) = .exit id' e s := by show Bool.casesOn (motive := fun _ => Res) (Nat.beq id' id) _ _ = _; rw [nbeq_false h]
theorem dLoop_eq : dLoop a k e s = loopN (a k) k.fuel e s := (rfl)
theorem uNone_eq : uNone e v = e := (rfl)
theorem gdV_tt (x : Option V) : gdV (.bool true) true x = x := (rfl)
theorem gdV_ff (x : Option V) : gdV (.bool false) false x = x := (rfl)
theorem gdV_tf (x : Option V) : gdV (.bool true) false x = some (.tup []) := (rfl)
theorem gdV_ft (x : Option V) : gdV (.bool false) true x = some (.tup []) := (rfl)
theorem gdV_nil (w : Bool) (x : Option V) : gdV (.tup []) w x = some (.tup []) := (rfl)
theorem gdW_tt (x : Option (V × St)) : gdW (.bool true) true s x = x := (rfl)
theorem gdW_ff (x : Option (V × St)) : gdW (.bool false) false s x = x := (rfl)
theorem gdW_tf (x : Option (V × St)) : gdW (.bool true) false s x = some (.tup [], s) := (rfl)
theorem gdW_ft (x : Option (V × St)) : gdW (.bool false) true s x = some (.tup [], s) := (rfl)
theorem gdW_nil (w : Bool) (x : Option (V × St)) : gdW (.tup []) w s x = some (.tup [], s) := (rfl)
theorem retR_nrm' {res : E → St → Option V} : retR res (.nrm e s) = (res e s).map fun v => (v, s) := by show (match res e s with | some v => some (v, s) | none => none) = _; cases res e s <;> rfl
theorem retR_ret' {res : E → St → Option V} : retR res (.ret e s) = (res e s).map fun v => (v, s) := by show (match res e s with | some v => some (v, s) | none => none) = _; cases res e s <;> rfl
theorem runF_eq {F : FDen} {args : List V} (h : setAll F.us args e0 = some e) : runF F k args s = retR F.res (F.body k e s) := by unfold runF; rw [h]; rfl
theorem e0_eq : e0 = ⟨e16, e16, e16, e16, e16, e16, e16, e16, e16, e16, e16, e16, e16, e16, e16, e16⟩ := (rfl)
theorem rT_eq (g : E → V) : rT g e s = some (g e) := (rfl)
theorem resV_one (g : E → St → Option V) : resV [g] e s = g e s := (rfl)
theorem resV_nil : resV [] e s = some (.tup []) := (rfl)
theorem resV_tt {g h : E → V} : resV [rT g, rT h] e s = some (.tup [g e, h e]) := (rfl)
theorem resV_ttt {g h i : E → V} : resV [rT g, rT h, rT i] e s = some (.tup [g e, h e, i e]) := (rfl)
theorem N16.k0e {α β : Type} (e : N16 α) (v : α) (k : N16 α → β) : N16.k0 e v k = k {e with a0 := v} := (rfl)
theorem N16.u0e {α : Type} (sk : N16 α → α → (N16 α → N16 (N16 α)) → N16 (N16 α)) (e : N16 (N16 α)) (v : α) : N16.u0 sk e v = sk e.a0 v (fun y => {e with a0 := y}) := (rfl)
theorem rw0e (e : E) (k) : rw0 e k = {e with a0 := k e.a0.a0 e.a0.a1 e.a0.a2 e.a0.a3 e.a0.a4 e.a0.a5 e.a0.a6 e.a0.a7 e.a0.a8 e.a0.a9 e.a0.a10 e.a0.a11 e.a0.a12 e.a0.a13 e.a0.a14 e.a0.a15} := (rfl)
def ws0 (e : E) (f : N16 V → N16 V) : E := {e with a0 := f e.a0}
theorem ws0e (e : E) (f) : ws0 e f = {e with a0 := f e.a0} := (rfl)
theorem N16.k1e {α β : Type} (e : N16 α) (v : α) (k : N16 α → β) : N16.k1 e v k = k {e with a1 := v} := (rfl)
theorem N16.u1e {α : Type} (sk : N16 α → α → (N16 α → N16 (N16 α)) → N16 (N16 α)) (e : N16 (N16 α)) (v : α) : N16.u1 sk e v = sk e.a1 v (fun y => {e with a1 := y}) := (rfl)
theorem rw1e (e : E) (k) : rw1 e k = {e with a1 := k e.a1.a0 e.a1.a1 e.a1.a2 e.a1.a3 e.a1.a4 e.a1.a5 e.a1.a6 e.a1.a7 e.a1.a8 e.a1.a9 e.a1.a10 e.a1.a11 e.a1.a12 e.a1.a13 e.a1.a14 e.a1.a15} := (rfl)
def ws1 (e : E) (f : N16 V → N16 V) : E := {e with a1 := f e.a1}
theorem ws1e (e : E) (f) : ws1 e f = {e with a1 := f e.a1} := (rfl)
theorem N16.k2e {α β : Type} (e : N16 α) (v : α) (k : N16 α → β) : N16.k2 e v k = k {e with a2 := v} := (rfl)
theorem N16.u2e {α : Type} (sk : N16 α → α → (N16 α → N16 (N16 α)) → N16 (N16 α)) (e : N16 (N16 α)) (v : α) : N16.u2 sk e v = sk e.a2 v (fun y => {e with a2 := y}) := (rfl)
theorem rw2e (e : E) (k) : rw2 e k = {e with a2 := k e.a2.a0 e.a2.a1 e.a2.a2 e.a2.a3 e.a2.a4 e.a2.a5 e.a2.a6 e.a2.a7 e.a2.a8 e.a2.a9 e.a2.a10 e.a2.a11 e.a2.a12 e.a2.a13 e.a2.a14 e.a2.a15} := (rfl)
def ws2 (e : E) (f : N16 V → N16 V) : E := {e with a2 := f e.a2}
theorem ws2e (e : E) (f) : ws2 e f = {e with a2 := f e.a2} := (rfl)
theorem N16.k3e {α β : Type} (e : N16 α) (v : α) (k : N16 α → β) : N16.k3 e v k = k {e with a3 := v} := (rfl)
theorem N16.u3e {α : Type} (sk : N16 α → α → (N16 α → N16 (N16 α)) → N16 (N16 α)) (e : N16 (N16 α)) (v : α) : N16.u3 sk e v = sk e.a3 v (fun y => {e with a3 := y}) := (rfl)
theorem rw3e (e : E) (k) : rw3 e k = {e with a3 := k e.a3.a0 e.a3.a1 e.a3.a2 e.a3.a3 e.a3.a4 e.a3.a5 e.a3.a6 e.a3.a7 e.a3.a8 e.a3.a9 e.a3.a10 e.a3.a11 e.a3.a12 e.a3.a13 e.a3.a14 e.a3.a15} := (rfl)
def ws3 (e : E) (f : N16 V → N16 V) : E := {e with a3 := f e.a3}
theorem ws3e (e : E) (f) : ws3 e f = {e with a3 := f e.a3} := (rfl)
theorem N16.k4e {α β : Type} (e : N16 α) (v : α) (k : N16 α → β) : N16.k4 e v k = k {e with a4 := v} := (rfl)
theorem N16.u4e {α : Type} (sk : N16 α → α → (N16 α → N16 (N16 α)) → N16 (N16 α)) (e : N16 (N16 α)) (v : α) : N16.u4 sk e v = sk e.a4 v (fun y => {e with a4 := y}) := (rfl)
theorem rw4e (e : E) (k) : rw4 e k = {e with a4 := k e.a4.a0 e.a4.a1 e.a4.a2 e.a4.a3 e.a4.a4 e.a4.a5 e.a4.a6 e.a4.a7 e.a4.a8 e.a4.a9 e.a4.a10 e.a4.a11 e.a4.a12 e.a4.a13 e.a4.a14 e.a4.a15} := (rfl)
def ws4 (e : E) (f : N16 V → N16 V) : E := {e with a4 := f e.a4}
theorem ws4e (e : E) (f) : ws4 e f = {e with a4 := f e.a4} := (rfl)
theorem N16.k5e {α β : Type} (e : N16 α) (v : α) (k : N16 α → β) : N16.k5 e v k = k {e with a5 := v} := (rfl)
theorem N16.u5e {α : Type} (sk : N16 α → α → (N16 α → N16 (N16 α)) → N16 (N16 α)) (e : N16 (N16 α)) (v : α) : N16.u5 sk e v = sk e.a5 v (fun y => {e with a5 := y}) := (rfl)
theorem rw5e (e : E) (k) : rw5 e k = {e with a5 := k e.a5.a0 e.a5.a1 e.a5.a2 e.a5.a3 e.a5.a4 e.a5.a5 e.a5.a6 e.a5.a7 e.a5.a8 e.a5.a9 e.a5.a10 e.a5.a11 e.a5.a12 e.a5.a13 e.a5.a14 e.a5.a15} := (rfl)
def ws5 (e : E) (f : N16 V → N16 V) : E := {e with a5 := f e.a5}
theorem ws5e (e : E) (f) : ws5 e f = {e with a5 := f e.a5} := (rfl)
theorem N16.k6e {α β : Type} (e : N16 α) (v : α) (k : N16 α → β) : N16.k6 e v k = k {e with a6 := v} := (rfl)
theorem N16.u6e {α : Type} (sk : N16 α → α → (N16 α → N16 (N16 α)) → N16 (N16 α)) (e : N16 (N16 α)) (v : α) : N16.u6 sk e v = sk e.a6 v (fun y => {e with a6 := y}) := (rfl)
theorem rw6e (e : E) (k) : rw6 e k = {e with a6 := k e.a6.a0 e.a6.a1 e.a6.a2 e.a6.a3 e.a6.a4 e.a6.a5 e.a6.a6 e.a6.a7 e.a6.a8 e.a6.a9 e.a6.a10 e.a6.a11 e.a6.a12 e.a6.a13 e.a6.a14 e.a6.a15} := (rfl)
def ws6 (e : E) (f : N16 V → N16 V) : E := {e with a6 := f e.a6}
theorem ws6e (e : E) (f) : ws6 e f = {e with a6 := f e.a6} := (rfl)
theorem N16.k7e {α β : Type} (e : N16 α) (v : α) (k : N16 α → β) : N16.k7 e v k = k {e with a7 := v} := (rfl)
theorem N16.u7e {α : Type} (sk : N16 α → α → (N16 α → N16 (N16 α)) → N16 (N16 α)) (e : N16 (N16 α)) (v : α) : N16.u7 sk e v = sk e.a7 v (fun y => {e with a7 := y}) := (rfl)
theorem rw7e (e : E) (k) : rw7 e k = {e with a7 := k e.a7.a0 e.a7.a1 e.a7.a2 e.a7.a3 e.a7.a4 e.a7.a5 e.a7.a6 e.a7.a7 e.a7.a8 e.a7.a9 e.a7.a10 e.a7.a11 e.a7.a12 e.a7.a13 e.a7.a14 e.a7.a15} := (rfl)
def ws7 (e : E) (f : N16 V → N16 V) : E := {e with a7 := f e.a7}
theorem ws7e (e : E) (f) : ws7 e f = {e with a7 := f e.a7} := (rfl)
theorem N16.k8e {α β : Type} (e : N16 α) (v : α) (k : N16 α → β) : N16.k8 e v k = k {e with a8 := v} := (rfl)
theorem N16.u8e {α : Type} (sk : N16 α → α → (N16 α → N16 (N16 α)) → N16 (N16 α)) (e : N16 (N16 α)) (v : α) : N16.u8 sk e v = sk e.a8 v (fun y => {e with a8 := y}) := (rfl)
def ws8 (e : E) (f : N16 V → N16 V) : E := {e with a8 := f e.a8}
theorem ws8e (e : E) (f) : ws8 e f = {e with a8 := f e.a8} := (rfl)
theorem N16.k9e {α β : Type} (e : N16 α) (v : α) (k : N16 α → β) : N16.k9 e v k = k {e with a9 := v} := (rfl)
theorem N16.u9e {α : Type} (sk : N16 α → α → (N16 α → N16 (N16 α)) → N16 (N16 α)) (e : N16 (N16 α)) (v : α) : N16.u9 sk e v = sk e.a9 v (fun y => {e with a9 := y}) := (rfl)
def ws9 (e : E) (f : N16 V → N16 V) : E := {e with a9 := f e.a9}
theorem ws9e (e : E) (f) : ws9 e f = {e with a9 := f e.a9} := (rfl)
theorem N16.k10e {α β : Type} (e : N16 α) (v : α) (k : N16 α → β) : N16.k10 e v k = k {e with a10 := v} := (rfl)
theorem N16.u10e {α : Type} (sk : N16 α → α → (N16 α → N16 (N16 α)) → N16 (N16 α)) (e : N16 (N16 α)) (v : α) : N16.u10 sk e v = sk e.a10 v (fun y => {e with a10 := y}) := (rfl)
theorem rw10e (e : E) (k) : rw10 e k = {e with a10 := k e.a10.a0 e.a10.a1 e.a10.a2 e.a10.a3 e.a10.a4 e.a10.a5 e.a10.a6 e.a10.a7 e.a10.a8 e.a10.a9 e.a10.a10 e.a10.a11 e.a10.a12 e.a10.a13 e.a10.a14 e.a10.a15} := (rfl)
def ws10 (e : E) (f : N16 V → N16 V) : E := {e with a10 := f e.a10}
theorem ws10e (e : E) (f) : ws10 e f = {e with a10 := f e.a10} := (rfl)
theorem N16.k11e {α β : Type} (e : N16 α) (v : α) (k : N16 α → β) : N16.k11 e v k = k {e with a11 := v} := (rfl)
theorem N16.u11e {α : Type} (sk : N16 α → α → (N16 α → N16 (N16 α)) → N16 (N16 α)) (e : N16 (N16 α)) (v : α) : N16.u11 sk e v = sk e.a11 v (fun y => {e with a11 := y}) := (rfl)
theorem N16.k12e {α β : Type} (e : N16 α) (v : α) (k : N16 α → β) : N16.k12 e v k = k {e with a12 := v} := (rfl)
theorem N16.k13e {α β : Type} (e : N16 α) (v : α) (k : N16 α → β) : N16.k13 e v k = k {e with a13 := v} := (rfl)
theorem N16.k14e {α β : Type} (e : N16 α) (v : α) (k : N16 α → β) : N16.k14 e v k = k {e with a14 := v} := (rfl)
theorem N16.k15e {α β : Type} (e : N16 α) (v : α) (k : N16 α → β) : N16.k15 e v k = k {e with a15 := v} := (rfl)
theorem cV_eq (v : V) (e : E) : cV v e = v := (rfl)
theorem pMove_eq (g : E → V) (e : E) : pMove g e = some (g e) := (rfl)
theorem pUn_eq (f : V → Option V) (g : E → V) (e : E) : pUn f g e = f (g e) := (rfl)
theorem pBin_eq (f : V → V → Option V) (g h : E → V) (e : E) : pBin f g h e = f (g e) (h e) := (rfl)
def pkV (c x y : V) : Option V := match c with | .bool b => some (Bool.casesOn (motive := fun _ => V) b y x) | _ => none
theorem pPick_eq (c g h : E → V) (e : E) : pPick c g h e = pkV (c e) (g e) (h e) := by unfold pPick pkV; cases c e <;> rfl
theorem pkV_tt (x y : V) : pkV (.bool true) x y = some x := (rfl)
theorem pkV_ff (x y : V) : pkV (.bool false) x y = some y := (rfl)
theorem evs_nil (e : E) : evs [] e = [] := (rfl)
theorem evs_cons (g : E → V) (l : List (E → V)) (e : E) : evs (g :: l) e = g e :: evs l e := (rfl)
theorem evP_nil (e : E) : evP [] e = [] := (rfl)
theorem evP_cons (a b : Nat) (g : E → V) (l : List (Nat × Nat × (E → V))) (e : E) : evP ((a, b, g) :: l) e = (a, b, g e) :: evP l e := (rfl)
theorem eCall_eq (f : Nat) (gs : List (E → V)) : eCall f gs k e s = k.call f (evs gs e) s := (rfl)
def I64 (n : Int) : Prop := -9223372036854775808 ≤ n ∧ n < 9223372036854775808
theorem w64_of {n : Int} (h : I64 n) : w64 n = n := by
 rw [w64_eq]
 unfold I64 at h
 show (let m := n % 2 ^ 64; if decide True && decide (2 ^ (64 - 1) ≤ m) then m - 2 ^ 64 else m) = n
 simp only [decide_true, Bool.true_and, decide_eq_true_eq]
 split <;> omega
theorem fAdd_eq {a b : Int} (h1 : -9223372036854775808 ≤ a + b) (h2 : a + b < 9223372036854775808) : bI fAdd (.i a) (.i b) = some (.i (a + b)) := by show some (V.i (w64 (a + b))) = _; rw [w64_of ⟨h1, h2⟩]
theorem fSub_eq {a b : Int} (h1 : -9223372036854775808 ≤ a - b) (h2 : a - b < 9223372036854775808) : bI fSub (.i a) (.i b) = some (.i (a - b)) := by show some (V.i (w64 (a - b))) = _; rw [w64_of ⟨h1, h2⟩]
theorem rem64_eq {a b : Int} (h : b ≠ 0) : rem64 (.i a) (.i b) = some (.i (a.tmod b)) := by
 have : eqI b 0 = false := by rw [eqI_eq]; simpa using h
 show (Bool.casesOn (motive := fun _ => Option V) (eqI b 0) (some (mkI .i64 (Int.tmod a b))) none) = _
 rw [this]; rfl
theorem fEq_eq (a b : Int) : bI fEq (.i a) (.i b) = some (.bool (decide (a = b))) := by show some (V.bool (eqI a b)) = _; rw [eqI_eq]; by_cases h : a = b <;> simp [h]
theorem fNe_eq (a b : Int) : bI fNe (.i a) (.i b) = some (.bool (!decide (a = b))) := by show some (V.bool (not (eqI a b))) = _; rw [eqI_eq]; by_cases h : a = b <;> simp [h]
theorem fLt_eq (a b : Int) : bI fLt (.i a) (.i b) = some (.bool (decide (a < b))) := by show some (V.bool (ltI a b)) = _; rw [ltI_eq]
theorem fLe_eq (a b : Int) : bI fLe (.i a) (.i b) = some (.bool (decide (a ≤ b))) := by show some (V.bool (leI a b)) = _; rw [leI_eq]
theorem fGt_eq (a b : Int) : bI fGt (.i a) (.i b) = some (.bool (decide (b < a))) := by show some (V.bool (ltI b a)) = _; rw [ltI_eq]
theorem fGe_eq (a b : Int) : bI fGe (.i a) (.i b) = some (.bool (decide (b ≤ a))) := by show some (V.bool (leI b a)) = _; rw [leI_eq]
theorem uNot_eq (t : Bool) : uNot (.bool t) = some (.bool (!t)) := (rfl)
theorem uLenS_slice (b o n es : Nat) (c : Option Nat) : uLenS (.slice b o n c es) = some (.i (n : Int)) := (rfl)
theorem uLenS_nil : uLenS .nils = some (.i 0) := (rfl)
theorem uFld_eq (n b o : Nat) : uFld n (.ptr b o) = some (.ptr b (o + n)) := (rfl)
theorem uChk_eq (b o : Nat) : uChk (.ptr b o) = some (.ptr b o) := (rfl)
theorem uExt_eq (i : Nat) (l : List V) : uExt i (.tup l) = l[i]? := (rfl)
theorem bNil_ptr (ng : Bool) (b o : Nat) : bNil ng nilP (.ptr b o) .nilp = some (.bool ng) := by cases ng <;> rfl
theorem bNil_nilp (ng : Bool) : bNil ng nilP .nilp .nilp = some (.bool (!ng)) := by cases ng <;> rfl
theorem bIdx_eq {es b o len : Nat} {c : Option Nat} {n : Int} (h0 : 0 ≤ n) (h1 : n < len) : bIdx es (.slice b o len c es) (.i n) = some (.ptr b (o + n.toNat * es)) := by
 show (Bool.casesOn (motive := fun _ => Option V) (Nat.beq es es) none (Bool.casesOn (motive := fun _ => Option V) (leI 0 n) none (Bool.casesOn (motive := fun _ => Option V) (Nat.blt n.toNat len) none (some (.ptr b (Nat.add o (Nat.mul n.toNat es))))))) = _
 rw [Nat.beq_refl, leI_eq, decide_eq_true h0, nblt_eq, decide_eq_true (by omega)]; rfl
theorem bIdx1_eq {b o len : Nat} {c : Option Nat} {n : Int} (h0 : 0 ≤ n) (h1 : n < len) : bIdx 1 (.slice b o len c 1) (.i n) = some (.ptr b (o + n.toNat)) := by rw [bIdx_eq h0 h1, Nat.mul_one]
theorem call_eq {tbl : T FDen} {fuel n f : Nat} {F : FDen} {args : List V} (h : tbl.get f = some F) : (kc tbl fuel (n + 1)).call f args s = runF F (kc tbl fuel n) args s := by
 show (match tbl.get f with | some F => runF F (kc tbl fuel n) args s | none => none) = _
 rw [h]
theorem fuel_eq {tbl : T FDen} {fuel n : Nat} : (kc tbl fuel n).fuel = fuel := by cases n <;> rfl
end
/-! ### Loops -/
theorem loop_ind {a : E → St → Res} (I : Nat → E → St → Prop) (Q : Res → Prop)
 (step : ∀ n e s, I n e s → (∃ e' s' m, a e s = .nrm e' s' ∧ m < n ∧ I m e' s') ∨ ((∃ id e' s', a e s = .exit id e' s') ∨ (∃ e' s', a e s = .ret e' s')) ∧ Q (a e s)) :
 ∀ (n N : Nat) (e : E) (s : St), n < N → I n e s → Q (loopN a N e s) := by
 intro n
 induction n using Nat.strongRecOn with
 | ind n ih =>
   intro N e s hN hI
   cases N with
   | zero => omega
   | succ N =>
     show Q (Res.casesOn (motive := fun _ => Res) (a e s) (fun e s => tick (loopN a N e s)) (fun id e s => .exit id e s) (fun e s => .ret e s) .bad)
     rcases step n e s hI with ⟨e', s', m, h, hm, hI'⟩ | ⟨h, hQ⟩
     · rw [h]; exact ih m hm N e' s' (by omega) hI'
     · rcases h with ⟨id, e', s', h⟩ | ⟨e', s', h⟩ <;> rw [h] at hQ ⊢ <;> exact hQ
def rnd (r : Res) (N : E → St → Prop) (Q : Res → Prop) : Prop := match r with
 | .nrm e s => N e s
 | .exit id e s => Q (.exit id e s)
 | .ret e s => Q (.ret e s)
 | .bad => False
@[congr] theorem rnd_congr {r r' : Res} {N : E → St → Prop} {Q : Res → Prop} (h : r = r') : rnd r N Q = rnd r' N Q := by rw [h]
theorem rnd_nrm (e : E) (s : St) (N : E → St → Prop) (Q : Res → Prop) : rnd (.nrm e s) N Q = N e s := (rfl)
theorem rnd_exit (id : Nat) (e : E) (s : St) (N : E → St → Prop) (Q : Res → Prop) : rnd (.exit id e s) N Q = Q (.exit id e s) := (rfl)
theorem rnd_ret (e : E) (s : St) (N : E → St → Prop) (Q : Res → Prop) : rnd (.ret e s) N Q = Q (.ret e s) := (rfl)
theorem loop_at {a : E → St → Res} (I : Nat → E → St → Prop) (Q : Res → Prop) (step : ∀ n e s, I n e s → rnd (a e s) (fun e' s' => ∃ m, m < n ∧ I m e' s') Q) {n N : Nat} {e : E} {s : St} (hN : n < N) (h : I n e s) : Q (loopN a N e s) := by
 refine loop_ind I Q (fun n e s hI => ?_) n N e s hN h
 have := step n e s hI
 unfold rnd at this
 cases hr : a e s with
 | nrm e' s' => rw [hr] at this; obtain ⟨m, h1, h2⟩ := this; exact .inl ⟨e', s', m, rfl, h1, h2⟩
 | exit id e' s' => rw [hr] at this; exact .inr ⟨.inl ⟨id, e', s', rfl⟩, this⟩
 | ret e' s' => rw [hr] at this; exact .inr ⟨.inr ⟨e', s', rfl⟩, this⟩
 | bad => rw [hr] at this; exact this.elim
def Ret (r : Option (V × St)) (Q : V → St → Prop) : Prop := ∃ v s', r = some (v, s') ∧ Q v s'
@[congr] theorem Ret_congr {r r' : Option (V × St)} {Q : V → St → Prop} (h : r = r') : Ret r Q = Ret r' Q := by rw [h]
theorem Ret_some (v : V) (s : St) (Q : V → St → Prop) : Ret (some (v, s)) Q = Q v s := by
 refine propext ⟨fun ⟨v', s', h, hq⟩ => by cases h; exact hq, fun h => ⟨v, s, rfl, h⟩⟩
theorem Ret.mono {r : Option (V × St)} {Q Q' : V → St → Prop} (h : Ret r Q) (hq : ∀ v s, Q v s → Q' v s) : Ret r Q' := let ⟨v, s, h1, h2⟩ := h; ⟨v, s, h1, hq v s h2⟩
end
end Go.Proofs.YtcgdlgbomjnnnaaLab
/- The lab: rules to reckon a run of ours by hand: memory as lists. No condition on the program. -/
namespace Go.Proofs.YtcgdlgbomjnnnaaLab
open Go
set_option linter.unusedVariables false
noncomputable section
section
variable {α : Type}
def T.Full (t : T α) (n : Nat) : Prop := ∀ i, i < n → (t.get i).isSome = true
theorem T.get_set_ne {t : T α} {i j : Nat} (x : α) (h : i ≠ j) : (t.set i x).get j = t.get j := by
 cases e : t.get j with
 | some y => exact T.get_set_other e h
 | none =>
   cases e' : (t.set i x).get j with
   | none => rfl
   | some y => rcases T.get_set e' with ⟨h', _⟩ | ⟨_, h'⟩
               · exact absurd h' h
               · rw [e] at h'; cases h'
theorem T.set_next : ∀ {t : T α} {n : Nat} (x : α), t.Full n → (t.set n x).get n = some x := by
 intro t
 induction t with
 | nil =>
   intro n x h
   cases n with
   | zero => rfl
   | succ n => have := h 0 (by omega); rw [T.get_nil] at this; cases this
 | node v l r ihl ihr =>
   intro n x h
   cases n with
   | zero => rfl
   | succ i =>
     rw [T.set_node]
     by_cases hi : i % 2 = 0
     · rw [if_pos hi, T.get_node, if_pos hi]
       refine ihl x fun j hj => ?_
       have := h (2 * j + 1) (by omega)
       rw [T.get_node, if_pos (by omega), show 2 * j / 2 = j by omega] at this
       exact this
     · rw [if_neg hi, T.get_node, if_neg hi]
       refine ihr x fun j hj => ?_
       have := h (2 * j + 1 + 1) (by omega)
       rw [T.get_node, if_neg (by omega), show (2 * j + 1) / 2 = j by omega] at this
       exact this
theorem T.set_at {t : T α} {n i : Nat} (x : α) (h : t.Full n) (hi : i ≤ n) : (t.set i x).get i = some x := T.set_next x fun j hj => h j (by omega)
theorem T.Full.set {t : T α} {n i : Nat} (x : α) (h : t.Full n) (hi : i ≤ n) : (t.set i x).Full n := fun j hj => by
 by_cases e : i = j
 · subst e; rw [T.set_at x h hi]; rfl
 · rw [T.get_set_ne x e]; exact h j hj
theorem T.Full.next {t : T α} {n : Nat} (x : α) (h : t.Full n) : (t.set n x).Full (n + 1) := fun j hj => by
 by_cases e : n = j
 · subst e; rw [T.set_next x h]; rfl
 · rw [T.get_set_ne x e]; exact h j (by omega)
end
theorem setL_spec : ∀ (vs : List V) {xs : T V} {o n : Nat}, xs.Full n → o ≤ n → (∀ i, (setL xs o vs).get i = if o ≤ i ∧ i < o + vs.length then vs[i - o]? else xs.get i) ∧ (setL xs o vs).Full (max n (o + vs.length))
 | [], xs, o, n, h, ho => ⟨fun i => by rw [if_neg (by simp)]; rfl, fun j hj => h j (by simp at hj; omega)⟩
 | v :: vs, xs, o, n, h, ho => by
   have hf : (xs.set o v).Full (max n (o + 1)) := fun j hj => by
    by_cases e : o = j
    · subst e; rw [T.set_at v h ho]; rfl
    · rw [T.get_set_ne v e]; exact h j (by omega)
   obtain ⟨h1, h2⟩ := setL_spec vs (xs := xs.set o v) (o := o + 1) (n := max n (o + 1)) hf (by omega)
   refine ⟨fun i => ?_, ?_⟩
   · show (setL (xs.set o v) (o + 1) vs).get i = _
     rw [h1 i]
     by_cases e : o = i
     · subst e
       rw [if_neg (by omega), if_pos (by simp), T.set_at v h ho]; simp
     · by_cases e1 : o + 1 ≤ i ∧ i < o + 1 + vs.length
       · rw [if_pos e1, if_pos (by simp; omega)]
         rw [show i - o = (i - (o + 1)) + 1 by omega]; simp
       · rw [if_neg e1, if_neg (by simp; omega), T.get_set_ne v e]
   · show (setL (xs.set o v) (o + 1) vs).Full _
     refine fun j hj => h2 j ?_
     simp at hj; omega
theorem Full0 {α : Type} (t : T α) : t.Full 0 := fun i hi => absurd hi (by omega)
theorem ofL_full (l : List V) : (∀ i, (ofL l).get i = l[i]?) := fun i => by
 have := (setL_spec l (xs := .nil) (o := 0) (n := 0) (Full0 _) (Nat.le_refl _)).1 i
 show (setL .nil 0 l).get i = _
 rw [this]
 by_cases h : i < l.length
 · rw [if_pos (by omega)]; simp
 · rw [if_neg (by omega), T.get_nil]; simp; omega
/-! ### Memory as lists -/
def St.cl (s : St) (b : Nat) : Option (List V) := match s.heap.get b with
 | some (.cells n xs) => some ((List.range n).map fun i => (xs.get i).getD .undef)
 | _ => none
def St.mp (s : St) (b : Nat) : Option (List (V × V) × List Nat × Nat) := match s.heap.get b with
 | some (.map es bs cl) => some (es, bs, cl)
 | _ => none
def Ob.full : Ob → Prop
 | .cells n xs => xs.Full n
 | _ => True
structure Wf (s : St) : Prop where
 full : s.heap.Full s.next
 none : ∀ b, s.next ≤ b → s.heap.get b = Option.none
 obs : ∀ b o, s.heap.get b = some o → o.full
section
variable {s : St} {b : Nat}
theorem cl_inv {l : List V} (hw : Wf s) (h : s.cl b = some l) : ∃ xs, s.heap.get b = some (.cells l.length xs) ∧ (∀ i, i < l.length → xs.get i = l[i]?) ∧ xs.Full l.length := by
 unfold St.cl at h
 split at h
 · rename_i n xs hx
   have hf := hw.obs b _ hx
   cases h
   refine ⟨xs, by simpa using hx, fun i hi => ?_, fun i hi => hf i (by simpa using hi)⟩
   simp at hi
   have := hf i hi
   obtain ⟨y, hy⟩ := Option.isSome_iff_exists.1 this
   simp [hi, hy]
 · cases h
theorem cl_of {n : Nat} {xs : T V} {l : List V} (h : s.heap.get b = some (.cells n xs)) (hn : n = l.length) (hl : ∀ i, i < l.length → xs.get i = l[i]?) : s.cl b = some l := by
 unfold St.cl; rw [h]; simp only
 congr 1
 refine List.ext_getElem? fun i => ?_
 by_cases hi : i < l.length
 · rw [List.getElem?_map]; simp [hn, hi, hl i hi]
 · rw [List.getElem?_eq_none (by simp [hn]; omega), List.getElem?_eq_none (by omega)]
theorem cl_lt {l : List V} (hw : Wf s) (h : s.cl b = some l) : b < s.next := by
 obtain ⟨xs, hx, _⟩ := cl_inv hw h
 by_cases e : b < s.next
 · exact e
 · rw [hw.none b (by omega)] at hx; cases hx
theorem mp_inv {m : List (V × V) × List Nat × Nat} (h : s.mp b = some m) : s.heap.get b = some (.map m.1 m.2.1 m.2.2) := by
 unfold St.mp at h
 split at h
 · rename_i hx; cases h; exact hx
 · cases h
theorem mp_lt {m : List (V × V) × List Nat × Nat} (hw : Wf s) (h : s.mp b = some m) : b < s.next := by
 have hx := mp_inv h
 by_cases e : b < s.next
 · exact e
 · rw [hw.none b (by omega)] at hx; cases hx
theorem rd_lt {n : Nat} {f : Nat → Option V} (hw : Wf s) (h : rdOf s b = some (n, f)) : b < s.next := by
 by_cases e : b < s.next
 · exact e
 · unfold rdOf at h; rw [hw.none b (by omega)] at h; cases h
theorem rd_same {s' : St} (h : s'.heap.get b = s.heap.get b) : rdOf s' b = rdOf s b := by unfold rdOf; rw [h]
theorem cl_same {s' : St} (h : s'.heap.get b = s.heap.get b) : s'.cl b = s.cl b := by unfold St.cl; rw [h]
theorem mp_same {s' : St} (h : s'.heap.get b = s.heap.get b) : s'.mp b = s.mp b := by unfold St.mp; rw [h]
theorem Wf.put (hw : Wf s) {o : Ob} (hb : b < s.next) (ho : o.full) : Wf (s.put b o) where
 full := hw.full.set o (by omega)
 none j hj := by
  show (s.heap.set b o).get j = _
  rw [T.get_set_ne o (by have : s.next ≤ j := hj; omega)]; exact hw.none j hj
 obs j o' hj := by
  have hj : (s.heap.set b o).get j = some o' := hj
  rcases T.get_set hj with ⟨_, rfl⟩ | ⟨_, h⟩
  · exact ho
  · exact hw.obs j o' h
theorem Wf.new (hw : Wf s) {o : Ob} (ho : o.full) : Wf (s.new o) where
 full := hw.full.next o
 none j hj := by
  have hj : s.next + 1 ≤ j := hj
  show (s.heap.set s.next o).get j = _
  rw [T.get_set_ne o (by omega)]; exact hw.none j (by omega)
 obs j o' hj := by
  have hj : (s.heap.set s.next o).get j = some o' := hj
  rcases T.get_set hj with ⟨_, rfl⟩ | ⟨_, h⟩
  · exact ho
  · exact hw.obs j o' h
theorem put_at (hw : Wf s) {o : Ob} (hb : b < s.next) : (s.put b o).heap.get b = some o := T.set_at o hw.full (by omega)
theorem put_ne {o : Ob} {j : Nat} (h : j ≠ b) : (s.put b o).heap.get j = s.heap.get j := T.get_set_ne o (Ne.symm h)
theorem new_at (hw : Wf s) {o : Ob} : (s.new o).heap.get s.next = some o := T.set_next o hw.full
theorem new_ne {o : Ob} {j : Nat} (h : j ≠ s.next) : (s.new o).heap.get j = s.heap.get j := T.get_set_ne o (Ne.symm h)
end
structure Fr (s s' : St) (l : List Nat) : Prop where
 wf : Wf s'
 nx : s.next ≤ s'.next
 same : ∀ j, j < s.next → j ∉ l → s'.heap.get j = s.heap.get j
section
variable {s s' s'' : St} {l l' : List Nat} {b : Nat}
theorem Fr.refl (hw : Wf s) (l : List Nat) : Fr s s l := ⟨hw, Nat.le_refl _, fun _ _ _ => rfl⟩
theorem Fr.trans (h : Fr s s' l) (h' : Fr s' s'' l) : Fr s s'' l := ⟨h'.wf, Nat.le_trans h.nx h'.nx, fun j hj hn => (h'.same j (Nat.lt_of_lt_of_le hj h.nx) hn).trans (h.same j hj hn)⟩
theorem Fr.trans' {l2 : List Nat} (h : Fr s s' l) (h' : Fr s' s'' l2) (hl : ∀ j, j ∈ l2 → j ∈ l ∨ s.next ≤ j) : Fr s s'' l := ⟨h'.wf, Nat.le_trans h.nx h'.nx, fun j hj hn => (h'.same j (Nat.lt_of_lt_of_le hj h.nx) (fun hm => by rcases hl j hm with h | h; exact hn h; omega)).trans (h.same j hj hn)⟩
theorem Fr.mono (h : Fr s s' l) (hl : ∀ j, j ∈ l → j ∈ l' ∨ s.next ≤ j) : Fr s s' l' := ⟨h.wf, h.nx, fun j hj hn => h.same j hj fun hm => by rcases hl j hm with h | h; exact hn h; omega⟩
theorem Fr.cl {x : List V} (hw : Wf s) (h : Fr s s' l) (hb : s.cl b = some x) (hn : b ∉ l) : s'.cl b = some x := (cl_same (h.same b (cl_lt hw hb) hn)).trans hb
theorem Fr.mp {x : List (V × V) × List Nat × Nat} (hw : Wf s) (h : Fr s s' l) (hb : s.mp b = some x) (hn : b ∉ l) : s'.mp b = some x := (mp_same (h.same b (mp_lt hw hb) hn)).trans hb
end
def kc0 : KC := ⟨0, fun _ _ _ => none⟩
def ldP (v : V) (s : St) : Option V := dLd (cV v) e0 s
def ldNP (m : Nat) (v : V) (s : St) : Option V := dLdN m (cV v) e0 s
def stP (m : Nat) (x y : V) (s : St) : Option (V × St) := eSt m (cV x) (cV y) kc0 e0 s
def apP (es : Nat) (x y : V) (s : St) : Option (V × St) := eAp8 es (cV x) (cV y) kc0 e0 s
def apW (es : Nat) (x y : V) (s : St) : Option (V × St) := eApW es (cV x) (cV y) kc0 e0 s
def clrP (z : List V) (x : V) (s : St) : Option (V × St) := eClr z (cV x) kc0 e0 s
def mksP (es bytes : Nat) (z : List V) (x y : V) (id : Nat) : Option (V × Ob) := aMkS es bytes z (cV x) (cV y) e0 id
def boxP (x : V) (id : Nat) : Option (V × Ob) := aBox (cV x) e0 id
def bslP (len size : Nat) (z : List V) (ps : List (Nat × Nat × V)) (id : Nat) : Option (V × Ob) := match fillV z ps with
 | some l => Bool.casesOn (motive := fun _ => Option (V × Ob)) (allOne l) none (Bool.casesOn (motive := fun _ => Option (V × Ob)) (Nat.beq l.length (Nat.mul len size)) none (some (.slice id 0 len (some len) size, .cells l.length (ofL l))))
 | none => none
section
variable {g h i : E → V} {k : KC} {e : E} {s : St} {id : Nat}
theorem dLd_def : dLd g e s = ldP (g e) s := (rfl)
theorem dLdN_def (m : Nat) : dLdN m g e s = ldNP m (g e) s := (rfl)
theorem eSt_def (m : Nat) : eSt m g h k e s = stP m (g e) (h e) s := (rfl)
theorem eAp8_def (es : Nat) : eAp8 es g h k e s = apP es (g e) (h e) s := (rfl)
theorem eApW_def (es : Nat) : eApW es g h k e s = apW es (g e) (h e) s := (rfl)
theorem eClr_def (z : List V) : eClr z g k e s = clrP z (g e) s := (rfl)
theorem aMkS_def (es bytes : Nat) (z : List V) : aMkS es bytes z g h e id = mksP es bytes z (g e) (h e) id := (rfl)
theorem aBox_def : aBox g e id = boxP (g e) id := (rfl)
theorem aBSl_def (len size : Nat) (z : List V) (ps : List (Nat × Nat × (E → V))) : aBSl len size z ps e id = bslP len size z (evP ps e) id := (rfl)
theorem pSl_def (es : Nat) (lo hi mx : Option (E → V)) : pSl es g lo hi mx e = slV es (g e) (evO lo e) (evO hi e) (evO mx e) := (rfl)
theorem evO_some : evO (some g) e = some (g e) := (rfl)
theorem evO_none : evO none e = none := (rfl)
end
section
variable {s : St} {b o : Nat} {l : List V} {v : V} {k : KC} {e : E}
theorem blkOf_cl {xs : T V} (h : s.heap.get b = some (.cells l.length xs)) : blkOf s b = some (l.length, xs) := by unfold blkOf; rw [h]
theorem dLd_eq (hw : Wf s) (h : s.cl b = some l) (hv : l[o]? = some v) : ldP (.ptr b o) s = some v := by
 obtain ⟨xs, h1, h2, _⟩ := cl_inv hw h
 have ho : o < l.length := (List.getElem?_eq_some_iff.1 hv).1
 show (match rdOf s b with | some (n, xs) => Bool.casesOn (motive := fun _ => Option V) (Nat.blt o n) none (xs o) | none => none) = _
 rw [rdOf_cells h1]; simp only
 rw [nblt_eq, decide_eq_true ho, h2 o ho, hv]
theorem dLd_rd {n : Nat} {f : Nat → Option V} (h : rdOf s b = some (n, f)) (ho : o < n) : ldP (.ptr b o) s = f o := by
 show (match rdOf s b with | some (n, xs) => Bool.casesOn (motive := fun _ => Option V) (Nat.blt o n) none (xs o) | none => none) = _
 rw [h]; simp only
 rw [nblt_eq, decide_eq_true ho]
theorem dLd_at (hw : Wf s) (h : s.cl b = some l) (ho : o < l.length) : ldP (.ptr b o) s = l[o]? := by
 rw [List.getElem?_eq_getElem ho]; exact dLd_eq hw h (List.getElem?_eq_getElem ho)
theorem ldc_eq {xs : Nat → Option V} (h : ∀ i, i < l.length → xs i = l[i]?) : ∀ (n o : Nat), o + n ≤ l.length → ldc xs n o = some ((l.drop o).take n)
 | 0, o, _ => by rw [ldc_zero]; simp
 | n + 1, o, hn => by
   have ho : o < l.length := by omega
   rw [ldc_succ, h o ho, List.getElem?_eq_getElem ho]
   simp only
   rw [ldc_eq h n (o + 1) (by omega)]
   simp only
   rw [List.drop_eq_getElem_cons ho, List.take_succ_cons]
theorem dLdN_eq {m : Nat} (hw : Wf s) (h : s.cl b = some l) (hm : o + m ≤ l.length) : ldNP m (.ptr b o) s = some (.agg ((l.drop o).take m)) := by
 obtain ⟨xs, h1, h2, _⟩ := cl_inv hw h
 show (match rdOf s b with | some (n, xs) => Bool.casesOn (motive := fun _ => Option V) (Nat.ble (Nat.add o m) n) none (match ldc xs m o with | some l => some (.agg l) | none => none) | none => none) = _
 rw [rdOf_cells h1]; simp only
 have : Nat.ble (Nat.add o m) l.length = true := Nat.ble_eq_true_of_le hm
 rw [this, ldc_eq h2 m o hm]
def St.st (s : St) (b o : Nat) (vs : List V) : St := match s.heap.get b with
 | some (.cells n xs) => s.put b (.cells n (setL xs o vs))
 | _ => s
def putL (l : List V) (o : Nat) (vs : List V) : List V := l.take o ++ vs ++ l.drop (o + vs.length)
theorem putL_length {vs : List V} (h : o + vs.length ≤ l.length) : (putL l o vs).length = l.length := by simp [putL]; omega
theorem putL_get {vs : List V} (h : o + vs.length ≤ l.length) (i : Nat) : (putL l o vs)[i]? = if o ≤ i ∧ i < o + vs.length then vs[i - o]? else l[i]? := by
 unfold putL
 by_cases h1 : i < o
 · rw [if_neg (by omega), List.append_assoc, List.getElem?_append_left (by simp; omega)]
   simp [h1]
 · by_cases h2 : i < o + vs.length
   · rw [if_pos (by omega), List.append_assoc, List.getElem?_append_right (by simp; omega), List.getElem?_append_left (by simp; omega)]
     simp; congr 1; omega
   · rw [if_neg (by omega), List.getElem?_append_right (by simp; omega)]
     simp; congr 1; omega
theorem putL_one (h : o < l.length) : putL l o [v] = l.set o v := by
 refine List.ext_getElem? fun i => ?_
 rw [putL_get (show o + 1 ≤ l.length by omega), List.getElem?_set]
 by_cases e : o = i
 · subst e; simp [h]
 · rw [if_neg (by simp; omega), if_neg e]
theorem st_ok {vs : List V} (hw : Wf s) (h : s.cl b = some l) (ho : o + vs.length ≤ l.length) : (s.st b o vs).cl b = some (putL l o vs) ∧ Fr s (s.st b o vs) [b] ∧ (s.st b o vs).next = s.next := by
 obtain ⟨xs, h1, h2, h3⟩ := cl_inv hw h
 have hb := cl_lt hw h
 have e : s.st b o vs = s.put b (.cells l.length (setL xs o vs)) := by unfold St.st; rw [h1]
 obtain ⟨q1, q2⟩ := setL_spec vs h3 (o := o) (by omega)
 rw [e]
 refine ⟨cl_of (put_at hw hb) (putL_length ho).symm fun i hi => ?_, ⟨hw.put hb (fun i hi => q2 i (by omega)), Nat.le_refl _, fun j hj hn => put_ne (by simpa using hn)⟩, rfl⟩
 rw [putL_length ho] at hi
 rw [q1 i, putL_get ho, h2 i hi]
theorem eSt_ok1 (hw : Wf s) (h : s.cl b = some l) (ho : o < l.length) (h1 : v.one = true) : stP 1 (.ptr b o) v s = some (.tup [], s.st b o [v]) := by
 obtain ⟨xs, q1, q2, q3⟩ := cl_inv hw h
 have hc : cellsV v = some [v] := by cases v <;> first | rfl | cases h1
 have ha : allOne [v] = true := by unfold allOne; rw [h1]; rfl
 show (match cellsV v with
  | some l => Bool.casesOn (motive := fun _ => Option (V × St)) (Nat.beq l.length 1) none (Bool.casesOn (motive := fun _ => Option (V × St)) (allOne l) none
   (match blkOf s b with | some (n, xs) => Bool.casesOn (motive := fun _ => Option (V × St)) (Nat.ble (Nat.add o 1) n) none (some (.tup [], s.put b (.cells n (setL xs o l)))) | none => none))
  | none => none) = _
 rw [hc, blkOf_cl q1]; simp only
 rw [ha]
 have : Nat.ble (Nat.add o 1) l.length = true := Nat.ble_eq_true_of_le (show o + 1 ≤ l.length by omega)
 rw [this]
 show some (V.tup [], _) = _
 unfold St.st; rw [q1]
theorem eSt_okN {vs : List V} {m : Nat} (hw : Wf s) (h : s.cl b = some l) (hm : vs.length = m) (ho : o + m ≤ l.length) (h1 : allOne vs = true) : stP m (.ptr b o) (.agg vs) s = some (.tup [], s.st b o vs) := by
 obtain ⟨xs, q1, q2, q3⟩ := cl_inv hw h
 subst hm
 show (Bool.casesOn (motive := fun _ => Option (V × St)) (Nat.beq vs.length vs.length) none (Bool.casesOn (motive := fun _ => Option (V × St)) (allOne vs) none
       (match blkOf s b with | some (n, xs) => Bool.casesOn (motive := fun _ => Option (V × St)) (Nat.ble (Nat.add o vs.length) n) none (some (.tup [], s.put b (.cells n (setL xs o vs)))) | none => none))) = _
 rw [blkOf_cl q1, Nat.beq_refl, h1]; simp only
 have : Nat.ble (Nat.add o vs.length) l.length = true := Nat.ble_eq_true_of_le ho
 rw [this]
 unfold St.st; rw [q1]
theorem newCells {n : Nat} (hw : Wf s) (hn : n = l.length) : (s.new (.cells n (ofL l))).cl s.next = some l ∧ Fr s (s.new (.cells n (ofL l))) [] ∧ (s.new (.cells n (ofL l))).next = s.next + 1 := by
 subst hn
 refine ⟨cl_of (new_at hw) rfl fun i hi => ofL_full l i, ⟨hw.new fun i hi => ?_, Nat.le_succ _, fun j hj _ => new_ne (by omega)⟩, rfl⟩
 rw [ofL_full]; simpa using hi
end
end
end Go.Proofs.YtcgdlgbomjnnnaaLab
/- The lab: rules to reckon a run of ours by hand: what makes and turns memory. No condition on the program. -/
namespace Go.Proofs.YtcgdlgbomjnnnaaLab
open Go
set_option linter.unusedVariables false
noncomputable section
section
variable {s : St} {b o : Nat} {l : List V} {v : V} {k : KC} {e : E}
theorem bnd_i {n : Int} (h : 0 ≤ n) : bnd (.i n) = some n.toNat := by
 show (Bool.casesOn (motive := fun _ => Option Nat) (leI 0 n) none (some n.toNat)) = _
 rw [leI_eq, decide_eq_true h]
theorem bnds_of {len top : Nat} {lo hi mx : Option V} {l h m : Nat} (h1 : bndO top mx = some m) (h2 : bndO len hi = some h) (h3 : bndO 0 lo = some l) (a : m ≤ top) (b : h ≤ m) (c : l ≤ h) : bnds len top lo hi mx = some (l, h, m) := by
 unfold bnds
 rw [h1, h2, h3]; simp only
 rw [nble_eq, nble_eq, nble_eq, decide_eq_true a, decide_eq_true b, decide_eq_true c]
theorem slV_of {es b o len l h m : Nat} {cap : Option Nat} {lo hi mx : Option V} (hb : bnds len (topOf len cap) lo hi mx = some (l, h, m)) : slV es (.slice b o len cap es) lo hi mx = some (.slice b (o + l * es) (h - l) (capOf l m cap mx) es) := by
 show (Bool.casesOn (motive := fun _ => Option V) (Nat.beq es es) none _) = _
 rw [Nat.beq_refl, hb]; rfl
theorem pSl_lh {es b o len : Nat} {cap : Option Nat} {lo hi : Int} (h0 : 0 ≤ lo) (h1 : lo ≤ hi) (h2 : hi ≤ topOf len cap) : slV es (.slice b o len cap es) (some (.i lo)) (some (.i hi)) none = some (.slice b (o + lo.toNat * es) (hi.toNat - lo.toNat) (capOf lo.toNat (topOf len cap) cap none) es) :=
 slV_of (bnds_of (m := topOf len cap) rfl (bnd_i (by omega)) (bnd_i h0) (Nat.le_refl _) (by omega) (by omega))
theorem pSl_l {es b o len : Nat} {cap : Option Nat} {lo : Int} (h0 : 0 ≤ lo) (h1 : lo ≤ len) (h2 : len ≤ topOf len cap) : slV es (.slice b o len cap es) (some (.i lo)) none none = some (.slice b (o + lo.toNat * es) (len - lo.toNat) (capOf lo.toNat (topOf len cap) cap none) es) :=
 slV_of (bnds_of (m := topOf len cap) (h := len) rfl rfl (bnd_i h0) (Nat.le_refl _) (by omega) (by omega))
theorem pSl_h {es b o len : Nat} {cap : Option Nat} {hi : Int} (h1 : 0 ≤ hi) (h2 : hi ≤ topOf len cap) : slV es (.slice b o len cap es) none (some (.i hi)) none = some (.slice b o hi.toNat (capOf 0 (topOf len cap) cap none) es) := by
 have := slV_of (es := es) (b := b) (o := o) (cap := cap) (bnds_of (len := len) (top := topOf len cap) (m := topOf len cap) (h := hi.toNat) (l := 0) (lo := none) (hi := some (.i hi)) (mx := none) rfl (bnd_i h1) rfl (Nat.le_refl _) (by omega) (by omega))
 rw [show o + 0 * es = o by omega] at this
 exact this
theorem pSl_lhS {es b o len c : Nat} {lo hi : Int} (h0 : 0 ≤ lo) (h1 : lo ≤ hi) (h2 : hi ≤ c) : slV es (.slice b o len (some c) es) (some (.i lo)) (some (.i hi)) none = some (.slice b (o + lo.toNat * es) (hi.toNat - lo.toNat) (some (c - lo.toNat)) es) := pSl_lh h0 h1 h2
theorem pSl_lhN {es b o len : Nat} {lo hi : Int} (h0 : 0 ≤ lo) (h1 : lo ≤ hi) (h2 : hi ≤ len) : slV es (.slice b o len none es) (some (.i lo)) (some (.i hi)) none = some (.slice b (o + lo.toNat * es) (hi.toNat - lo.toNat) none es) := pSl_lh h0 h1 h2
theorem pSl_lS {es b o len c : Nat} {lo : Int} (h0 : 0 ≤ lo) (h1 : lo ≤ len) (h2 : len ≤ c) : slV es (.slice b o len (some c) es) (some (.i lo)) none none = some (.slice b (o + lo.toNat * es) (len - lo.toNat) (some (c - lo.toNat)) es) := pSl_l h0 h1 h2
theorem pSl_lN {es b o len : Nat} {lo : Int} (h0 : 0 ≤ lo) (h1 : lo ≤ len) : slV es (.slice b o len none es) (some (.i lo)) none none = some (.slice b (o + lo.toNat * es) (len - lo.toNat) none es) := pSl_l h0 h1 (Nat.le_refl _)
theorem pSl_hS {es b o len c : Nat} {hi : Int} (h1 : 0 ≤ hi) (h2 : hi ≤ c) : slV es (.slice b o len (some c) es) none (some (.i hi)) none = some (.slice b o hi.toNat (some c) es) := pSl_h h1 h2
theorem pSl_hN {es b o len : Nat} {hi : Int} (h1 : 0 ≤ hi) (h2 : hi ≤ len) : slV es (.slice b o len none es) none (some (.i hi)) none = some (.slice b o hi.toNat none es) := pSl_h h1 h2
theorem srcOf_of {es b o len : Nat} {c : Option Nat} (hw : Wf s) (h : s.cl b = some l) (ho : o + len * es ≤ l.length) : srcOf es s (.slice b o len c es) = some (len, (l.drop o).take (len * es)) := by
 obtain ⟨xs, h1, h2, _⟩ := cl_inv hw h
 cases len with
 | zero =>
   show (Bool.casesOn (motive := fun _ => Option (Nat × List V)) (Nat.beq es es) none _) = _
   rw [Nat.beq_refl, Nat.zero_mul]; rfl
 | succ len =>
   show (Bool.casesOn (motive := fun _ => Option (Nat × List V)) (Nat.beq es es) none (match rdOf s b with
    | some (n, xs) => Bool.casesOn (motive := fun _ => Option (Nat × List V)) (Nat.ble (Nat.add o (Nat.mul (len + 1) es)) n) none (match ldc xs (Nat.mul (len + 1) es) o with | some l => some (len + 1, l) | none => none)
    | none => none)) = _
   rw [Nat.beq_refl, rdOf_cells h1]; simp only
   have : Nat.ble (Nat.add o (Nat.mul (len + 1) es)) l.length = true := Nat.ble_eq_true_of_le ho
   rw [this]; simp only
   rw [show Nat.mul (len + 1) es = (len + 1) * es from rfl, ldc_eq h2 _ _ ho]
theorem allOne_of {l : List V} (h : ∀ v ∈ l, v.one = true) : allOne l = true := by
 induction l with
 | nil => rfl
 | cons x l ih =>
   show (Bool.casesOn (motive := fun _ => Bool) x.one false (allOne l)) = true
   rw [h x (by simp), ih fun v hv => h v (by simp [hv])]
/-! ### Append -/
structure Src (s : St) (es : Nat) (y : V) (n : Nat) (new : List V) : Prop where
 src : srcOf es s y = some (n, new)
 one : allOne new = true
 len : new.length = n * es
 le : n ≤ 100000000
theorem Src.of {es b2 o2 n2 : Nat} {c2 : Option Nat} {l2 : List V} (hw : Wf s) (h : s.cl b2 = some l2) (hb : o2 + n2 * es ≤ l2.length) (h1 : ∀ v ∈ (l2.drop o2).take (n2 * es), v.one = true) (hle : n2 ≤ 100000000) : Src s es (.slice b2 o2 n2 c2 es) n2 ((l2.drop o2).take (n2 * es)) :=
 ⟨srcOf_of hw h hb, allOne_of h1, by simp; omega, hle⟩
theorem Src.full {es b2 n2 : Nat} {c2 : Option Nat} {l2 : List V} (hw : Wf s) (h : s.cl b2 = some l2) (hb : n2 * es = l2.length) (h1 : ∀ v ∈ l2, v.one = true) (hle : n2 ≤ 100000000) : Src s es (.slice b2 0 n2 c2 es) n2 l2 := by
 have := Src.of (c2 := c2) hw h (o2 := 0) (n2 := n2) (es := es) (by omega) (by rw [List.drop_zero, hb, List.take_length]; exact h1) hle
 rwa [List.drop_zero, hb, List.take_length] at this
theorem Src.nils {es : Nat} : Src s es .nils 0 [] := ⟨rfl, rfl, by simp, by omega⟩
theorem ble_true {a b : Nat} (h : a ≤ b) : Nat.ble a b = true := Nat.ble_eq_true_of_le h
theorem ble_false {a b : Nat} (h : ¬ a ≤ b) : Nat.ble a b = false := by rw [nble_eq]; exact decide_eq_false h
theorem eAp_slice {es b o len n : Nat} {cap : Option Nat} {y : V} {new : List V} (hy : Src s es y n new) (hl : len ≤ 17596481011712) : apP es (.slice b o len cap es) y s = apV es (.slice b o len cap es) n new s := by
 show (match srcOf es s y with
 | some (n, new) => Bool.casesOn (motive := fun _ => Option (V × St)) (allOne new) none (Bool.casesOn (motive := fun _ => Option (V × St)) (Nat.ble n 100000000) none
  (Bool.casesOn (motive := fun _ => Option (V × St)) (Nat.ble len 17596481011712) none (apV es (.slice b o len cap es) n new s)))
 | none => none) = _
 rw [hy.src]; simp only
 rw [hy.one, ble_true hy.le, ble_true hl]
theorem eAp_nilV {es n : Nat} {y : V} {new : List V} (hy : Src s es y n new) : apP es .nils y s = apV es .nils n new s := by
 show (match srcOf es s y with
 | some (n, new) => Bool.casesOn (motive := fun _ => Option (V × St)) (allOne new) none (Bool.casesOn (motive := fun _ => Option (V × St)) (Nat.ble n 100000000) none (apV es .nils n new s))
 | none => none) = _
 rw [hy.src]; simp only
 rw [hy.one, ble_true hy.le]
theorem eAp_nil {es n : Nat} {y : V} {new : List V} (hw : Wf s) (hy : Src s es y n new) (hn : 0 < n) :
 ∃ s', (apP es .nils y s = some (.slice s.next 0 n none es, s')) ∧ s'.cl s.next = some new ∧ Fr s s' [] ∧ s'.next = s.next + 1 := by
 obtain ⟨h1, h2, h3⟩ := newCells hw (l := new) (n := n * es) hy.len.symm
 refine ⟨_, ?_, h1, h2, h3⟩
 rw [eAp_nilV hy]
 cases n with
 | zero => omega
 | succ n => rfl
theorem eAp_zero {es : Nat} {y : V} (hy : Src s es y 0 []) {b o len : Nat} {cap : Option Nat} (hl : len ≤ 17596481011712) : apP es (.slice b o len cap es) y s = some (.slice b o len cap es, s) := by
 rw [eAp_slice hy hl]
 show (Bool.casesOn (motive := fun _ => Option (V × St)) (Nat.beq es es) none (some (V.slice b o len cap es, s))) = _
 rw [Nat.beq_refl]
theorem eAp_nil0 {es : Nat} {y : V} (hy : Src s es y 0 []) : apP es .nils y s = some (.nils, s) := by
 rw [eAp_nilV hy]; rfl
theorem eAp_move {es n len : Nat} {y : V} {new : List V} (hw : Wf s) (hy : Src s es y n new) (hn : 0 < n) (hl : len ≤ 17596481011712) (hx : s.cl b = some l) (ho : o + len * es ≤ l.length) :
 ∃ s', (apP es (.slice b o len none es) y s = some (.slice s.next 0 (len + n) none es, s')) ∧ s'.cl s.next = some ((l.drop o).take (len * es) ++ new) ∧ Fr s s' [b] ∧ s'.next = s.next + 1 := by
 have hb := cl_lt hw hx
 have hwp := hw.put (b := b) (o := .dead) hb trivial
 have hlen : (len + n) * es = ((l.drop o).take (len * es) ++ new).length := by
  have := hy.len
  simp; rw [Nat.add_mul]; omega
 obtain ⟨h1, h2, h3⟩ := newCells hwp (l := (l.drop o).take (len * es) ++ new) (n := (len + n) * es) hlen
 refine ⟨_, ?_, h1, ⟨h2.wf, Nat.le_trans (Nat.le_refl _) h2.nx, fun j hj hn => (h2.same j hj (by simp)).trans (put_ne (by simpa using hn))⟩, h3⟩
 rw [eAp_slice hy hl]
 obtain ⟨xs, q1, _⟩ := cl_inv hw hx
 cases n with
 | zero => omega
 | succ n =>
   show (Bool.casesOn (motive := fun _ => Option (V × St)) (Nat.beq es es) none
    (match blkOf s b with | some _ => (match srcOf es s (.slice b o len none es) with | some (_, old) => apMove es (Nat.add len (n + 1)) b old new s | none => none) | none => none)) = _
   rw [Nat.beq_refl, blkOf_cl q1, srcOf_of hw hx ho]; rfl
theorem eApW_slice {es b o len n : Nat} {cap : Option Nat} {y : V} {new : List V} (hy : Src s es y n new) (hl : len ≤ 100000000) : apW es (.slice b o len cap es) y s = apV es (.slice b o len cap es) n new s := by
 show (match srcOf es s y with
 | some (n, new) => Bool.casesOn (motive := fun _ => Option (V × St)) (allOne new) none (Bool.casesOn (motive := fun _ => Option (V × St)) (Nat.ble n 100000000) none
  (Bool.casesOn (motive := fun _ => Option (V × St)) (Nat.ble len 100000000) none (apV es (.slice b o len cap es) n new s)))
 | none => none) = _
 rw [hy.src]; simp only
 rw [hy.one, ble_true hy.le, ble_true hl]
theorem eApW_nilV {es n : Nat} {y : V} {new : List V} (hy : Src s es y n new) : apW es .nils y s = apV es .nils n new s := by
 show (match srcOf es s y with
 | some (n, new) => Bool.casesOn (motive := fun _ => Option (V × St)) (allOne new) none (Bool.casesOn (motive := fun _ => Option (V × St)) (Nat.ble n 100000000) none (apV es .nils n new s))
 | none => none) = _
 rw [hy.src]; simp only
 rw [hy.one, ble_true hy.le]
theorem eApW_nil {es n : Nat} {y : V} {new : List V} (hw : Wf s) (hy : Src s es y n new) (hn : 0 < n) :
 ∃ s', (apW es .nils y s = some (.slice s.next 0 n none es, s')) ∧ s'.cl s.next = some new ∧ Fr s s' [] ∧ s'.next = s.next + 1 := by
 obtain ⟨h1, h2, h3⟩ := newCells hw (l := new) (n := n * es) hy.len.symm
 refine ⟨_, ?_, h1, h2, h3⟩
 rw [eApW_nilV hy]
 cases n with
 | zero => omega
 | succ n => rfl
theorem eApW_zero {es : Nat} {y : V} (hy : Src s es y 0 []) {b o len : Nat} {cap : Option Nat} (hl : len ≤ 100000000) : apW es (.slice b o len cap es) y s = some (.slice b o len cap es, s) := by
 rw [eApW_slice hy hl]
 show (Bool.casesOn (motive := fun _ => Option (V × St)) (Nat.beq es es) none (some (V.slice b o len cap es, s))) = _
 rw [Nat.beq_refl]
theorem eApW_nil0 {es : Nat} {y : V} (hy : Src s es y 0 []) : apW es .nils y s = some (.nils, s) := by
 rw [eApW_nilV hy]; rfl
theorem eApW_move {es n len : Nat} {y : V} {new : List V} (hw : Wf s) (hy : Src s es y n new) (hn : 0 < n) (hl : len ≤ 100000000) (hx : s.cl b = some l) (ho : o + len * es ≤ l.length) :
 ∃ s', (apW es (.slice b o len none es) y s = some (.slice s.next 0 (len + n) none es, s')) ∧ s'.cl s.next = some ((l.drop o).take (len * es) ++ new) ∧ Fr s s' [b] ∧ s'.next = s.next + 1 := by
 have hb := cl_lt hw hx
 have hwp := hw.put (b := b) (o := .dead) hb trivial
 have hlen : (len + n) * es = ((l.drop o).take (len * es) ++ new).length := by
  have := hy.len
  simp; rw [Nat.add_mul]; omega
 obtain ⟨h1, h2, h3⟩ := newCells hwp (l := (l.drop o).take (len * es) ++ new) (n := (len + n) * es) hlen
 refine ⟨_, ?_, h1, ⟨h2.wf, Nat.le_trans (Nat.le_refl _) h2.nx, fun j hj hn => (h2.same j hj (by simp)).trans (put_ne (by simpa using hn))⟩, h3⟩
 rw [eApW_slice hy hl]
 obtain ⟨xs, q1, _⟩ := cl_inv hw hx
 cases n with
 | zero => omega
 | succ n =>
   show (Bool.casesOn (motive := fun _ => Option (V × St)) (Nat.beq es es) none
    (match blkOf s b with | some _ => (match srcOf es s (.slice b o len none es) with | some (_, old) => apMove es (Nat.add len (n + 1)) b old new s | none => none) | none => none)) = _
   rw [Nat.beq_refl, blkOf_cl q1, srcOf_of hw hx ho]; rfl
theorem eApW_grow {es n len c : Nat} {y : V} {new : List V} (hw : Wf s) (hy : Src s es y n new) (hn : 0 < n) (hl : len ≤ 100000000) (hc : c < len + n) (hx : s.cl b = some l) (ho : o + len * es ≤ l.length) :
 ∃ s', (apW es (.slice b o len (some c) es) y s = some (.slice s.next 0 (len + n) none es, s')) ∧ s'.cl s.next = some ((l.drop o).take (len * es) ++ new) ∧ Fr s s' [] ∧ s'.next = s.next + 1 := by
 have hlen : (len + n) * es = ((l.drop o).take (len * es) ++ new).length := by
  have := hy.len
  simp; rw [Nat.add_mul]; omega
 obtain ⟨h1, h2, h3⟩ := newCells hw (l := (l.drop o).take (len * es) ++ new) (n := (len + n) * es) hlen
 refine ⟨_, ?_, h1, h2, h3⟩
 rw [eApW_slice hy hl]
 cases n with
 | zero => omega
 | succ n =>
   show (Bool.casesOn (motive := fun _ => Option (V × St)) (Nat.beq es es) none
    (Bool.casesOn (motive := fun _ => Option (V × St)) (Nat.ble (Nat.add len (n + 1)) c)
          (match srcOf es s (.slice b o len (some c) es) with | some (_, old) => apNew es (Nat.add len (n + 1)) old new s | none => none) _)) = _
   rw [Nat.beq_refl, ble_false (show ¬ Nat.add len (n + 1) ≤ c by show ¬ len + (n + 1) ≤ c; omega), srcOf_of hw hx ho]; rfl
theorem one_i (n : Int) : (V.i n).one = true := (rfl)
theorem one_int (k : IntKind) (n : Int) : (V.int k n).one = true := (rfl)
theorem one_bool (t : Bool) : (V.bool t).one = true := (rfl)
theorem one_str (t : List Nat) : (V.str t).one = true := (rfl)
theorem one_ptr (b o : Nat) : (V.ptr b o).one = true := (rfl)
theorem one_nilp : V.nilp.one = true := (rfl)
theorem one_nils : V.nils.one = true := (rfl)
theorem one_slice (b o n es : Nat) (c : Option Nat) : (V.slice b o n c es).one = true := (rfl)
theorem one_map (b : Nat) : (V.map b).one = true := (rfl)
theorem one_nilm : V.nilm.one = true := (rfl)
theorem one_func (f : Nat) (a b : List V) : (V.func f a b).one = true := (rfl)
theorem one_iface (t : Nat) (v : V) : (V.iface t v).one = true := (rfl)
theorem allOne_nil : allOne [] = true := (rfl)
theorem allOne_cons (v : V) (l : List V) : allOne (v :: l) = (v.one && allOne l) := by
 show (Bool.casesOn (motive := fun _ => Bool) v.one false (allOne l)) = _
 cases v.one <;> rfl
theorem pBuild_eq (z : List V) (gs : List (Nat × Nat × (E → V))) : pBuild z gs e = (fillV z (evP gs e)).map .agg := by unfold pBuild; cases fillV z (evP gs e) <;> rfl
theorem fillV_nil (z : List V) : fillV z [] = some z := (rfl)
theorem fillV_one {z : List V} {off : Nat} {r : List (Nat × Nat × V)} (h1 : v.one = true) (ho : off < z.length) : fillV z ((off, 1, v) :: r) = fillV (z.set off v) r := by
 have hc : cellsV v = some [v] := by cases v <;> first | rfl | cases h1
 show (match cellsV v with
  | some vc => Bool.casesOn (motive := fun _ => Option (List V)) (Nat.beq vc.length 1) none (Bool.casesOn (motive := fun _ => Option (List V)) (Nat.ble (Nat.add off 1) z.length) none (fillV (splice z off vc) r))
  | none => none) = _
 rw [hc]
 show (Bool.casesOn (motive := fun _ => Option (List V)) (Nat.ble (Nat.add off 1) z.length) none (fillV (splice z off [v]) r)) = _
 rw [ble_true (show Nat.add off 1 ≤ z.length from ho), show splice z off [v] = putL z off [v] by unfold splice putL; rw [List.append_assoc]; rfl, putL_one ho]
theorem fillV_agg {z vs : List V} {off m : Nat} {r : List (Nat × Nat × V)} (hm : vs.length = m) (ho : off + m ≤ z.length) : fillV z ((off, m, .agg vs) :: r) = fillV (putL z off vs) r := by
 subst hm
 show (Bool.casesOn (motive := fun _ => Option (List V)) (Nat.beq vs.length vs.length) none (Bool.casesOn (motive := fun _ => Option (List V)) (Nat.ble (Nat.add off vs.length) z.length) none (fillV (splice z off vs) r))) = _
 rw [Nat.beq_refl, ble_true (show Nat.add off vs.length ≤ z.length from ho), show splice z off vs = putL z off vs by unfold splice putL; rw [List.append_assoc]; rfl]
theorem new_next (o : Ob) : (s.new o).next = s.next + 1 := (rfl)
theorem bBool_eq (x y : Bool) : bBool false (.bool x) (.bool y) = some (.bool (decide (x = y))) := by cases x <;> cases y <;> rfl
theorem bBool_ne (x y : Bool) : bBool true (.bool x) (.bool y) = some (.bool (!decide (x = y))) := by cases x <;> cases y <;> rfl
theorem bNil_map (ng : Bool) (b : Nat) : bNil ng nilM (.map b) .nilm = some (.bool ng) := by cases ng <;> rfl
theorem bNil_slice (ng : Bool) (b o n es : Nat) (c : Option Nat) : bNil ng nilS (.slice b o n c es) .nils = some (.bool ng) := by cases ng <;> rfl
theorem bNil_nils (ng : Bool) : bNil ng nilS .nils .nils = some (.bool (!ng)) := by cases ng <;> rfl
theorem bNil_nilm (ng : Bool) : bNil ng nilM .nilm .nilm = some (.bool (!ng)) := by cases ng <;> rfl
theorem cInt64_eq {n : Int} (h1 : -9223372036854775808 ≤ n) (h2 : n < 9223372036854775808) : cInt .i64 (.i n) = some (.i n) := by show some (V.i (w64 n)) = _; rw [w64_of ⟨h1, h2⟩]
/-! ### New rows -/
theorem aBSl_one {z : V} {id : Nat} (h1 : v.one = true) : bslP 1 1 [z] [(0, 1, v)] id = some (.slice id 0 1 (some 1) 1, .cells 1 (ofL [v])) := by
 have hc : cellsV v = some [v] := by cases v <;> first | rfl | cases h1
 have ha : allOne [v] = true := allOne_of (by simpa using h1)
 have hf : fillV [z] [(0, 1, v)] = some [v] := by
  show (match cellsV v with
   | some vc => Bool.casesOn (motive := fun _ => Option (List V)) (Nat.beq vc.length 1) none (Bool.casesOn (motive := fun _ => Option (List V)) (Nat.ble (Nat.add 0 1) [z].length) none (fillV (splice [z] 0 vc) []))
   | none => none) = _
  rw [hc]; rfl
 unfold bslP
 rw [hf]; simp only
 rw [ha]; rfl
theorem aBSl_agg {z vs : List V} {id m : Nat} (hz : z.length = m) (hm : vs.length = m) (h1 : allOne vs = true) : bslP 1 m z [(0, m, .agg vs)] id = some (.slice id 0 1 (some 1) m, .cells m (ofL vs)) := by
 have ha := h1
 have hf : fillV z [(0, m, .agg vs)] = some vs := by
  show (Bool.casesOn (motive := fun _ => Option (List V)) (Nat.beq vs.length m) none (Bool.casesOn (motive := fun _ => Option (List V)) (Nat.ble (Nat.add 0 m) z.length) none (fillV (splice z 0 vs) []))) = _
  have e1 : Nat.beq vs.length m = true := by rw [hm]; exact Nat.beq_refl m
  have e2 : Nat.ble (Nat.add 0 m) z.length = true := ble_true (show 0 + m ≤ _ by omega)
  rw [e1, e2]
  show some (splice z 0 vs) = _
  unfold splice
  have : z.drop (Nat.add 0 vs.length) = [] := List.drop_eq_nil_of_le (show _ ≤ 0 + vs.length by omega)
  rw [this]; simp
 unfold bslP
 rw [hf]; simp only
 have e3 : Nat.beq vs.length (Nat.mul 1 m) = true := by rw [hm, show Nat.mul 1 m = m from Nat.one_mul m]; exact Nat.beq_refl m
 rw [ha, e3, hm]
theorem zer_rep (n : Nat) (z : V) : zer n [z] = List.replicate n z := by
 unfold zer
 refine List.ext_getElem? fun i => ?_
 by_cases h : i < n
 · simp [h, Nat.mod_one]
 · simp [h]
theorem aMkS_one {bytes n c : Nat} {z : V} {id : Nat} (hl : n ≤ c) (hb : c * bytes ≤ 16777216) (hc : c ≤ 16777216) : mksP 1 bytes [z] (.i n) (.i c) id = some (.slice id 0 n (some c) 1, .cells c (ofL (List.replicate c z))) := by
 show (Bool.casesOn (motive := fun _ => Option (V × Ob)) (Nat.ble n c) none (Bool.casesOn (motive := fun _ => Option (V × Ob)) (Nat.ble (Nat.mul c bytes) 16777216) none (Bool.casesOn (motive := fun _ => Option (V × Ob)) (Nat.ble c 16777216) none
  (some (.slice id 0 n (some c) 1, .cells (Nat.mul c 1) (ofL (zer (Nat.mul c 1) [z]))))))) = _
 rw [ble_true hl, ble_true (show Nat.mul c bytes ≤ _ from hb), ble_true hc, show Nat.mul c 1 = c from Nat.mul_one c, zer_rep]
theorem aMkS_i {bytes : Nat} {n : Int} {z : V} {id : Nat} (h0 : 0 ≤ n) (hb : n.toNat * bytes ≤ 16777216) (hc : n ≤ 16777216) : mksP 1 bytes [z] (.i n) (.i n) id = some (.slice id 0 n.toNat (some n.toNat) 1, .cells n.toNat (ofL (List.replicate n.toNat z))) := by
 have := aMkS_one (bytes := bytes) (n := n.toNat) (c := n.toNat) (z := z) (id := id) (Nat.le_refl _) hb (by omega)
 rwa [show ((n.toNat : Nat) : Int) = n by omega] at this
theorem aBox_agg {vs : List V} {id : Nat} (h1 : allOne vs = true) : boxP (.agg vs) id = some (.ptr id 0, .cells vs.length (ofL vs)) := by
 show (Bool.casesOn (motive := fun _ => Option (V × Ob)) (allOne vs) none (some (.ptr id 0, .cells vs.length (ofL vs)))) = _
 rw [h1]
theorem aBox_one {id : Nat} (h1 : v.one = true) : boxP v id = some (.ptr id 0, .cells 1 (ofL [v])) := by
 have hc : cellsV v = some [v] := by cases v <;> first | rfl | cases h1
 show (match cellsV v with | some l => Bool.casesOn (motive := fun _ => Option (V × Ob)) (allOne l) none (some (.ptr id 0, .cells l.length (ofL l))) | none => none) = _
 rw [hc]; simp only
 rw [allOne_of (l := [v]) (by simpa using h1)]; rfl
theorem aAl_eq {n id : Nat} {t : T V} : aAl n t e id = some (.ptr id 0, .cells n t) := rfl
theorem new_ex {n : Nat} (hw : Wf s) (hn : n = l.length) : ∃ s', s.new (.cells n (ofL l)) = s' ∧ s'.cl s.next = some l ∧ Fr s s' [] ∧ s'.next = s.next + 1 := by
 obtain ⟨h1, h2, h3⟩ := newCells hw hn
 exact ⟨_, rfl, h1, h2, h3⟩
theorem eSt_ex (hw : Wf s) (h : s.cl b = some l) (ho : o < l.length) (h1 : v.one = true) : ∃ s', (stP 1 (.ptr b o) v s = some (.tup [], s')) ∧ s'.cl b = some (l.set o v) ∧ Fr s s' [b] ∧ s'.next = s.next := by
 obtain ⟨q1, q2, q3⟩ := st_ok (vs := [v]) hw h (show o + 1 ≤ l.length by omega)
 rw [putL_one ho] at q1
 exact ⟨_, eSt_ok1 hw h ho h1, q1, q2, q3⟩
theorem eSt_exN {vs : List V} {m : Nat} (hw : Wf s) (h : s.cl b = some l) (hm : vs.length = m) (ho : o + m ≤ l.length) (h1 : ∀ v ∈ vs, v.one = true) : ∃ s', (stP m (.ptr b o) (.agg vs) s = some (.tup [], s')) ∧ s'.cl b = some (putL l o vs) ∧ Fr s s' [b] ∧ s'.next = s.next := by
 obtain ⟨q1, q2, q3⟩ := st_ok (o := o) (vs := vs) hw h (by omega)
 exact ⟨_, eSt_okN hw h hm ho (allOne_of h1), q1, q2, q3⟩
theorem eClr_ex {z : V} {len : Nat} {c : Option Nat} {es : Nat} (hw : Wf s) (h : s.cl b = some l) (ho : o + len ≤ l.length) : ∃ s', (clrP [z] (.slice b o len c es) s = some (.tup [], s')) ∧ s'.cl b = some (putL l o (List.replicate len z)) ∧ Fr s s' [b] ∧ s'.next = s.next := by
 obtain ⟨xs, p1, _⟩ := cl_inv hw h
 cases len with
 | zero =>
   refine ⟨s, ?_, ?_, Fr.refl hw _, rfl⟩
   · rfl
   · rw [h]; congr 1
     refine List.ext_getElem? fun i => ?_
     rw [putL_get (by simpa using ho)]; simp; intro a b; omega
 | succ len =>
   obtain ⟨q1, q2, q3⟩ := st_ok (vs := List.replicate (len + 1) z) hw h (by simpa using ho)
   refine ⟨_, ?_, q1, q2, q3⟩
   show (Bool.casesOn (motive := fun _ => Option (V × St)) (Nat.beq (len + 1) 0)
    (match blkOf s b with | some (n, xs) => Bool.casesOn (motive := fun _ => Option (V × St)) (Nat.ble (Nat.add o (Nat.mul (len + 1) 1)) n) none (some (.tup [], s.put b (.cells n (setL xs o (zer (Nat.mul (len + 1) 1) [z]))))) | none => none) (some (.tup [], s))) = _
   have e1 : Nat.ble (Nat.add o (Nat.mul (len + 1) 1)) l.length = true := ble_true (show o + (len + 1) * 1 ≤ l.length by omega)
   rw [blkOf_cl p1]; simp only
   rw [e1]
   unfold St.st; rw [p1, show Nat.mul (len + 1) 1 = len + 1 from Nat.mul_one _, zer_rep]; rfl
end
/-! ### Lists that grow -/
def blkV : V → List Nat | .slice b _ _ _ _ => [b] | _ => []
def GL (s : St) (v : V) (l : List V) : Prop := (l = [] ∧ v = .nils) ∨ ∃ b, v = .slice b 0 l.length none 1 ∧ s.cl b = some l
section
variable {s : St} {v x : V} {l : List V}
theorem GL.fr {s' : St} {L : List Nat} (h : GL s v l) (hw : Wf s) (f : Fr s s' L) (hd : ∀ b, b ∈ blkV v → b ∉ L) : GL s' v l := by
 rcases h with h | ⟨b, h1, h2⟩
 · exact .inl h
 · subst h1; exact .inr ⟨b, rfl, f.cl hw h2 (hd b (by simp [blkV]))⟩
theorem GL.len (h : GL s v l) : uLenS v = some (.i (l.length : Nat)) := by
 rcases h with ⟨rfl, rfl⟩ | ⟨b, rfl, h2⟩ <;> rfl
def SL (s : St) (v : V) (l : List V) : Prop := (l = [] ∧ (v = .nils ∨ ∃ b o c, v = .slice b o 0 c 1)) ∨ ∃ b o c n f, v = .slice b o l.length c 1 ∧ rdOf s b = some (n, f) ∧ o + l.length ≤ n ∧ ∀ i, i < l.length → f (o + i) = l[i]?
theorem SL.of {b o : Nat} {c : Option Nat} {M : List V} (hw : Wf s) (h : s.cl b = some M) (h2 : o + l.length ≤ M.length) (h3 : ∀ i, i < l.length → M[o + i]? = l[i]?) : SL s (.slice b o l.length c 1) l := by
 obtain ⟨xs, q1, q2, _⟩ := cl_inv hw h
 exact .inr ⟨b, o, c, _, _, rfl, rdOf_cells q1, h2, fun i hi => by rw [q2 _ (by omega)]; exact h3 i hi⟩
theorem GL.sl (hw : Wf s) (h : GL s v l) : SL s v l := by
 rcases h with h | ⟨b, rfl, h2⟩
 · exact .inl ⟨h.1, .inl h.2⟩
 · exact SL.of hw h2 (by omega) (fun i _ => by rw [Nat.zero_add])
theorem SL.fr {s' : St} {L : List Nat} (h : SL s v l) (hw : Wf s) (f : Fr s s' L) (hd : ∀ b, b ∈ blkV v → b ∉ L) : SL s' v l := by
 rcases h with h | ⟨b, o, c, n, g, h1, h2, h3⟩
 · exact .inl h
 · subst h1; exact .inr ⟨b, o, c, n, g, rfl, (rd_same (f.same b (rd_lt hw h2) (hd b (by simp [blkV])))).trans h2, h3⟩
theorem SL.len (h : SL s v l) : uLenS v = some (.i (l.length : Nat)) := by
 rcases h with ⟨rfl, rfl | ⟨b, o, c, rfl⟩⟩ | ⟨b, o, c, n, g, rfl, h2⟩ <;> rfl
theorem SL.at (hw : Wf s) (h : SL s v l) {j : Nat} {x : V} (hx : l[j]? = some x) : ∃ q, bIdx 1 v (.i (j : Nat)) = some q ∧ ldP q s = some x := by
 have hj := (List.getElem?_eq_some_iff.1 hx).1
 rcases h with ⟨rfl, _⟩ | ⟨b, o, c, n, g, rfl, h2, h3, h4⟩
 · simp at hx
 · refine ⟨_, bIdx1_eq (by omega) (by omega), ?_⟩
   rw [show ((j : Nat) : Int).toNat = j by omega, dLd_rd h2 (by omega), h4 j hj, hx]
theorem ldc_list {g : Nat → Option V} : ∀ {m o : Nat} {l : List V}, l.length = m → (∀ i, i < m → g (o + i) = l[i]?) → ldc g m o = some l
 | 0, o, l, hl, _ => by rw [ldc_zero, List.length_eq_zero_iff.1 hl]
 | m + 1, o, [], hl, _ => by simp at hl
 | m + 1, o, x :: l, hl, hg => by
   have h0 : g o = some x := hg 0 (by omega)
   rw [ldc_succ, h0]; simp only
   rw [ldc_list (m := m) (o := o + 1) (l := l) (by simpa using hl) (fun i hi => by
    have := hg (i + 1) (by omega)
    rw [show o + 1 + i = o + (i + 1) by omega, this]; simp)]
theorem SL.src (h : SL s v l) (h1 : ∀ x ∈ l, x.one = true) (hl : l.length ≤ 100000000) : Src s 1 v l.length l := by
 rcases h with ⟨rfl, rfl | ⟨b, o, c, rfl⟩⟩ | ⟨b, o, c, n, g, rfl, h2, h3, h4⟩
 · exact Src.nils
 · exact ⟨rfl, rfl, by simp, by simp⟩
 · refine ⟨?_, allOne_of h1, by simp, hl⟩
   cases hq : l.length with
   | zero =>
     have : l = [] := List.length_eq_zero_iff.1 hq
     subst this; rfl
   | succ k =>
     show (Bool.casesOn (motive := fun _ => Option (Nat × List V)) (Nat.beq 1 1) none (match rdOf s b with
      | some (n, xs) => Bool.casesOn (motive := fun _ => Option (Nat × List V)) (Nat.ble (Nat.add o (Nat.mul (k + 1) 1)) n) none (match ldc xs (Nat.mul (k + 1) 1) o with | some l => some (k + 1, l) | none => none)
      | none => none)) = _
     rw [h2]; simp only
     have e1 : Nat.ble (Nat.add o (Nat.mul (k + 1) 1)) n = true := ble_true (show o + (k + 1) * 1 ≤ n by omega)
     have e2 : ldc g (Nat.mul (k + 1) 1) o = some l := by
      rw [show Nat.mul (k + 1) 1 = k + 1 from Nat.mul_one _]
      exact ldc_list hq (fun i hi => h4 i (by omega))
     rw [Nat.beq_refl, e1, e2]
theorem GL.push (hw : Wf s) (h : GL s v l) (h1 : x.one = true) (ho : ∀ y ∈ l, y.one = true) (hl : l.length ≤ 17596481011712) :
 ∃ s1 s2, s.new (.cells 1 (ofL [x])) = s1 ∧ (apP 1 v (.slice s.next 0 1 (some 1) 1) s1 = some (.slice (s.next + 1) 0 (l.length + 1) none 1, s2)) ∧
   GL s2 (.slice (s.next + 1) 0 (l.length + 1) none 1) (l ++ [x]) ∧ Fr s s2 (blkV v) ∧ s2.next = s.next + 2 := by
 obtain ⟨s1, e1, c1, f1, n1⟩ := new_ex (s := s) (l := [x]) (n := 1) hw rfl
 have hy : Src s1 1 (.slice s.next 0 1 (some 1) 1) 1 [x] := Src.full f1.wf c1 rfl (by simpa using h1) (by omega)
 rcases h with ⟨rfl, rfl⟩ | ⟨b, rfl, h2⟩
 · obtain ⟨s2, e2, c2, f2, n2⟩ := eAp_nil f1.wf hy (by omega)
   rw [n1] at e2 c2
   exact ⟨s1, s2, e1, e2, .inr ⟨_, rfl, c2⟩, f1.trans f2, by omega⟩
 · have hb := cl_lt hw h2
   obtain ⟨s2, e2, c2, f2, n2⟩ := eAp_move (s := s1) (es := 1) (len := l.length) (o := 0) (b := b) f1.wf hy (by omega) hl (f1.cl hw h2 (by simp)) (by omega)
   rw [n1] at e2 c2
   refine ⟨s1, s2, e1, e2, .inr ⟨s.next + 1, by simp, ?_⟩, (f1.mono (by simp)).trans f2, by omega⟩
   rw [c2]; simp
end
end
end Go.Proofs.YtcgdlgbomjnnnaaLab
/- The lab: rules to reckon a run of ours by hand: regions that draw their order; bytes and texts; maps. No condition on the program. -/
namespace Go.Proofs.YtcgdlgbomjnnnaaLab
open Go
set_option linter.all false
noncomputable section
/-! ### Regions that draw their order -/
def dr2 (k : KC) (l : List DT) (e : E) (s : St) (c : List (V × E × St) → Res) : Res := match drawRun k l e s with
 | none => .bad
 | some r => c r
section
variable {k : KC} {e : E} {s : St} {l : List DT} {u : E → V → E} {c : List (V × E × St) → Res}
theorem dDraw_eq : dDraw l k e s = dr2 k l e s fun r => Bool.casesOn (motive := fun _ => Res) (chks (snaps s l r) l e r) .bad (lastOf e s r) := (rfl)
theorem dr2_nil : dr2 k [] e s c = c [] := (rfl)
theorem dr2_p {f : E → Option V} : dr2 k (⟨none, .p f, u⟩ :: l) e s c = bP (f e) fun v => dr2 k l (u e v) s fun r => c ((v, u e v, s) :: r) := by
 simp only [dr2, drawRun, drawStep, offB]
 cases f e with
 | none => rfl
 | some v => simp only [bP]; cases drawRun k l (u e v) s <;> rfl
theorem dr2_d {lo hi : Nat} {f : E → St → Option V} : dr2 k (⟨none, .d lo hi f, u⟩ :: l) e s c = bP (f e s) fun v => dr2 k l (u e v) s fun r => c ((v, u e v, s) :: r) := by
 simp only [dr2, drawRun, drawStep, offB]
 cases f e s with
 | none => rfl
 | some v => simp only [bP]; cases drawRun k l (u e v) s <;> rfl
theorem dr2_a {f : E → Nat → Option (V × Ob)} : dr2 k (⟨none, .a f, u⟩ :: l) e s c = bE (aSt (f e s.next) s) fun v s' => dr2 k l (u e v) s' fun r => c ((v, u e v, s') :: r) := by
 simp only [dr2, drawRun, drawStep, offB]
 cases f e s.next with
 | none => rfl
 | some v => simp only [bE, aSt]; cases drawRun k l (u e v.1) (s.new v.2) <;> rfl
theorem dr2_e {f : KC → E → St → Option (V × St)} : dr2 k (⟨none, .e f, u⟩ :: l) e s c = bE (f k e s) fun v s' => dr2 k l (u e v) s' fun r => c ((v, u e v, s') :: r) := by
 simp only [dr2, drawRun, drawStep, offB]
 cases f k e s with
 | none => rfl
 | some v => simp only [bE]; cases drawRun k l (u e v.1) v.2 <;> rfl
theorem lastOf_nil : lastOf e s [] = .nrm e s := (rfl)
theorem lastOf_cons (v : V) (e' : E) (s' : St) (r : List (V × E × St)) : lastOf e s ((v, e', s') :: r) = lastOf e' s' r := (rfl)
variable {g : Option (Nat × Bool)} {v : V} {e' : E} {s' : St} {r : List (V × E × St)} {sn : List St}
theorem snaps_nil : snaps s [] r = [s] := by unfold snaps; rfl
theorem snaps_p {f : E → Option V} : snaps s (⟨g, .p f, u⟩ :: l) ((v, e', s') :: r) = snaps s l r := (rfl)
theorem snaps_d {lo hi : Nat} {f : E → St → Option V} : snaps s (⟨g, .d lo hi f, u⟩ :: l) ((v, e', s') :: r) = snaps s l r := (rfl)
theorem snaps_a {f : E → Nat → Option (V × Ob)} : snaps s (⟨g, .a f, u⟩ :: l) ((v, e', s') :: r) = snaps s l r := (rfl)
theorem snaps_e {f : KC → E → St → Option (V × St)} : snaps s (⟨g, .e f, u⟩ :: l) ((v, e', s') :: r) = s :: snaps s' l r := (rfl)
theorem chks_nil : chks sn [] e r = true := by unfold chks; rfl
theorem chks_p {f : E → Option V} : chks sn (⟨g, .p f, u⟩ :: l) e ((v, e', s') :: r) = chks sn l e' r := (rfl)
theorem chks_a {f : E → Nat → Option (V × Ob)} : chks sn (⟨g, .a f, u⟩ :: l) e ((v, e', s') :: r) = chks sn l e' r := (rfl)
theorem chks_e {f : KC → E → St → Option (V × St)} : chks sn (⟨g, .e f, u⟩ :: l) e ((v, e', s') :: r) = chks sn l e' r := (rfl)
def seesB (x : Option V) (v : V) : Bool := match x with | some v' => sameV 100 v' v | none => false
theorem chks_d {lo hi : Nat} {f : E → St → Option V} : chks sn (⟨none, .d lo hi f, u⟩ :: l) e ((v, e', s') :: r) = (((sn.drop lo).take (hi + 1 - lo)).all (fun t => seesB (f e t) v) && chks sn l e' r) := by
 show (Bool.casesOn (motive := fun _ => Bool) (((sn.drop lo).take (hi + 1 - lo)).all fun t => seesB (f e t) v) false (chks sn l e' r)) = _
 cases ((sn.drop lo).take (hi + 1 - lo)).all fun t => seesB (f e t) v <;> rfl
theorem sees_some (h : sameV 100 v v = true) : seesB (some v) v = true := h
theorem dr2_cons {t : DT} : dr2 k (t :: l) e s c = bE (drawStep k t e s) fun v s' => dr2 k l (t.u e v) s' fun r => c ((v, t.u e v, s') :: r) := by
 simp only [dr2, drawRun]
 cases drawStep k t e s with
 | none => rfl
 | some v => simp only [bE]; cases drawRun k l (t.u e v.1) v.2 <;> rfl
theorem step_pg {j : Nat} {w : Bool} {f : E → Option V} : drawStep k ⟨some (j, w), .p f, u⟩ e s = (gdV (Gt j e) w (f e)).map fun v => (v, s) := by
 simp only [drawStep, offB]
 generalize Gt j e = x
 unfold gdV
 cases x with
 | bool b => cases b <;> cases w <;> simp <;> cases f e <;> rfl
 | tup l => cases l <;> rfl
 | _ => rfl
theorem step_dg {j lo hi : Nat} {w : Bool} {f : E → St → Option V} : drawStep k ⟨some (j, w), .d lo hi f, u⟩ e s = (gdV (Gt j e) w (f e s)).map fun v => (v, s) := by
 simp only [drawStep, offB]
 generalize Gt j e = x
 unfold gdV
 cases x with
 | bool b => cases b <;> cases w <;> simp <;> cases f e s <;> rfl
 | tup l => cases l <;> rfl
 | _ => rfl
theorem step_eg {j : Nat} {w : Bool} {f : KC → E → St → Option (V × St)} : drawStep k ⟨some (j, w), .e f, u⟩ e s = gdW (Gt j e) w s (f k e s) := by
 simp only [drawStep, offB]
 generalize Gt j e = x
 unfold gdW
 cases x with
 | bool b => cases b <;> cases w <;> simp
 | tup l => cases l <;> rfl
 | _ => rfl
theorem dr2_pg {j : Nat} {w : Bool} {f : E → Option V} : dr2 k (⟨some (j, w), .p f, u⟩ :: l) e s c = bP (gdV (Gt j e) w (f e)) fun v => dr2 k l (u e v) s fun r => c ((v, u e v, s) :: r) := by
 rw [dr2_cons, step_pg]; cases gdV (Gt j e) w (f e) <;> rfl
theorem dr2_dg {j lo hi : Nat} {w : Bool} {f : E → St → Option V} : dr2 k (⟨some (j, w), .d lo hi f, u⟩ :: l) e s c = bP (gdV (Gt j e) w (f e s)) fun v => dr2 k l (u e v) s fun r => c ((v, u e v, s) :: r) := by
 rw [dr2_cons, step_dg]; cases gdV (Gt j e) w (f e s) <;> rfl
theorem dr2_eg {j : Nat} {w : Bool} {f : KC → E → St → Option (V × St)} : dr2 k (⟨some (j, w), .e f, u⟩ :: l) e s c = bE (gdW (Gt j e) w s (f k e s)) fun v s' => dr2 k l (u e v) s' fun r => c ((v, u e v, s') :: r) := by
 rw [dr2_cons, step_eg]
def seesG (x : V) (w : Bool) (b : Bool) : Bool := match x with | .bool y => Bool.casesOn (motive := fun _ => Bool) (Bool.casesOn (motive := fun _ => Bool) w (not y) y) true b | _ => true
theorem seesG_tt (b : Bool) : seesG (.bool true) true b = b := (rfl)
theorem seesG_ff (b : Bool) : seesG (.bool false) false b = b := (rfl)
theorem seesG_tf (b : Bool) : seesG (.bool true) false b = true := (rfl)
theorem seesG_ft (b : Bool) : seesG (.bool false) true b = true := (rfl)
theorem seesG_nil (w b : Bool) : seesG (.tup []) w b = true := (rfl)
theorem chks_dg {j lo hi : Nat} {w : Bool} {f : E → St → Option V} : chks sn (⟨some (j, w), .d lo hi f, u⟩ :: l) e ((v, e', s') :: r) = (seesG (Gt j e) w (((sn.drop lo).take (hi + 1 - lo)).all (fun t => seesB (f e t) v)) && chks sn l e' r) := by
 have h : chk1 sn ⟨some (j, w), .d lo hi f, u⟩ e v = seesG (Gt j e) w (((sn.drop lo).take (hi + 1 - lo)).all (fun t => seesB (f e t) v)) := by
  simp only [chk1, offB]
  generalize Gt j e = x
  unfold seesG
  cases x with
  | bool b => cases b <;> cases w <;> simp <;> rfl
  | tup l => cases l <;> simp
  | _ => simp
 show (Bool.casesOn (motive := fun _ => Bool) (chk1 sn ⟨some (j, w), .d lo hi f, u⟩ e v) false (chks sn l e' r)) = _
 rw [h]
 cases seesG (Gt j e) w (((sn.drop lo).take (hi + 1 - lo)).all (fun t => seesB (f e t) v)) <;> rfl
theorem casesR_true (x y : Res) : Bool.casesOn (motive := fun _ => Res) true x y = y := (rfl)
end
def cvV (fok : T Bool) (v : V) (l : List V) (k : KC) (s : St) : Option (V × St) := match v with
 | .func f a b => (match fok.get f with | some true => k.call f (a ++ l ++ b) s | _ => none)
 | _ => none
theorem eCallV_def {fok : T Bool} {g : E → V} {gs : List (E → V)} {k : KC} {e : E} {s : St} : eCallV fok g gs k e s = cvV fok (g e) (evs gs e) k s := (rfl)
theorem cvV_func {fok : T Bool} {f : Nat} {a b l : List V} {k : KC} {s : St} (h : fok.get f = some true) : cvV fok (.func f a b) l k s = k.call f (a ++ l ++ b) s := by unfold cvV; simp only [h]
theorem pFun_eq {f : Nat} {a b : List (E → V)} {e : E} : pFun f a b e = some (.func f (evs a e) (evs b e)) := (rfl)
theorem eqI_self (n : Int) : eqI n n = true := by rw [eqI_eq]; simp
theorem same_i (n : Int) : sameV 100 (.i n) (.i n) = true := eqI_self n
theorem same_bool (b : Bool) : sameV 100 (.bool b) (.bool b) = true := by cases b <;> rfl
theorem same_nils : sameV 100 .nils .nils = true := (rfl)
theorem same_ptr (b o : Nat) : sameV 100 (.ptr b o) (.ptr b o) = true := by show and (Nat.beq b b) (Nat.beq o o) = true; rw [Nat.beq_refl, Nat.beq_refl]; rfl
theorem same_map (b : Nat) : sameV 100 (.map b) (.map b) = true := Nat.beq_refl b
theorem same_slice (b o n es : Nat) (c : Option Nat) : sameV 100 (.slice b o n c es) (.slice b o n c es) = true := by
 show and (and (Nat.beq b b) (Nat.beq o o)) (and (and (Nat.beq n n) (Nat.beq es es)) (c == c)) = true
 simp
section
variable {s : St} {k : KC} {e : E}
def byteV (n : Nat) : V := .int .u8 (n : Int)
end
end
end Go.Proofs.YtcgdlgbomjnnnaaLab
/- The lab: rules to reckon a run of ours by hand: calls through interfaces, numbers without a sign. No condition on the program. -/
namespace Go.Proofs.YtcgdlgbomjnnnaaLab
open Go
set_option linter.all false
noncomputable section
def bL (o : Option V) (c : V → Option (V × St)) : Option (V × St) := match o with | some v => c v | none => none
section
variable {ms : List (Nat × Nat × RM)} {v u z : V} {l : List V} {k : KC} {s : St} {t t' f : Nat} {m : RM} {c : V → Option (V × St)} {g : E → V} {gs : List (E → V)} {e : E}
@[congr] theorem bL_congr {o o' : Option V} (h : o = o') : bL o c = bL o' c := by rw [h]
end
theorem u64_lt (a b : Int) : bK .u64 fLt (.int .u64 a) (.int .u64 b) = some (.bool (decide (a < b))) := by
 show some (V.bool (ltI a b)) = _; rw [ltI_eq]
theorem u64_le (a b : Int) : bK .u64 fLe (.int .u64 a) (.int .u64 b) = some (.bool (decide (a ≤ b))) := by
 show some (V.bool (leI a b)) = _; rw [leI_eq]
theorem u64_eq (a b : Int) : bK .u64 fEq (.int .u64 a) (.int .u64 b) = some (.bool (decide (a = b))) := by
 show some (V.bool (eqI a b)) = _; rw [eqI_eq]; by_cases h : a = b <;> simp [h]
theorem wrap64 {n : Int} (h0 : 0 ≤ n) (h1 : n < 18446744073709551616) : IntKind.wrap .u64 n = n := by
 have : IntKind.wrap .u64 n = n % 18446744073709551616 := by
  simp [IntKind.wrap, IntKind.bits, IntKind.signed]
 rw [this]; omega
theorem u64_add {a b : Int} (h0 : 0 ≤ a + b) (h1 : a + b < 18446744073709551616) : bK .u64 (fun a b => .int .u64 (IntKind.wrap .u64 (Int.add a b))) (.int .u64 a) (.int .u64 b) = some (.int .u64 (a + b)) := by
 show some (V.int .u64 (IntKind.wrap .u64 (a + b))) = _; rw [wrap64 h0 h1]
theorem cU64 {n : Int} (h0 : 0 ≤ n) (h1 : n < 18446744073709551616) : cInt .u64 (.i n) = some (.int .u64 n) := by
 show some (V.int .u64 (IntKind.wrap .u64 n)) = _; rw [wrap64 h0 h1]
theorem uNeg_eq {n : Int} (h0 : -9223372036854775808 < n) (h1 : n ≤ 9223372036854775808) : uNeg (.i n) = some (.i (-n)) := by
 show some (V.i (w64 (0 - n))) = _
 rw [show (0 : Int) - n = -n by omega, w64_of ⟨by omega, by omega⟩]
theorem dz : (∀ n : Int, (V.i n).one = true) ∧ (∀ (k : IntKind) (n : Int), (V.int k n).one = true) ∧ (∀ b : Bool, (V.bool b).one = true) ∧ (∀ l, (V.str l).one = true) ∧ (∀ b o : Nat, (V.ptr b o).one = true) ∧ V.nilp.one = true ∧ V.nils.one = true ∧ (∀ (b o n es : Nat) (c : Option Nat), (V.slice b o n c es).one = true) ∧ (∀ b : Nat, (V.map b).one = true) ∧ V.nilm.one = true ∧ (∀ (f : Nat) (a b : List V), (V.func f a b).one = true) ∧ (∀ (t : Nat) (v : V), (V.iface t v).one = true)
 ∧ (∀ n : Int, sameV 100 (.i n) (.i n) = true) ∧ (∀ b : Bool, sameV 100 (.bool b) (.bool b) = true) ∧ sameV 100 .nils .nils = true ∧ (∀ b o : Nat, sameV 100 (.ptr b o) (.ptr b o) = true) ∧ (∀ b : Nat, sameV 100 (.map b) (.map b) = true) ∧ (∀ (b o n es : Nat) (c : Option Nat), sameV 100 (.slice b o n c es) (.slice b o n c es) = true)
 ∧ (∀ (v : V) (l : List V), allOne (v :: l) = (v.one && allOne l)) ∧ allOne [] = true :=
 ⟨one_i, one_int, one_bool, one_str, one_ptr, one_nilp, one_nils, one_slice, one_map, one_nilm, one_func, one_iface, same_i, same_bool, same_nils, same_ptr, same_map, same_slice, allOne_cons, allOne_nil⟩
theorem dl : (∀ {α : Type} (a : α) (l : List α), (a :: l).length = l.length + 1) ∧ (∀ {α : Type}, ([] : List α).length = 0) ∧ (∀ {α β : Type} (f : α → β) (l : List α), (l.map f).length = l.length) ∧ (∀ {α : Type} (l : List α) (i : Nat) (a : α), (l.set i a).length = l.length) :=
 ⟨fun a l => List.length_cons, List.length_nil, fun f l => List.length_map .., fun l i a => List.length_set ..⟩
end
end Go.Proofs.YtcgdlgbomjnnnaaLab
/- The lab: a world taken in whole: its rows are looked at, and never turned; a law's run over them. No condition on the program. -/
namespace Go.Proofs.YtcgdlgbomjnnnaaLab
open Go
set_option linter.all false
noncomputable section
section
variable {α : Type}
def T.fill (t : T α) (o : Nat) : List α → T α | [] => t | x :: l => (t.set o x).fill (o + 1) l
theorem T.fill_get : ∀ (l : List α) {t : T α} {o : Nat}, t.Full o → (∀ i, o ≤ i → t.get i = none) → (∀ i, (t.fill o l).get i = if i < o then t.get i else l[i - o]?) ∧ (t.fill o l).Full (o + l.length)
 | [], t, o, h, hn => ⟨fun i => by
  show t.get i = _
  by_cases hi : i < o
  · rw [if_pos hi]
  · rw [if_neg hi, hn i (by omega)]; simp, h⟩
 | x :: l, t, o, h, hn => by
   obtain ⟨h1, h2⟩ := T.fill_get l (t := t.set o x) (o := o + 1) (h.next x) (fun i hi => by rw [T.get_set_ne x (by omega)]; exact hn i (by omega))
   refine ⟨fun i => ?_, ?_⟩
   · show ((t.set o x).fill (o + 1) l).get i = _
     rw [h1 i]
     by_cases hi : i < o
     · rw [if_pos (by omega), if_pos hi, T.get_set_ne x (by omega)]
     · by_cases e : i = o
       · subst e; rw [if_pos (by omega), if_neg hi, T.set_next x h]; simp
       · rw [if_neg (by omega), if_neg hi, show i - o = (i - (o + 1)) + 1 by omega]; simp
   · show ((t.set o x).fill (o + 1) l).Full _
     intro i hi
     exact h2 i (by simp at hi; omega)
end
/-! ### A world's rows -/
def imp (W : World) (es k : Nat) : Value → Option V
 | .bool b => some (.bool b)
 | .int .i64 n => some (.i n)
 | .int k n => some (.int k n)
 | .string s => some (.str (nats s))
 | .pointer none => some .nilp
 | .slice none 0 0 => some .nils
 | .slice (some a) len cap =>
   if len ≤ cap then
    (if cap = 0 then some (.slice k 0 0 none es) else
     match W.heap[a.block]? with
     | some (.cells c _ _) => if a.spot = none ∧ a.off + cap * es ≤ c.size then some (.slice a.block a.off len none es) else none
     | _ => none)
   else none
 | _ => none
def impG (W : World) : Pl := fun b => match W.heap[b]? with | some (.cells c _ _) => some ⟨b, 0, c.size⟩ | _ => none
def impOb (W : World) (es k : Nat) : Obj → Ob
 | .cells c _ _ => .ro c.size fun i => match c[i]? with | some x => imp W es k x | none => none
 | _ => .dead
def impS (W : World) (es : Nat) : St := ⟨T.fill .nil 0 ((List.range W.heap.size).map fun k => match W.heap[k]? with | some o => impOb W es k o | none => .dead), W.heap.size⟩
theorem impS_get (W : World) (es b : Nat) : (impS W es).heap.get b = (W.heap[b]?).map (impOb W es b) := by
 have := (T.fill_get ((List.range W.heap.size).map fun k => match W.heap[k]? with | some o => impOb W es k o | none => .dead) (t := .nil) (o := 0) (Full0 _) (fun i _ => T.get_nil i)).1 b
 show (T.fill .nil 0 _).get b = _
 rw [this, if_neg (by omega)]
 by_cases h : b < W.heap.size
 · simp [h]
 · simp [h]
theorem imp_ok {W : World} {es k : Nat} {x : Value} {v : V} (hk : ∃ l, impG W k = some l) (h : imp W es k x = some v) : VR (impG W) v x ∧ x.oneCell' = true := by
 obtain ⟨lk, hk⟩ := hk
 unfold imp at h
 split at h
 · cases h; exact ⟨.bool _, rfl⟩
 · cases h; exact ⟨.i _, rfl⟩
 · cases h; exact ⟨.int _ _, rfl⟩
 · cases h; exact ⟨.str _, rfl⟩
 · cases h; exact ⟨.nilp, rfl⟩
 · cases h; exact ⟨.nils, rfl⟩
 · rename_i a len cap
   split at h
   · rename_i hle
     split at h
     · rename_i h0; subst h0
       cases h
       have : len = 0 := by omega
       subst this
       exact ⟨.slice _ _ _ _ _ _ lk _ hk (Nat.le_refl _) (fun k h => by cases h) (.inl rfl) (.inl rfl), rfl⟩
     · split at h
       · rename_i c el fz hc
         split at h
         · rename_i hh
           cases h
           have hg : impG W a.block = some ⟨a.block, 0, c.size⟩ := by unfold impG; rw [hc]
           obtain ⟨ab, ao, as⟩ := a
           obtain ⟨h1, h2⟩ := hh
           simp only at h1 h2 hg hc
           subst h1
           exact ⟨.slice _ _ _ _ _ _ ⟨ab, 0, c.size⟩ _ hg hle (fun k h => by cases h) (.inr (by simp)) (.inr (by simpa using h2)), rfl⟩
         · cases h
       · cases h
   · cases h
 · cases h
theorem impS_ok (W : World) (es : Nat) : SR (impG W) (impS W es) W := by
 refine ⟨⟨fun b o hb => ?_, fun b b' o o' l l' _ _ _ _ hl hl' he => ?_⟩, fun b hb => ?_, fun b l hb => ?_⟩
 · rw [impS_get] at hb
   cases hq : W.heap[b]? with
   | none => rw [hq] at hb; cases hb
   | some ob =>
     rw [hq] at hb
     cases hb
     unfold impOb
     split
     · rename_i c el fz
       have hg : impG W b = some ⟨b, 0, c.size⟩ := by unfold impG; rw [hq]
       refine ⟨⟨b, 0, c.size⟩, c, el, fz, hg, hq, rfl, by simp, fun i x hi hx => ?_⟩
       simp only at hx
       split at hx
       · rename_i y hy
         obtain ⟨h1, h2⟩ := imp_ok ⟨_, hg⟩ hx
         exact ⟨y, by simpa using hy, h1, h2⟩
       · cases hx
     · trivial
 · unfold impG at hl hl'
   split at hl <;> cases hl
   split at hl' <;> cases hl'
   exact he
 · rw [impS_get, Array.getElem?_eq_none (by exact hb)]; rfl
 · unfold impG at hb
   split at hb
   · rename_i hq
     cases hb
     have := (Array.getElem?_eq_some_iff.1 hq).1
     exact ⟨this, this⟩
   · cases hb
theorem impS_wf (W : World) (es : Nat) : Wf (impS W es) := by
 refine ⟨fun b hb => ?_, fun b hb => ?_, fun b o hb => ?_⟩
 · have hb : b < W.heap.size := hb
   rw [impS_get]; simp [hb]
 · have hb : W.heap.size ≤ b := hb
   rw [impS_get, Array.getElem?_eq_none hb]; rfl
 · rw [impS_get] at hb
   cases hq : W.heap[b]? with
   | none => rw [hq] at hb; cases hb
   | some ob =>
     rw [hq] at hb
     cases hb
     unfold impOb
     split <;> trivial
theorem impS_rd {W : World} {es b : Nat} {c : Array Value} {el : TypeId} {fz : Nat × Nat} (h : W.heap[b]? = some (.cells c el fz)) : rdOf (impS W es) b = some (c.size, fun i => match c[i]? with | some x => imp W es b x | none => none) :=
 rdOf_ro (by rw [impS_get, h]; rfl)
theorem law_ro {P : Program} {tbl : T FDen} (ht : T.All (FRun P []) tbl) {fuel n f es : Nat} {args : List V} {args' : List Value} {W : World} (h : Ret ((kc tbl fuel n).call f args (impS W es)) (fun v _ => v = .bool true)) (hargs : VRs (impG W) args args') :
 Calls P f ⟨args'⟩ W (fun e w' => e = .returned (.bool true) ∧ RowKit.Below W.heap.size W w') := by
 obtain ⟨v, s', hr, rfl⟩ := h
 refine (kc_run ht fuel n f args _ _ _ hr _ W args' (fun g hg => by cases hg) hargs (impS_ok W es)).mono ?_
 intro e w' he
 match e, he with
 | .returned v', ⟨G', g1, g2, g3⟩ =>
   refine ⟨by rw [g3.bool_inv], g1.go.os, g1.go.tape, g1.go.output, g1.go.size, fun k hk => g1.go.same k hk ?_⟩
   rintro ⟨b, o, l, hb, hm, _⟩
   rw [impS_get] at hb
   cases hq : W.heap[b]? with
   | none => rw [hq] at hb; cases hb
   | some ob =>
     rw [hq] at hb; cases hb
     unfold impOb at hm
     split at hm <;> cases hm
end
end Go.Proofs.YtcgdlgbomjnnnaaLab
/- The lab: a law's arguments as ours. No condition on the program. -/
namespace Go.Proofs.YtcgdlgbomjnnnaaLab
open Go Go.WideShapes Go.ChangeShapes
set_option linter.all false
noncomputable section
section
variable {H : Type} {enc : TypeId × Value → H} {P : Program} {W : World} {base b0 : Nat} {r : Reach} {spare : Nat → Bool} {held : Bool}
theorem ok_slice_blk {t e : TypeId} {a : Addr} {len cap : Nat} (ht : P.underlying t = some (.slice e)) (h : Value.okWide P W r base t (.slice (some a) len cap)) : a.spot = none ∧ len ≤ cap ∧ ∃ c el fz, W.heap[a.block]? = some (.cells c el fz) := by
 simp only [Value.okWide, ht, Cell.okWide, Cell.ok] at h
 obtain ⟨h1, _, h2, h3, row, cells, h4, _⟩ := h
 refine ⟨h3, h1, ?_⟩
 unfold World.shape? at h4
 split at h4
 · exact ⟨_, _, _, by assumption⟩
 · cases h4
theorem arg_ints {t e : TypeId} {v : Value} {d : DataW H} {ps : List MemPlace} (ht : P.underlying t = some (.slice e)) (he : P.underlying e = some (.int .i64)) (hc : P.cellsOf e = 1)
 (hval : Value.okWide P W r b0 t v) (h : DataW.Trod enc P W base (fun _ => true) held t v d ps) :
 ∃ (x : V) (l : List Int), VR (impG W) x v ∧ SL (impS W 1) x (l.map V.i) ∧ (∀ b ∈ blkV x, b < W.heap.size) ∧ l.length ≤ maxLen ∧ ∀ n ∈ l, -9223372036854775808 ≤ n ∧ n < 9223372036854775808 := by
 obtain ⟨fuel, hf⟩ := h
 obtain ⟨a, len, cap, rfl⟩ := okWide_slice ht hval
 rcases open_ints ht he hc hf with ⟨hcs, _⟩ | ⟨a', len', cap', zs, hcs, hb, hl, hm, hzl, hx, hcell, hwf⟩
 · simp [Value.cells] at hcs
   obtain ⟨rfl, rfl, rfl⟩ := hcs
   exact ⟨.nils, [], .nils, .inl ⟨rfl, .inl rfl⟩, fun b hb => by simp [blkV] at hb, by simp, fun n hn => by cases hn⟩
 · simp [Value.cells] at hcs
   obtain ⟨rfl, rfl, rfl⟩ := hcs
   simp only [if_true] at hzl
   obtain ⟨hsp, _, c, el, fz, hblk⟩ := ok_slice_blk ht hval
   have hg : impG W a'.block = some ⟨a'.block, 0, c.size⟩ := by unfold impG; rw [hblk]
   have hlt : a'.block < W.heap.size := (Array.getElem?_eq_some_iff.1 hblk).1
   obtain ⟨ab, ao, as⟩ := a'
   simp only at hsp hblk hg hlt
   subst hsp
   have hcl : ∀ i, i < cap → c[ao + i]? = some (.int .i64 (zs.getD i 0)) := fun i hi => by
    have := hcell i (by omega)
    rw [add_at] at this
    unfold World.cell? at this
    simp only [hblk] at this
    simpa using this
   have htot : cap = 0 ∨ ao + cap ≤ c.size := by
    by_cases h0 : cap = 0
    · exact .inl h0
    · have := (Array.getElem?_eq_some_iff.1 (hcl (cap - 1) (by omega))).1
      exact .inr (by omega)
   refine ⟨.slice ab ao len none 1, zs.take len, .slice _ _ _ _ _ _ ⟨ab, 0, c.size⟩ _ hg hl (fun k h => by cases h) (.inr (by simp)) (by simpa using htot), ?_, fun b hb => by simp [blkV] at hb; subst hb; exact hlt, by simp; omega, fun n hn => ?_⟩
   · by_cases h0 : len = 0
     · subst h0; exact .inl ⟨by simp, .inr ⟨_, _, _, rfl⟩⟩
     · refine .inr ⟨ab, ao, none, _, _, by simp; omega, impS_rd hblk, by simp; omega, fun i hi => ?_⟩
       simp at hi
       simp only [hcl i (by omega), imp]
       rw [List.getElem?_map, List.getElem?_take, if_pos (by omega), List.getElem?_eq_getElem (by omega)]
       simp [List.getD_eq_getElem?_getD, show i < zs.length by omega]
   · have := hwf n (List.mem_of_mem_take hn)
     simp [Lit.wf, IntKind.min, IntKind.max, IntKind.bits, IntKind.signed] at this
     exact ⟨by omega, by omega⟩
end
end
end Go.Proofs.YtcgdlgbomjnnnaaLab
/- The lab: slices among a law's arguments, one in the other. No condition on the program. -/
namespace Go.Proofs.YtcgdlgbomjnnnaaLab
open Go Go.WideShapes Go.ChangeShapes
set_option linter.all false
noncomputable section
def SN (s : St) (v : V) (l : List V) : Prop := (l = [] ∧ (v = .nils ∨ ∃ b o, v = .slice b o 0 none 1)) ∨ ∃ b o n f, v = .slice b o l.length none 1 ∧ rdOf s b = some (n, f) ∧ o + l.length ≤ n ∧ ∀ i, i < l.length → f (o + i) = l[i]?
section
variable {s : St} {v : V} {l : List V}
theorem SN.sl (h : SN s v l) : SL s v l := by
 rcases h with ⟨h1, h2 | ⟨b, o, h2⟩⟩ | ⟨b, o, n, f, h⟩
 · exact .inl ⟨h1, .inl h2⟩
 · exact .inl ⟨h1, .inr ⟨b, o, none, h2⟩⟩
 · exact .inr ⟨b, o, none, n, f, h⟩
theorem SN.fr {s' : St} {L : List Nat} (h : SN s v l) (hw : Wf s) (f : Fr s s' L) (hd : ∀ b, b ∈ blkV v → b ∉ L) : SN s' v l := by
 rcases h with h | ⟨b, o, n, g, h1, h2, h3⟩
 · exact .inl h
 · subst h1; exact .inr ⟨b, o, n, g, rfl, (rd_same (f.same b (rd_lt hw h2) (hd b (by simp [blkV])))).trans h2, h3⟩
theorem SN.cut (h : SN s v l) {m : Int} (hm0 : 0 ≤ m) (hm : m < (l.length : Nat)) : ∃ v', slV 1 v none (some (.i m)) none = some v' ∧ SN s v' (l.take m.toNat) ∧ blkV v' = blkV v := by
 rcases h with ⟨rfl, _⟩ | ⟨b, o, n, g, rfl, h2, h3, h4⟩
 · simp at hm; omega
 · refine ⟨_, pSl_hN hm0 (by omega), .inr ⟨b, o, n, g, ?_, h2, by simp; omega, fun i hi => ?_⟩, rfl⟩
   · congr 1; simp; omega
   · simp at hi
     rw [h4 i (by omega), List.getElem?_take, if_pos (by omega)]
end
section
variable {H : Type} {enc : TypeId × Value → H} {P : Program} {W : World} {base b0 : Nat} {r : Reach} {held : Bool}
end
end
end Go.Proofs.YtcgdlgbomjnnnaaLab
/- The lab: a function that takes nothing and answers true whatever the world is, as one step of ours. No condition on the program. -/
namespace Go.Proofs.YtcgdlgbomjnnnaaLab
open Go
set_option linter.all false
noncomputable section
def fTrue : FDen := ⟨[], fun _ e s => .ret e s, fun _ _ => some (.bool true)⟩
theorem fTrue_call {tbl : T FDen} {fuel n f : Nat} {s : St} (h : tbl.get f = some fTrue) : (kc tbl fuel (n + 1)).call f [] s = some (.bool true, s) := by
 show (match tbl.get f with | some F => runF F (kc tbl fuel n) [] s | none => none) = _
 rw [h]; rfl
theorem FRun.ofTrue {P : Program} {gl : List Nat} {f : Nat} (hC : ∀ W, Calls P f #[] W (fun e w' => e = .returned (.bool true) ∧ RowKit.Below W.heap.size W w')) : FRun P gl f fTrue := by
 intro k hk args s v s' hr G w args' hgl hargs hs
 cases args with
 | cons a l => cases hr
 | nil =>
   cases hr
   cases hargs
   refine (hC w).mono ?_
   rintro e w' ⟨rfl, hw⟩
   refine ⟨G, ⟨⟨Pl.le_refl G, hw.os, hw.tape, hw.output, hw.size, fun m k' hk' => .inl hk', fun k' hk' _ => hw.block k' hk', ?_⟩, Nat.le_refl _, fun _ _ h => h⟩, ⟨⟨fun b o hb => ?_, hs.r.inj⟩, hs.fresh, fun b l hb => ?_⟩, .bool true⟩
   · exact Rows.of hw.block
   · exact (hs.r.ob b o hb).other (Pl.le_refl G) (fun m hm _ => hw.block _ (hs.dom b m hm).2)
   · have := hs.dom b l hb; have := hw.size; omega
end
end Go.Proofs.YtcgdlgbomjnnnaaLab
