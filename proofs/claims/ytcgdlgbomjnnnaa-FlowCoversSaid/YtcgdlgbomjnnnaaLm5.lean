/- The lab, part 5 of 5. No condition on the program. Pruned. -/
import Derived.Test.YtcgdlgbomjnnnaaLm4
import Derived.ChangeSlices
import Derived.WideShapes
import Derived.Below
/- The jI: rules to reckon a run of ours by hand: how pieces of code end, step by step. No condition on the program. -/
namespace Go.Proofs.YtcgdlgbomjnnnaaLab
open Go
set_option linter.unusedVariables false
noncomputable section
/-! ### Shapes -/
def lt {α β : Type} (x : α) (f : α → β) : β := f x
def bM {α β : Type} (x : α) (f : α → β) : β := f x
def oL : V → V → Option V := dv .rem .i64 fun a b => Bool.casesOn (motive := fun _ => Option V) (jU b 0) (some (yN .i64 (Int.tmod a b))) none
def ei (r : aB) (b : E → St → aB) : aB := aB.casesOn (motive := fun _ => aB) r (fun e s => b e s) (fun id e s => .exit id e s) (fun e s => .ret e s) .bad
def rz (v : V) (a b : E → St → aB) (e : E) (s : St) : aB := match v with
 | .bool t => Bool.casesOn (motive := fun _ => aB) t (b e s) (a e s)
 | _ => .bad
def dH (id : Nat) (r : aB) : aB := aB.casesOn (motive := fun _ => aB) r (fun e s => .au e s) (fun id' e s => Bool.casesOn (motive := fun _ => aB) (Nat.beq id' id) (.exit id' e s) (.au e s)) (fun e s => .ret e s) .bad
def bn (res : E → St → Option V) (r : aB) : Option (V × St) := match r with
 | .au e' s' => (match res e' s' with | some v => some (v, s') | none => none)
 | .ret e' s' => (match res e' s' with | some v => some (v, s') | none => none)
 | _ => none
@[congr] theorem Z2 {α β : Type} {x x' : α} {f : α → β} (h : x = x') : lt x f = lt x' f := by rw [h]
@[congr] theorem YT {x x' : Option V} {k : V → aB} (h : x = x') : bP x k = bP x' k := by rw [h]
@[congr] theorem YC {x x' : Option (V × St)} {k : V → St → aB} (h : x = x') : bE x k = bE x' k := by rw [h]
@[congr] theorem V5 {r r' : aB} {b : E → St → aB} (h : r = r') : ei r b = ei r' b := by rw [h]
@[congr] theorem PX {v v' : V} {a b : E → St → aB} {e : E} {s : St} (h : v = v') : rz v a b e s = rz v' a b e s := by rw [h]
@[congr] theorem Vx {id : Nat} {r r' : aB} (h : r = r') : dH id r = dH id r' := by rw [h]
@[congr] theorem Wb {res : E → St → Option V} {r r' : aB} (h : r = r') : bn res r = bn res r' := by rw [h]
section
variable {k : KC} {e : E} {s : St} {a b : Den} {f : V → aB} {f2 : V → St → aB} {v : V} {id id' : Nat} {B : E → St → aB}
theorem lt_eq {α β : Type} (x : α) (f : α → β) : lt x f = f x := (rfl)
theorem Vp {α β : Type} (x : α) (f : α → β) : bM x f = f x := (rfl)
theorem OM (v : V) (f : V → aB) : bP (some v) f = f v := (rfl)
theorem Om (v : V) (s : St) (f2 : V → St → aB) : bE (some (v, s)) f2 = f2 v s := (rfl)
theorem FH (v : V) (o : Ob) (s : St) : dm (some (v, o)) s = some (v, s.new o) := (rfl)
theorem ND : af a b k e s = ei (a k e s) (b k) := (rfl)
theorem Jo : ei (.au e s) B = B e s := (rfl)
theorem yG : ei (.exit id e s) B = .exit id e s := (rfl)
theorem KN : ei (.ret e s) B = .ret e s := (rfl)
theorem Oz : aU k e s = .ret e s := (rfl)
theorem GU : ay k e s = .au e s := (rfl)
theorem zT : bW id k e s = .exit id e s := (rfl)
theorem AQ {g : E → V} : av g a b k e s = rz (g e) (a k) (b k) e s := by unfold av rz; rfl
theorem vi {a b : E → St → aB} : rz (.bool true) a b e s = a e s := (rfl)
theorem uy {a b : E → St → aB} : rz (.bool false) a b e s = b e s := (rfl)
theorem yP : aG id a k e s = dH id (a k e s) := (rfl)
theorem JK : dH id (.au e s) = .au e s := (rfl)
theorem Jh : dH id (.ret e s) = .ret e s := (rfl)
theorem yA : dH id (.exit id e s) = .au e s := by show Bool.casesOn (motive := fun _ => aB) (Nat.beq id id) _ _ = _; rw [Nat.beq_refl]
theorem sE (h : id' ≠ id) : dH id (.exit id' e s) = .exit id' e s := by show Bool.casesOn (motive := fun _ => aB) (Nat.beq id' id) _ _ = _; rw [dx h]
theorem Kh : cB a k e s = pT (a k) k.fuel e s := (rfl)
theorem BR : nH e v = e := (rfl)
theorem Ib (x : Option V) : aL (.bool true) true x = x := (rfl)
theorem H_ (x : Option V) : aL (.bool false) false x = x := (rfl)
theorem DZ (x : Option V) : aL (.bool true) false x = some (.bz []) := (rfl)
theorem Aq (x : Option V) : aL (.bool false) true x = some (.bz []) := (rfl)
theorem wS (w : Bool) (x : Option V) : aL (.bz []) w x = some (.bz []) := (rfl)
theorem FK (x : Option (V × St)) : iH (.bool true) true s x = x := (rfl)
theorem El (x : Option (V × St)) : iH (.bool false) false s x = x := (rfl)
theorem KK (x : Option (V × St)) : iH (.bool true) false s x = some (.bz [], s) := (rfl)
theorem FB (x : Option (V × St)) : iH (.bool false) true s x = some (.bz [], s) := (rfl)
theorem wJ (w : Bool) (x : Option (V × St)) : iH (.bz []) w s x = some (.bz [], s) := (rfl)
theorem yx {res : E → St → Option V} : bn res (.au e s) = (res e s).map fun v => (v, s) := by show (match res e s with | some v => some (v, s) | none => none) = _; cases res e s <;> rfl
theorem xQ {res : E → St → Option V} : bn res (.ret e s) = (res e s).map fun v => (v, s) := by show (match res e s with | some v => some (v, s) | none => none) = _; cases res e s <;> rfl
theorem aT {F : aY} {args : List V} (h : lg F.us args e0 = some e) : bD F k args s = bn F.res (F.body k e s) := by unfold bD; rw [h]; rfl
theorem Y8 : e0 = ⟨jO, jO, jO, jO, jO, jO, jO, jO, jO, jO, jO, jO, jO, jO, jO, jO⟩ := (rfl)
theorem XU (g : E → V) : rT g e s = some (g e) := (rfl)
theorem Ij (g : E → St → Option V) : aM [g] e s = g e s := (rfl)
theorem fP : aM [] e s = some (.bz []) := (rfl)
theorem gE {g h : E → V} : aM [rT g, rT h] e s = some (.bz [g e, h e]) := (rfl)
theorem dD {g h i : E → V} : aM [rT g, rT h, rT i] e s = some (.bz [g e, h e, i e]) := (rfl)
theorem aq.k0e {α β : Type} (e : aq α) (v : α) (k : aq α → β) : aq.k0 e v k = k {e with a0 := v} := (rfl)
theorem aq.u0e {α : Type} (sk : aq α → α → (aq α → aq (aq α)) → aq (aq α)) (e : aq (aq α)) (v : α) : aq.u0 sk e v = sk e.a0 v (fun y => {e with a0 := y}) := (rfl)
theorem acC (e : E) (k) : gC e k = {e with a0 := k e.a0.a0 e.a0.a1 e.a0.a2 e.a0.a3 e.a0.a4 e.a0.a5 e.a0.a6 e.a0.a7 e.a0.a8 e.a0.a9 e.a0.a10 e.a0.a11 e.a0.a12 e.a0.a13 e.a0.a14 e.a0.a15} := (rfl)
def bJ (e : E) (f : aq V → aq V) : E := {e with a0 := f e.a0}
theorem acZ (e : E) (f) : bJ e f = {e with a0 := f e.a0} := (rfl)
theorem aq.k1e {α β : Type} (e : aq α) (v : α) (k : aq α → β) : aq.k1 e v k = k {e with a1 := v} := (rfl)
theorem aq.u1e {α : Type} (sk : aq α → α → (aq α → aq (aq α)) → aq (aq α)) (e : aq (aq α)) (v : α) : aq.u1 sk e v = sk e.a1 v (fun y => {e with a1 := y}) := (rfl)
theorem ac6 (e : E) (k) : mP e k = {e with a1 := k e.a1.a0 e.a1.a1 e.a1.a2 e.a1.a3 e.a1.a4 e.a1.a5 e.a1.a6 e.a1.a7 e.a1.a8 e.a1.a9 e.a1.a10 e.a1.a11 e.a1.a12 e.a1.a13 e.a1.a14 e.a1.a15} := (rfl)
def cN (e : E) (f : aq V → aq V) : E := {e with a1 := f e.a1}
theorem ace (e : E) (f) : cN e f = {e with a1 := f e.a1} := (rfl)
theorem aq.k2e {α β : Type} (e : aq α) (v : α) (k : aq α → β) : aq.k2 e v k = k {e with a2 := v} := (rfl)
theorem aq.u2e {α : Type} (sk : aq α → α → (aq α → aq (aq α)) → aq (aq α)) (e : aq (aq α)) (v : α) : aq.u2 sk e v = sk e.a2 v (fun y => {e with a2 := y}) := (rfl)
theorem acn (e : E) (k) : lU e k = {e with a2 := k e.a2.a0 e.a2.a1 e.a2.a2 e.a2.a3 e.a2.a4 e.a2.a5 e.a2.a6 e.a2.a7 e.a2.a8 e.a2.a9 e.a2.a10 e.a2.a11 e.a2.a12 e.a2.a13 e.a2.a14 e.a2.a15} := (rfl)
def dh (e : E) (f : aq V → aq V) : E := {e with a2 := f e.a2}
theorem ac8 (e : E) (f) : dh e f = {e with a2 := f e.a2} := (rfl)
theorem aq.k3e {α β : Type} (e : aq α) (v : α) (k : aq α → β) : aq.k3 e v k = k {e with a3 := v} := (rfl)
theorem aq.u3e {α : Type} (sk : aq α → α → (aq α → aq (aq α)) → aq (aq α)) (e : aq (aq α)) (v : α) : aq.u3 sk e v = sk e.a3 v (fun y => {e with a3 := y}) := (rfl)
theorem acW (e : E) (k) : GR e k = {e with a3 := k e.a3.a0 e.a3.a1 e.a3.a2 e.a3.a3 e.a3.a4 e.a3.a5 e.a3.a6 e.a3.a7 e.a3.a8 e.a3.a9 e.a3.a10 e.a3.a11 e.a3.a12 e.a3.a13 e.a3.a14 e.a3.a15} := (rfl)
def fW (e : E) (f : aq V → aq V) : E := {e with a3 := f e.a3}
theorem abH (e : E) (f) : fW e f = {e with a3 := f e.a3} := (rfl)
theorem aq.k4e {α β : Type} (e : aq α) (v : α) (k : aq α → β) : aq.k4 e v k = k {e with a4 := v} := (rfl)
theorem aq.u4e {α : Type} (sk : aq α → α → (aq α → aq (aq α)) → aq (aq α)) (e : aq (aq α)) (v : α) : aq.u4 sk e v = sk e.a4 v (fun y => {e with a4 := y}) := (rfl)
theorem abP (e : E) (k) : WC e k = {e with a4 := k e.a4.a0 e.a4.a1 e.a4.a2 e.a4.a3 e.a4.a4 e.a4.a5 e.a4.a6 e.a4.a7 e.a4.a8 e.a4.a9 e.a4.a10 e.a4.a11 e.a4.a12 e.a4.a13 e.a4.a14 e.a4.a15} := (rfl)
def jj (e : E) (f : aq V → aq V) : E := {e with a4 := f e.a4}
theorem acB (e : E) (f) : jj e f = {e with a4 := f e.a4} := (rfl)
theorem aq.k5e {α β : Type} (e : aq α) (v : α) (k : aq α → β) : aq.k5 e v k = k {e with a5 := v} := (rfl)
theorem aq.u5e {α : Type} (sk : aq α → α → (aq α → aq (aq α)) → aq (aq α)) (e : aq (aq α)) (v : α) : aq.u5 sk e v = sk e.a5 v (fun y => {e with a5 := y}) := (rfl)
theorem acA (e : E) (k) : Mz e k = {e with a5 := k e.a5.a0 e.a5.a1 e.a5.a2 e.a5.a3 e.a5.a4 e.a5.a5 e.a5.a6 e.a5.a7 e.a5.a8 e.a5.a9 e.a5.a10 e.a5.a11 e.a5.a12 e.a5.a13 e.a5.a14 e.a5.a15} := (rfl)
def kL (e : E) (f : aq V → aq V) : E := {e with a5 := f e.a5}
theorem acQ (e : E) (f) : kL e f = {e with a5 := f e.a5} := (rfl)
theorem aq.k6e {α β : Type} (e : aq α) (v : α) (k : aq α → β) : aq.k6 e v k = k {e with a6 := v} := (rfl)
theorem aq.u6e {α : Type} (sk : aq α → α → (aq α → aq (aq α)) → aq (aq α)) (e : aq (aq α)) (v : α) : aq.u6 sk e v = sk e.a6 v (fun y => {e with a6 := y}) := (rfl)
theorem ac7 (e : E) (k) : rw6 e k = {e with a6 := k e.a6.a0 e.a6.a1 e.a6.a2 e.a6.a3 e.a6.a4 e.a6.a5 e.a6.a6 e.a6.a7 e.a6.a8 e.a6.a9 e.a6.a10 e.a6.a11 e.a6.a12 e.a6.a13 e.a6.a14 e.a6.a15} := (rfl)
def mN (e : E) (f : aq V → aq V) : E := {e with a6 := f e.a6}
theorem acg (e : E) (f) : mN e f = {e with a6 := f e.a6} := (rfl)
theorem aq.k7e {α β : Type} (e : aq α) (v : α) (k : aq α → β) : aq.k7 e v k = k {e with a7 := v} := (rfl)
theorem aq.u7e {α : Type} (sk : aq α → α → (aq α → aq (aq α)) → aq (aq α)) (e : aq (aq α)) (v : α) : aq.u7 sk e v = sk e.a7 v (fun y => {e with a7 := y}) := (rfl)
theorem acT (e : E) (k) : rw7 e k = {e with a7 := k e.a7.a0 e.a7.a1 e.a7.a2 e.a7.a3 e.a7.a4 e.a7.a5 e.a7.a6 e.a7.a7 e.a7.a8 e.a7.a9 e.a7.a10 e.a7.a11 e.a7.a12 e.a7.a13 e.a7.a14 e.a7.a15} := (rfl)
def pR (e : E) (f : aq V → aq V) : E := {e with a7 := f e.a7}
theorem abM (e : E) (f) : pR e f = {e with a7 := f e.a7} := (rfl)
theorem aq.k8e {α β : Type} (e : aq α) (v : α) (k : aq α → β) : aq.k8 e v k = k {e with a8 := v} := (rfl)
theorem aq.u8e {α : Type} (sk : aq α → α → (aq α → aq (aq α)) → aq (aq α)) (e : aq (aq α)) (v : α) : aq.u8 sk e v = sk e.a8 v (fun y => {e with a8 := y}) := (rfl)
theorem abv (e : E) (k) : rw8 e k = {e with a8 := k e.a8.a0 e.a8.a1 e.a8.a2 e.a8.a3 e.a8.a4 e.a8.a5 e.a8.a6 e.a8.a7 e.a8.a8 e.a8.a9 e.a8.a10 e.a8.a11 e.a8.a12 e.a8.a13 e.a8.a14 e.a8.a15} := (rfl)
def qs (e : E) (f : aq V → aq V) : E := {e with a8 := f e.a8}
theorem abE (e : E) (f) : qs e f = {e with a8 := f e.a8} := (rfl)
theorem aq.k9e {α β : Type} (e : aq α) (v : α) (k : aq α → β) : aq.k9 e v k = k {e with a9 := v} := (rfl)
theorem aq.u9e {α : Type} (sk : aq α → α → (aq α → aq (aq α)) → aq (aq α)) (e : aq (aq α)) (v : α) : aq.u9 sk e v = sk e.a9 v (fun y => {e with a9 := y}) := (rfl)
theorem acR (e : E) (k) : rw9 e k = {e with a9 := k e.a9.a0 e.a9.a1 e.a9.a2 e.a9.a3 e.a9.a4 e.a9.a5 e.a9.a6 e.a9.a7 e.a9.a8 e.a9.a9 e.a9.a10 e.a9.a11 e.a9.a12 e.a9.a13 e.a9.a14 e.a9.a15} := (rfl)
def yY (e : E) (f : aq V → aq V) : E := {e with a9 := f e.a9}
theorem abG (e : E) (f) : yY e f = {e with a9 := f e.a9} := (rfl)
theorem aq.abQ {α β : Type} (e : aq α) (v : α) (k : aq α → β) : aq.yR e v k = k {e with a10 := v} := (rfl)
theorem aq.abX {α : Type} (sk : aq α → α → (aq α → aq (aq α)) → aq (aq α)) (e : aq (aq α)) (v : α) : aq.u10 sk e v = sk e.a10 v (fun y => {e with a10 := y}) := (rfl)
theorem YO (e : E) (k) : YG e k = {e with a10 := k e.a10.a0 e.a10.a1 e.a10.a2 e.a10.a3 e.a10.a4 e.a10.a5 e.a10.a6 e.a10.a7 e.a10.a8 e.a10.a9 e.a10.a10 e.a10.a11 e.a10.a12 e.a10.a13 e.a10.a14 e.a10.a15} := (rfl)
def Bv (e : E) (f : aq V → aq V) : E := {e with a10 := f e.a10}
theorem Yd (e : E) (f) : Bv e f = {e with a10 := f e.a10} := (rfl)
theorem aq.ac_ {α β : Type} (e : aq α) (v : α) (k : aq α → β) : aq.xR e v k = k {e with a11 := v} := (rfl)
theorem aq.abw {α : Type} (sk : aq α → α → (aq α → aq (aq α)) → aq (aq α)) (e : aq (aq α)) (v : α) : aq.u11 sk e v = sk e.a11 v (fun y => {e with a11 := y}) := (rfl)
theorem aq.ab0 {α β : Type} (e : aq α) (v : α) (k : aq α → β) : aq.uV e v k = k {e with a12 := v} := (rfl)
theorem aq.adj {α β : Type} (e : aq α) (v : α) (k : aq α → β) : aq.u_ e v k = k {e with a13 := v} := (rfl)
theorem aq.adf {α β : Type} (e : aq α) (v : α) (k : aq α → β) : aq.vI e v k = k {e with a14 := v} := (rfl)
theorem aq.abN {α β : Type} (e : aq α) (v : α) (k : aq α → β) : aq.vo e v k = k {e with a15 := v} := (rfl)
theorem Ym (v : V) (e : E) : cV v e = v := (rfl)
theorem AJ (g : E → V) (e : E) : aD g e = some (g e) := (rfl)
theorem Wa (f : V → Option V) (g : E → V) (e : E) : aA f g e = f (g e) := (rfl)
theorem Nf (f : V → V → Option V) (g h : E → V) (e : E) : aj f g h e = f (g e) (h e) := (rfl)
def pkV (c x y : V) : Option V := match c with | .bool b => some (Bool.casesOn (motive := fun _ => V) b y x) | _ => none
theorem Br (c g h : E → V) (e : E) : aN c g h e = pkV (c e) (g e) (h e) := by unfold aN pkV; cases c e <;> rfl
theorem Wd (x y : V) : pkV (.bool true) x y = some x := (rfl)
theorem Wq (x y : V) : pkV (.bool false) x y = some y := (rfl)
theorem nR (e : E) : oQ [] e = [] := (rfl)
theorem lV (g : E → V) (l : List (E → V)) (e : E) : oQ (g :: l) e = g e :: oQ l e := (rfl)
theorem OI (e : E) : qy [] e = [] := (rfl)
theorem B9 (a b : Nat) (g : E → V) (l : List (Nat × Nat × (E → V))) (e : E) : qy ((a, b, g) :: l) e = (a, b, g e) :: qy l e := (rfl)
theorem Dy (f : Nat) (gs : List (E → V)) : ak f gs k e s = k.call f (oQ gs e) s := (rfl)
def PY (n : Int) : Prop := -9223372036854775808 ≤ n ∧ n < 9223372036854775808
theorem jA {n : Int} (h : PY n) : uW n = n := by
 rw [Gh]
 unfold PY at h
 show (let m := n % 2 ^ 64; if decide True && decide (2 ^ (64 - 1) ≤ m) then m - 2 ^ 64 else m) = n
 simp only [decide_true, Bool.true_and, decide_eq_true_eq]
 split <;> omega
theorem NK {a b : Int} (h1 : -9223372036854775808 ≤ a + b) (h2 : a + b < 9223372036854775808) : bI bQ (.i a) (.i b) = some (.i (a + b)) := by show some (V.i (uW (a + b))) = _; rw [jA ⟨h1, h2⟩]
theorem NI {a b : Int} (h1 : -9223372036854775808 ≤ a - b) (h2 : a - b < 9223372036854775808) : bI ep (.i a) (.i b) = some (.i (a - b)) := by show some (V.i (uW (a - b))) = _; rw [jA ⟨h1, h2⟩]
theorem It {a b : Int} (h : b ≠ 0) : oL (.i a) (.i b) = some (.i (a.tmod b)) := by
 have : jU b 0 = false := by rw [eD]; simpa using h
 show (Bool.casesOn (motive := fun _ => Option V) (jU b 0) (some (yN .i64 (Int.tmod a b))) none) = _
 rw [this]; rfl
theorem WU (a b : Int) : bI bh (.i a) (.i b) = some (.bool (decide (a = b))) := by show some (V.bool (jU a b)) = _; rw [eD]; by_cases h : a = b <;> simp [h]
theorem Wz (a b : Int) : bI sg (.i a) (.i b) = some (.bool (!decide (a = b))) := by show some (V.bool (not (jU a b))) = _; rw [eD]; by_cases h : a = b <;> simp [h]
theorem WY (a b : Int) : bI fN (.i a) (.i b) = some (.bool (decide (a < b))) := by show some (V.bool (ux a b)) = _; rw [iu]
theorem Wg (a b : Int) : bI xj (.i a) (.i b) = some (.bool (decide (a ≤ b))) := by show some (V.bool (nQ a b)) = _; rw [fR]
theorem Xg (a b : Int) : bI rX (.i a) (.i b) = some (.bool (decide (b < a))) := by show some (V.bool (ux b a)) = _; rw [iu]
theorem Xl (a b : Int) : bI qD (.i a) (.i b) = some (.bool (decide (b ≤ a))) := by show some (V.bool (nQ b a)) = _; rw [fR]
theorem NM (t : Bool) : jw (.bool t) = some (.bool (!t)) := (rfl)
theorem eG (b o n es : Nat) (c : Option Nat) : aP (.slice b o n c es) = some (.i (n : Int)) := (rfl)
theorem ya : aP .ax = some (.i 0) := (rfl)
theorem Nd (n b o : Nat) : aC n (.ptr b o) = some (.ptr b (o + n)) := (rfl)
theorem NL (b o : Nat) : bx (.ptr b o) = some (.ptr b o) := (rfl)
theorem Nl (i : Nat) (l : List V) : dL i (.bz l) = l[i]? := (rfl)
theorem DQ (ng : Bool) (b o : Nat) : pE ng NP (.ptr b o) .jB = some (.bool ng) := by cases ng <;> rfl
theorem yK (ng : Bool) : pE ng NP .jB .jB = some (.bool (!ng)) := by cases ng <;> rfl
theorem jr {es b o len : Nat} {c : Option Nat} {n : Int} (h0 : 0 ≤ n) (h1 : n < len) : aQ es (.slice b o len c es) (.i n) = some (.ptr b (o + n.toNat * es)) := by
 show (Bool.casesOn (motive := fun _ => Option V) (Nat.beq es es) none (Bool.casesOn (motive := fun _ => Option V) (nQ 0 n) none (Bool.casesOn (motive := fun _ => Option V) (Nat.blt n.toNat len) none (some (.ptr b (Nat.add o (Nat.mul n.toNat es))))))) = _
 rw [Nat.beq_refl, fR, decide_eq_true h0, dn, decide_eq_true (by omega)]; rfl
theorem eY {b o len : Nat} {c : Option Nat} {n : Int} (h0 : 0 ≤ n) (h1 : n < len) : aQ 1 (.slice b o len c 1) (.i n) = some (.ptr b (o + n.toNat)) := by rw [jr h0 h1, Nat.mul_one]
theorem aK {dM : T aY} {fuel n f : Nat} {F : aY} {args : List V} (h : dM.get f = some F) : (kc dM fuel (n + 1)).call f args s = bD F (kc dM fuel n) args s := by
 show (match dM.get f with | some F => bD F (kc dM fuel n) args s | none => none) = _
 rw [h]
theorem ME {dM : T aY} {fuel n : Nat} : (kc dM fuel n).fuel = fuel := by cases n <;> rfl
end
/-! ### Loops -/
theorem Kj {a : E → St → aB} (I : Nat → E → St → Prop) (Q : aB → Prop)
 (step : ∀ n e s, I n e s → (∃ e' s' m, a e s = .au e' s' ∧ m < n ∧ I m e' s') ∨ ((∃ id e' s', a e s = .exit id e' s') ∨ (∃ e' s', a e s = .ret e' s')) ∧ Q (a e s)) :
 ∀ (n N : Nat) (e : E) (s : St), n < N → I n e s → Q (pT a N e s) := by
 intro n
 induction n using Nat.strongRecOn with
 | ind n ih =>
   intro N e s hN hI
   cases N with
   | zero => omega
   | succ N =>
     show Q (aB.casesOn (motive := fun _ => aB) (a e s) (fun e s => tick (pT a N e s)) (fun id e s => .exit id e s) (fun e s => .ret e s) .bad)
     rcases step n e s hI with ⟨e', s', m, h, hm, hI'⟩ | ⟨h, hQ⟩
     · rw [h]; exact ih m hm N e' s' (by omega) hI'
     · rcases h with ⟨id, e', s', h⟩ | ⟨e', s', h⟩ <;> rw [h] at hQ ⊢ <;> exact hQ
def tA (r : aB) (N : E → St → Prop) (Q : aB → Prop) : Prop := match r with
 | .au e s => N e s
 | .exit id e s => Q (.exit id e s)
 | .ret e s => Q (.ret e s)
 | .bad => False
@[congr] theorem XM {r r' : aB} {N : E → St → Prop} {Q : aB → Prop} (h : r = r') : tA r N Q = tA r' N Q := by rw [h]
theorem Oo (e : E) (s : St) (N : E → St → Prop) (Q : aB → Prop) : tA (.au e s) N Q = N e s := (rfl)
theorem KS (id : Nat) (e : E) (s : St) (N : E → St → Prop) (Q : aB → Prop) : tA (.exit id e s) N Q = Q (.exit id e s) := (rfl)
theorem NQ (e : E) (s : St) (N : E → St → Prop) (Q : aB → Prop) : tA (.ret e s) N Q = Q (.ret e s) := (rfl)
theorem bT {a : E → St → aB} (I : Nat → E → St → Prop) (Q : aB → Prop) (step : ∀ n e s, I n e s → tA (a e s) (fun e' s' => ∃ m, m < n ∧ I m e' s') Q) {n N : Nat} {e : E} {s : St} (hN : n < N) (h : I n e s) : Q (pT a N e s) := by
 refine Kj I Q (fun n e s hI => ?_) n N e s hN h
 have := step n e s hI
 unfold tA at this
 cases hr : a e s with
 | au e' s' => rw [hr] at this; obtain ⟨m, h1, h2⟩ := this; exact .inl ⟨e', s', m, rfl, h1, h2⟩
 | exit id e' s' => rw [hr] at this; exact .inr ⟨.inl ⟨id, e', s', rfl⟩, this⟩
 | ret e' s' => rw [hr] at this; exact .inr ⟨.inr ⟨e', s', rfl⟩, this⟩
 | bad => rw [hr] at this; exact this.elim
def eA (r : Option (V × St)) (Q : V → St → Prop) : Prop := ∃ v s', r = some (v, s') ∧ Q v s'
@[congr] theorem XH {r r' : Option (V × St)} {Q : V → St → Prop} (h : r = r') : eA r Q = eA r' Q := by rw [h]
theorem Fs (v : V) (s : St) (Q : V → St → Prop) : eA (some (v, s)) Q = Q v s := by
 refine propext ⟨fun ⟨v', s', h, hq⟩ => by cases h; exact hq, fun h => ⟨v, s, rfl, h⟩⟩
theorem eA.mono {r : Option (V × St)} {Q Q' : V → St → Prop} (h : eA r Q) (hq : ∀ v s, Q v s → Q' v s) : eA r Q' := let ⟨v, s, h1, h2⟩ := h; ⟨v, s, h1, hq v s h2⟩
end
end Go.Proofs.YtcgdlgbomjnnnaaLab
/- The jI: rules to reckon a run of ours by hand: memory as lists. No condition on the program. -/
namespace Go.Proofs.YtcgdlgbomjnnnaaLab
open Go
set_option linter.unusedVariables false
noncomputable section
section
variable {α : Type}
def T.Full (t : T α) (n : Nat) : Prop := ∀ i, i < n → (t.get i).isSome = true
theorem T.dy {t : T α} {i j : Nat} (x : α) (h : i ≠ j) : (t.set i x).get j = t.get j := by
 cases e : t.get j with
 | some y => exact T.iW e h
 | none =>
   cases e' : (t.set i x).get j with
   | none => rfl
   | some y => rcases T.jK e' with ⟨h', _⟩ | ⟨_, h'⟩
               · exact absurd h' h
               · rw [e] at h'; cases h'
theorem T.mq : ∀ {t : T α} {n : Nat} (x : α), t.Full n → (t.set n x).get n = some x := by
 intro t
 induction t with
 | nil =>
   intro n x h
   cases n with
   | zero => rfl
   | succ n => have := h 0 (by omega); rw [T.get_nil] at this; cases this
 | aa v l r ihl ihr =>
   intro n x h
   cases n with
   | zero => rfl
   | succ i =>
     rw [T.gL]
     by_cases hi : i % 2 = 0
     · rw [if_pos hi, T.cq, if_pos hi]
       refine ihl x fun j hj => ?_
       have := h (2 * j + 1) (by omega)
       rw [T.cq, if_pos (by omega), show 2 * j / 2 = j by omega] at this
       exact this
     · rw [if_neg hi, T.cq, if_neg hi]
       refine ihr x fun j hj => ?_
       have := h (2 * j + 1 + 1) (by omega)
       rw [T.cq, if_neg (by omega), show (2 * j + 1) / 2 = j by omega] at this
       exact this
theorem T.tw {t : T α} {n i : Nat} (x : α) (h : t.Full n) (hi : i ≤ n) : (t.set i x).get i = some x := T.mq x fun j hj => h j (by omega)
theorem T.Full.set {t : T α} {n i : Nat} (x : α) (h : t.Full n) (hi : i ≤ n) : (t.set i x).Full n := fun j hj => by
 by_cases e : i = j
 · subst e; rw [T.tw x h hi]; rfl
 · rw [T.dy x e]; exact h j hj
theorem T.Full.next {t : T α} {n : Nat} (x : α) (h : t.Full n) : (t.set n x).Full (n + 1) := fun j hj => by
 by_cases e : n = j
 · subst e; rw [T.mq x h]; rfl
 · rw [T.dy x e]; exact h j (by omega)
end
theorem nr : ∀ (vs : List V) {xs : T V} {o n : Nat}, xs.Full n → o ≤ n → (∀ i, (gG xs o vs).get i = if o ≤ i ∧ i < o + vs.length then vs[i - o]? else xs.get i) ∧ (gG xs o vs).Full (max n (o + vs.length))
 | [], xs, o, n, h, ho => ⟨fun i => by rw [if_neg (by simp)]; rfl, fun j hj => h j (by simp at hj; omega)⟩
 | v :: vs, xs, o, n, h, ho => by
   have hf : (xs.set o v).Full (max n (o + 1)) := fun j hj => by
    by_cases e : o = j
    · subst e; rw [T.tw v h ho]; rfl
    · rw [T.dy v e]; exact h j (by omega)
   obtain ⟨h1, h2⟩ := nr vs (xs := xs.set o v) (o := o + 1) (n := max n (o + 1)) hf (by omega)
   refine ⟨fun i => ?_, ?_⟩
   · show (gG (xs.set o v) (o + 1) vs).get i = _
     rw [h1 i]
     by_cases e : o = i
     · subst e
       rw [if_neg (by omega), if_pos (by simp), T.tw v h ho]; simp
     · by_cases e1 : o + 1 ≤ i ∧ i < o + 1 + vs.length
       · rw [if_pos e1, if_pos (by simp; omega)]
         rw [show i - o = (i - (o + 1)) + 1 by omega]; simp
       · rw [if_neg e1, if_neg (by simp; omega), T.dy v e]
   · show (gG (xs.set o v) (o + 1) vs).Full _
     refine fun j hj => h2 j ?_
     simp at hj; omega
theorem Sm {α : Type} (t : T α) : t.Full 0 := fun i hi => absurd hi (by omega)
theorem mw (l : List V) : (∀ i, (cL l).get i = l[i]?) := fun i => by
 have := (nr l (xs := .nil) (o := 0) (n := 0) (Sm _) (Nat.le_refl _)).1 i
 show (gG .nil 0 l).get i = _
 rw [this]
 by_cases h : i < l.length
 · rw [if_pos (by omega)]; simp
 · rw [if_neg (by omega), T.get_nil]; simp; omega
/-! ### Memory as lists -/
def St.cl (s : St) (b : Nat) : Option (List V) := match s.heap.get b with
 | some (.cells n xs) => some ((List.range n).map fun i => (xs.get i).getD .undef)
 | _ => none
def St.mp (s : St) (b : Nat) : Option (List (V × V) × List Nat × Nat) := match s.heap.get b with
 | some (.map es bs cl) => some (es, bs, cl)
 | _ => none
def Ob.full : Ob → Prop
 | .cells n xs => xs.Full n
 | _ => True
structure Wf (s : St) : Prop where
 full : s.heap.Full s.next
 none : ∀ b, s.next ≤ b → s.heap.get b = Option.none
 obs : ∀ b o, s.heap.get b = some o → o.full
section
variable {s : St} {b : Nat}
theorem fA {l : List V} (hw : Wf s) (h : s.cl b = some l) : ∃ xs, s.heap.get b = some (.cells l.length xs) ∧ (∀ i, i < l.length → xs.get i = l[i]?) ∧ xs.Full l.length := by
 unfold St.cl at h
 split at h
 · rename_i n xs hx
   have hf := hw.obs b _ hx
   cases h
   refine ⟨xs, by simpa using hx, fun i hi => ?_, fun i hi => hf i (by simpa using hi)⟩
   simp at hi
   have := hf i hi
   obtain ⟨y, hy⟩ := Option.isSome_iff_exists.1 this
   simp [hi, hy]
 · cases h
theorem Dg {n : Nat} {xs : T V} {l : List V} (h : s.heap.get b = some (.cells n xs)) (hn : n = l.length) (hl : ∀ i, i < l.length → xs.get i = l[i]?) : s.cl b = some l := by
 unfold St.cl; rw [h]; simp only
 congr 1
 refine List.ext_getElem? fun i => ?_
 by_cases hi : i < l.length
 · rw [List.getElem?_map]; simp [hn, hi, hl i hi]
 · rw [List.getElem?_eq_none (by simp [hn]; omega), List.getElem?_eq_none (by omega)]
theorem bU {l : List V} (hw : Wf s) (h : s.cl b = some l) : b < s.next := by
 obtain ⟨xs, hx, _⟩ := fA hw h
 by_cases e : b < s.next
 · exact e
 · rw [hw.none b (by omega)] at hx; cases hx
theorem WE {m : List (V × V) × List Nat × Nat} (h : s.mp b = some m) : s.heap.get b = some (.map m.1 m.2.1 m.2.2) := by
 unfold St.mp at h
 split at h
 · rename_i hx; cases h; exact hx
 · cases h
theorem Yy {m : List (V × V) × List Nat × Nat} (hw : Wf s) (h : s.mp b = some m) : b < s.next := by
 have hx := WE h
 by_cases e : b < s.next
 · exact e
 · rw [hw.none b (by omega)] at hx; cases hx
theorem wD {n : Nat} {f : Nat → Option V} (hw : Wf s) (h : fT s b = some (n, f)) : b < s.next := by
 by_cases e : b < s.next
 · exact e
 · unfold fT at h; rw [hw.none b (by omega)] at h; cases h
theorem nS {s' : St} (h : s'.heap.get b = s.heap.get b) : fT s' b = fT s b := by unfold fT; rw [h]
theorem MP {s' : St} (h : s'.heap.get b = s.heap.get b) : s'.cl b = s.cl b := by unfold St.cl; rw [h]
theorem OT {s' : St} (h : s'.heap.get b = s.heap.get b) : s'.mp b = s.mp b := by unfold St.mp; rw [h]
theorem Wf.put (hw : Wf s) {o : Ob} (hb : b < s.next) (ho : o.full) : Wf (s.put b o) where
 full := hw.full.set o (by omega)
 none j hj := by
  show (s.heap.set b o).get j = _
  rw [T.dy o (by have : s.next ≤ j := hj; omega)]; exact hw.none j hj
 obs j o' hj := by
  have hj : (s.heap.set b o).get j = some o' := hj
  rcases T.jK hj with ⟨_, rfl⟩ | ⟨_, h⟩
  · exact ho
  · exact hw.obs j o' h
theorem Wf.new (hw : Wf s) {o : Ob} (ho : o.full) : Wf (s.new o) where
 full := hw.full.next o
 none j hj := by
  have hj : s.next + 1 ≤ j := hj
  show (s.heap.set s.next o).get j = _
  rw [T.dy o (by omega)]; exact hw.none j (by omega)
 obs j o' hj := by
  have hj : (s.heap.set s.next o).get j = some o' := hj
  rcases T.jK hj with ⟨_, rfl⟩ | ⟨_, h⟩
  · exact ho
  · exact hw.obs j o' h
theorem Cg (hw : Wf s) {o : Ob} (hb : b < s.next) : (s.put b o).heap.get b = some o := T.tw o hw.full (by omega)
theorem sy {o : Ob} {j : Nat} (h : j ≠ b) : (s.put b o).heap.get j = s.heap.get j := T.dy o (Ne.symm h)
theorem Wn (hw : Wf s) {o : Ob} : (s.new o).heap.get s.next = some o := T.mq o hw.full
theorem vh {o : Ob} {j : Nat} (h : j ≠ s.next) : (s.new o).heap.get j = s.heap.get j := T.dy o (Ne.symm h)
end
structure Fr (s s' : St) (l : List Nat) : Prop where
 wf : Wf s'
 nx : s.next ≤ s'.next
 same : ∀ j, j < s.next → j ∉ l → s'.heap.get j = s.heap.get j
section
variable {s s' s'' : St} {l l' : List Nat} {b : Nat}
theorem Fr.refl (hw : Wf s) (l : List Nat) : Fr s s l := ⟨hw, Nat.le_refl _, fun _ _ _ => rfl⟩
theorem Fr.trans (h : Fr s s' l) (h' : Fr s' s'' l) : Fr s s'' l := ⟨h'.wf, Nat.le_trans h.nx h'.nx, fun j hj hn => (h'.same j (Nat.lt_of_lt_of_le hj h.nx) hn).trans (h.same j hj hn)⟩
theorem Fr.trans' {l2 : List Nat} (h : Fr s s' l) (h' : Fr s' s'' l2) (hl : ∀ j, j ∈ l2 → j ∈ l ∨ s.next ≤ j) : Fr s s'' l := ⟨h'.wf, Nat.le_trans h.nx h'.nx, fun j hj hn => (h'.same j (Nat.lt_of_lt_of_le hj h.nx) (fun hm => by rcases hl j hm with h | h; exact hn h; omega)).trans (h.same j hj hn)⟩
theorem Fr.mono (h : Fr s s' l) (hl : ∀ j, j ∈ l → j ∈ l' ∨ s.next ≤ j) : Fr s s' l' := ⟨h.wf, h.nx, fun j hj hn => h.same j hj fun hm => by rcases hl j hm with h | h; exact hn h; omega⟩
theorem Fr.cl {x : List V} (hw : Wf s) (h : Fr s s' l) (hb : s.cl b = some x) (hn : b ∉ l) : s'.cl b = some x := (MP (h.same b (bU hw hb) hn)).trans hb
theorem Fr.mp {x : List (V × V) × List Nat × Nat} (hw : Wf s) (h : Fr s s' l) (hb : s.mp b = some x) (hn : b ∉ l) : s'.mp b = some x := (OT (h.same b (Yy hw hb) hn)).trans hb
end
def kc0 : KC := ⟨0, fun _ _ _ => none⟩
def cO (v : V) (s : St) : Option V := aO (cV v) e0 s
def gO (m : Nat) (v : V) (s : St) : Option V := di m (cV v) e0 s
def vY (m : Nat) (x y : V) (s : St) : Option (V × St) := dW m (cV x) (cV y) kc0 e0 s
def xO (es : Nat) (x y : V) (s : St) : Option (V × St) := oB es (cV x) (cV y) kc0 e0 s
def wB (es : Nat) (x y : V) (s : St) : Option (V × St) := jR es (cV x) (cV y) kc0 e0 s
def XZ (z : List V) (x : V) (s : St) : Option (V × St) := rW z (cV x) kc0 e0 s
def Vy (es bytes : Nat) (z : List V) (x y : V) (id : Nat) : Option (V × Ob) := r9 es bytes z (cV x) (cV y) e0 id
def qx (x : V) (id : Nat) : Option (V × Ob) := jZ (cV x) e0 id
def eS (len size : Nat) (z : List V) (ps : List (Nat × Nat × V)) (id : Nat) : Option (V × Ob) := match cH z ps with
 | some l => Bool.casesOn (motive := fun _ => Option (V × Ob)) (bf l) none (Bool.casesOn (motive := fun _ => Option (V × Ob)) (Nat.beq l.length (Nat.mul len size)) none (some (.slice id 0 len (some len) size, .cells l.length (cL l))))
 | none => none
section
variable {g h i : E → V} {k : KC} {e : E} {s : St} {id : Nat}
theorem MO : aO g e s = cO (g e) s := (rfl)
theorem C_ (m : Nat) : di m g e s = gO m (g e) s := (rfl)
theorem NA (m : Nat) : dW m g h k e s = vY m (g e) (h e) s := (rfl)
theorem Fc (es : Nat) : oB es g h k e s = xO es (g e) (h e) s := (rfl)
theorem De (es : Nat) : jR es g h k e s = wB es (g e) (h e) s := (rfl)
theorem Dn (z : List V) : rW z g k e s = XZ z (g e) s := (rfl)
theorem JC (es bytes : Nat) (z : List V) : r9 es bytes z g h e id = Vy es bytes z (g e) (h e) id := (rfl)
theorem zD : jZ g e id = qx (g e) id := (rfl)
theorem Bk (len size : Nat) (z : List V) (ps : List (Nat × Nat × (E → V))) : cG len size z ps e id = eS len size z (qy ps e) id := (rfl)
theorem MY (es : Nat) (lo hi mx : Option (E → V)) : yC es g lo hi mx e = pL es (g e) (lY lo e) (lY hi e) (lY mx e) := (rfl)
theorem Kv : lY (some g) e = some (g e) := (rfl)
theorem BX : lY none e = none := (rfl)
end
section
variable {s : St} {b o : Nat} {l : List V} {v : V} {k : KC} {e : E}
theorem j6 {xs : T V} (h : s.heap.get b = some (.cells l.length xs)) : fD s b = some (l.length, xs) := by unfold fD; rw [h]
theorem aH (hw : Wf s) (h : s.cl b = some l) (hv : l[o]? = some v) : cO (.ptr b o) s = some v := by
 obtain ⟨xs, h1, h2, _⟩ := fA hw h
 have ho : o < l.length := (List.getElem?_eq_some_iff.1 hv).1
 show (match fT s b with | some (n, xs) => Bool.casesOn (motive := fun _ => Option V) (Nat.blt o n) none (xs o) | none => none) = _
 rw [fC h1]; simp only
 rw [dn, decide_eq_true ho, h2 o ho, hv]
theorem AD {n : Nat} {f : Nat → Option V} (h : fT s b = some (n, f)) (ho : o < n) : cO (.ptr b o) s = f o := by
 show (match fT s b with | some (n, xs) => Bool.casesOn (motive := fun _ => Option V) (Nat.blt o n) none (xs o) | none => none) = _
 rw [h]; simp only
 rw [dn, decide_eq_true ho]
theorem dw (hw : Wf s) (h : s.cl b = some l) (ho : o < l.length) : cO (.ptr b o) s = l[o]? := by
 rw [List.getElem?_eq_getElem ho]; exact aH hw h (List.getElem?_eq_getElem ho)
theorem vX {xs : Nat → Option V} (h : ∀ i, i < l.length → xs i = l[i]?) : ∀ (n o : Nat), o + n ≤ l.length → pM xs n o = some ((l.drop o).take n)
 | 0, o, _ => by rw [oM]; simp
 | n + 1, o, hn => by
   have ho : o < l.length := by omega
   rw [pQ, h o ho, List.getElem?_eq_getElem ho]
   simp only
   rw [vX h n (o + 1) (by omega)]
   simp only
   rw [List.drop_eq_getElem_cons ho, List.take_succ_cons]
theorem dB {m : Nat} (hw : Wf s) (h : s.cl b = some l) (hm : o + m ≤ l.length) : gO m (.ptr b o) s = some (.agg ((l.drop o).take m)) := by
 obtain ⟨xs, h1, h2, _⟩ := fA hw h
 show (match fT s b with | some (n, xs) => Bool.casesOn (motive := fun _ => Option V) (Nat.ble (Nat.add o m) n) none (match pM xs m o with | some l => some (.agg l) | none => none) | none => none) = _
 rw [fC h1]; simp only
 have : Nat.ble (Nat.add o m) l.length = true := Nat.ble_eq_true_of_le hm
 rw [this, vX h2 m o hm]
def St.st (s : St) (b o : Nat) (vs : List V) : St := match s.heap.get b with
 | some (.cells n xs) => s.put b (.cells n (gG xs o vs))
 | _ => s
def dg (l : List V) (o : Nat) (vs : List V) : List V := l.take o ++ vs ++ l.drop (o + vs.length)
theorem gI {vs : List V} (h : o + vs.length ≤ l.length) : (dg l o vs).length = l.length := by simp [dg]; omega
theorem ir {vs : List V} (h : o + vs.length ≤ l.length) (i : Nat) : (dg l o vs)[i]? = if o ≤ i ∧ i < o + vs.length then vs[i - o]? else l[i]? := by
 unfold dg
 by_cases h1 : i < o
 · rw [if_neg (by omega), List.append_assoc, List.getElem?_append_left (by simp; omega)]
   simp [h1]
 · by_cases h2 : i < o + vs.length
   · rw [if_pos (by omega), List.append_assoc, List.getElem?_append_right (by simp; omega), List.getElem?_append_left (by simp; omega)]
     simp; congr 1; omega
   · rw [if_neg (by omega), List.getElem?_append_right (by simp; omega)]
     simp; congr 1; omega
theorem uo (h : o < l.length) : dg l o [v] = l.set o v := by
 refine List.ext_getElem? fun i => ?_
 rw [ir (show o + 1 ≤ l.length by omega), List.getElem?_set]
 by_cases e : o = i
 · subst e; simp [h]
 · rw [if_neg (by simp; omega), if_neg e]
theorem uA {vs : List V} (hw : Wf s) (h : s.cl b = some l) (ho : o + vs.length ≤ l.length) : (s.st b o vs).cl b = some (dg l o vs) ∧ Fr s (s.st b o vs) [b] ∧ (s.st b o vs).next = s.next := by
 obtain ⟨xs, h1, h2, h3⟩ := fA hw h
 have hb := bU hw h
 have e : s.st b o vs = s.put b (.cells l.length (gG xs o vs)) := by unfold St.st; rw [h1]
 obtain ⟨q1, q2⟩ := nr vs h3 (o := o) (by omega)
 rw [e]
 refine ⟨Dg (Cg hw hb) (gI ho).symm fun i hi => ?_, ⟨hw.put hb (fun i hi => q2 i (by omega)), Nat.le_refl _, fun j hj hn => sy (by simpa using hn)⟩, rfl⟩
 rw [gI ho] at hi
 rw [q1 i, ir ho, h2 i hi]
theorem Nb (hw : Wf s) (h : s.cl b = some l) (ho : o < l.length) (h1 : v.one = true) : vY 1 (.ptr b o) v s = some (.bz [], s.st b o [v]) := by
 obtain ⟨xs, q1, q2, q3⟩ := fA hw h
 have hc : dA v = some [v] := by cases v <;> first | rfl | cases h1
 have ha : bf [v] = true := by unfold bf; rw [h1]; rfl
 show (match dA v with
  | some l => Bool.casesOn (motive := fun _ => Option (V × St)) (Nat.beq l.length 1) none (Bool.casesOn (motive := fun _ => Option (V × St)) (bf l) none
   (match fD s b with | some (n, xs) => Bool.casesOn (motive := fun _ => Option (V × St)) (Nat.ble (Nat.add o 1) n) none (some (.bz [], s.put b (.cells n (gG xs o l)))) | none => none))
  | none => none) = _
 rw [hc, j6 q1]; simp only
 rw [ha]
 have : Nat.ble (Nat.add o 1) l.length = true := Nat.ble_eq_true_of_le (show o + 1 ≤ l.length by omega)
 rw [this]
 show some (V.bz [], _) = _
 unfold St.st; rw [q1]
theorem OS {vs : List V} {m : Nat} (hw : Wf s) (h : s.cl b = some l) (hm : vs.length = m) (ho : o + m ≤ l.length) (h1 : bf vs = true) : vY m (.ptr b o) (.agg vs) s = some (.bz [], s.st b o vs) := by
 obtain ⟨xs, q1, q2, q3⟩ := fA hw h
 subst hm
 show (Bool.casesOn (motive := fun _ => Option (V × St)) (Nat.beq vs.length vs.length) none (Bool.casesOn (motive := fun _ => Option (V × St)) (bf vs) none
       (match fD s b with | some (n, xs) => Bool.casesOn (motive := fun _ => Option (V × St)) (Nat.ble (Nat.add o vs.length) n) none (some (.bz [], s.put b (.cells n (gG xs o vs)))) | none => none))) = _
 rw [j6 q1, Nat.beq_refl, h1]; simp only
 have : Nat.ble (Nat.add o vs.length) l.length = true := Nat.ble_eq_true_of_le ho
 rw [this]
 unfold St.st; rw [q1]
theorem iD {n : Nat} (hw : Wf s) (hn : n = l.length) : (s.new (.cells n (cL l))).cl s.next = some l ∧ Fr s (s.new (.cells n (cL l))) [] ∧ (s.new (.cells n (cL l))).next = s.next + 1 := by
 subst hn
 refine ⟨Dg (Wn hw) rfl fun i hi => mw l i, ⟨hw.new fun i hi => ?_, Nat.le_succ _, fun j hj _ => vh (by omega)⟩, rfl⟩
 rw [mw]; simpa using hi
end
end
end Go.Proofs.YtcgdlgbomjnnnaaLab
/- The jI: rules to reckon a run of ours by hand: what makes and turns memory. No condition on the program. -/
namespace Go.Proofs.YtcgdlgbomjnnnaaLab
open Go
set_option linter.unusedVariables false
noncomputable section
section
variable {s : St} {b o : Nat} {l : List V} {v : V} {k : KC} {e : E}
theorem xz {n : Int} (h : 0 ≤ n) : bnd (.i n) = some n.toNat := by
 show (Bool.casesOn (motive := fun _ => Option Nat) (nQ 0 n) none (some n.toNat)) = _
 rw [fR, decide_eq_true h]
theorem sB {len top : Nat} {lo hi mx : Option V} {l h m : Nat} (h1 : rO top mx = some m) (h2 : rO len hi = some h) (h3 : rO 0 lo = some l) (a : m ≤ top) (b : h ≤ m) (c : l ≤ h) : tq len top lo hi mx = some (l, h, m) := by
 unfold tq
 rw [h1, h2, h3]; simp only
 rw [cw, cw, cw, decide_eq_true a, decide_eq_true b, decide_eq_true c]
theorem vV {es b o len l h m : Nat} {cap : Option Nat} {lo hi mx : Option V} (hb : tq len (jf len cap) lo hi mx = some (l, h, m)) : pL es (.slice b o len cap es) lo hi mx = some (.slice b (o + l * es) (h - l) (rH l m cap mx) es) := by
 show (Bool.casesOn (motive := fun _ => Option V) (Nat.beq es es) none _) = _
 rw [Nat.beq_refl, hb]; rfl
theorem Mh {es b o len : Nat} {cap : Option Nat} {lo hi : Int} (h0 : 0 ≤ lo) (h1 : lo ≤ hi) (h2 : hi ≤ jf len cap) : pL es (.slice b o len cap es) (some (.i lo)) (some (.i hi)) none = some (.slice b (o + lo.toNat * es) (hi.toNat - lo.toNat) (rH lo.toNat (jf len cap) cap none) es) :=
 vV (sB (m := jf len cap) rfl (xz (by omega)) (xz h0) (Nat.le_refl _) (by omega) (by omega))
theorem SM {es b o len : Nat} {cap : Option Nat} {lo : Int} (h0 : 0 ≤ lo) (h1 : lo ≤ len) (h2 : len ≤ jf len cap) : pL es (.slice b o len cap es) (some (.i lo)) none none = some (.slice b (o + lo.toNat * es) (len - lo.toNat) (rH lo.toNat (jf len cap) cap none) es) :=
 vV (sB (m := jf len cap) (h := len) rfl rfl (xz h0) (Nat.le_refl _) (by omega) (by omega))
theorem QG {es b o len : Nat} {cap : Option Nat} {hi : Int} (h1 : 0 ≤ hi) (h2 : hi ≤ jf len cap) : pL es (.slice b o len cap es) none (some (.i hi)) none = some (.slice b o hi.toNat (rH 0 (jf len cap) cap none) es) := by
 have := vV (es := es) (b := b) (o := o) (cap := cap) (sB (len := len) (top := jf len cap) (m := jf len cap) (h := hi.toNat) (l := 0) (lo := none) (hi := some (.i hi)) (mx := none) rfl (xz h1) rfl (Nat.le_refl _) (by omega) (by omega))
 rw [show o + 0 * es = o by omega] at this
 exact this
theorem NB {es b o len c : Nat} {lo hi : Int} (h0 : 0 ≤ lo) (h1 : lo ≤ hi) (h2 : hi ≤ c) : pL es (.slice b o len (some c) es) (some (.i lo)) (some (.i hi)) none = some (.slice b (o + lo.toNat * es) (hi.toNat - lo.toNat) (some (c - lo.toNat)) es) := Mh h0 h1 h2
theorem NH {es b o len : Nat} {lo hi : Int} (h0 : 0 ≤ lo) (h1 : lo ≤ hi) (h2 : hi ≤ len) : pL es (.slice b o len none es) (some (.i lo)) (some (.i hi)) none = some (.slice b (o + lo.toNat * es) (hi.toNat - lo.toNat) none es) := Mh h0 h1 h2
theorem XC {es b o len c : Nat} {lo : Int} (h0 : 0 ≤ lo) (h1 : lo ≤ len) (h2 : len ≤ c) : pL es (.slice b o len (some c) es) (some (.i lo)) none none = some (.slice b (o + lo.toNat * es) (len - lo.toNat) (some (c - lo.toNat)) es) := SM h0 h1 h2
theorem sK {es b o len : Nat} {lo : Int} (h0 : 0 ≤ lo) (h1 : lo ≤ len) : pL es (.slice b o len none es) (some (.i lo)) none none = some (.slice b (o + lo.toNat * es) (len - lo.toNat) none es) := SM h0 h1 (Nat.le_refl _)
theorem Vf {es b o len c : Nat} {hi : Int} (h1 : 0 ≤ hi) (h2 : hi ≤ c) : pL es (.slice b o len (some c) es) none (some (.i hi)) none = some (.slice b o hi.toNat (some c) es) := QG h1 h2
theorem mW {es b o len : Nat} {hi : Int} (h1 : 0 ≤ hi) (h2 : hi ≤ len) : pL es (.slice b o len none es) none (some (.i hi)) none = some (.slice b o hi.toNat none es) := QG h1 h2
theorem kr {es b o len : Nat} {c : Option Nat} (hw : Wf s) (h : s.cl b = some l) (ho : o + len * es ≤ l.length) : gK es s (.slice b o len c es) = some (len, (l.drop o).take (len * es)) := by
 obtain ⟨xs, h1, h2, _⟩ := fA hw h
 cases len with
 | zero =>
   show (Bool.casesOn (motive := fun _ => Option (Nat × List V)) (Nat.beq es es) none _) = _
   rw [Nat.beq_refl, Nat.zero_mul]; rfl
 | succ len =>
   show (Bool.casesOn (motive := fun _ => Option (Nat × List V)) (Nat.beq es es) none (match fT s b with
    | some (n, xs) => Bool.casesOn (motive := fun _ => Option (Nat × List V)) (Nat.ble (Nat.add o (Nat.mul (len + 1) es)) n) none (match pM xs (Nat.mul (len + 1) es) o with | some l => some (len + 1, l) | none => none)
    | none => none)) = _
   rw [Nat.beq_refl, fC h1]; simp only
   have : Nat.ble (Nat.add o (Nat.mul (len + 1) es)) l.length = true := Nat.ble_eq_true_of_le ho
   rw [this]; simp only
   rw [show Nat.mul (len + 1) es = (len + 1) * es from rfl, vX h2 _ _ ho]
theorem bG {l : List V} (h : ∀ v ∈ l, v.one = true) : bf l = true := by
 induction l with
 | nil => rfl
 | cons x l ih =>
   show (Bool.casesOn (motive := fun _ => Bool) x.one false (bf l)) = true
   rw [h x (by simp), ih fun v hv => h v (by simp [hv])]
/-! ### Append -/
structure Src (s : St) (es : Nat) (y : V) (n : Nat) (new : List V) : Prop where
 src : gK es s y = some (n, new)
 one : bf new = true
 len : new.length = n * es
 le : n ≤ 100000000
theorem Src.of {es b2 o2 n2 : Nat} {c2 : Option Nat} {l2 : List V} (hw : Wf s) (h : s.cl b2 = some l2) (hb : o2 + n2 * es ≤ l2.length) (h1 : ∀ v ∈ (l2.drop o2).take (n2 * es), v.one = true) (hle : n2 ≤ 100000000) : Src s es (.slice b2 o2 n2 c2 es) n2 ((l2.drop o2).take (n2 * es)) :=
 ⟨kr hw h hb, bG h1, by simp; omega, hle⟩
theorem Src.full {es b2 n2 : Nat} {c2 : Option Nat} {l2 : List V} (hw : Wf s) (h : s.cl b2 = some l2) (hb : n2 * es = l2.length) (h1 : ∀ v ∈ l2, v.one = true) (hle : n2 ≤ 100000000) : Src s es (.slice b2 0 n2 c2 es) n2 l2 := by
 have := Src.of (c2 := c2) hw h (o2 := 0) (n2 := n2) (es := es) (by omega) (by rw [List.drop_zero, hb, List.take_length]; exact h1) hle
 rwa [List.drop_zero, hb, List.take_length] at this
theorem Src.ax {es : Nat} : Src s es .ax 0 [] := ⟨rfl, rfl, by simp, by omega⟩
theorem cC {a b : Nat} (h : a ≤ b) : Nat.ble a b = true := Nat.ble_eq_true_of_le h
theorem qQ {a b : Nat} (h : ¬ a ≤ b) : Nat.ble a b = false := by rw [cw]; exact decide_eq_false h
theorem m8 {es b o len n : Nat} {cap : Option Nat} {y : V} {new : List V} (hy : Src s es y n new) (hl : len ≤ 17596481011712) : xO es (.slice b o len cap es) y s = yU es (.slice b o len cap es) n new s := by
 show (match gK es s y with
 | some (n, new) => Bool.casesOn (motive := fun _ => Option (V × St)) (bf new) none (Bool.casesOn (motive := fun _ => Option (V × St)) (Nat.ble n 100000000) none
  (Bool.casesOn (motive := fun _ => Option (V × St)) (Nat.ble len 17596481011712) none (yU es (.slice b o len cap es) n new s)))
 | none => none) = _
 rw [hy.src]; simp only
 rw [hy.one, cC hy.le, cC hl]
theorem tU {es n : Nat} {y : V} {new : List V} (hy : Src s es y n new) : xO es .ax y s = yU es .ax n new s := by
 show (match gK es s y with
 | some (n, new) => Bool.casesOn (motive := fun _ => Option (V × St)) (bf new) none (Bool.casesOn (motive := fun _ => Option (V × St)) (Nat.ble n 100000000) none (yU es .ax n new s))
 | none => none) = _
 rw [hy.src]; simp only
 rw [hy.one, cC hy.le]
theorem sq {es n : Nat} {y : V} {new : List V} (hw : Wf s) (hy : Src s es y n new) (hn : 0 < n) :
 ∃ s', (xO es .ax y s = some (.slice s.next 0 n none es, s')) ∧ s'.cl s.next = some new ∧ Fr s s' [] ∧ s'.next = s.next + 1 := by
 obtain ⟨h1, h2, h3⟩ := iD hw (l := new) (n := n * es) hy.len.symm
 refine ⟨_, ?_, h1, h2, h3⟩
 rw [tU hy]
 cases n with
 | zero => omega
 | succ n => rfl
theorem Ah {es : Nat} {y : V} (hy : Src s es y 0 []) {b o len : Nat} {cap : Option Nat} (hl : len ≤ 17596481011712) : xO es (.slice b o len cap es) y s = some (.slice b o len cap es, s) := by
 rw [m8 hy hl]
 show (Bool.casesOn (motive := fun _ => Option (V × St)) (Nat.beq es es) none (some (V.slice b o len cap es, s))) = _
 rw [Nat.beq_refl]
theorem HC {es : Nat} {y : V} (hy : Src s es y 0 []) : xO es .ax y s = some (.ax, s) := by
 rw [tU hy]; rfl
theorem mE {es n len : Nat} {y : V} {new : List V} (hw : Wf s) (hy : Src s es y n new) (hn : 0 < n) (hl : len ≤ 17596481011712) (hx : s.cl b = some l) (ho : o + len * es ≤ l.length) :
 ∃ s', (xO es (.slice b o len none es) y s = some (.slice s.next 0 (len + n) none es, s')) ∧ s'.cl s.next = some ((l.drop o).take (len * es) ++ new) ∧ Fr s s' [b] ∧ s'.next = s.next + 1 := by
 have hb := bU hw hx
 have hwp := hw.put (b := b) (o := .dead) hb trivial
 have hlen : (len + n) * es = ((l.drop o).take (len * es) ++ new).length := by
  have := hy.len
  simp; rw [Nat.add_mul]; omega
 obtain ⟨h1, h2, h3⟩ := iD hwp (l := (l.drop o).take (len * es) ++ new) (n := (len + n) * es) hlen
 refine ⟨_, ?_, h1, ⟨h2.wf, Nat.le_trans (Nat.le_refl _) h2.nx, fun j hj hn => (h2.same j hj (by simp)).trans (sy (by simpa using hn))⟩, h3⟩
 rw [m8 hy hl]
 obtain ⟨xs, q1, _⟩ := fA hw hx
 cases n with
 | zero => omega
 | succ n =>
   show (Bool.casesOn (motive := fun _ => Option (V × St)) (Nat.beq es es) none
    (match fD s b with | some _ => (match gK es s (.slice b o len none es) with | some (_, old) => vL es (Nat.add len (n + 1)) b old new s | none => none) | none => none)) = _
   rw [Nat.beq_refl, j6 q1, kr hw hx ho]; rfl
theorem BZ {es n len c : Nat} {y : V} {new : List V} (hw : Wf s) (hy : Src s es y n new) (hn : 0 < n) (hl : len ≤ 17596481011712) (hc : c < len + n) (hx : s.cl b = some l) (ho : o + len * es ≤ l.length) :
 ∃ s', (xO es (.slice b o len (some c) es) y s = some (.slice s.next 0 (len + n) none es, s')) ∧ s'.cl s.next = some ((l.drop o).take (len * es) ++ new) ∧ Fr s s' [] ∧ s'.next = s.next + 1 := by
 have hlen : (len + n) * es = ((l.drop o).take (len * es) ++ new).length := by
  have := hy.len
  simp; rw [Nat.add_mul]; omega
 obtain ⟨h1, h2, h3⟩ := iD hw (l := (l.drop o).take (len * es) ++ new) (n := (len + n) * es) hlen
 refine ⟨_, ?_, h1, h2, h3⟩
 rw [m8 hy hl]
 cases n with
 | zero => omega
 | succ n =>
   show (Bool.casesOn (motive := fun _ => Option (V × St)) (Nat.beq es es) none
    (Bool.casesOn (motive := fun _ => Option (V × St)) (Nat.ble (Nat.add len (n + 1)) c)
          (match gK es s (.slice b o len (some c) es) with | some (_, old) => xJ es (Nat.add len (n + 1)) old new s | none => none) _)) = _
   rw [Nat.beq_refl, qQ (show ¬ Nat.add len (n + 1) ≤ c by show ¬ len + (n + 1) ≤ c; omega), kr hw hx ho]; rfl
theorem k_ {es b o len n : Nat} {cap : Option Nat} {y : V} {new : List V} (hy : Src s es y n new) (hl : len ≤ 100000000) : wB es (.slice b o len cap es) y s = yU es (.slice b o len cap es) n new s := by
 show (match gK es s y with
 | some (n, new) => Bool.casesOn (motive := fun _ => Option (V × St)) (bf new) none (Bool.casesOn (motive := fun _ => Option (V × St)) (Nat.ble n 100000000) none
  (Bool.casesOn (motive := fun _ => Option (V × St)) (Nat.ble len 100000000) none (yU es (.slice b o len cap es) n new s)))
 | none => none) = _
 rw [hy.src]; simp only
 rw [hy.one, cC hy.le, cC hl]
theorem qM {es n : Nat} {y : V} {new : List V} (hy : Src s es y n new) : wB es .ax y s = yU es .ax n new s := by
 show (match gK es s y with
 | some (n, new) => Bool.casesOn (motive := fun _ => Option (V × St)) (bf new) none (Bool.casesOn (motive := fun _ => Option (V × St)) (Nat.ble n 100000000) none (yU es .ax n new s))
 | none => none) = _
 rw [hy.src]; simp only
 rw [hy.one, cC hy.le]
theorem D6 {es n : Nat} {y : V} {new : List V} (hw : Wf s) (hy : Src s es y n new) (hn : 0 < n) :
 ∃ s', (wB es .ax y s = some (.slice s.next 0 n none es, s')) ∧ s'.cl s.next = some new ∧ Fr s s' [] ∧ s'.next = s.next + 1 := by
 obtain ⟨h1, h2, h3⟩ := iD hw (l := new) (n := n * es) hy.len.symm
 refine ⟨_, ?_, h1, h2, h3⟩
 rw [qM hy]
 cases n with
 | zero => omega
 | succ n => rfl
theorem rK {es : Nat} {y : V} (hy : Src s es y 0 []) {b o len : Nat} {cap : Option Nat} (hl : len ≤ 100000000) : wB es (.slice b o len cap es) y s = some (.slice b o len cap es, s) := by
 rw [k_ hy hl]
 show (Bool.casesOn (motive := fun _ => Option (V × St)) (Nat.beq es es) none (some (V.slice b o len cap es, s))) = _
 rw [Nat.beq_refl]
theorem yq {es : Nat} {y : V} (hy : Src s es y 0 []) : wB es .ax y s = some (.ax, s) := by
 rw [qM hy]; rfl
theorem qI {es n len : Nat} {y : V} {new : List V} (hw : Wf s) (hy : Src s es y n new) (hn : 0 < n) (hl : len ≤ 100000000) (hx : s.cl b = some l) (ho : o + len * es ≤ l.length) :
 ∃ s', (wB es (.slice b o len none es) y s = some (.slice s.next 0 (len + n) none es, s')) ∧ s'.cl s.next = some ((l.drop o).take (len * es) ++ new) ∧ Fr s s' [b] ∧ s'.next = s.next + 1 := by
 have hb := bU hw hx
 have hwp := hw.put (b := b) (o := .dead) hb trivial
 have hlen : (len + n) * es = ((l.drop o).take (len * es) ++ new).length := by
  have := hy.len
  simp; rw [Nat.add_mul]; omega
 obtain ⟨h1, h2, h3⟩ := iD hwp (l := (l.drop o).take (len * es) ++ new) (n := (len + n) * es) hlen
 refine ⟨_, ?_, h1, ⟨h2.wf, Nat.le_trans (Nat.le_refl _) h2.nx, fun j hj hn => (h2.same j hj (by simp)).trans (sy (by simpa using hn))⟩, h3⟩
 rw [k_ hy hl]
 obtain ⟨xs, q1, _⟩ := fA hw hx
 cases n with
 | zero => omega
 | succ n =>
   show (Bool.casesOn (motive := fun _ => Option (V × St)) (Nat.beq es es) none
    (match fD s b with | some _ => (match gK es s (.slice b o len none es) with | some (_, old) => vL es (Nat.add len (n + 1)) b old new s | none => none) | none => none)) = _
   rw [Nat.beq_refl, j6 q1, kr hw hx ho]; rfl
theorem rB {es n len c : Nat} {y : V} {new : List V} (hw : Wf s) (hy : Src s es y n new) (hn : 0 < n) (hl : len ≤ 100000000) (hc : c < len + n) (hx : s.cl b = some l) (ho : o + len * es ≤ l.length) :
 ∃ s', (wB es (.slice b o len (some c) es) y s = some (.slice s.next 0 (len + n) none es, s')) ∧ s'.cl s.next = some ((l.drop o).take (len * es) ++ new) ∧ Fr s s' [] ∧ s'.next = s.next + 1 := by
 have hlen : (len + n) * es = ((l.drop o).take (len * es) ++ new).length := by
  have := hy.len
  simp; rw [Nat.add_mul]; omega
 obtain ⟨h1, h2, h3⟩ := iD hw (l := (l.drop o).take (len * es) ++ new) (n := (len + n) * es) hlen
 refine ⟨_, ?_, h1, h2, h3⟩
 rw [k_ hy hl]
 cases n with
 | zero => omega
 | succ n =>
   show (Bool.casesOn (motive := fun _ => Option (V × St)) (Nat.beq es es) none
    (Bool.casesOn (motive := fun _ => Option (V × St)) (Nat.ble (Nat.add len (n + 1)) c)
          (match gK es s (.slice b o len (some c) es) with | some (_, old) => xJ es (Nat.add len (n + 1)) old new s | none => none) _)) = _
   rw [Nat.beq_refl, qQ (show ¬ Nat.add len (n + 1) ≤ c by show ¬ len + (n + 1) ≤ c; omega), kr hw hx ho]; rfl
theorem Z7 (n : Int) : (V.i n).one = true := (rfl)
theorem NX (k : IntKind) (n : Int) : (V.int k n).one = true := (rfl)
theorem F4 (t : Bool) : (V.bool t).one = true := (rfl)
theorem Np (t : List Nat) : (V.str t).one = true := (rfl)
theorem MU (b o : Nat) : (V.ptr b o).one = true := (rfl)
theorem EL : V.jB.one = true := (rfl)
theorem Jf : V.ax.one = true := (rfl)
theorem x_ (b o n es : Nat) (c : Option Nat) : (V.slice b o n c es).one = true := (rfl)
theorem ML (b : Nat) : (V.map b).one = true := (rfl)
theorem LX : V.lu.one = true := (rfl)
theorem Kz (f : Nat) (a b : List V) : (V.func f a b).one = true := (rfl)
theorem yL (t : Nat) (v : V) : (V.iface t v).one = true := (rfl)
theorem vj : bf [] = true := (rfl)
theorem ur (v : V) (l : List V) : bf (v :: l) = (v.one && bf l) := by
 show (Bool.casesOn (motive := fun _ => Bool) v.one false (bf l)) = _
 cases v.one <;> rfl
theorem xZ (z : List V) (gs : List (Nat × Nat × (E → V))) : bF z gs e = (cH z (qy gs e)).map .agg := by unfold bF; cases cH z (qy gs e) <;> rfl
theorem qX (z : List V) : cH z [] = some z := (rfl)
theorem eP {z : List V} {off : Nat} {r : List (Nat × Nat × V)} (h1 : v.one = true) (ho : off < z.length) : cH z ((off, 1, v) :: r) = cH (z.set off v) r := by
 have hc : dA v = some [v] := by cases v <;> first | rfl | cases h1
 show (match dA v with
  | some vc => Bool.casesOn (motive := fun _ => Option (List V)) (Nat.beq vc.length 1) none (Bool.casesOn (motive := fun _ => Option (List V)) (Nat.ble (Nat.add off 1) z.length) none (cH (splice z off vc) r))
  | none => none) = _
 rw [hc]
 show (Bool.casesOn (motive := fun _ => Option (List V)) (Nat.ble (Nat.add off 1) z.length) none (cH (splice z off [v]) r)) = _
 rw [cC (show Nat.add off 1 ≤ z.length from ho), show splice z off [v] = dg z off [v] by unfold splice dg; rw [List.append_assoc]; rfl, uo ho]
theorem qO {z vs : List V} {off m : Nat} {r : List (Nat × Nat × V)} (hm : vs.length = m) (ho : off + m ≤ z.length) : cH z ((off, m, .agg vs) :: r) = cH (dg z off vs) r := by
 subst hm
 show (Bool.casesOn (motive := fun _ => Option (List V)) (Nat.beq vs.length vs.length) none (Bool.casesOn (motive := fun _ => Option (List V)) (Nat.ble (Nat.add off vs.length) z.length) none (cH (splice z off vs) r))) = _
 rw [Nat.beq_refl, cC (show Nat.add off vs.length ≤ z.length from ho), show splice z off vs = dg z off vs by unfold splice dg; rw [List.append_assoc]; rfl]
theorem Fx (o : Ob) : (s.new o).next = s.next + 1 := (rfl)
theorem CY (x y : Bool) : qS false (.bool x) (.bool y) = some (.bool (decide (x = y))) := by cases x <;> cases y <;> rfl
theorem GW (x y : Bool) : qS true (.bool x) (.bool y) = some (.bool (!decide (x = y))) := by cases x <;> cases y <;> rfl
theorem Dc (ng : Bool) (b : Nat) : pE ng Od (.map b) .lu = some (.bool ng) := by cases ng <;> rfl
theorem vC (ng : Bool) (b o n es : Nat) (c : Option Nat) : pE ng Ii (.slice b o n c es) .ax = some (.bool ng) := by cases ng <;> rfl
theorem xU (ng : Bool) : pE ng Ii .ax .ax = some (.bool (!ng)) := by cases ng <;> rfl
theorem yf (ng : Bool) : pE ng Od .lu .lu = some (.bool (!ng)) := by cases ng <;> rfl
theorem yQ {n : Int} (h1 : -9223372036854775808 ≤ n) (h2 : n < 9223372036854775808) : cQ .i64 (.i n) = some (.i n) := by show some (V.i (uW n)) = _; rw [jA ⟨h1, h2⟩]
/-! ### New rows -/
theorem je {z : V} {id : Nat} (h1 : v.one = true) : eS 1 1 [z] [(0, 1, v)] id = some (.slice id 0 1 (some 1) 1, .cells 1 (cL [v])) := by
 have hc : dA v = some [v] := by cases v <;> first | rfl | cases h1
 have ha : bf [v] = true := bG (by simpa using h1)
 have hf : cH [z] [(0, 1, v)] = some [v] := by
  show (match dA v with
   | some vc => Bool.casesOn (motive := fun _ => Option (List V)) (Nat.beq vc.length 1) none (Bool.casesOn (motive := fun _ => Option (List V)) (Nat.ble (Nat.add 0 1) [z].length) none (cH (splice [z] 0 vc) []))
   | none => none) = _
  rw [hc]; rfl
 unfold eS
 rw [hf]; simp only
 rw [ha]; rfl
theorem dJ {z vs : List V} {id m : Nat} (hz : z.length = m) (hm : vs.length = m) (h1 : bf vs = true) : eS 1 m z [(0, m, .agg vs)] id = some (.slice id 0 1 (some 1) m, .cells m (cL vs)) := by
 have ha := h1
 have hf : cH z [(0, m, .agg vs)] = some vs := by
  show (Bool.casesOn (motive := fun _ => Option (List V)) (Nat.beq vs.length m) none (Bool.casesOn (motive := fun _ => Option (List V)) (Nat.ble (Nat.add 0 m) z.length) none (cH (splice z 0 vs) []))) = _
  have e1 : Nat.beq vs.length m = true := by rw [hm]; exact Nat.beq_refl m
  have e2 : Nat.ble (Nat.add 0 m) z.length = true := cC (show 0 + m ≤ _ by omega)
  rw [e1, e2]
  show some (splice z 0 vs) = _
  unfold splice
  have : z.drop (Nat.add 0 vs.length) = [] := List.drop_eq_nil_of_le (show _ ≤ 0 + vs.length by omega)
  rw [this]; simp
 unfold eS
 rw [hf]; simp only
 have e3 : Nat.beq vs.length (Nat.mul 1 m) = true := by rw [hm, show Nat.mul 1 m = m from Nat.one_mul m]; exact Nat.beq_refl m
 rw [ha, e3, hm]
theorem wT (n : Nat) (z : V) : va n [z] = List.replicate n z := by
 unfold va
 refine List.ext_getElem? fun i => ?_
 by_cases h : i < n
 · simp [h, Nat.mod_one]
 · simp [h]
theorem BL {bytes n c : Nat} {z : V} {id : Nat} (hl : n ≤ c) (hb : c * bytes ≤ 16777216) (hc : c ≤ 16777216) : Vy 1 bytes [z] (.i n) (.i c) id = some (.slice id 0 n (some c) 1, .cells c (cL (List.replicate c z))) := by
 show (Bool.casesOn (motive := fun _ => Option (V × Ob)) (Nat.ble n c) none (Bool.casesOn (motive := fun _ => Option (V × Ob)) (Nat.ble (Nat.mul c bytes) 16777216) none (Bool.casesOn (motive := fun _ => Option (V × Ob)) (Nat.ble c 16777216) none
  (some (.slice id 0 n (some c) 1, .cells (Nat.mul c 1) (cL (va (Nat.mul c 1) [z]))))))) = _
 rw [cC hl, cC (show Nat.mul c bytes ≤ _ from hb), cC hc, show Nat.mul c 1 = c from Nat.mul_one c, wT]
theorem IN {bytes : Nat} {n : Int} {z : V} {id : Nat} (h0 : 0 ≤ n) (hb : n.toNat * bytes ≤ 16777216) (hc : n ≤ 16777216) : Vy 1 bytes [z] (.i n) (.i n) id = some (.slice id 0 n.toNat (some n.toNat) 1, .cells n.toNat (cL (List.replicate n.toNat z))) := by
 have := BL (bytes := bytes) (n := n.toNat) (c := n.toNat) (z := z) (id := id) (Nat.le_refl _) hb (by omega)
 rwa [show ((n.toNat : Nat) : Int) = n by omega] at this
theorem gM {vs : List V} {id : Nat} (h1 : bf vs = true) : qx (.agg vs) id = some (.ptr id 0, .cells vs.length (cL vs)) := by
 show (Bool.casesOn (motive := fun _ => Option (V × Ob)) (bf vs) none (some (.ptr id 0, .cells vs.length (cL vs)))) = _
 rw [h1]
theorem GQ {id : Nat} (h1 : v.one = true) : qx v id = some (.ptr id 0, .cells 1 (cL [v])) := by
 have hc : dA v = some [v] := by cases v <;> first | rfl | cases h1
 show (match dA v with | some l => Bool.casesOn (motive := fun _ => Option (V × Ob)) (bf l) none (some (.ptr id 0, .cells l.length (cL l))) | none => none) = _
 rw [hc]; simp only
 rw [bG (l := [v]) (by simpa using h1)]; rfl
theorem aZ {n id : Nat} {t : T V} : lT n t e id = some (.ptr id 0, .cells n t) := rfl
theorem bB {n : Nat} (hw : Wf s) (hn : n = l.length) : ∃ s', s.new (.cells n (cL l)) = s' ∧ s'.cl s.next = some l ∧ Fr s s' [] ∧ s'.next = s.next + 1 := by
 obtain ⟨h1, h2, h3⟩ := iD hw hn
 exact ⟨_, rfl, h1, h2, h3⟩
theorem cU (hw : Wf s) (h : s.cl b = some l) (ho : o < l.length) (h1 : v.one = true) : ∃ s', (vY 1 (.ptr b o) v s = some (.bz [], s')) ∧ s'.cl b = some (l.set o v) ∧ Fr s s' [b] ∧ s'.next = s.next := by
 obtain ⟨q1, q2, q3⟩ := uA (vs := [v]) hw h (show o + 1 ≤ l.length by omega)
 rw [uo ho] at q1
 exact ⟨_, Nb hw h ho h1, q1, q2, q3⟩
theorem cD {vs : List V} {m : Nat} (hw : Wf s) (h : s.cl b = some l) (hm : vs.length = m) (ho : o + m ≤ l.length) (h1 : ∀ v ∈ vs, v.one = true) : ∃ s', (vY m (.ptr b o) (.agg vs) s = some (.bz [], s')) ∧ s'.cl b = some (dg l o vs) ∧ Fr s s' [b] ∧ s'.next = s.next := by
 obtain ⟨q1, q2, q3⟩ := uA (o := o) (vs := vs) hw h (by omega)
 exact ⟨_, OS hw h hm ho (bG h1), q1, q2, q3⟩
theorem sF {z : V} {len : Nat} {c : Option Nat} {es : Nat} (hw : Wf s) (h : s.cl b = some l) (ho : o + len ≤ l.length) : ∃ s', (XZ [z] (.slice b o len c es) s = some (.bz [], s')) ∧ s'.cl b = some (dg l o (List.replicate len z)) ∧ Fr s s' [b] ∧ s'.next = s.next := by
 obtain ⟨xs, p1, _⟩ := fA hw h
 cases len with
 | zero =>
   refine ⟨s, ?_, ?_, Fr.refl hw _, rfl⟩
   · rfl
   · rw [h]; congr 1
     refine List.ext_getElem? fun i => ?_
     rw [ir (by simpa using ho)]; simp; intro a b; omega
 | succ len =>
   obtain ⟨q1, q2, q3⟩ := uA (vs := List.replicate (len + 1) z) hw h (by simpa using ho)
   refine ⟨_, ?_, q1, q2, q3⟩
   show (Bool.casesOn (motive := fun _ => Option (V × St)) (Nat.beq (len + 1) 0)
    (match fD s b with | some (n, xs) => Bool.casesOn (motive := fun _ => Option (V × St)) (Nat.ble (Nat.add o (Nat.mul (len + 1) 1)) n) none (some (.bz [], s.put b (.cells n (gG xs o (va (Nat.mul (len + 1) 1) [z]))))) | none => none) (some (.bz [], s))) = _
   have e1 : Nat.ble (Nat.add o (Nat.mul (len + 1) 1)) l.length = true := cC (show o + (len + 1) * 1 ≤ l.length by omega)
   rw [j6 p1]; simp only
   rw [e1]
   unfold St.st; rw [p1, show Nat.mul (len + 1) 1 = len + 1 from Nat.mul_one _, wT]; rfl
end
/-! ### Lists that grow -/
def aE : V → List Nat | .slice b _ _ _ _ => [b] | _ => []
def GL (s : St) (v : V) (l : List V) : Prop := (l = [] ∧ v = .ax) ∨ ∃ b, v = .slice b 0 l.length none 1 ∧ s.cl b = some l
section
variable {s : St} {v x : V} {l : List V}
theorem GL.fr {s' : St} {L : List Nat} (h : GL s v l) (hw : Wf s) (f : Fr s s' L) (hd : ∀ b, b ∈ aE v → b ∉ L) : GL s' v l := by
 rcases h with h | ⟨b, h1, h2⟩
 · exact .inl h
 · subst h1; exact .inr ⟨b, rfl, f.cl hw h2 (hd b (by simp [aE]))⟩
theorem GL.len (h : GL s v l) : aP v = some (.i (l.length : Nat)) := by
 rcases h with ⟨rfl, rfl⟩ | ⟨b, rfl, h2⟩ <;> rfl
def SL (s : St) (v : V) (l : List V) : Prop := (l = [] ∧ (v = .ax ∨ ∃ b o c, v = .slice b o 0 c 1)) ∨ ∃ b o c n f, v = .slice b o l.length c 1 ∧ fT s b = some (n, f) ∧ o + l.length ≤ n ∧ ∀ i, i < l.length → f (o + i) = l[i]?
theorem SL.of {b o : Nat} {c : Option Nat} {M : List V} (hw : Wf s) (h : s.cl b = some M) (h2 : o + l.length ≤ M.length) (h3 : ∀ i, i < l.length → M[o + i]? = l[i]?) : SL s (.slice b o l.length c 1) l := by
 obtain ⟨xs, q1, q2, _⟩ := fA hw h
 exact .inr ⟨b, o, c, _, _, rfl, fC q1, h2, fun i hi => by rw [q2 _ (by omega)]; exact h3 i hi⟩
theorem GL.sl (hw : Wf s) (h : GL s v l) : SL s v l := by
 rcases h with h | ⟨b, rfl, h2⟩
 · exact .inl ⟨h.1, .inl h.2⟩
 · exact SL.of hw h2 (by omega) (fun i _ => by rw [Nat.zero_add])
theorem SL.fr {s' : St} {L : List Nat} (h : SL s v l) (hw : Wf s) (f : Fr s s' L) (hd : ∀ b, b ∈ aE v → b ∉ L) : SL s' v l := by
 rcases h with h | ⟨b, o, c, n, g, h1, h2, h3⟩
 · exact .inl h
 · subst h1; exact .inr ⟨b, o, c, n, g, rfl, (nS (f.same b (wD hw h2) (hd b (by simp [aE])))).trans h2, h3⟩
theorem SL.len (h : SL s v l) : aP v = some (.i (l.length : Nat)) := by
 rcases h with ⟨rfl, rfl | ⟨b, o, c, rfl⟩⟩ | ⟨b, o, c, n, g, rfl, h2⟩ <;> rfl
theorem SL.at (hw : Wf s) (h : SL s v l) {j : Nat} {x : V} (hx : l[j]? = some x) : ∃ q, aQ 1 v (.i (j : Nat)) = some q ∧ cO q s = some x := by
 have hj := (List.getElem?_eq_some_iff.1 hx).1
 rcases h with ⟨rfl, _⟩ | ⟨b, o, c, n, g, rfl, h2, h3, h4⟩
 · simp at hx
 · refine ⟨_, eY (by omega) (by omega), ?_⟩
   rw [show ((j : Nat) : Int).toNat = j by omega, AD h2 (by omega), h4 j hj, hx]
theorem jd {g : Nat → Option V} : ∀ {m o : Nat} {l : List V}, l.length = m → (∀ i, i < m → g (o + i) = l[i]?) → pM g m o = some l
 | 0, o, l, hl, _ => by rw [oM, List.length_eq_zero_iff.1 hl]
 | m + 1, o, [], hl, _ => by simp at hl
 | m + 1, o, x :: l, hl, hg => by
   have h0 : g o = some x := hg 0 (by omega)
   rw [pQ, h0]; simp only
   rw [jd (m := m) (o := o + 1) (l := l) (by simpa using hl) (fun i hi => by
    have := hg (i + 1) (by omega)
    rw [show o + 1 + i = o + (i + 1) by omega, this]; simp)]
theorem SL.src (h : SL s v l) (h1 : ∀ x ∈ l, x.one = true) (hl : l.length ≤ 100000000) : Src s 1 v l.length l := by
 rcases h with ⟨rfl, rfl | ⟨b, o, c, rfl⟩⟩ | ⟨b, o, c, n, g, rfl, h2, h3, h4⟩
 · exact Src.ax
 · exact ⟨rfl, rfl, by simp, by simp⟩
 · refine ⟨?_, bG h1, by simp, hl⟩
   cases hq : l.length with
   | zero =>
     have : l = [] := List.length_eq_zero_iff.1 hq
     subst this; rfl
   | succ k =>
     show (Bool.casesOn (motive := fun _ => Option (Nat × List V)) (Nat.beq 1 1) none (match fT s b with
      | some (n, xs) => Bool.casesOn (motive := fun _ => Option (Nat × List V)) (Nat.ble (Nat.add o (Nat.mul (k + 1) 1)) n) none (match pM xs (Nat.mul (k + 1) 1) o with | some l => some (k + 1, l) | none => none)
      | none => none)) = _
     rw [h2]; simp only
     have e1 : Nat.ble (Nat.add o (Nat.mul (k + 1) 1)) n = true := cC (show o + (k + 1) * 1 ≤ n by omega)
     have e2 : pM g (Nat.mul (k + 1) 1) o = some l := by
      rw [show Nat.mul (k + 1) 1 = k + 1 from Nat.mul_one _]
      exact jd hq (fun i hi => h4 i (by omega))
     rw [Nat.beq_refl, e1, e2]
theorem GL.push (hw : Wf s) (h : GL s v l) (h1 : x.one = true) (ho : ∀ y ∈ l, y.one = true) (hl : l.length ≤ 17596481011712) :
 ∃ s1 s2, s.new (.cells 1 (cL [x])) = s1 ∧ (xO 1 v (.slice s.next 0 1 (some 1) 1) s1 = some (.slice (s.next + 1) 0 (l.length + 1) none 1, s2)) ∧
   GL s2 (.slice (s.next + 1) 0 (l.length + 1) none 1) (l ++ [x]) ∧ Fr s s2 (aE v) ∧ s2.next = s.next + 2 := by
 obtain ⟨s1, e1, c1, f1, n1⟩ := bB (s := s) (l := [x]) (n := 1) hw rfl
 have hy : Src s1 1 (.slice s.next 0 1 (some 1) 1) 1 [x] := Src.full f1.wf c1 rfl (by simpa using h1) (by omega)
 rcases h with ⟨rfl, rfl⟩ | ⟨b, rfl, h2⟩
 · obtain ⟨s2, e2, c2, f2, n2⟩ := sq f1.wf hy (by omega)
   rw [n1] at e2 c2
   exact ⟨s1, s2, e1, e2, .inr ⟨_, rfl, c2⟩, f1.trans f2, by omega⟩
 · have hb := bU hw h2
   obtain ⟨s2, e2, c2, f2, n2⟩ := mE (s := s1) (es := 1) (len := l.length) (o := 0) (b := b) f1.wf hy (by omega) hl (f1.cl hw h2 (by simp)) (by omega)
   rw [n1] at e2 c2
   refine ⟨s1, s2, e1, e2, .inr ⟨s.next + 1, by simp, ?_⟩, (f1.mono (by simp)).trans f2, by omega⟩
   rw [c2]; simp
end
end
end Go.Proofs.YtcgdlgbomjnnnaaLab
/- The jI: rules to reckon a run of ours by hand: regions that draw their order; bytes and texts; maps. No condition on the program. -/
namespace Go.Proofs.YtcgdlgbomjnnnaaLab
open Go
set_option linter.all false
noncomputable section
/-! ### Regions that draw their order -/
def pz (k : KC) (l : List DT) (e : E) (s : St) (c : List (V × E × St) → aB) : aB := match cr k l e s with
 | none => .bad
 | some r => c r
section
variable {k : KC} {e : E} {s : St} {l : List DT} {u : E → V → E} {c : List (V × E × St) → aB}
theorem Ig : gT l k e s = pz k l e s fun r => Bool.casesOn (motive := fun _ => aB) (gZ (snaps s l r) l e r) .bad (gy e s r) := (rfl)
theorem MA : pz k [] e s c = c [] := (rfl)
theorem aau {f : E → Option V} : pz k (⟨none, .p f, u⟩ :: l) e s c = bP (f e) fun v => pz k l (u e v) s fun r => c ((v, u e v, s) :: r) := by
 simp only [pz, cr, cA, iT]
 cases f e with
 | none => rfl
 | some v => simp only [bP]; cases cr k l (u e v) s <;> rfl
theorem abb {lo hi : Nat} {f : E → St → Option V} : pz k (⟨none, .d lo hi f, u⟩ :: l) e s c = bP (f e s) fun v => pz k l (u e v) s fun r => c ((v, u e v, s) :: r) := by
 simp only [pz, cr, cA, iT]
 cases f e s with
 | none => rfl
 | some v => simp only [bP]; cases cr k l (u e v) s <;> rfl
theorem ZU {f : E → Nat → Option (V × Ob)} : pz k (⟨none, .a f, u⟩ :: l) e s c = bE (dm (f e s.next) s) fun v s' => pz k l (u e v) s' fun r => c ((v, u e v, s') :: r) := by
 simp only [pz, cr, cA, iT]
 cases f e s.next with
 | none => rfl
 | some v => simp only [bE, dm]; cases cr k l (u e v.1) (s.new v.2) <;> rfl
theorem aaE {f : KC → E → St → Option (V × St)} : pz k (⟨none, .e f, u⟩ :: l) e s c = bE (f k e s) fun v s' => pz k l (u e v) s' fun r => c ((v, u e v, s') :: r) := by
 simp only [pz, cr, cA, iT]
 cases f k e s with
 | none => rfl
 | some v => simp only [bE]; cases cr k l (u e v.1) v.2 <;> rfl
theorem ve : gy e s [] = .au e s := (rfl)
theorem tC (v : V) (e' : E) (s' : St) (r : List (V × E × St)) : gy e s ((v, e', s') :: r) = gy e' s' r := (rfl)
variable {g : Option (Nat × Bool)} {v : V} {e' : E} {s' : St} {r : List (V × E × St)} {sn : List St}
theorem yb : snaps s [] r = [s] := by unfold snaps; rfl
theorem OX {f : E → Option V} : snaps s (⟨g, .p f, u⟩ :: l) ((v, e', s') :: r) = snaps s l r := (rfl)
theorem NT {lo hi : Nat} {f : E → St → Option V} : snaps s (⟨g, .d lo hi f, u⟩ :: l) ((v, e', s') :: r) = snaps s l r := (rfl)
theorem NN {f : E → Nat → Option (V × Ob)} : snaps s (⟨g, .a f, u⟩ :: l) ((v, e', s') :: r) = snaps s l r := (rfl)
theorem NO {f : KC → E → St → Option (V × St)} : snaps s (⟨g, .e f, u⟩ :: l) ((v, e', s') :: r) = s :: snaps s' l r := (rfl)
theorem K5 : gZ sn [] e r = true := by unfold gZ; rfl
theorem WN {f : E → Option V} : gZ sn (⟨g, .p f, u⟩ :: l) e ((v, e', s') :: r) = gZ sn l e' r := (rfl)
theorem Vs {f : E → Nat → Option (V × Ob)} : gZ sn (⟨g, .a f, u⟩ :: l) e ((v, e', s') :: r) = gZ sn l e' r := (rfl)
theorem VK {f : KC → E → St → Option (V × St)} : gZ sn (⟨g, .e f, u⟩ :: l) e ((v, e', s') :: r) = gZ sn l e' r := (rfl)
def kU (x : Option V) (v : V) : Bool := match x with | some v' => dI 100 v' v | none => false
theorem Xu {lo hi : Nat} {f : E → St → Option V} : gZ sn (⟨none, .d lo hi f, u⟩ :: l) e ((v, e', s') :: r) = (((sn.drop lo).take (hi + 1 - lo)).all (fun t => kU (f e t) v) && gZ sn l e' r) := by
 show (Bool.casesOn (motive := fun _ => Bool) (((sn.drop lo).take (hi + 1 - lo)).all fun t => kU (f e t) v) false (gZ sn l e' r)) = _
 cases ((sn.drop lo).take (hi + 1 - lo)).all fun t => kU (f e t) v <;> rfl
theorem eN (h : dI 100 v v = true) : kU (some v) v = true := h
theorem qe {t : DT} : pz k (t :: l) e s c = bE (cA k t e s) fun v s' => pz k l (t.u e v) s' fun r => c ((v, t.u e v, s') :: r) := by
 simp only [pz, cr]
 cases cA k t e s with
 | none => rfl
 | some v => simp only [bE]; cases cr k l (t.u e v.1) v.2 <;> rfl
theorem Of {j : Nat} {w : Bool} {f : E → Option V} : cA k ⟨some (j, w), .p f, u⟩ e s = (aL (Gt j e) w (f e)).map fun v => (v, s) := by
 simp only [cA, iT]
 generalize Gt j e = x
 unfold aL
 cases x with
 | bool b => cases b <;> cases w <;> simp <;> cases f e <;> rfl
 | bz l => cases l <;> rfl
 | _ => rfl
theorem Oe {j lo hi : Nat} {w : Bool} {f : E → St → Option V} : cA k ⟨some (j, w), .d lo hi f, u⟩ e s = (aL (Gt j e) w (f e s)).map fun v => (v, s) := by
 simp only [cA, iT]
 generalize Gt j e = x
 unfold aL
 cases x with
 | bool b => cases b <;> cases w <;> simp <;> cases f e s <;> rfl
 | bz l => cases l <;> rfl
 | _ => rfl
theorem Ot {j : Nat} {w : Bool} {f : KC → E → St → Option (V × St)} : cA k ⟨some (j, w), .e f, u⟩ e s = iH (Gt j e) w s (f k e s) := by
 simp only [cA, iT]
 generalize Gt j e = x
 unfold iH
 cases x with
 | bool b => cases b <;> cases w <;> simp
 | bz l => cases l <;> rfl
 | _ => rfl
theorem Ve {j : Nat} {w : Bool} {f : E → Option V} : pz k (⟨some (j, w), .p f, u⟩ :: l) e s c = bP (aL (Gt j e) w (f e)) fun v => pz k l (u e v) s fun r => c ((v, u e v, s) :: r) := by
 rw [qe, Of]; cases aL (Gt j e) w (f e) <;> rfl
theorem V_ {j lo hi : Nat} {w : Bool} {f : E → St → Option V} : pz k (⟨some (j, w), .d lo hi f, u⟩ :: l) e s c = bP (aL (Gt j e) w (f e s)) fun v => pz k l (u e v) s fun r => c ((v, u e v, s) :: r) := by
 rw [qe, Oe]; cases aL (Gt j e) w (f e s) <;> rfl
theorem Wt {j : Nat} {w : Bool} {f : KC → E → St → Option (V × St)} : pz k (⟨some (j, w), .e f, u⟩ :: l) e s c = bE (iH (Gt j e) w s (f k e s)) fun v s' => pz k l (u e v) s' fun r => c ((v, u e v, s') :: r) := by
 rw [qe, Ot]
def mD (x : V) (w : Bool) (b : Bool) : Bool := match x with | .bool y => Bool.casesOn (motive := fun _ => Bool) (Bool.casesOn (motive := fun _ => Bool) w (not y) y) true b | _ => true
theorem zj (b : Bool) : mD (.bool true) true b = b := (rfl)
theorem Ai (b : Bool) : mD (.bool false) false b = b := (rfl)
theorem Fe (b : Bool) : mD (.bool true) false b = true := (rfl)
theorem Ko (b : Bool) : mD (.bool false) true b = true := (rfl)
theorem yd (w b : Bool) : mD (.bz []) w b = true := (rfl)
theorem OU {j lo hi : Nat} {w : Bool} {f : E → St → Option V} : gZ sn (⟨some (j, w), .d lo hi f, u⟩ :: l) e ((v, e', s') :: r) = (mD (Gt j e) w (((sn.drop lo).take (hi + 1 - lo)).all (fun t => kU (f e t) v)) && gZ sn l e' r) := by
 have h : qB sn ⟨some (j, w), .d lo hi f, u⟩ e v = mD (Gt j e) w (((sn.drop lo).take (hi + 1 - lo)).all (fun t => kU (f e t) v)) := by
  simp only [qB, iT]
  generalize Gt j e = x
  unfold mD
  cases x with
  | bool b => cases b <;> cases w <;> simp <;> rfl
  | bz l => cases l <;> simp
  | _ => simp
 show (Bool.casesOn (motive := fun _ => Bool) (qB sn ⟨some (j, w), .d lo hi f, u⟩ e v) false (gZ sn l e' r)) = _
 rw [h]
 cases mD (Gt j e) w (((sn.drop lo).take (hi + 1 - lo)).all (fun t => kU (f e t) v)) <;> rfl
theorem dO (x y : aB) : Bool.casesOn (motive := fun _ => aB) true x y = y := (rfl)
end
def cvV (fok : T Bool) (v : V) (l : List V) (k : KC) (s : St) : Option (V × St) := match v with
 | .func f a b => (match fok.get f with | some true => k.call f (a ++ l ++ b) s | _ => none)
 | _ => none
theorem cY {fok : T Bool} {g : E → V} {gs : List (E → V)} {k : KC} {e : E} {s : St} : fQ fok g gs k e s = cvV fok (g e) (oQ gs e) k s := (rfl)
theorem eW {fok : T Bool} {f : Nat} {a b l : List V} {k : KC} {s : St} (h : fok.get f = some true) : cvV fok (.func f a b) l k s = k.call f (a ++ l ++ b) s := by unfold cvV; simp only [h]
theorem nV {f : Nat} {a b : List (E → V)} {e : E} : uq f a b e = some (.func f (oQ a e) (oQ b e)) := (rfl)
theorem mz (n : Int) : jU n n = true := by rw [eD]; simp
theorem Db (n : Int) : dI 100 (.i n) (.i n) = true := mz n
theorem yj (b : Bool) : dI 100 (.bool b) (.bool b) = true := by cases b <;> rfl
theorem jo : dI 100 .ax .ax = true := (rfl)
theorem Cy (b o : Nat) : dI 100 (.ptr b o) (.ptr b o) = true := by show and (Nat.beq b b) (Nat.beq o o) = true; rw [Nat.beq_refl, Nat.beq_refl]; rfl
theorem DG (b : Nat) : dI 100 (.map b) (.map b) = true := Nat.beq_refl b
theorem dP (b o n es : Nat) (c : Option Nat) : dI 100 (.slice b o n c es) (.slice b o n c es) = true := by
 show and (and (Nat.beq b b) (Nat.beq o o)) (and (and (Nat.beq n n) (Nat.beq es es)) (c == c)) = true
 simp
section
variable {s : St} {k : KC} {e : E}
def bV (n : Nat) : V := .int .u8 (n : Int)
end
end
end Go.Proofs.YtcgdlgbomjnnnaaLab
/- The jI: rules to reckon a run of ours by hand: calls through interfaces, numbers without a sign. No condition on the program. -/
namespace Go.Proofs.YtcgdlgbomjnnnaaLab
open Go
set_option linter.all false
noncomputable section
def bL (o : Option V) (c : V → Option (V × St)) : Option (V × St) := match o with | some v => c v | none => none
section
variable {ms : List (Nat × Nat × RM)} {v u z : V} {l : List V} {k : KC} {s : St} {t t' f : Nat} {m : RM} {c : V → Option (V × St)} {g : E → V} {gs : List (E → V)} {e : E}
@[congr] theorem Y6 {o o' : Option V} (h : o = o') : bL o c = bL o' c := by rw [h]
end
theorem Wo (a b : Int) : bK .u64 fN (.int .u64 a) (.int .u64 b) = some (.bool (decide (a < b))) := by
 show some (V.bool (ux a b)) = _; rw [iu]
theorem WW (a b : Int) : bK .u64 xj (.int .u64 a) (.int .u64 b) = some (.bool (decide (a ≤ b))) := by
 show some (V.bool (nQ a b)) = _; rw [fR]
theorem Vj (a b : Int) : bK .u64 bh (.int .u64 a) (.int .u64 b) = some (.bool (decide (a = b))) := by
 show some (V.bool (jU a b)) = _; rw [eD]; by_cases h : a = b <;> simp [h]
theorem wrap64 {n : Int} (h0 : 0 ≤ n) (h1 : n < 18446744073709551616) : IntKind.wrap .u64 n = n := by
 have : IntKind.wrap .u64 n = n % 18446744073709551616 := by
  simp [IntKind.wrap, IntKind.bits, IntKind.signed]
 rw [this]; omega
theorem MB {a b : Int} (h0 : 0 ≤ a + b) (h1 : a + b < 18446744073709551616) : bK .u64 (fun a b => .int .u64 (IntKind.wrap .u64 (Int.add a b))) (.int .u64 a) (.int .u64 b) = some (.int .u64 (a + b)) := by
 show some (V.int .u64 (IntKind.wrap .u64 (a + b))) = _; rw [wrap64 h0 h1]
theorem ada {n : Int} (h0 : 0 ≤ n) (h1 : n < 18446744073709551616) : cQ .u64 (.i n) = some (.int .u64 n) := by
 show some (V.int .u64 (IntKind.wrap .u64 n)) = _; rw [wrap64 h0 h1]
theorem xw {n : Int} (h0 : -9223372036854775808 < n) (h1 : n ≤ 9223372036854775808) : GX (.i n) = some (.i (-n)) := by
 show some (V.i (uW (0 - n))) = _
 rw [show (0 : Int) - n = -n by omega, jA ⟨by omega, by omega⟩]
theorem dz : (∀ n : Int, (V.i n).one = true) ∧ (∀ (k : IntKind) (n : Int), (V.int k n).one = true) ∧ (∀ b : Bool, (V.bool b).one = true) ∧ (∀ l, (V.str l).one = true) ∧ (∀ b o : Nat, (V.ptr b o).one = true) ∧ V.jB.one = true ∧ V.ax.one = true ∧ (∀ (b o n es : Nat) (c : Option Nat), (V.slice b o n c es).one = true) ∧ (∀ b : Nat, (V.map b).one = true) ∧ V.lu.one = true ∧ (∀ (f : Nat) (a b : List V), (V.func f a b).one = true) ∧ (∀ (t : Nat) (v : V), (V.iface t v).one = true)
 ∧ (∀ n : Int, dI 100 (.i n) (.i n) = true) ∧ (∀ b : Bool, dI 100 (.bool b) (.bool b) = true) ∧ dI 100 .ax .ax = true ∧ (∀ b o : Nat, dI 100 (.ptr b o) (.ptr b o) = true) ∧ (∀ b : Nat, dI 100 (.map b) (.map b) = true) ∧ (∀ (b o n es : Nat) (c : Option Nat), dI 100 (.slice b o n c es) (.slice b o n c es) = true)
 ∧ (∀ (v : V) (l : List V), bf (v :: l) = (v.one && bf l)) ∧ bf [] = true :=
 ⟨Z7, NX, F4, Np, MU, EL, Jf, x_, ML, LX, Kz, yL, Db, yj, jo, Cy, DG, dP, ur, vj⟩
theorem dl : (∀ {α : Type} (a : α) (l : List α), (a :: l).length = l.length + 1) ∧ (∀ {α : Type}, ([] : List α).length = 0) ∧ (∀ {α β : Type} (f : α → β) (l : List α), (l.map f).length = l.length) ∧ (∀ {α : Type} (l : List α) (i : Nat) (a : α), (l.set i a).length = l.length) :=
 ⟨fun a l => List.length_cons, List.length_nil, fun f l => List.length_map .., fun l i a => List.length_set ..⟩
end
end Go.Proofs.YtcgdlgbomjnnnaaLab
/- The jI: a world taken in whole: its rows are looked at, and never sQ; a law's run over them. No condition on the program. -/
namespace Go.Proofs.YtcgdlgbomjnnnaaLab
open Go
set_option linter.all false
noncomputable section
section
variable {α : Type}
def T.fill (t : T α) (o : Nat) : List α → T α | [] => t | x :: l => (t.set o x).fill (o + 1) l
theorem T.uO : ∀ (l : List α) {t : T α} {o : Nat}, t.Full o → (∀ i, o ≤ i → t.get i = none) → (∀ i, (t.fill o l).get i = if i < o then t.get i else l[i - o]?) ∧ (t.fill o l).Full (o + l.length)
 | [], t, o, h, hn => ⟨fun i => by
  show t.get i = _
  by_cases hi : i < o
  · rw [if_pos hi]
  · rw [if_neg hi, hn i (by omega)]; simp, h⟩
 | x :: l, t, o, h, hn => by
   obtain ⟨h1, h2⟩ := T.uO l (t := t.set o x) (o := o + 1) (h.next x) (fun i hi => by rw [T.dy x (by omega)]; exact hn i (by omega))
   refine ⟨fun i => ?_, ?_⟩
   · show ((t.set o x).fill (o + 1) l).get i = _
     rw [h1 i]
     by_cases hi : i < o
     · rw [if_pos (by omega), if_pos hi, T.dy x (by omega)]
     · by_cases e : i = o
       · subst e; rw [if_pos (by omega), if_neg hi, T.mq x h]; simp
       · rw [if_neg (by omega), if_neg hi, show i - o = (i - (o + 1)) + 1 by omega]; simp
   · show ((t.set o x).fill (o + 1) l).Full _
     intro i hi
     exact h2 i (by simp at hi; omega)
end
/-! ### A world's rows -/
def imp (W : World) (es k : Nat) : Value → Option V
 | .bool b => some (.bool b)
 | .int .i64 n => some (.i n)
 | .int k n => some (.int k n)
 | .string s => some (.str (Y4 s))
 | .pointer none => some .jB
 | .slice none 0 0 => some .ax
 | .slice (some a) len cap =>
   if len ≤ cap then
    (if cap = 0 then some (.slice k 0 0 none es) else
     match W.heap[a.block]? with
     | some (.cells c _ _) => if a.spot = none ∧ a.off + cap * es ≤ c.size then some (.slice a.block a.off len none es) else none
     | _ => none)
   else none
 | _ => none
def mL (W : World) : Pl := fun b => match W.heap[b]? with | some (.cells c _ _) => some ⟨b, 0, c.size⟩ | _ => none
def qJ (W : World) (es k : Nat) : Obj → Ob
 | .cells c _ _ => .ro c.size fun i => match c[i]? with | some x => imp W es k x | none => none
 | _ => .dead
def uw (W : World) (es : Nat) : St := ⟨T.fill .nil 0 ((List.range W.heap.size).map fun k => match W.heap[k]? with | some o => qJ W es k o | none => .dead), W.heap.size⟩
theorem ij (W : World) (es b : Nat) : (uw W es).heap.get b = (W.heap[b]?).map (qJ W es b) := by
 have := (T.uO ((List.range W.heap.size).map fun k => match W.heap[k]? with | some o => qJ W es k o | none => .dead) (t := .nil) (o := 0) (Sm _) (fun i _ => T.get_nil i)).1 b
 show (T.fill .nil 0 _).get b = _
 rw [this, if_neg (by omega)]
 by_cases h : b < W.heap.size
 · simp [h]
 · simp [h]
theorem WO {W : World} {es k : Nat} {x : Value} {v : V} (hk : ∃ l, mL W k = some l) (h : imp W es k x = some v) : VR (mL W) v x ∧ x.oneCell' = true := by
 obtain ⟨lk, hk⟩ := hk
 unfold imp at h
 split at h
 · cases h; exact ⟨.bool _, rfl⟩
 · cases h; exact ⟨.i _, rfl⟩
 · cases h; exact ⟨.int _ _, rfl⟩
 · cases h; exact ⟨.str _, rfl⟩
 · cases h; exact ⟨.jB, rfl⟩
 · cases h; exact ⟨.ax, rfl⟩
 · rename_i a len cap
   split at h
   · rename_i hle
     split at h
     · rename_i h0; subst h0
       cases h
       have : len = 0 := by omega
       subst this
       exact ⟨.slice _ _ _ _ _ _ lk _ hk (Nat.le_refl _) (fun k h => by cases h) (.inl rfl) (.inl rfl), rfl⟩
     · split at h
       · rename_i c el fz hc
         split at h
         · rename_i hh
           cases h
           have hg : mL W a.block = some ⟨a.block, 0, c.size⟩ := by unfold mL; rw [hc]
           obtain ⟨ab, ao, as⟩ := a
           obtain ⟨h1, h2⟩ := hh
           simp only at h1 h2 hg hc
           subst h1
           exact ⟨.slice _ _ _ _ _ _ ⟨ab, 0, c.size⟩ _ hg hle (fun k h => by cases h) (.inr (by simp)) (.inr (by simpa using h2)), rfl⟩
         · cases h
       · cases h
   · cases h
 · cases h
theorem Oq (W : World) (es : Nat) : SR (mL W) (uw W es) W := by
 refine ⟨⟨fun b o hb => ?_, fun b b' o o' l l' _ _ _ _ hl hl' he => ?_⟩, fun b hb => ?_, fun b l hb => ?_⟩
 · rw [ij] at hb
   cases hq : W.heap[b]? with
   | none => rw [hq] at hb; cases hb
   | some ob =>
     rw [hq] at hb
     cases hb
     unfold qJ
     split
     · rename_i c el fz
       have hg : mL W b = some ⟨b, 0, c.size⟩ := by unfold mL; rw [hq]
       refine ⟨⟨b, 0, c.size⟩, c, el, fz, hg, hq, rfl, by simp, fun i x hi hx => ?_⟩
       simp only at hx
       split at hx
       · rename_i y hy
         obtain ⟨h1, h2⟩ := WO ⟨_, hg⟩ hx
         exact ⟨y, by simpa using hy, h1, h2⟩
       · cases hx
     · trivial
 · unfold mL at hl hl'
   split at hl <;> cases hl
   split at hl' <;> cases hl'
   exact he
 · rw [ij, Array.getElem?_eq_none (by exact hb)]; rfl
 · unfold mL at hb
   split at hb
   · rename_i hq
     cases hb
     have := (Array.getElem?_eq_some_iff.1 hq).1
     exact ⟨this, this⟩
   · cases hb
theorem MJ (W : World) (es : Nat) : Wf (uw W es) := by
 refine ⟨fun b hb => ?_, fun b hb => ?_, fun b o hb => ?_⟩
 · have hb : b < W.heap.size := hb
   rw [ij]; simp [hb]
 · have hb : W.heap.size ≤ b := hb
   rw [ij, Array.getElem?_eq_none hb]; rfl
 · rw [ij] at hb
   cases hq : W.heap[b]? with
   | none => rw [hq] at hb; cases hb
   | some ob =>
     rw [hq] at hb
     cases hb
     unfold qJ
     split <;> trivial
theorem Na {W : World} {es b : Nat} {c : Array Value} {el : TypeId} {fz : Nat × Nat} (h : W.heap[b]? = some (.cells c el fz)) : fT (uw W es) b = some (c.size, fun i => match c[i]? with | some x => imp W es b x | none => none) :=
 MT (by rw [ij, h]; rfl)
theorem Vq {P : Program} {dM : T aY} (ht : T.qH (aI P []) dM) {fuel n f es : Nat} {args : List V} {args' : List Value} {W : World} (h : eA ((kc dM fuel n).call f args (uw W es)) (fun v _ => v = .bool true)) (hargs : dV (mL W) args args') :
 Calls P f ⟨args'⟩ W (fun e w' => e = .returned (.bool true) ∧ RowKit.Below W.heap.size W w') := by
 obtain ⟨v, s', hr, rfl⟩ := h
 refine (sX ht fuel n f args _ _ _ hr _ W args' (fun g hg => by cases hg) hargs (Oq W es)).mono ?_
 intro e w' he
 match e, he with
 | .returned v', ⟨G', g1, g2, g3⟩ =>
   refine ⟨by rw [g3.jX], g1.go.os, g1.go.tape, g1.go.output, g1.go.size, fun k hk => g1.go.same k hk ?_⟩
   rintro ⟨b, o, l, hb, hm, _⟩
   rw [ij] at hb
   cases hq : W.heap[b]? with
   | none => rw [hq] at hb; cases hb
   | some ob =>
     rw [hq] at hb; cases hb
     unfold qJ at hm
     split at hm <;> cases hm
end
end Go.Proofs.YtcgdlgbomjnnnaaLab
/- The jI: a law's arguments as ours. No condition on the program. -/
namespace Go.Proofs.YtcgdlgbomjnnnaaLab
open Go Go.WideShapes Go.ChangeShapes
set_option linter.all false
noncomputable section
section
variable {H : Type} {enc : TypeId × Value → H} {P : Program} {W : World} {base b0 : Nat} {r : Reach} {spare : Nat → Bool} {held : Bool}
theorem sJ {t e : TypeId} {a : Addr} {len cap : Nat} (ht : P.underlying t = some (.slice e)) (h : Value.okWide P W r base t (.slice (some a) len cap)) : a.spot = none ∧ len ≤ cap ∧ ∃ c el fz, W.heap[a.block]? = some (.cells c el fz) := by
 simp only [Value.okWide, ht, Cell.okWide, Cell.ok] at h
 obtain ⟨h1, _, h2, h3, row, cells, h4, _⟩ := h
 refine ⟨h3, h1, ?_⟩
 unfold World.shape? at h4
 split at h4
 · exact ⟨_, _, _, by assumption⟩
 · cases h4
theorem J9 {t e : TypeId} {v : Value} {d : DataW H} {ps : List MemPlace} (ht : P.underlying t = some (.slice e)) (he : P.underlying e = some (.int .i64)) (hc : P.cellsOf e = 1)
 (hval : Value.okWide P W r b0 t v) (h : DataW.Trod enc P W base (fun _ => true) held t v d ps) :
 ∃ (x : V) (l : List Int), VR (mL W) x v ∧ SL (uw W 1) x (l.map V.i) ∧ (∀ b ∈ aE x, b < W.heap.size) ∧ l.length ≤ maxLen ∧ ∀ n ∈ l, -9223372036854775808 ≤ n ∧ n < 9223372036854775808 := by
 obtain ⟨fuel, hf⟩ := h
 obtain ⟨a, len, cap, rfl⟩ := okWide_slice ht hval
 rcases open_ints ht he hc hf with ⟨hcs, _⟩ | ⟨a', len', cap', zs, hcs, hb, hl, hm, hzl, hx, hcell, hwf⟩
 · simp [Value.cells] at hcs
   obtain ⟨rfl, rfl, rfl⟩ := hcs
   exact ⟨.ax, [], .ax, .inl ⟨rfl, .inl rfl⟩, fun b hb => by simp [aE] at hb, by simp, fun n hn => by cases hn⟩
 · simp [Value.cells] at hcs
   obtain ⟨rfl, rfl, rfl⟩ := hcs
   simp only [if_true] at hzl
   obtain ⟨hsp, _, c, el, fz, hblk⟩ := sJ ht hval
   have hg : mL W a'.block = some ⟨a'.block, 0, c.size⟩ := by unfold mL; rw [hblk]
   have hlt : a'.block < W.heap.size := (Array.getElem?_eq_some_iff.1 hblk).1
   obtain ⟨ab, ao, as⟩ := a'
   simp only at hsp hblk hg hlt
   subst hsp
   have hcl : ∀ i, i < cap → c[ao + i]? = some (.int .i64 (zs.getD i 0)) := fun i hi => by
    have := hcell i (by omega)
    rw [dQ] at this
    unfold World.cell? at this
    simp only [hblk] at this
    simpa using this
   have htot : cap = 0 ∨ ao + cap ≤ c.size := by
    by_cases h0 : cap = 0
    · exact .inl h0
    · have := (Array.getElem?_eq_some_iff.1 (hcl (cap - 1) (by omega))).1
      exact .inr (by omega)
   refine ⟨.slice ab ao len none 1, zs.take len, .slice _ _ _ _ _ _ ⟨ab, 0, c.size⟩ _ hg hl (fun k h => by cases h) (.inr (by simp)) (by simpa using htot), ?_, fun b hb => by simp [aE] at hb; subst hb; exact hlt, by simp; omega, fun n hn => ?_⟩
   · by_cases h0 : len = 0
     · subst h0; exact .inl ⟨by simp, .inr ⟨_, _, _, rfl⟩⟩
     · refine .inr ⟨ab, ao, none, _, _, by simp; omega, Na hblk, by simp; omega, fun i hi => ?_⟩
       simp at hi
       simp only [hcl i (by omega), imp]
       rw [List.getElem?_map, List.getElem?_take, if_pos (by omega), List.getElem?_eq_getElem (by omega)]
       simp [List.getD_eq_getElem?_getD, show i < zs.length by omega]
   · have := hwf n (List.mem_of_mem_take hn)
     simp [Lit.wf, IntKind.min, IntKind.max, IntKind.bits, IntKind.signed] at this
     exact ⟨by omega, by omega⟩
end
end
end Go.Proofs.YtcgdlgbomjnnnaaLab
/- The jI: slices among a law's arguments, one in the other. No condition on the program. -/
namespace Go.Proofs.YtcgdlgbomjnnnaaLab
open Go Go.WideShapes Go.ChangeShapes
set_option linter.all false
noncomputable section
def SN (s : St) (v : V) (l : List V) : Prop := (l = [] ∧ (v = .ax ∨ ∃ b o, v = .slice b o 0 none 1)) ∨ ∃ b o n f, v = .slice b o l.length none 1 ∧ fT s b = some (n, f) ∧ o + l.length ≤ n ∧ ∀ i, i < l.length → f (o + i) = l[i]?
section
variable {s : St} {v : V} {l : List V}
theorem SN.sl (h : SN s v l) : SL s v l := by
 rcases h with ⟨h1, h2 | ⟨b, o, h2⟩⟩ | ⟨b, o, n, f, h⟩
 · exact .inl ⟨h1, .inl h2⟩
 · exact .inl ⟨h1, .inr ⟨b, o, none, h2⟩⟩
 · exact .inr ⟨b, o, none, n, f, h⟩
theorem SN.fr {s' : St} {L : List Nat} (h : SN s v l) (hw : Wf s) (f : Fr s s' L) (hd : ∀ b, b ∈ aE v → b ∉ L) : SN s' v l := by
 rcases h with h | ⟨b, o, n, g, h1, h2, h3⟩
 · exact .inl h
 · subst h1; exact .inr ⟨b, o, n, g, rfl, (nS (f.same b (wD hw h2) (hd b (by simp [aE])))).trans h2, h3⟩
theorem SN.cut (h : SN s v l) {m : Int} (hm0 : 0 ≤ m) (hm : m < (l.length : Nat)) : ∃ v', pL 1 v none (some (.i m)) none = some v' ∧ SN s v' (l.take m.toNat) ∧ aE v' = aE v := by
 rcases h with ⟨rfl, _⟩ | ⟨b, o, n, g, rfl, h2, h3, h4⟩
 · simp at hm; omega
 · refine ⟨_, mW hm0 (by omega), .inr ⟨b, o, n, g, ?_, h2, by simp; omega, fun i hi => ?_⟩, rfl⟩
   · congr 1; simp; omega
   · simp at hi
     rw [h4 i (by omega), List.getElem?_take, if_pos (by omega)]
end
section
variable {H : Type} {enc : TypeId × Value → H} {P : Program} {W : World} {base b0 : Nat} {r : Reach} {held : Bool}
end
end
end Go.Proofs.YtcgdlgbomjnnnaaLab
/- The jI: a function that takes nothing and answers true whatever the world is, as one step of ours. No condition on the program. -/
namespace Go.Proofs.YtcgdlgbomjnnnaaLab
open Go
set_option linter.all false
noncomputable section
def wN : aY := ⟨[], fun _ e s => .ret e s, fun _ _ => some (.bool true)⟩
theorem vD {dM : T aY} {fuel n f : Nat} {s : St} (h : dM.get f = some wN) : (kc dM fuel (n + 1)).call f [] s = some (.bool true, s) := by
 show (match dM.get f with | some F => bD F (kc dM fuel n) [] s | none => none) = _
 rw [h]; rfl
theorem aI.V2 {P : Program} {gl : List Nat} {f : Nat} (hC : ∀ W, Calls P f #[] W (fun e w' => e = .returned (.bool true) ∧ RowKit.Below W.heap.size W w')) : aI P gl f wN := by
 intro k hk args s v s' hr G w args' hgl hargs hs
 cases args with
 | cons a l => cases hr
 | nil =>
   cases hr
   cases hargs
   refine (hC w).mono ?_
   rintro e w' ⟨rfl, hw⟩
   refine ⟨G, ⟨⟨Pl.le_refl G, hw.os, hw.tape, hw.output, hw.size, fun m k' hk' => .inl hk', fun k' hk' _ => hw.block k' hk', ?_⟩, Nat.le_refl _, fun _ _ h => h⟩, ⟨⟨fun b o hb => ?_, hs.r.inj⟩, hs.fresh, fun b l hb => ?_⟩, .bool true⟩
   · exact Rows.of hw.block
   · exact (hs.r.ob b o hb).other (Pl.le_refl G) (fun m hm _ => hw.block _ (hs.dom b m hm).2)
   · have := hs.dom b l hb; have := hw.size; omega
end
end Go.Proofs.YtcgdlgbomjnnnaaLab
