/- The lab, part 5 of 5. No condition on the program. Pruned. -/
import Derived.Test.YtcgdlgbomjnnnaaGreatLm4
import Derived.ChangeSlices
import Derived.WideShapes
import Derived.Below
/- The jL: rules to reckon a run of ours by hand: how pieces of code end, step by step. No condition on the program. -/
namespace Go.Proofs.YtcgdlgbomjnnnaaGreatLab
open Go
set_option linter.unusedVariables false
noncomputable section
/-! ### Shapes -/
def lt {α β : Type} (x : α) (f : α → β) : β := f x
def bw {α β : Type} (x : α) (f : α → β) : β := f x
def oW : V → V → Option V := dv .rem .i64 fun a b => Bool.casesOn (motive := fun _ => Option V) (j7 b 0) (some (zu .i64 (Int.tmod a b))) none
def di (r : aE) (b : E → St → aE) : aE := aE.casesOn (motive := fun _ => aE) r (fun e s => b e s) (fun id e s => .exit id e s) (fun e s => .ret e s) .bad
def rH (v : V) (a b : E → St → aE) (e : E) (s : St) : aE := match v with
 | .bool t => Bool.casesOn (motive := fun _ => aE) t (b e s) (a e s)
 | _ => .bad
def cL (id : Nat) (r : aE) : aE := aE.casesOn (motive := fun _ => aE) r (fun e s => .au e s) (fun id' e s => Bool.casesOn (motive := fun _ => aE) (Nat.beq id' id) (.exit id' e s) (.au e s)) (fun e s => .ret e s) .bad
def aV (res : E → St → Option V) (r : aE) : Option (V × St) := match r with
 | .au e' s' => (match res e' s' with | some v => some (v, s') | none => none)
 | .ret e' s' => (match res e' s' with | some v => some (v, s') | none => none)
 | _ => none
@[congr] theorem ady {α β : Type} {x x' : α} {f : α → β} (h : x = x') : lt x f = lt x' f := by rw [h]
@[congr] theorem abx {x x' : Option V} {k : V → aE} (h : x = x') : bP x k = bP x' k := by rw [h]
@[congr] theorem acm {x x' : Option (V × St)} {k : V → St → aE} (h : x = x') : bE x k = bE x' k := by rw [h]
@[congr] theorem YH {r r' : aE} {b : E → St → aE} (h : r = r') : di r b = di r' b := by rw [h]
@[congr] theorem Wd {v v' : V} {a b : E → St → aE} {e : E} {s : St} (h : v = v') : rH v a b e s = rH v' a b e s := by rw [h]
@[congr] theorem Zg {id : Nat} {r r' : aE} (h : r = r') : cL id r = cL id r' := by rw [h]
@[congr] theorem YV {res : E → St → Option V} {r r' : aE} (h : r = r') : aV res r = aV res r' := by rw [h]
section
variable {k : KC} {e : E} {s : St} {a b : Den} {f : V → aE} {f2 : V → St → aE} {v : V} {id id' : Nat} {B : E → St → aE}
theorem lt_eq {α β : Type} (x : α) (f : α → β) : lt x f = f x := (rfl)
theorem aaP {α β : Type} (x : α) (f : α → β) : bw x f = f x := (rfl)
theorem Pj (v : V) (f : V → aE) : bP (some v) f = f v := (rfl)
theorem Qo (v : V) (s : St) (f2 : V → St → aE) : bE (some (v, s)) f2 = f2 v s := (rfl)
theorem FT (v : V) (o : Ob) (s : St) : cZ (some (v, o)) s = some (v, s.new o) := (rfl)
theorem Qv : aa a b k e s = di (a k e s) (b k) := (rfl)
theorem Eu : di (.au e s) B = B e s := (rfl)
theorem yJ : di (.exit id e s) B = .exit id e s := (rfl)
theorem LI : di (.ret e s) B = .ret e s := (rfl)
theorem OP : aS k e s = .ret e s := (rfl)
theorem M_ : az k e s = .au e s := (rfl)
theorem Aa : bB id k e s = .exit id e s := (rfl)
theorem Da {g : E → V} : av g a b k e s = rH (g e) (a k) (b k) e s := by unfold av rH; rfl
theorem wR {a b : E → St → aE} : rH (.bool true) a b e s = a e s := (rfl)
theorem uj {a b : E → St → aE} : rH (.bool false) a b e s = b e s := (rfl)
theorem yP : aG id a k e s = cL id (a k e s) := (rfl)
theorem IE : cL id (.au e s) = .au e s := (rfl)
theorem Em : cL id (.ret e s) = .ret e s := (rfl)
theorem zC : cL id (.exit id e s) = .au e s := by show Bool.casesOn (motive := fun _ => aE) (Nat.beq id id) _ _ = _; rw [Nat.beq_refl]
theorem tq (h : id' ≠ id) : cL id (.exit id' e s) = .exit id' e s := by show Bool.casesOn (motive := fun _ => aE) (Nat.beq id' id) _ _ = _; rw [dH h]
theorem EI : bT a k e s = pS (a k) k.fuel e s := (rfl)
theorem KY : nW e v = e := (rfl)
theorem NU (x : Option V) : aN (.bool true) true x = x := (rfl)
theorem Ik (x : Option V) : aN (.bool false) false x = x := (rfl)
theorem Mo (x : Option V) : aN (.bool true) false x = some (.bH []) := (rfl)
theorem Kf (x : Option V) : aN (.bool false) true x = some (.bH []) := (rfl)
theorem yz (w : Bool) (x : Option V) : aN (.bH []) w x = some (.bH []) := (rfl)
theorem Nb (x : Option (V × St)) : ia (.bool true) true s x = x := (rfl)
theorem DD (x : Option (V × St)) : ia (.bool false) false s x = x := (rfl)
theorem CE (x : Option (V × St)) : ia (.bool true) false s x = some (.bH [], s) := (rfl)
theorem Ib (x : Option (V × St)) : ia (.bool false) true s x = some (.bH [], s) := (rfl)
theorem xx (w : Bool) (x : Option (V × St)) : ia (.bH []) w s x = some (.bH [], s) := (rfl)
theorem zw {res : E → St → Option V} : aV res (.au e s) = (res e s).map fun v => (v, s) := by show (match res e s with | some v => some (v, s) | none => none) = _; cases res e s <;> rfl
theorem yY {res : E → St → Option V} : aV res (.ret e s) = (res e s).map fun v => (v, s) := by show (match res e s with | some v => some (v, s) | none => none) = _; cases res e s <;> rfl
theorem aR {F : aX} {args : List V} (h : l7 F.us args e0 = some e) : bA F k args s = aV F.res (F.body k e s) := by unfold bA; rw [h]; rfl
theorem ab6 : e0 = ⟨jV, jV, jV, jV, jV, jV, jV, jV, jV, jV, jV, jV, jV, jV, jV, jV⟩ := (rfl)
theorem acG (g : E → V) : rT g e s = some (g e) := (rfl)
theorem Aj (g : E → St → Option V) : aL [g] e s = g e s := (rfl)
theorem fO : aL [] e s = some (.bH []) := (rfl)
theorem gE {g h : E → V} : aL [rT g, rT h] e s = some (.bH [g e, h e]) := (rfl)
theorem dR {g h i : E → V} : aL [rT g, rT h, rT i] e s = some (.bH [g e, h e, i e]) := (rfl)
theorem ax.k0e {α β : Type} (e : ax α) (v : α) (k : ax α → β) : ax.k0 e v k = k {e with a0 := v} := (rfl)
theorem ax.u0e {α : Type} (sk : ax α → α → (ax α → ax (ax α)) → ax (ax α)) (e : ax (ax α)) (v : α) : ax.u0 sk e v = sk e.a0 v (fun y => {e with a0 := y}) := (rfl)
theorem agb (e : E) (k) : fV e k = {e with a0 := k e.a0.a0 e.a0.a1 e.a0.a2 e.a0.a3 e.a0.a4 e.a0.a5 e.a0.a6 e.a0.a7 e.a0.a8 e.a0.a9 e.a0.a10 e.a0.a11 e.a0.a12 e.a0.a13 e.a0.a14 e.a0.a15} := (rfl)
def bG (e : E) (f : ax V → ax V) : E := {e with a0 := f e.a0}
theorem afW (e : E) (f) : bG e f = {e with a0 := f e.a0} := (rfl)
theorem ax.k1e {α β : Type} (e : ax α) (v : α) (k : ax α → β) : ax.k1 e v k = k {e with a1 := v} := (rfl)
theorem ax.u1e {α : Type} (sk : ax α → α → (ax α → ax (ax α)) → ax (ax α)) (e : ax (ax α)) (v : α) : ax.u1 sk e v = sk e.a1 v (fun y => {e with a1 := y}) := (rfl)
theorem ag1 (e : E) (k) : lW e k = {e with a1 := k e.a1.a0 e.a1.a1 e.a1.a2 e.a1.a3 e.a1.a4 e.a1.a5 e.a1.a6 e.a1.a7 e.a1.a8 e.a1.a9 e.a1.a10 e.a1.a11 e.a1.a12 e.a1.a13 e.a1.a14 e.a1.a15} := (rfl)
def cw (e : E) (f : ax V → ax V) : E := {e with a1 := f e.a1}
theorem afr (e : E) (f) : cw e f = {e with a1 := f e.a1} := (rfl)
theorem ax.k2e {α β : Type} (e : ax α) (v : α) (k : ax α → β) : ax.k2 e v k = k {e with a2 := v} := (rfl)
theorem ax.u2e {α : Type} (sk : ax α → α → (ax α → ax (ax α)) → ax (ax α)) (e : ax (ax α)) (v : α) : ax.u2 sk e v = sk e.a2 v (fun y => {e with a2 := y}) := (rfl)
theorem agJ (e : E) (k) : mu e k = {e with a2 := k e.a2.a0 e.a2.a1 e.a2.a2 e.a2.a3 e.a2.a4 e.a2.a5 e.a2.a6 e.a2.a7 e.a2.a8 e.a2.a9 e.a2.a10 e.a2.a11 e.a2.a12 e.a2.a13 e.a2.a14 e.a2.a15} := (rfl)
def cQ (e : E) (f : ax V → ax V) : E := {e with a2 := f e.a2}
theorem agS (e : E) (f) : cQ e f = {e with a2 := f e.a2} := (rfl)
theorem ax.k3e {α β : Type} (e : ax α) (v : α) (k : ax α → β) : ax.k3 e v k = k {e with a3 := v} := (rfl)
theorem ax.u3e {α : Type} (sk : ax α → α → (ax α → ax (ax α)) → ax (ax α)) (e : ax (ax α)) (v : α) : ax.u3 sk e v = sk e.a3 v (fun y => {e with a3 := y}) := (rfl)
theorem agU (e : E) (k) : EG e k = {e with a3 := k e.a3.a0 e.a3.a1 e.a3.a2 e.a3.a3 e.a3.a4 e.a3.a5 e.a3.a6 e.a3.a7 e.a3.a8 e.a3.a9 e.a3.a10 e.a3.a11 e.a3.a12 e.a3.a13 e.a3.a14 e.a3.a15} := (rfl)
def eH (e : E) (f : ax V → ax V) : E := {e with a3 := f e.a3}
theorem agM (e : E) (f) : eH e f = {e with a3 := f e.a3} := (rfl)
theorem ax.k4e {α β : Type} (e : ax α) (v : α) (k : ax α → β) : ax.k4 e v k = k {e with a4 := v} := (rfl)
theorem ax.u4e {α : Type} (sk : ax α → α → (ax α → ax (ax α)) → ax (ax α)) (e : ax (ax α)) (v : α) : ax.u4 sk e v = sk e.a4 v (fun y => {e with a4 := y}) := (rfl)
theorem ag7 (e : E) (k) : T0 e k = {e with a4 := k e.a4.a0 e.a4.a1 e.a4.a2 e.a4.a3 e.a4.a4 e.a4.a5 e.a4.a6 e.a4.a7 e.a4.a8 e.a4.a9 e.a4.a10 e.a4.a11 e.a4.a12 e.a4.a13 e.a4.a14 e.a4.a15} := (rfl)
def jh (e : E) (f : ax V → ax V) : E := {e with a4 := f e.a4}
theorem agq (e : E) (f) : jh e f = {e with a4 := f e.a4} := (rfl)
theorem ax.k5e {α β : Type} (e : ax α) (v : α) (k : ax α → β) : ax.k5 e v k = k {e with a5 := v} := (rfl)
theorem ax.u5e {α : Type} (sk : ax α → α → (ax α → ax (ax α)) → ax (ax α)) (e : ax (ax α)) (v : α) : ax.u5 sk e v = sk e.a5 v (fun y => {e with a5 := y}) := (rfl)
def kQ (e : E) (f : ax V → ax V) : E := {e with a5 := f e.a5}
theorem agB (e : E) (f) : kQ e f = {e with a5 := f e.a5} := (rfl)
theorem ax.k6e {α β : Type} (e : ax α) (v : α) (k : ax α → β) : ax.k6 e v k = k {e with a6 := v} := (rfl)
theorem ax.u6e {α : Type} (sk : ax α → α → (ax α → ax (ax α)) → ax (ax α)) (e : ax (ax α)) (v : α) : ax.u6 sk e v = sk e.a6 v (fun y => {e with a6 := y}) := (rfl)
theorem af9 (e : E) (k) : rw6 e k = {e with a6 := k e.a6.a0 e.a6.a1 e.a6.a2 e.a6.a3 e.a6.a4 e.a6.a5 e.a6.a6 e.a6.a7 e.a6.a8 e.a6.a9 e.a6.a10 e.a6.a11 e.a6.a12 e.a6.a13 e.a6.a14 e.a6.a15} := (rfl)
def kU (e : E) (f : ax V → ax V) : E := {e with a6 := f e.a6}
theorem agf (e : E) (f) : kU e f = {e with a6 := f e.a6} := (rfl)
theorem ax.k7e {α β : Type} (e : ax α) (v : α) (k : ax α → β) : ax.k7 e v k = k {e with a7 := v} := (rfl)
theorem ax.u7e {α : Type} (sk : ax α → α → (ax α → ax (ax α)) → ax (ax α)) (e : ax (ax α)) (v : α) : ax.u7 sk e v = sk e.a7 v (fun y => {e with a7 := y}) := (rfl)
theorem agD (e : E) (k) : rw7 e k = {e with a7 := k e.a7.a0 e.a7.a1 e.a7.a2 e.a7.a3 e.a7.a4 e.a7.a5 e.a7.a6 e.a7.a7 e.a7.a8 e.a7.a9 e.a7.a10 e.a7.a11 e.a7.a12 e.a7.a13 e.a7.a14 e.a7.a15} := (rfl)
def nC (e : E) (f : ax V → ax V) : E := {e with a7 := f e.a7}
theorem agr (e : E) (f) : nC e f = {e with a7 := f e.a7} := (rfl)
theorem ax.k8e {α β : Type} (e : ax α) (v : α) (k : ax α → β) : ax.k8 e v k = k {e with a8 := v} := (rfl)
theorem ax.u8e {α : Type} (sk : ax α → α → (ax α → ax (ax α)) → ax (ax α)) (e : ax (ax α)) (v : α) : ax.u8 sk e v = sk e.a8 v (fun y => {e with a8 := y}) := (rfl)
theorem af0 (e : E) (k) : rw8 e k = {e with a8 := k e.a8.a0 e.a8.a1 e.a8.a2 e.a8.a3 e.a8.a4 e.a8.a5 e.a8.a6 e.a8.a7 e.a8.a8 e.a8.a9 e.a8.a10 e.a8.a11 e.a8.a12 e.a8.a13 e.a8.a14 e.a8.a15} := (rfl)
def oc (e : E) (f : ax V → ax V) : E := {e with a8 := f e.a8}
theorem af6 (e : E) (f) : oc e f = {e with a8 := f e.a8} := (rfl)
theorem ax.k9e {α β : Type} (e : ax α) (v : α) (k : ax α → β) : ax.k9 e v k = k {e with a9 := v} := (rfl)
theorem ax.u9e {α : Type} (sk : ax α → α → (ax α → ax (ax α)) → ax (ax α)) (e : ax (ax α)) (v : α) : ax.u9 sk e v = sk e.a9 v (fun y => {e with a9 := y}) := (rfl)
def yB (e : E) (f : ax V → ax V) : E := {e with a9 := f e.a9}
theorem agl (e : E) (f) : yB e f = {e with a9 := f e.a9} := (rfl)
theorem ax.agv {α β : Type} (e : ax α) (v : α) (k : ax α → β) : ax.zT e v k = k {e with a10 := v} := (rfl)
theorem ax.agu {α : Type} (sk : ax α → α → (ax α → ax (ax α)) → ax (ax α)) (e : ax (ax α)) (v : α) : ax.u10 sk e v = sk e.a10 v (fun y => {e with a10 := y}) := (rfl)
theorem adI (e : E) (k) : abq e k = {e with a10 := k e.a10.a0 e.a10.a1 e.a10.a2 e.a10.a3 e.a10.a4 e.a10.a5 e.a10.a6 e.a10.a7 e.a10.a8 e.a10.a9 e.a10.a10 e.a10.a11 e.a10.a12 e.a10.a13 e.a10.a14 e.a10.a15} := (rfl)
def Qx (e : E) (f : ax V → ax V) : E := {e with a10 := f e.a10}
theorem aey (e : E) (f) : Qx e f = {e with a10 := f e.a10} := (rfl)
theorem ax.afy {α β : Type} (e : ax α) (v : α) (k : ax α → β) : ax.zg e v k = k {e with a11 := v} := (rfl)
theorem ax.ag5 {α : Type} (sk : ax α → α → (ax α → ax (ax α)) → ax (ax α)) (e : ax (ax α)) (v : α) : ax.u11 sk e v = sk e.a11 v (fun y => {e with a11 := y}) := (rfl)
theorem ax.agd {α β : Type} (e : ax α) (v : α) (k : ax α → β) : ax.xG e v k = k {e with a12 := v} := (rfl)
theorem ax.agY {α β : Type} (e : ax α) (v : α) (k : ax α → β) : ax.vH e v k = k {e with a13 := v} := (rfl)
theorem ax.agk {α β : Type} (e : ax α) (v : α) (k : ax α → β) : ax.wu e v k = k {e with a14 := v} := (rfl)
theorem ax.aft {α β : Type} (e : ax α) (v : α) (k : ax α → β) : ax.wO e v k = k {e with a15 := v} := (rfl)
theorem ade (v : V) (e : E) : cV v e = v := (rfl)
theorem Am (g : E → V) (e : E) : aC g e = some (g e) := (rfl)
theorem Y7 (f : V → Option V) (g : E → V) (e : E) : aD f g e = f (g e) := (rfl)
theorem O3 (f : V → V → Option V) (g h : E → V) (e : E) : ak f g h e = f (g e) (h e) := (rfl)
def pkV (c x y : V) : Option V := match c with | .bool b => some (Bool.casesOn (motive := fun _ => V) b y x) | _ => none
theorem MP (c g h : E → V) (e : E) : aO c g h e = pkV (c e) (g e) (h e) := by unfold aO pkV; cases c e <;> rfl
theorem aaZ (x y : V) : pkV (.bool true) x y = some x := (rfl)
theorem Z8 (x y : V) : pkV (.bool false) x y = some y := (rfl)
theorem w9 (e : E) : pV [] e = [] := (rfl)
theorem uK (g : E → V) (l : List (E → V)) (e : E) : pV (g :: l) e = g e :: pV l e := (rfl)
theorem Qg (e : E) : qU [] e = [] := (rfl)
theorem Kp (a b : Nat) (g : E → V) (l : List (Nat × Nat × (E → V))) (e : E) : qU ((a, b, g) :: l) e = (a, b, g e) :: qU l e := (rfl)
theorem NW (f : Nat) (gs : List (E → V)) : aq f gs k e s = k.call f (pV gs e) s := (rfl)
def XQ (n : Int) : Prop := -9223372036854775808 ≤ n ∧ n < 9223372036854775808
theorem jI {n : Int} (h : XQ n) : vE n = n := by
 rw [Mz]
 unfold XQ at h
 show (let m := n % 2 ^ 64; if decide True && decide (2 ^ (64 - 1) ≤ m) then m - 2 ^ 64 else m) = n
 simp only [decide_true, Bool.true_and, decide_eq_true_eq]
 split <;> omega
theorem Po {a b : Int} (h1 : -9223372036854775808 ≤ a + b) (h2 : a + b < 9223372036854775808) : bI bD (.i a) (.i b) = some (.i (a + b)) := by show some (V.i (vE (a + b))) = _; rw [jI ⟨h1, h2⟩]
theorem PM {a b : Int} (h1 : -9223372036854775808 ≤ a - b) (h2 : a - b < 9223372036854775808) : bI ei (.i a) (.i b) = some (.i (a - b)) := by show some (V.i (vE (a - b))) = _; rw [jI ⟨h1, h2⟩]
theorem Bu {a b : Int} (h : b ≠ 0) : oW (.i a) (.i b) = some (.i (a.tmod b)) := by
 have : j7 b 0 = false := by rw [eP]; simpa using h
 show (Bool.casesOn (motive := fun _ => Option V) (j7 b 0) (some (zu .i64 (Int.tmod a b))) none) = _
 rw [this]; rfl
theorem Zm (a b : Int) : bI bp (.i a) (.i b) = some (.bool (decide (a = b))) := by show some (V.bool (j7 a b)) = _; rw [eP]; by_cases h : a = b <;> simp [h]
theorem Zq (a b : Int) : bI sH (.i a) (.i b) = some (.bool (!decide (a = b))) := by show some (V.bool (not (j7 a b))) = _; rw [eP]; by_cases h : a = b <;> simp [h]
theorem ZX (a b : Int) : bI dW (.i a) (.i b) = some (.bool (decide (a < b))) := by show some (V.bool (uu a b)) = _; rw [iA]
theorem Zs (a b : Int) : bI zM (.i a) (.i b) = some (.bool (decide (a ≤ b))) := by show some (V.bool (oK a b)) = _; rw [fL]
theorem Y2 (a b : Int) : bI su (.i a) (.i b) = some (.bool (decide (b < a))) := by show some (V.bool (uu b a)) = _; rw [iA]
theorem Zk (a b : Int) : bI m6 (.i a) (.i b) = some (.bool (decide (b ≤ a))) := by show some (V.bool (oK b a)) = _; rw [fL]
theorem Pz (t : Bool) : gR (.bool t) = some (.bool (!t)) := (rfl)
theorem eL (b o n es : Nat) (c : Option Nat) : aM (.slice b o n c es) = some (.i (n : Int)) := (rfl)
theorem yX : aM .ay = some (.i 0) := (rfl)
theorem PK (n b o : Nat) : aF n (.ptr b o) = some (.ptr b (o + n)) := (rfl)
theorem Qm (b o : Nat) : bF (.ptr b o) = some (.ptr b o) := (rfl)
theorem OS (i : Nat) (l : List V) : dF i (.bH l) = l[i]? := (rfl)
theorem CY (ng : Bool) (b o : Nat) : qf ng Qe (.ptr b o) .jQ = some (.bool ng) := by cases ng <;> rfl
theorem yE (ng : Bool) : qf ng Qe .jQ .jQ = some (.bool (!ng)) := by cases ng <;> rfl
theorem jN {es b o len : Nat} {c : Option Nat} {n : Int} (h0 : 0 ≤ n) (h1 : n < len) : aP es (.slice b o len c es) (.i n) = some (.ptr b (o + n.toNat * es)) := by
 show (Bool.casesOn (motive := fun _ => Option V) (Nat.beq es es) none (Bool.casesOn (motive := fun _ => Option V) (oK 0 n) none (Bool.casesOn (motive := fun _ => Option V) (Nat.blt n.toNat len) none (some (.ptr b (Nat.add o (Nat.mul n.toNat es))))))) = _
 rw [Nat.beq_refl, fL, decide_eq_true h0, dD, decide_eq_true (by omega)]; rfl
theorem dL {b o len : Nat} {c : Option Nat} {n : Int} (h0 : 0 ≤ n) (h1 : n < len) : aP 1 (.slice b o len c 1) (.i n) = some (.ptr b (o + n.toNat)) := by rw [jN h0 h1, Nat.mul_one]
theorem aJ {dS : T aX} {fuel n f : Nat} {F : aX} {args : List V} (h : dS.get f = some F) : (kc dS fuel (n + 1)).call f args s = bA F (kc dS fuel n) args s := by
 show (match dS.get f with | some F => bA F (kc dS fuel n) args s | none => none) = _
 rw [h]
theorem P_ {dS : T aX} {fuel n : Nat} : (kc dS fuel n).fuel = fuel := by cases n <;> rfl
end
/-! ### Loops -/
theorem Lo {a : E → St → aE} (I : Nat → E → St → Prop) (Q : aE → Prop)
 (step : ∀ n e s, I n e s → (∃ e' s' m, a e s = .au e' s' ∧ m < n ∧ I m e' s') ∨ ((∃ id e' s', a e s = .exit id e' s') ∨ (∃ e' s', a e s = .ret e' s')) ∧ Q (a e s)) :
 ∀ (n N : Nat) (e : E) (s : St), n < N → I n e s → Q (pS a N e s) := by
 intro n
 induction n using Nat.strongRecOn with
 | ind n ih =>
   intro N e s hN hI
   cases N with
   | zero => omega
   | succ N =>
     show Q (aE.casesOn (motive := fun _ => aE) (a e s) (fun e s => tick (pS a N e s)) (fun id e s => .exit id e s) (fun e s => .ret e s) .bad)
     rcases step n e s hI with ⟨e', s', m, h, hm, hI'⟩ | ⟨h, hQ⟩
     · rw [h]; exact ih m hm N e' s' (by omega) hI'
     · rcases h with ⟨id, e', s', h⟩ | ⟨e', s', h⟩ <;> rw [h] at hQ ⊢ <;> exact hQ
def og (r : aE) (N : E → St → Prop) (Q : aE → Prop) : Prop := match r with
 | .au e s => N e s
 | .exit id e s => Q (.exit id e s)
 | .ret e s => Q (.ret e s)
 | .bad => False
@[congr] theorem abc {r r' : aE} {N : E → St → Prop} {Q : aE → Prop} (h : r = r') : og r N Q = og r' N Q := by rw [h]
theorem Pe (e : E) (s : St) (N : E → St → Prop) (Q : aE → Prop) : og (.au e s) N Q = N e s := (rfl)
theorem GS (id : Nat) (e : E) (s : St) (N : E → St → Prop) (Q : aE → Prop) : og (.exit id e s) N Q = Q (.exit id e s) := (rfl)
theorem QO (e : E) (s : St) (N : E → St → Prop) (Q : aE → Prop) : og (.ret e s) N Q = Q (.ret e s) := (rfl)
theorem bf {a : E → St → aE} (I : Nat → E → St → Prop) (Q : aE → Prop) (step : ∀ n e s, I n e s → og (a e s) (fun e' s' => ∃ m, m < n ∧ I m e' s') Q) {n N : Nat} {e : E} {s : St} (hN : n < N) (h : I n e s) : Q (pS a N e s) := by
 refine Lo I Q (fun n e s hI => ?_) n N e s hN h
 have := step n e s hI
 unfold og at this
 cases hr : a e s with
 | au e' s' => rw [hr] at this; obtain ⟨m, h1, h2⟩ := this; exact .inl ⟨e', s', m, rfl, h1, h2⟩
 | exit id e' s' => rw [hr] at this; exact .inr ⟨.inl ⟨id, e', s', rfl⟩, this⟩
 | ret e' s' => rw [hr] at this; exact .inr ⟨.inr ⟨e', s', rfl⟩, this⟩
 | bad => rw [hr] at this; exact this.elim
def dg (r : Option (V × St)) (Q : V → St → Prop) : Prop := ∃ v s', r = some (v, s') ∧ Q v s'
@[congr] theorem abe {r r' : Option (V × St)} {Q : V → St → Prop} (h : r = r') : dg r Q = dg r' Q := by rw [h]
theorem Io (v : V) (s : St) (Q : V → St → Prop) : dg (some (v, s)) Q = Q v s := by
 refine propext ⟨fun ⟨v', s', h, hq⟩ => by cases h; exact hq, fun h => ⟨v, s, rfl, h⟩⟩
theorem dg.mono {r : Option (V × St)} {Q Q' : V → St → Prop} (h : dg r Q) (hq : ∀ v s, Q v s → Q' v s) : dg r Q' := let ⟨v, s, h1, h2⟩ := h; ⟨v, s, h1, hq v s h2⟩
end
end Go.Proofs.YtcgdlgbomjnnnaaGreatLab
/- The jL: rules to reckon a run of ours by hand: memory as lists. No condition on the program. -/
namespace Go.Proofs.YtcgdlgbomjnnnaaGreatLab
open Go
set_option linter.unusedVariables false
noncomputable section
section
variable {α : Type}
def T.Full (t : T α) (n : Nat) : Prop := ∀ i, i < n → (t.get i).isSome = true
theorem T.dI {t : T α} {i j : Nat} (x : α) (h : i ≠ j) : (t.set i x).get j = t.get j := by
 cases e : t.get j with
 | some y => exact T.i_ e h
 | none =>
   cases e' : (t.set i x).get j with
   | none => rfl
   | some y => rcases T.jJ e' with ⟨h', _⟩ | ⟨_, h'⟩
               · exact absurd h' h
               · rw [e] at h'; cases h'
theorem T.mS : ∀ {t : T α} {n : Nat} (x : α), t.Full n → (t.set n x).get n = some x := by
 intro t
 induction t with
 | nil =>
   intro n x h
   cases n with
   | zero => rfl
   | succ n => have := h 0 (by omega); rw [T.get_nil] at this; cases this
 | ah v l r ihl ihr =>
   intro n x h
   cases n with
   | zero => rfl
   | succ i =>
     rw [T.gI]
     by_cases hi : i % 2 = 0
     · rw [if_pos hi, T.cq, if_pos hi]
       refine ihl x fun j hj => ?_
       have := h (2 * j + 1) (by omega)
       rw [T.cq, if_pos (by omega), show 2 * j / 2 = j by omega] at this
       exact this
     · rw [if_neg hi, T.cq, if_neg hi]
       refine ihr x fun j hj => ?_
       have := h (2 * j + 1 + 1) (by omega)
       rw [T.cq, if_neg (by omega), show (2 * j + 1) / 2 = j by omega] at this
       exact this
theorem T.sY {t : T α} {n i : Nat} (x : α) (h : t.Full n) (hi : i ≤ n) : (t.set i x).get i = some x := T.mS x fun j hj => h j (by omega)
theorem T.Full.set {t : T α} {n i : Nat} (x : α) (h : t.Full n) (hi : i ≤ n) : (t.set i x).Full n := fun j hj => by
 by_cases e : i = j
 · subst e; rw [T.sY x h hi]; rfl
 · rw [T.dI x e]; exact h j hj
theorem T.Full.next {t : T α} {n : Nat} (x : α) (h : t.Full n) : (t.set n x).Full (n + 1) := fun j hj => by
 by_cases e : n = j
 · subst e; rw [T.mS x h]; rfl
 · rw [T.dI x e]; exact h j (by omega)
end
theorem nD : ∀ (vs : List V) {xs : T V} {o n : Nat}, xs.Full n → o ≤ n → (∀ i, (gG xs o vs).get i = if o ≤ i ∧ i < o + vs.length then vs[i - o]? else xs.get i) ∧ (gG xs o vs).Full (max n (o + vs.length))
 | [], xs, o, n, h, ho => ⟨fun i => by rw [if_neg (by simp)]; rfl, fun j hj => h j (by simp at hj; omega)⟩
 | v :: vs, xs, o, n, h, ho => by
   have hf : (xs.set o v).Full (max n (o + 1)) := fun j hj => by
    by_cases e : o = j
    · subst e; rw [T.sY v h ho]; rfl
    · rw [T.dI v e]; exact h j (by omega)
   obtain ⟨h1, h2⟩ := nD vs (xs := xs.set o v) (o := o + 1) (n := max n (o + 1)) hf (by omega)
   refine ⟨fun i => ?_, ?_⟩
   · show (gG (xs.set o v) (o + 1) vs).get i = _
     rw [h1 i]
     by_cases e : o = i
     · subst e
       rw [if_neg (by omega), if_pos (by simp), T.sY v h ho]; simp
     · by_cases e1 : o + 1 ≤ i ∧ i < o + 1 + vs.length
       · rw [if_pos e1, if_pos (by simp; omega)]
         rw [show i - o = (i - (o + 1)) + 1 by omega]; simp
       · rw [if_neg e1, if_neg (by simp; omega), T.dI v e]
   · show (gG (xs.set o v) (o + 1) vs).Full _
     refine fun j hj => h2 j ?_
     simp at hj; omega
theorem TI {α : Type} (t : T α) : t.Full 0 := fun i hi => absurd hi (by omega)
theorem mJ (l : List V) : (∀ i, (cK l).get i = l[i]?) := fun i => by
 have := (nD l (xs := .nil) (o := 0) (n := 0) (TI _) (Nat.le_refl _)).1 i
 show (gG .nil 0 l).get i = _
 rw [this]
 by_cases h : i < l.length
 · rw [if_pos (by omega)]; simp
 · rw [if_neg (by omega), T.get_nil]; simp; omega
/-! ### Memory as lists -/
def St.cl (s : St) (b : Nat) : Option (List V) := match s.heap.get b with
 | some (.cells n xs) => some ((List.range n).map fun i => (xs.get i).getD .undef)
 | _ => none
def St.mp (s : St) (b : Nat) : Option (List (V × V) × List Nat × Nat) := match s.heap.get b with
 | some (.map es bs cl) => some (es, bs, cl)
 | _ => none
def Ob.full : Ob → Prop
 | .cells n xs => xs.Full n
 | _ => True
structure Wf (s : St) : Prop where
 full : s.heap.Full s.next
 none : ∀ b, s.next ≤ b → s.heap.get b = Option.none
 obs : ∀ b o, s.heap.get b = some o → o.full
section
variable {s : St} {b : Nat}
theorem fl {l : List V} (hw : Wf s) (h : s.cl b = some l) : ∃ xs, s.heap.get b = some (.cells l.length xs) ∧ (∀ i, i < l.length → xs.get i = l[i]?) ∧ xs.Full l.length := by
 unfold St.cl at h
 split at h
 · rename_i n xs hx
   have hf := hw.obs b _ hx
   cases h
   refine ⟨xs, by simpa using hx, fun i hi => ?_, fun i hi => hf i (by simpa using hi)⟩
   simp at hi
   have := hf i hi
   obtain ⟨y, hy⟩ := Option.isSome_iff_exists.1 this
   simp [hi, hy]
 · cases h
theorem HH {n : Nat} {xs : T V} {l : List V} (h : s.heap.get b = some (.cells n xs)) (hn : n = l.length) (hl : ∀ i, i < l.length → xs.get i = l[i]?) : s.cl b = some l := by
 unfold St.cl; rw [h]; simp only
 congr 1
 refine List.ext_getElem? fun i => ?_
 by_cases hi : i < l.length
 · rw [List.getElem?_map]; simp [hn, hi, hl i hi]
 · rw [List.getElem?_eq_none (by simp [hn]; omega), List.getElem?_eq_none (by omega)]
theorem bQ {l : List V} (hw : Wf s) (h : s.cl b = some l) : b < s.next := by
 obtain ⟨xs, hx, _⟩ := fl hw h
 by_cases e : b < s.next
 · exact e
 · rw [hw.none b (by omega)] at hx; cases hx
theorem ZV {m : List (V × V) × List Nat × Nat} (h : s.mp b = some m) : s.heap.get b = some (.map m.1 m.2.1 m.2.2) := by
 unfold St.mp at h
 split at h
 · rename_i hx; cases h; exact hx
 · cases h
theorem adK {m : List (V × V) × List Nat × Nat} (hw : Wf s) (h : s.mp b = some m) : b < s.next := by
 have hx := ZV h
 by_cases e : b < s.next
 · exact e
 · rw [hw.none b (by omega)] at hx; cases hx
theorem xO {n : Nat} {f : Nat → Option V} (hw : Wf s) (h : fQ s b = some (n, f)) : b < s.next := by
 by_cases e : b < s.next
 · exact e
 · unfold fQ at h; rw [hw.none b (by omega)] at h; cases h
theorem oL {s' : St} (h : s'.heap.get b = s.heap.get b) : fQ s' b = fQ s b := by unfold fQ; rw [h]
theorem PR {s' : St} (h : s'.heap.get b = s.heap.get b) : s'.cl b = s.cl b := by unfold St.cl; rw [h]
theorem Q1 {s' : St} (h : s'.heap.get b = s.heap.get b) : s'.mp b = s.mp b := by unfold St.mp; rw [h]
theorem Wf.put (hw : Wf s) {o : Ob} (hb : b < s.next) (ho : o.full) : Wf (s.put b o) where
 full := hw.full.set o (by omega)
 none j hj := by
  show (s.heap.set b o).get j = _
  rw [T.dI o (by have : s.next ≤ j := hj; omega)]; exact hw.none j hj
 obs j o' hj := by
  have hj : (s.heap.set b o).get j = some o' := hj
  rcases T.jJ hj with ⟨_, rfl⟩ | ⟨_, h⟩
  · exact ho
  · exact hw.obs j o' h
theorem Wf.new (hw : Wf s) {o : Ob} (ho : o.full) : Wf (s.new o) where
 full := hw.full.next o
 none j hj := by
  have hj : s.next + 1 ≤ j := hj
  show (s.heap.set s.next o).get j = _
  rw [T.dI o (by omega)]; exact hw.none j (by omega)
 obs j o' hj := by
  have hj : (s.heap.set s.next o).get j = some o' := hj
  rcases T.jJ hj with ⟨_, rfl⟩ | ⟨_, h⟩
  · exact ho
  · exact hw.obs j o' h
theorem MM (hw : Wf s) {o : Ob} (hb : b < s.next) : (s.put b o).heap.get b = some o := T.sY o hw.full (by omega)
theorem sV {o : Ob} {j : Nat} (h : j ≠ b) : (s.put b o).heap.get j = s.heap.get j := T.dI o (Ne.symm h)
theorem aay (hw : Wf s) {o : Ob} : (s.new o).heap.get s.next = some o := T.mS o hw.full
theorem wv {o : Ob} {j : Nat} (h : j ≠ s.next) : (s.new o).heap.get j = s.heap.get j := T.dI o (Ne.symm h)
end
structure Fr (s s' : St) (l : List Nat) : Prop where
 wf : Wf s'
 nx : s.next ≤ s'.next
 same : ∀ j, j < s.next → j ∉ l → s'.heap.get j = s.heap.get j
section
variable {s s' s'' : St} {l l' : List Nat} {b : Nat}
theorem Fr.refl (hw : Wf s) (l : List Nat) : Fr s s l := ⟨hw, Nat.le_refl _, fun _ _ _ => rfl⟩
theorem Fr.trans (h : Fr s s' l) (h' : Fr s' s'' l) : Fr s s'' l := ⟨h'.wf, Nat.le_trans h.nx h'.nx, fun j hj hn => (h'.same j (Nat.lt_of_lt_of_le hj h.nx) hn).trans (h.same j hj hn)⟩
theorem Fr.trans' {l2 : List Nat} (h : Fr s s' l) (h' : Fr s' s'' l2) (hl : ∀ j, j ∈ l2 → j ∈ l ∨ s.next ≤ j) : Fr s s'' l := ⟨h'.wf, Nat.le_trans h.nx h'.nx, fun j hj hn => (h'.same j (Nat.lt_of_lt_of_le hj h.nx) (fun hm => by rcases hl j hm with h | h; exact hn h; omega)).trans (h.same j hj hn)⟩
theorem Fr.mono (h : Fr s s' l) (hl : ∀ j, j ∈ l → j ∈ l' ∨ s.next ≤ j) : Fr s s' l' := ⟨h.wf, h.nx, fun j hj hn => h.same j hj fun hm => by rcases hl j hm with h | h; exact hn h; omega⟩
theorem Fr.cl {x : List V} (hw : Wf s) (h : Fr s s' l) (hb : s.cl b = some x) (hn : b ∉ l) : s'.cl b = some x := (PR (h.same b (bQ hw hb) hn)).trans hb
theorem Fr.mp {x : List (V × V) × List Nat × Nat} (hw : Wf s) (h : Fr s s' l) (hb : s.mp b = some x) (hn : b ∉ l) : s'.mp b = some x := (Q1 (h.same b (adK hw hb) hn)).trans hb
end
def kc0 : KC := ⟨0, fun _ _ _ => none⟩
def cP (v : V) (s : St) : Option V := aQ (cV v) e0 s
def gH (m : Nat) (v : V) (s : St) : Option V := dh m (cV v) e0 s
def wH (m : Nat) (x y : V) (s : St) : Option (V × St) := dJ m (cV x) (cV y) kc0 e0 s
def xM (es : Nat) (x y : V) (s : St) : Option (V × St) := kF es (cV x) (cV y) kc0 e0 s
def vF (es : Nat) (x y : V) (s : St) : Option (V × St) := iX es (cV x) (cV y) kc0 e0 s
def ads (z : List V) (x : V) (s : St) : Option (V × St) := tK z (cV x) kc0 e0 s
def YU (es bytes : Nat) (z : List V) (x y : V) (id : Nat) : Option (V × Ob) := qV es bytes z (cV x) (cV y) e0 id
def tJ (x : V) (id : Nat) : Option (V × Ob) := kH (cV x) e0 id
def eS (len size : Nat) (z : List V) (ps : List (Nat × Nat × V)) (id : Nat) : Option (V × Ob) := match cN z ps with
 | some l => Bool.casesOn (motive := fun _ => Option (V × Ob)) (bn l) none (Bool.casesOn (motive := fun _ => Option (V × Ob)) (Nat.beq l.length (Nat.mul len size)) none (some (.slice id 0 len (some len) size, .cells l.length (cK l))))
 | none => none
section
variable {g h i : E → V} {k : KC} {e : E} {s : St} {id : Nat}
theorem Qw : aQ g e s = cP (g e) s := (rfl)
theorem Mj (m : Nat) : dh m g e s = gH m (g e) s := (rfl)
theorem QX (m : Nat) : dJ m g h k e s = wH m (g e) (h e) s := (rfl)
theorem Gx (es : Nat) : kF es g h k e s = xM es (g e) (h e) s := (rfl)
theorem MU (es : Nat) : iX es g h k e s = vF es (g e) (h e) s := (rfl)
theorem K5 (z : List V) : tK z g k e s = ads z (g e) s := (rfl)
theorem Ek (es bytes : Nat) (z : List V) : qV es bytes z g h e id = YU es bytes z (g e) (h e) id := (rfl)
theorem FV : kH g e id = tJ (g e) id := (rfl)
theorem Ac (len size : Nat) (z : List V) (ps : List (Nat × Nat × (E → V))) : cg len size z ps e id = eS len size z (qU ps e) id := (rfl)
theorem OQ (es : Nat) (lo hi mx : Option (E → V)) : xg es g lo hi mx e = oe es (g e) (mA lo e) (mA hi e) (mA mx e) := (rfl)
theorem K3 : mA (some g) e = some (g e) := (rfl)
theorem Ko : mA none e = none := (rfl)
end
section
variable {s : St} {b o : Nat} {l : List V} {v : V} {k : KC} {e : E}
theorem kJ {xs : T V} (h : s.heap.get b = some (.cells l.length xs)) : fC s b = some (l.length, xs) := by unfold fC; rw [h]
theorem aK (hw : Wf s) (h : s.cl b = some l) (hv : l[o]? = some v) : cP (.ptr b o) s = some v := by
 obtain ⟨xs, h1, h2, _⟩ := fl hw h
 have ho : o < l.length := (List.getElem?_eq_some_iff.1 hv).1
 show (match fQ s b with | some (n, xs) => Bool.casesOn (motive := fun _ => Option V) (Nat.blt o n) none (xs o) | none => none) = _
 rw [fq h1]; simp only
 rw [dD, decide_eq_true ho, h2 o ho, hv]
theorem JN {n : Nat} {f : Nat → Option V} (h : fQ s b = some (n, f)) (ho : o < n) : cP (.ptr b o) s = f o := by
 show (match fQ s b with | some (n, xs) => Bool.casesOn (motive := fun _ => Option V) (Nat.blt o n) none (xs o) | none => none) = _
 rw [h]; simp only
 rw [dD, decide_eq_true ho]
theorem cS (hw : Wf s) (h : s.cl b = some l) (ho : o < l.length) : cP (.ptr b o) s = l[o]? := by
 rw [List.getElem?_eq_getElem ho]; exact aK hw h (List.getElem?_eq_getElem ho)
theorem wJ {xs : Nat → Option V} (h : ∀ i, i < l.length → xs i = l[i]?) : ∀ (n o : Nat), o + n ≤ l.length → qA xs n o = some ((l.drop o).take n)
 | 0, o, _ => by rw [qB]; simp
 | n + 1, o, hn => by
   have ho : o < l.length := by omega
   rw [qR, h o ho, List.getElem?_eq_getElem ho]
   simp only
   rw [wJ h n (o + 1) (by omega)]
   simp only
   rw [List.drop_eq_getElem_cons ho, List.take_succ_cons]
theorem dB {m : Nat} (hw : Wf s) (h : s.cl b = some l) (hm : o + m ≤ l.length) : gH m (.ptr b o) s = some (.agg ((l.drop o).take m)) := by
 obtain ⟨xs, h1, h2, _⟩ := fl hw h
 show (match fQ s b with | some (n, xs) => Bool.casesOn (motive := fun _ => Option V) (Nat.ble (Nat.add o m) n) none (match qA xs m o with | some l => some (.agg l) | none => none) | none => none) = _
 rw [fq h1]; simp only
 have : Nat.ble (Nat.add o m) l.length = true := Nat.ble_eq_true_of_le hm
 rw [this, wJ h2 m o hm]
def St.st (s : St) (b o : Nat) (vs : List V) : St := match s.heap.get b with
 | some (.cells n xs) => s.put b (.cells n (gG xs o vs))
 | _ => s
def dA (l : List V) (o : Nat) (vs : List V) : List V := l.take o ++ vs ++ l.drop (o + vs.length)
theorem gF {vs : List V} (h : o + vs.length ≤ l.length) : (dA l o vs).length = l.length := by simp [dA]; omega
theorem iI {vs : List V} (h : o + vs.length ≤ l.length) (i : Nat) : (dA l o vs)[i]? = if o ≤ i ∧ i < o + vs.length then vs[i - o]? else l[i]? := by
 unfold dA
 by_cases h1 : i < o
 · rw [if_neg (by omega), List.append_assoc, List.getElem?_append_left (by simp; omega)]
   simp [h1]
 · by_cases h2 : i < o + vs.length
   · rw [if_pos (by omega), List.append_assoc, List.getElem?_append_right (by simp; omega), List.getElem?_append_left (by simp; omega)]
     simp; congr 1; omega
   · rw [if_neg (by omega), List.getElem?_append_right (by simp; omega)]
     simp; congr 1; omega
theorem vq (h : o < l.length) : dA l o [v] = l.set o v := by
 refine List.ext_getElem? fun i => ?_
 rw [iI (show o + 1 ≤ l.length by omega), List.getElem?_set]
 by_cases e : o = i
 · subst e; simp [h]
 · rw [if_neg (by simp; omega), if_neg e]
theorem uv {vs : List V} (hw : Wf s) (h : s.cl b = some l) (ho : o + vs.length ≤ l.length) : (s.st b o vs).cl b = some (dA l o vs) ∧ Fr s (s.st b o vs) [b] ∧ (s.st b o vs).next = s.next := by
 obtain ⟨xs, h1, h2, h3⟩ := fl hw h
 have hb := bQ hw h
 have e : s.st b o vs = s.put b (.cells l.length (gG xs o vs)) := by unfold St.st; rw [h1]
 obtain ⟨q1, q2⟩ := nD vs h3 (o := o) (by omega)
 rw [e]
 refine ⟨HH (MM hw hb) (gF ho).symm fun i hi => ?_, ⟨hw.put hb (fun i hi => q2 i (by omega)), Nat.le_refl _, fun j hj hn => sV (by simpa using hn)⟩, rfl⟩
 rw [gF ho] at hi
 rw [q1 i, iI ho, h2 i hi]
theorem PZ (hw : Wf s) (h : s.cl b = some l) (ho : o < l.length) (h1 : v.one = true) : wH 1 (.ptr b o) v s = some (.bH [], s.st b o [v]) := by
 obtain ⟨xs, q1, q2, q3⟩ := fl hw h
 have hc : dG v = some [v] := by cases v <;> first | rfl | cases h1
 have ha : bn [v] = true := by unfold bn; rw [h1]; rfl
 show (match dG v with
  | some l => Bool.casesOn (motive := fun _ => Option (V × St)) (Nat.beq l.length 1) none (Bool.casesOn (motive := fun _ => Option (V × St)) (bn l) none
   (match fC s b with | some (n, xs) => Bool.casesOn (motive := fun _ => Option (V × St)) (Nat.ble (Nat.add o 1) n) none (some (.bH [], s.put b (.cells n (gG xs o l)))) | none => none))
  | none => none) = _
 rw [hc, kJ q1]; simp only
 rw [ha]
 have : Nat.ble (Nat.add o 1) l.length = true := Nat.ble_eq_true_of_le (show o + 1 ≤ l.length by omega)
 rw [this]
 show some (V.bH [], _) = _
 unfold St.st; rw [q1]
theorem PN {vs : List V} {m : Nat} (hw : Wf s) (h : s.cl b = some l) (hm : vs.length = m) (ho : o + m ≤ l.length) (h1 : bn vs = true) : wH m (.ptr b o) (.agg vs) s = some (.bH [], s.st b o vs) := by
 obtain ⟨xs, q1, q2, q3⟩ := fl hw h
 subst hm
 show (Bool.casesOn (motive := fun _ => Option (V × St)) (Nat.beq vs.length vs.length) none (Bool.casesOn (motive := fun _ => Option (V × St)) (bn vs) none
       (match fC s b with | some (n, xs) => Bool.casesOn (motive := fun _ => Option (V × St)) (Nat.ble (Nat.add o vs.length) n) none (some (.bH [], s.put b (.cells n (gG xs o vs)))) | none => none))) = _
 rw [kJ q1, Nat.beq_refl, h1]; simp only
 have : Nat.ble (Nat.add o vs.length) l.length = true := Nat.ble_eq_true_of_le ho
 rw [this]
 unfold St.st; rw [q1]
theorem iG {n : Nat} (hw : Wf s) (hn : n = l.length) : (s.new (.cells n (cK l))).cl s.next = some l ∧ Fr s (s.new (.cells n (cK l))) [] ∧ (s.new (.cells n (cK l))).next = s.next + 1 := by
 subst hn
 refine ⟨HH (aay hw) rfl fun i hi => mJ l i, ⟨hw.new fun i hi => ?_, Nat.le_succ _, fun j hj _ => wv (by omega)⟩, rfl⟩
 rw [mJ]; simpa using hi
end
end
end Go.Proofs.YtcgdlgbomjnnnaaGreatLab
/- The jL: rules to reckon a run of ours by hand: what makes and turns memory. No condition on the program. -/
namespace Go.Proofs.YtcgdlgbomjnnnaaGreatLab
open Go
set_option linter.unusedVariables false
noncomputable section
section
variable {s : St} {b o : Nat} {l : List V} {v : V} {k : KC} {e : E}
theorem xQ {n : Int} (h : 0 ≤ n) : bnd (.i n) = some n.toNat := by
 show (Bool.casesOn (motive := fun _ => Option Nat) (oK 0 n) none (some n.toNat)) = _
 rw [fL, decide_eq_true h]
theorem sP {len top : Nat} {lo hi mx : Option V} {l h m : Nat} (h1 : tO top mx = some m) (h2 : tO len hi = some h) (h3 : tO 0 lo = some l) (a : m ≤ top) (b : h ≤ m) (c : l ≤ h) : tw len top lo hi mx = some (l, h, m) := by
 unfold tw
 rw [h1, h2, h3]; simp only
 rw [cr, cr, cr, decide_eq_true a, decide_eq_true b, decide_eq_true c]
theorem vK {es b o len l h m : Nat} {cap : Option Nat} {lo hi mx : Option V} (hb : tw len (jt len cap) lo hi mx = some (l, h, m)) : oe es (.slice b o len cap es) lo hi mx = some (.slice b (o + l * es) (h - l) (rY l m cap mx) es) := by
 show (Bool.casesOn (motive := fun _ => Option V) (Nat.beq es es) none _) = _
 rw [Nat.beq_refl, hb]; rfl
theorem GD {es b o len : Nat} {cap : Option Nat} {lo hi : Int} (h0 : 0 ≤ lo) (h1 : lo ≤ hi) (h2 : hi ≤ jt len cap) : oe es (.slice b o len cap es) (some (.i lo)) (some (.i hi)) none = some (.slice b (o + lo.toNat * es) (hi.toNat - lo.toNat) (rY lo.toNat (jt len cap) cap none) es) :=
 vK (sP (m := jt len cap) rfl (xQ (by omega)) (xQ h0) (Nat.le_refl _) (by omega) (by omega))
theorem X4 {es b o len : Nat} {cap : Option Nat} {lo : Int} (h0 : 0 ≤ lo) (h1 : lo ≤ len) (h2 : len ≤ jt len cap) : oe es (.slice b o len cap es) (some (.i lo)) none none = some (.slice b (o + lo.toNat * es) (len - lo.toNat) (rY lo.toNat (jt len cap) cap none) es) :=
 vK (sP (m := jt len cap) (h := len) rfl rfl (xQ h0) (Nat.le_refl _) (by omega) (by omega))
theorem T' {es b o len : Nat} {cap : Option Nat} {hi : Int} (h1 : 0 ≤ hi) (h2 : hi ≤ jt len cap) : oe es (.slice b o len cap es) none (some (.i hi)) none = some (.slice b o hi.toNat (rY 0 (jt len cap) cap none) es) := by
 have := vK (es := es) (b := b) (o := o) (cap := cap) (sP (len := len) (top := jt len cap) (m := jt len cap) (h := hi.toNat) (l := 0) (lo := none) (hi := some (.i hi)) (mx := none) rfl (xQ h1) rfl (Nat.le_refl _) (by omega) (by omega))
 rw [show o + 0 * es = o by omega] at this
 exact this
theorem PS {es b o len c : Nat} {lo hi : Int} (h0 : 0 ≤ lo) (h1 : lo ≤ hi) (h2 : hi ≤ c) : oe es (.slice b o len (some c) es) (some (.i lo)) (some (.i hi)) none = some (.slice b (o + lo.toNat * es) (hi.toNat - lo.toNat) (some (c - lo.toNat)) es) := GD h0 h1 h2
theorem Qh {es b o len : Nat} {lo hi : Int} (h0 : 0 ≤ lo) (h1 : lo ≤ hi) (h2 : hi ≤ len) : oe es (.slice b o len none es) (some (.i lo)) (some (.i hi)) none = some (.slice b (o + lo.toNat * es) (hi.toNat - lo.toNat) none es) := GD h0 h1 h2
theorem Zu {es b o len c : Nat} {lo : Int} (h0 : 0 ≤ lo) (h1 : lo ≤ len) (h2 : len ≤ c) : oe es (.slice b o len (some c) es) (some (.i lo)) none none = some (.slice b (o + lo.toNat * es) (len - lo.toNat) (some (c - lo.toNat)) es) := X4 h0 h1 h2
theorem sM {es b o len : Nat} {lo : Int} (h0 : 0 ≤ lo) (h1 : lo ≤ len) : oe es (.slice b o len none es) (some (.i lo)) none none = some (.slice b (o + lo.toNat * es) (len - lo.toNat) none es) := X4 h0 h1 (Nat.le_refl _)
theorem Y6 {es b o len c : Nat} {hi : Int} (h1 : 0 ≤ hi) (h2 : hi ≤ c) : oe es (.slice b o len (some c) es) none (some (.i hi)) none = some (.slice b o hi.toNat (some c) es) := T' h1 h2
theorem lV {es b o len : Nat} {hi : Int} (h1 : 0 ≤ hi) (h2 : hi ≤ len) : oe es (.slice b o len none es) none (some (.i hi)) none = some (.slice b o hi.toNat none es) := T' h1 h2
theorem kL {es b o len : Nat} {c : Option Nat} (hw : Wf s) (h : s.cl b = some l) (ho : o + len * es ≤ l.length) : gJ es s (.slice b o len c es) = some (len, (l.drop o).take (len * es)) := by
 obtain ⟨xs, h1, h2, _⟩ := fl hw h
 cases len with
 | zero =>
   show (Bool.casesOn (motive := fun _ => Option (Nat × List V)) (Nat.beq es es) none _) = _
   rw [Nat.beq_refl, Nat.zero_mul]; rfl
 | succ len =>
   show (Bool.casesOn (motive := fun _ => Option (Nat × List V)) (Nat.beq es es) none (match fQ s b with
    | some (n, xs) => Bool.casesOn (motive := fun _ => Option (Nat × List V)) (Nat.ble (Nat.add o (Nat.mul (len + 1) es)) n) none (match qA xs (Nat.mul (len + 1) es) o with | some l => some (len + 1, l) | none => none)
    | none => none)) = _
   rw [Nat.beq_refl, fq h1]; simp only
   have : Nat.ble (Nat.add o (Nat.mul (len + 1) es)) l.length = true := Nat.ble_eq_true_of_le ho
   rw [this]; simp only
   rw [show Nat.mul (len + 1) es = (len + 1) * es from rfl, wJ h2 _ _ ho]
theorem bN {l : List V} (h : ∀ v ∈ l, v.one = true) : bn l = true := by
 induction l with
 | nil => rfl
 | cons x l ih =>
   show (Bool.casesOn (motive := fun _ => Bool) x.one false (bn l)) = true
   rw [h x (by simp), ih fun v hv => h v (by simp [hv])]
/-! ### Append -/
structure Src (s : St) (es : Nat) (y : V) (n : Nat) (new : List V) : Prop where
 src : gJ es s y = some (n, new)
 one : bn new = true
 len : new.length = n * es
 le : n ≤ 100000000
theorem Src.of {es b2 o2 n2 : Nat} {c2 : Option Nat} {l2 : List V} (hw : Wf s) (h : s.cl b2 = some l2) (hb : o2 + n2 * es ≤ l2.length) (h1 : ∀ v ∈ (l2.drop o2).take (n2 * es), v.one = true) (hle : n2 ≤ 100000000) : Src s es (.slice b2 o2 n2 c2 es) n2 ((l2.drop o2).take (n2 * es)) :=
 ⟨kL hw h hb, bN h1, by simp; omega, hle⟩
theorem Src.full {es b2 n2 : Nat} {c2 : Option Nat} {l2 : List V} (hw : Wf s) (h : s.cl b2 = some l2) (hb : n2 * es = l2.length) (h1 : ∀ v ∈ l2, v.one = true) (hle : n2 ≤ 100000000) : Src s es (.slice b2 0 n2 c2 es) n2 l2 := by
 have := Src.of (c2 := c2) hw h (o2 := 0) (n2 := n2) (es := es) (by omega) (by rw [List.drop_zero, hb, List.take_length]; exact h1) hle
 rwa [List.drop_zero, hb, List.take_length] at this
theorem Src.ay {es : Nat} : Src s es .ay 0 [] := ⟨rfl, rfl, by simp, by omega⟩
theorem cF {a b : Nat} (h : a ≤ b) : Nat.ble a b = true := Nat.ble_eq_true_of_le h
theorem sx {a b : Nat} (h : ¬ a ≤ b) : Nat.ble a b = false := by rw [cr]; exact decide_eq_false h
theorem nw {es b o len n : Nat} {cap : Option Nat} {y : V} {new : List V} (hy : Src s es y n new) (hl : len ≤ 17596481011712) : xM es (.slice b o len cap es) y s = zV es (.slice b o len cap es) n new s := by
 show (match gJ es s y with
 | some (n, new) => Bool.casesOn (motive := fun _ => Option (V × St)) (bn new) none (Bool.casesOn (motive := fun _ => Option (V × St)) (Nat.ble n 100000000) none
  (Bool.casesOn (motive := fun _ => Option (V × St)) (Nat.ble len 17596481011712) none (zV es (.slice b o len cap es) n new s)))
 | none => none) = _
 rw [hy.src]; simp only
 rw [hy.one, cF hy.le, cF hl]
theorem uC {es n : Nat} {y : V} {new : List V} (hy : Src s es y n new) : xM es .ay y s = zV es .ay n new s := by
 show (match gJ es s y with
 | some (n, new) => Bool.casesOn (motive := fun _ => Option (V × St)) (bn new) none (Bool.casesOn (motive := fun _ => Option (V × St)) (Nat.ble n 100000000) none (zV es .ay n new s))
 | none => none) = _
 rw [hy.src]; simp only
 rw [hy.one, cF hy.le]
theorem sN {es n : Nat} {y : V} {new : List V} (hw : Wf s) (hy : Src s es y n new) (hn : 0 < n) :
 ∃ s', (xM es .ay y s = some (.slice s.next 0 n none es, s')) ∧ s'.cl s.next = some new ∧ Fr s s' [] ∧ s'.next = s.next + 1 := by
 obtain ⟨h1, h2, h3⟩ := iG hw (l := new) (n := n * es) hy.len.symm
 refine ⟨_, ?_, h1, h2, h3⟩
 rw [uC hy]
 cases n with
 | zero => omega
 | succ n => rfl
theorem Bc {es : Nat} {y : V} (hy : Src s es y 0 []) {b o len : Nat} {cap : Option Nat} (hl : len ≤ 17596481011712) : xM es (.slice b o len cap es) y s = some (.slice b o len cap es, s) := by
 rw [nw hy hl]
 show (Bool.casesOn (motive := fun _ => Option (V × St)) (Nat.beq es es) none (some (V.slice b o len cap es, s))) = _
 rw [Nat.beq_refl]
theorem KG {es : Nat} {y : V} (hy : Src s es y 0 []) : xM es .ay y s = some (.ay, s) := by
 rw [uC hy]; rfl
theorem mY {es n len : Nat} {y : V} {new : List V} (hw : Wf s) (hy : Src s es y n new) (hn : 0 < n) (hl : len ≤ 17596481011712) (hx : s.cl b = some l) (ho : o + len * es ≤ l.length) :
 ∃ s', (xM es (.slice b o len none es) y s = some (.slice s.next 0 (len + n) none es, s')) ∧ s'.cl s.next = some ((l.drop o).take (len * es) ++ new) ∧ Fr s s' [b] ∧ s'.next = s.next + 1 := by
 have hb := bQ hw hx
 have hwp := hw.put (b := b) (o := .dead) hb trivial
 have hlen : (len + n) * es = ((l.drop o).take (len * es) ++ new).length := by
  have := hy.len
  simp; rw [Nat.add_mul]; omega
 obtain ⟨h1, h2, h3⟩ := iG hwp (l := (l.drop o).take (len * es) ++ new) (n := (len + n) * es) hlen
 refine ⟨_, ?_, h1, ⟨h2.wf, Nat.le_trans (Nat.le_refl _) h2.nx, fun j hj hn => (h2.same j hj (by simp)).trans (sV (by simpa using hn))⟩, h3⟩
 rw [nw hy hl]
 obtain ⟨xs, q1, _⟩ := fl hw hx
 cases n with
 | zero => omega
 | succ n =>
   show (Bool.casesOn (motive := fun _ => Option (V × St)) (Nat.beq es es) none
    (match fC s b with | some _ => (match gJ es s (.slice b o len none es) with | some (_, old) => wF es (Nat.add len (n + 1)) b old new s | none => none) | none => none)) = _
   rw [Nat.beq_refl, kJ q1, kL hw hx ho]; rfl
theorem Gn {es n len c : Nat} {y : V} {new : List V} (hw : Wf s) (hy : Src s es y n new) (hn : 0 < n) (hl : len ≤ 17596481011712) (hc : c < len + n) (hx : s.cl b = some l) (ho : o + len * es ≤ l.length) :
 ∃ s', (xM es (.slice b o len (some c) es) y s = some (.slice s.next 0 (len + n) none es, s')) ∧ s'.cl s.next = some ((l.drop o).take (len * es) ++ new) ∧ Fr s s' [] ∧ s'.next = s.next + 1 := by
 have hlen : (len + n) * es = ((l.drop o).take (len * es) ++ new).length := by
  have := hy.len
  simp; rw [Nat.add_mul]; omega
 obtain ⟨h1, h2, h3⟩ := iG hw (l := (l.drop o).take (len * es) ++ new) (n := (len + n) * es) hlen
 refine ⟨_, ?_, h1, h2, h3⟩
 rw [nw hy hl]
 cases n with
 | zero => omega
 | succ n =>
   show (Bool.casesOn (motive := fun _ => Option (V × St)) (Nat.beq es es) none
    (Bool.casesOn (motive := fun _ => Option (V × St)) (Nat.ble (Nat.add len (n + 1)) c)
          (match gJ es s (.slice b o len (some c) es) with | some (_, old) => xH es (Nat.add len (n + 1)) old new s | none => none) _)) = _
   rw [Nat.beq_refl, sx (show ¬ Nat.add len (n + 1) ≤ c by show ¬ len + (n + 1) ≤ c; omega), kL hw hx ho]; rfl
theorem lX {es b o len n : Nat} {cap : Option Nat} {y : V} {new : List V} (hy : Src s es y n new) (hl : len ≤ 100000000) : vF es (.slice b o len cap es) y s = zV es (.slice b o len cap es) n new s := by
 show (match gJ es s y with
 | some (n, new) => Bool.casesOn (motive := fun _ => Option (V × St)) (bn new) none (Bool.casesOn (motive := fun _ => Option (V × St)) (Nat.ble n 100000000) none
  (Bool.casesOn (motive := fun _ => Option (V × St)) (Nat.ble len 100000000) none (zV es (.slice b o len cap es) n new s)))
 | none => none) = _
 rw [hy.src]; simp only
 rw [hy.one, cF hy.le, cF hl]
theorem rJ {es n : Nat} {y : V} {new : List V} (hy : Src s es y n new) : vF es .ay y s = zV es .ay n new s := by
 show (match gJ es s y with
 | some (n, new) => Bool.casesOn (motive := fun _ => Option (V × St)) (bn new) none (Bool.casesOn (motive := fun _ => Option (V × St)) (Nat.ble n 100000000) none (zV es .ay n new s))
 | none => none) = _
 rw [hy.src]; simp only
 rw [hy.one, cF hy.le]
theorem AN {es n : Nat} {y : V} {new : List V} (hw : Wf s) (hy : Src s es y n new) (hn : 0 < n) :
 ∃ s', (vF es .ay y s = some (.slice s.next 0 n none es, s')) ∧ s'.cl s.next = some new ∧ Fr s s' [] ∧ s'.next = s.next + 1 := by
 obtain ⟨h1, h2, h3⟩ := iG hw (l := new) (n := n * es) hy.len.symm
 refine ⟨_, ?_, h1, h2, h3⟩
 rw [rJ hy]
 cases n with
 | zero => omega
 | succ n => rfl
theorem sy {es : Nat} {y : V} (hy : Src s es y 0 []) {b o len : Nat} {cap : Option Nat} (hl : len ≤ 100000000) : vF es (.slice b o len cap es) y s = some (.slice b o len cap es, s) := by
 rw [lX hy hl]
 show (Bool.casesOn (motive := fun _ => Option (V × St)) (Nat.beq es es) none (some (V.slice b o len cap es, s))) = _
 rw [Nat.beq_refl]
theorem yU {es : Nat} {y : V} (hy : Src s es y 0 []) : vF es .ay y s = some (.ay, s) := by
 rw [rJ hy]; rfl
theorem rS {es n len : Nat} {y : V} {new : List V} (hw : Wf s) (hy : Src s es y n new) (hn : 0 < n) (hl : len ≤ 100000000) (hx : s.cl b = some l) (ho : o + len * es ≤ l.length) :
 ∃ s', (vF es (.slice b o len none es) y s = some (.slice s.next 0 (len + n) none es, s')) ∧ s'.cl s.next = some ((l.drop o).take (len * es) ++ new) ∧ Fr s s' [b] ∧ s'.next = s.next + 1 := by
 have hb := bQ hw hx
 have hwp := hw.put (b := b) (o := .dead) hb trivial
 have hlen : (len + n) * es = ((l.drop o).take (len * es) ++ new).length := by
  have := hy.len
  simp; rw [Nat.add_mul]; omega
 obtain ⟨h1, h2, h3⟩ := iG hwp (l := (l.drop o).take (len * es) ++ new) (n := (len + n) * es) hlen
 refine ⟨_, ?_, h1, ⟨h2.wf, Nat.le_trans (Nat.le_refl _) h2.nx, fun j hj hn => (h2.same j hj (by simp)).trans (sV (by simpa using hn))⟩, h3⟩
 rw [lX hy hl]
 obtain ⟨xs, q1, _⟩ := fl hw hx
 cases n with
 | zero => omega
 | succ n =>
   show (Bool.casesOn (motive := fun _ => Option (V × St)) (Nat.beq es es) none
    (match fC s b with | some _ => (match gJ es s (.slice b o len none es) with | some (_, old) => wF es (Nat.add len (n + 1)) b old new s | none => none) | none => none)) = _
   rw [Nat.beq_refl, kJ q1, kL hw hx ho]; rfl
theorem rB {es n len c : Nat} {y : V} {new : List V} (hw : Wf s) (hy : Src s es y n new) (hn : 0 < n) (hl : len ≤ 100000000) (hc : c < len + n) (hx : s.cl b = some l) (ho : o + len * es ≤ l.length) :
 ∃ s', (vF es (.slice b o len (some c) es) y s = some (.slice s.next 0 (len + n) none es, s')) ∧ s'.cl s.next = some ((l.drop o).take (len * es) ++ new) ∧ Fr s s' [] ∧ s'.next = s.next + 1 := by
 have hlen : (len + n) * es = ((l.drop o).take (len * es) ++ new).length := by
  have := hy.len
  simp; rw [Nat.add_mul]; omega
 obtain ⟨h1, h2, h3⟩ := iG hw (l := (l.drop o).take (len * es) ++ new) (n := (len + n) * es) hlen
 refine ⟨_, ?_, h1, h2, h3⟩
 rw [lX hy hl]
 cases n with
 | zero => omega
 | succ n =>
   show (Bool.casesOn (motive := fun _ => Option (V × St)) (Nat.beq es es) none
    (Bool.casesOn (motive := fun _ => Option (V × St)) (Nat.ble (Nat.add len (n + 1)) c)
          (match gJ es s (.slice b o len (some c) es) with | some (_, old) => xH es (Nat.add len (n + 1)) old new s | none => none) _)) = _
   rw [Nat.beq_refl, sx (show ¬ Nat.add len (n + 1) ≤ c by show ¬ len + (n + 1) ≤ c; omega), kL hw hx ho]; rfl
theorem aeO (n : Int) : (V.i n).one = true := (rfl)
theorem QT (k : IntKind) (n : Int) : (V.int k n).one = true := (rfl)
theorem Ow (t : Bool) : (V.bool t).one = true := (rfl)
theorem PX (t : List Nat) : (V.str t).one = true := (rfl)
theorem QL (b o : Nat) : (V.ptr b o).one = true := (rfl)
theorem Oj : V.jQ.one = true := (rfl)
theorem IX : V.ay.one = true := (rfl)
theorem zL (b o n es : Nat) (c : Option Nat) : (V.slice b o n c es).one = true := (rfl)
theorem Pv (b : Nat) : (V.map b).one = true := (rfl)
theorem IZ : V.lY.one = true := (rfl)
theorem MR (f : Nat) (a b : List V) : (V.func f a b).one = true := (rfl)
theorem zH (t : Nat) (v : V) : (V.iface t v).one = true := (rfl)
theorem wj : bn [] = true := (rfl)
theorem uS (v : V) (l : List V) : bn (v :: l) = (v.one && bn l) := by
 show (Bool.casesOn (motive := fun _ => Bool) v.one false (bn l)) = _
 cases v.one <;> rfl
theorem zO (z : List V) (gs : List (Nat × Nat × (E → V))) : bM z gs e = (cN z (qU gs e)).map .agg := by unfold bM; cases cN z (qU gs e) <;> rfl
theorem rD (z : List V) : cN z [] = some z := (rfl)
theorem eT {z : List V} {off : Nat} {r : List (Nat × Nat × V)} (h1 : v.one = true) (ho : off < z.length) : cN z ((off, 1, v) :: r) = cN (z.set off v) r := by
 have hc : dG v = some [v] := by cases v <;> first | rfl | cases h1
 show (match dG v with
  | some vc => Bool.casesOn (motive := fun _ => Option (List V)) (Nat.beq vc.length 1) none (Bool.casesOn (motive := fun _ => Option (List V)) (Nat.ble (Nat.add off 1) z.length) none (cN (splice z off vc) r))
  | none => none) = _
 rw [hc]
 show (Bool.casesOn (motive := fun _ => Option (List V)) (Nat.ble (Nat.add off 1) z.length) none (cN (splice z off [v]) r)) = _
 rw [cF (show Nat.add off 1 ≤ z.length from ho), show splice z off [v] = dA z off [v] by unfold splice dA; rw [List.append_assoc]; rfl, vq ho]
theorem r8 {z vs : List V} {off m : Nat} {r : List (Nat × Nat × V)} (hm : vs.length = m) (ho : off + m ≤ z.length) : cN z ((off, m, .agg vs) :: r) = cN (dA z off vs) r := by
 subst hm
 show (Bool.casesOn (motive := fun _ => Option (List V)) (Nat.beq vs.length vs.length) none (Bool.casesOn (motive := fun _ => Option (List V)) (Nat.ble (Nat.add off vs.length) z.length) none (cN (splice z off vs) r))) = _
 rw [Nat.beq_refl, cF (show Nat.add off vs.length ≤ z.length from ho), show splice z off vs = dA z off vs by unfold splice dA; rw [List.append_assoc]; rfl]
theorem Kx (o : Ob) : (s.new o).next = s.next + 1 := (rfl)
theorem Jx (x y : Bool) : qD false (.bool x) (.bool y) = some (.bool (decide (x = y))) := by cases x <;> cases y <;> rfl
theorem J9 (x y : Bool) : qD true (.bool x) (.bool y) = some (.bool (!decide (x = y))) := by cases x <;> cases y <;> rfl
theorem Jo (ng : Bool) (b : Nat) : qf ng OV (.map b) .lY = some (.bool ng) := by cases ng <;> rfl
theorem vO (ng : Bool) (b o n es : Nat) (c : Option Nat) : qf ng I9 (.slice b o n c es) .ay = some (.bool ng) := by cases ng <;> rfl
theorem zI (ng : Bool) : qf ng I9 .ay .ay = some (.bool (!ng)) := by cases ng <;> rfl
theorem yV (ng : Bool) : qf ng OV .lY .lY = some (.bool (!ng)) := by cases ng <;> rfl
theorem yD {n : Int} (h1 : -9223372036854775808 ≤ n) (h2 : n < 9223372036854775808) : cT .i64 (.i n) = some (.i n) := by show some (V.i (vE n)) = _; rw [jI ⟨h1, h2⟩]
/-! ### New rows -/
theorem jk {z : V} {id : Nat} (h1 : v.one = true) : eS 1 1 [z] [(0, 1, v)] id = some (.slice id 0 1 (some 1) 1, .cells 1 (cK [v])) := by
 have hc : dG v = some [v] := by cases v <;> first | rfl | cases h1
 have ha : bn [v] = true := bN (by simpa using h1)
 have hf : cN [z] [(0, 1, v)] = some [v] := by
  show (match dG v with
   | some vc => Bool.casesOn (motive := fun _ => Option (List V)) (Nat.beq vc.length 1) none (Bool.casesOn (motive := fun _ => Option (List V)) (Nat.ble (Nat.add 0 1) [z].length) none (cN (splice [z] 0 vc) []))
   | none => none) = _
  rw [hc]; rfl
 unfold eS
 rw [hf]; simp only
 rw [ha]; rfl
theorem dQ {z vs : List V} {id m : Nat} (hz : z.length = m) (hm : vs.length = m) (h1 : bn vs = true) : eS 1 m z [(0, m, .agg vs)] id = some (.slice id 0 1 (some 1) m, .cells m (cK vs)) := by
 have ha := h1
 have hf : cN z [(0, m, .agg vs)] = some vs := by
  show (Bool.casesOn (motive := fun _ => Option (List V)) (Nat.beq vs.length m) none (Bool.casesOn (motive := fun _ => Option (List V)) (Nat.ble (Nat.add 0 m) z.length) none (cN (splice z 0 vs) []))) = _
  have e1 : Nat.beq vs.length m = true := by rw [hm]; exact Nat.beq_refl m
  have e2 : Nat.ble (Nat.add 0 m) z.length = true := cF (show 0 + m ≤ _ by omega)
  rw [e1, e2]
  show some (splice z 0 vs) = _
  unfold splice
  have : z.drop (Nat.add 0 vs.length) = [] := List.drop_eq_nil_of_le (show _ ≤ 0 + vs.length by omega)
  rw [this]; simp
 unfold eS
 rw [hf]; simp only
 have e3 : Nat.beq vs.length (Nat.mul 1 m) = true := by rw [hm, show Nat.mul 1 m = m from Nat.one_mul m]; exact Nat.beq_refl m
 rw [ha, e3, hm]
theorem xh (n : Nat) (z : V) : vA n [z] = List.replicate n z := by
 unfold vA
 refine List.ext_getElem? fun i => ?_
 by_cases h : i < n
 · simp [h, Nat.mod_one]
 · simp [h]
theorem Kj {bytes n c : Nat} {z : V} {id : Nat} (hl : n ≤ c) (hb : c * bytes ≤ 16777216) (hc : c ≤ 16777216) : YU 1 bytes [z] (.i n) (.i c) id = some (.slice id 0 n (some c) 1, .cells c (cK (List.replicate c z))) := by
 show (Bool.casesOn (motive := fun _ => Option (V × Ob)) (Nat.ble n c) none (Bool.casesOn (motive := fun _ => Option (V × Ob)) (Nat.ble (Nat.mul c bytes) 16777216) none (Bool.casesOn (motive := fun _ => Option (V × Ob)) (Nat.ble c 16777216) none
  (some (.slice id 0 n (some c) 1, .cells (Nat.mul c 1) (cK (vA (Nat.mul c 1) [z]))))))) = _
 rw [cF hl, cF (show Nat.mul c bytes ≤ _ from hb), cF hc, show Nat.mul c 1 = c from Nat.mul_one c, xh]
theorem Oh {bytes : Nat} {n : Int} {z : V} {id : Nat} (h0 : 0 ≤ n) (hb : n.toNat * bytes ≤ 16777216) (hc : n ≤ 16777216) : YU 1 bytes [z] (.i n) (.i n) id = some (.slice id 0 n.toNat (some n.toNat) 1, .cells n.toNat (cK (List.replicate n.toNat z))) := by
 have := Kj (bytes := bytes) (n := n.toNat) (c := n.toNat) (z := z) (id := id) (Nat.le_refl _) hb (by omega)
 rwa [show ((n.toNat : Nat) : Int) = n by omega] at this
theorem iw {vs : List V} {id : Nat} (h1 : bn vs = true) : tJ (.agg vs) id = some (.ptr id 0, .cells vs.length (cK vs)) := by
 show (Bool.casesOn (motive := fun _ => Option (V × Ob)) (bn vs) none (some (.ptr id 0, .cells vs.length (cK vs)))) = _
 rw [h1]
theorem Lf {id : Nat} (h1 : v.one = true) : tJ v id = some (.ptr id 0, .cells 1 (cK [v])) := by
 have hc : dG v = some [v] := by cases v <;> first | rfl | cases h1
 show (match dG v with | some l => Bool.casesOn (motive := fun _ => Option (V × Ob)) (bn l) none (some (.ptr id 0, .cells l.length (cK l))) | none => none) = _
 rw [hc]; simp only
 rw [bN (l := [v]) (by simpa using h1)]; rfl
theorem a_ {n id : Nat} {t : T V} : kO n t e id = some (.ptr id 0, .cells n t) := rfl
theorem bu {n : Nat} (hw : Wf s) (hn : n = l.length) : ∃ s', s.new (.cells n (cK l)) = s' ∧ s'.cl s.next = some l ∧ Fr s s' [] ∧ s'.next = s.next + 1 := by
 obtain ⟨h1, h2, h3⟩ := iG hw hn
 exact ⟨_, rfl, h1, h2, h3⟩
theorem cC (hw : Wf s) (h : s.cl b = some l) (ho : o < l.length) (h1 : v.one = true) : ∃ s', (wH 1 (.ptr b o) v s = some (.bH [], s')) ∧ s'.cl b = some (l.set o v) ∧ Fr s s' [b] ∧ s'.next = s.next := by
 obtain ⟨q1, q2, q3⟩ := uv (vs := [v]) hw h (show o + 1 ≤ l.length by omega)
 rw [vq ho] at q1
 exact ⟨_, PZ hw h ho h1, q1, q2, q3⟩
theorem cG {vs : List V} {m : Nat} (hw : Wf s) (h : s.cl b = some l) (hm : vs.length = m) (ho : o + m ≤ l.length) (h1 : ∀ v ∈ vs, v.one = true) : ∃ s', (wH m (.ptr b o) (.agg vs) s = some (.bH [], s')) ∧ s'.cl b = some (dA l o vs) ∧ Fr s s' [b] ∧ s'.next = s.next := by
 obtain ⟨q1, q2, q3⟩ := uv (o := o) (vs := vs) hw h (by omega)
 exact ⟨_, PN hw h hm ho (bN h1), q1, q2, q3⟩
theorem sI {z : V} {len : Nat} {c : Option Nat} {es : Nat} (hw : Wf s) (h : s.cl b = some l) (ho : o + len ≤ l.length) : ∃ s', (ads [z] (.slice b o len c es) s = some (.bH [], s')) ∧ s'.cl b = some (dA l o (List.replicate len z)) ∧ Fr s s' [b] ∧ s'.next = s.next := by
 obtain ⟨xs, p1, _⟩ := fl hw h
 cases len with
 | zero =>
   refine ⟨s, ?_, ?_, Fr.refl hw _, rfl⟩
   · rfl
   · rw [h]; congr 1
     refine List.ext_getElem? fun i => ?_
     rw [iI (by simpa using ho)]; simp; intro a b; omega
 | succ len =>
   obtain ⟨q1, q2, q3⟩ := uv (vs := List.replicate (len + 1) z) hw h (by simpa using ho)
   refine ⟨_, ?_, q1, q2, q3⟩
   show (Bool.casesOn (motive := fun _ => Option (V × St)) (Nat.beq (len + 1) 0)
    (match fC s b with | some (n, xs) => Bool.casesOn (motive := fun _ => Option (V × St)) (Nat.ble (Nat.add o (Nat.mul (len + 1) 1)) n) none (some (.bH [], s.put b (.cells n (gG xs o (vA (Nat.mul (len + 1) 1) [z]))))) | none => none) (some (.bH [], s))) = _
   have e1 : Nat.ble (Nat.add o (Nat.mul (len + 1) 1)) l.length = true := cF (show o + (len + 1) * 1 ≤ l.length by omega)
   rw [kJ p1]; simp only
   rw [e1]
   unfold St.st; rw [p1, show Nat.mul (len + 1) 1 = len + 1 from Nat.mul_one _, xh]; rfl
end
/-! ### Lists that grow -/
def aB : V → List Nat | .slice b _ _ _ _ => [b] | _ => []
def GL (s : St) (v : V) (l : List V) : Prop := (l = [] ∧ v = .ay) ∨ ∃ b, v = .slice b 0 l.length none 1 ∧ s.cl b = some l
section
variable {s : St} {v x : V} {l : List V}
theorem GL.fr {s' : St} {L : List Nat} (h : GL s v l) (hw : Wf s) (f : Fr s s' L) (hd : ∀ b, b ∈ aB v → b ∉ L) : GL s' v l := by
 rcases h with h | ⟨b, h1, h2⟩
 · exact .inl h
 · subst h1; exact .inr ⟨b, rfl, f.cl hw h2 (hd b (by simp [aB]))⟩
theorem GL.len (h : GL s v l) : aM v = some (.i (l.length : Nat)) := by
 rcases h with ⟨rfl, rfl⟩ | ⟨b, rfl, h2⟩ <;> rfl
def SL (s : St) (v : V) (l : List V) : Prop := (l = [] ∧ (v = .ay ∨ ∃ b o c, v = .slice b o 0 c 1)) ∨ ∃ b o c n f, v = .slice b o l.length c 1 ∧ fQ s b = some (n, f) ∧ o + l.length ≤ n ∧ ∀ i, i < l.length → f (o + i) = l[i]?
theorem SL.of {b o : Nat} {c : Option Nat} {M : List V} (hw : Wf s) (h : s.cl b = some M) (h2 : o + l.length ≤ M.length) (h3 : ∀ i, i < l.length → M[o + i]? = l[i]?) : SL s (.slice b o l.length c 1) l := by
 obtain ⟨xs, q1, q2, _⟩ := fl hw h
 exact .inr ⟨b, o, c, _, _, rfl, fq q1, h2, fun i hi => by rw [q2 _ (by omega)]; exact h3 i hi⟩
theorem GL.sl (hw : Wf s) (h : GL s v l) : SL s v l := by
 rcases h with h | ⟨b, rfl, h2⟩
 · exact .inl ⟨h.1, .inl h.2⟩
 · exact SL.of hw h2 (by omega) (fun i _ => by rw [Nat.zero_add])
theorem SL.fr {s' : St} {L : List Nat} (h : SL s v l) (hw : Wf s) (f : Fr s s' L) (hd : ∀ b, b ∈ aB v → b ∉ L) : SL s' v l := by
 rcases h with h | ⟨b, o, c, n, g, h1, h2, h3⟩
 · exact .inl h
 · subst h1; exact .inr ⟨b, o, c, n, g, rfl, (oL (f.same b (xO hw h2) (hd b (by simp [aB])))).trans h2, h3⟩
theorem SL.len (h : SL s v l) : aM v = some (.i (l.length : Nat)) := by
 rcases h with ⟨rfl, rfl | ⟨b, o, c, rfl⟩⟩ | ⟨b, o, c, n, g, rfl, h2⟩ <;> rfl
theorem SL.at (hw : Wf s) (h : SL s v l) {j : Nat} {x : V} (hx : l[j]? = some x) : ∃ q, aP 1 v (.i (j : Nat)) = some q ∧ cP q s = some x := by
 have hj := (List.getElem?_eq_some_iff.1 hx).1
 rcases h with ⟨rfl, _⟩ | ⟨b, o, c, n, g, rfl, h2, h3, h4⟩
 · simp at hx
 · refine ⟨_, dL (by omega) (by omega), ?_⟩
   rw [show ((j : Nat) : Int).toNat = j by omega, JN h2 (by omega), h4 j hj, hx]
theorem jd {g : Nat → Option V} : ∀ {m o : Nat} {l : List V}, l.length = m → (∀ i, i < m → g (o + i) = l[i]?) → qA g m o = some l
 | 0, o, l, hl, _ => by rw [qB, List.length_eq_zero_iff.1 hl]
 | m + 1, o, [], hl, _ => by simp at hl
 | m + 1, o, x :: l, hl, hg => by
   have h0 : g o = some x := hg 0 (by omega)
   rw [qR, h0]; simp only
   rw [jd (m := m) (o := o + 1) (l := l) (by simpa using hl) (fun i hi => by
    have := hg (i + 1) (by omega)
    rw [show o + 1 + i = o + (i + 1) by omega, this]; simp)]
theorem SL.src (h : SL s v l) (h1 : ∀ x ∈ l, x.one = true) (hl : l.length ≤ 100000000) : Src s 1 v l.length l := by
 rcases h with ⟨rfl, rfl | ⟨b, o, c, rfl⟩⟩ | ⟨b, o, c, n, g, rfl, h2, h3, h4⟩
 · exact Src.ay
 · exact ⟨rfl, rfl, by simp, by simp⟩
 · refine ⟨?_, bN h1, by simp, hl⟩
   cases hq : l.length with
   | zero =>
     have : l = [] := List.length_eq_zero_iff.1 hq
     subst this; rfl
   | succ k =>
     show (Bool.casesOn (motive := fun _ => Option (Nat × List V)) (Nat.beq 1 1) none (match fQ s b with
      | some (n, xs) => Bool.casesOn (motive := fun _ => Option (Nat × List V)) (Nat.ble (Nat.add o (Nat.mul (k + 1) 1)) n) none (match qA xs (Nat.mul (k + 1) 1) o with | some l => some (k + 1, l) | none => none)
      | none => none)) = _
     rw [h2]; simp only
     have e1 : Nat.ble (Nat.add o (Nat.mul (k + 1) 1)) n = true := cF (show o + (k + 1) * 1 ≤ n by omega)
     have e2 : qA g (Nat.mul (k + 1) 1) o = some l := by
      rw [show Nat.mul (k + 1) 1 = k + 1 from Nat.mul_one _]
      exact jd hq (fun i hi => h4 i (by omega))
     rw [Nat.beq_refl, e1, e2]
theorem GL.push (hw : Wf s) (h : GL s v l) (h1 : x.one = true) (ho : ∀ y ∈ l, y.one = true) (hl : l.length ≤ 17596481011712) :
 ∃ s1 s2, s.new (.cells 1 (cK [x])) = s1 ∧ (xM 1 v (.slice s.next 0 1 (some 1) 1) s1 = some (.slice (s.next + 1) 0 (l.length + 1) none 1, s2)) ∧
   GL s2 (.slice (s.next + 1) 0 (l.length + 1) none 1) (l ++ [x]) ∧ Fr s s2 (aB v) ∧ s2.next = s.next + 2 := by
 obtain ⟨s1, e1, c1, f1, n1⟩ := bu (s := s) (l := [x]) (n := 1) hw rfl
 have hy : Src s1 1 (.slice s.next 0 1 (some 1) 1) 1 [x] := Src.full f1.wf c1 rfl (by simpa using h1) (by omega)
 rcases h with ⟨rfl, rfl⟩ | ⟨b, rfl, h2⟩
 · obtain ⟨s2, e2, c2, f2, n2⟩ := sN f1.wf hy (by omega)
   rw [n1] at e2 c2
   exact ⟨s1, s2, e1, e2, .inr ⟨_, rfl, c2⟩, f1.trans f2, by omega⟩
 · have hb := bQ hw h2
   obtain ⟨s2, e2, c2, f2, n2⟩ := mY (s := s1) (es := 1) (len := l.length) (o := 0) (b := b) f1.wf hy (by omega) hl (f1.cl hw h2 (by simp)) (by omega)
   rw [n1] at e2 c2
   refine ⟨s1, s2, e1, e2, .inr ⟨s.next + 1, by simp, ?_⟩, (f1.mono (by simp)).trans f2, by omega⟩
   rw [c2]; simp
end
end
end Go.Proofs.YtcgdlgbomjnnnaaGreatLab
/- The jL: rules to reckon a run of ours by hand: regions that draw their order; bytes and texts; maps. No condition on the program. -/
namespace Go.Proofs.YtcgdlgbomjnnnaaGreatLab
open Go
set_option linter.all false
noncomputable section
/-! ### Regions that draw their order -/
def oR (k : KC) (l : List DT) (e : E) (s : St) (c : List (V × E × St) → aE) : aE := match cz k l e s with
 | none => .bad
 | some r => c r
section
variable {k : KC} {e : E} {s : St} {l : List DT} {u : E → V → E} {c : List (V × E × St) → aE}
theorem I_ : fK l k e s = oR k l e s fun r => Bool.casesOn (motive := fun _ => aE) (hO (snaps s l r) l e r) .bad (fZ e s r) := (rfl)
theorem Qa : oR k [] e s c = c [] := (rfl)
theorem abX {f : E → Option V} : oR k (⟨none, .p f, u⟩ :: l) e s c = bP (f e) fun v => oR k l (u e v) s fun r => c ((v, u e v, s) :: r) := by
 simp only [oR, cz, cB, iZ]
 cases f e with
 | none => rfl
 | some v => simp only [bP]; cases cz k l (u e v) s <;> rfl
theorem abZ {lo hi : Nat} {f : E → St → Option V} : oR k (⟨none, .d lo hi f, u⟩ :: l) e s c = bP (f e s) fun v => oR k l (u e v) s fun r => c ((v, u e v, s) :: r) := by
 simp only [oR, cz, cB, iZ]
 cases f e s with
 | none => rfl
 | some v => simp only [bP]; cases cz k l (u e v) s <;> rfl
theorem adb {f : E → Nat → Option (V × Ob)} : oR k (⟨none, .a f, u⟩ :: l) e s c = bE (cZ (f e s.next) s) fun v s' => oR k l (u e v) s' fun r => c ((v, u e v, s') :: r) := by
 simp only [oR, cz, cB, iZ]
 cases f e s.next with
 | none => rfl
 | some v => simp only [bE, cZ]; cases cz k l (u e v.1) (s.new v.2) <;> rfl
theorem adE {f : KC → E → St → Option (V × St)} : oR k (⟨none, .e f, u⟩ :: l) e s c = bE (f k e s) fun v s' => oR k l (u e v) s' fun r => c ((v, u e v, s') :: r) := by
 simp only [oR, cz, cB, iZ]
 cases f k e s with
 | none => rfl
 | some v => simp only [bE]; cases cz k l (u e v.1) v.2 <;> rfl
theorem wh : fZ e s [] = .au e s := (rfl)
theorem uL (v : V) (e' : E) (s' : St) (r : List (V × E × St)) : fZ e s ((v, e', s') :: r) = fZ e' s' r := (rfl)
variable {g : Option (Nat × Bool)} {v : V} {e' : E} {s' : St} {r : List (V × E × St)} {sn : List St}
theorem zB : snaps s [] r = [s] := by unfold snaps; rfl
theorem Ql {f : E → Option V} : snaps s (⟨g, .p f, u⟩ :: l) ((v, e', s') :: r) = snaps s l r := (rfl)
theorem Qs {lo hi : Nat} {f : E → St → Option V} : snaps s (⟨g, .d lo hi f, u⟩ :: l) ((v, e', s') :: r) = snaps s l r := (rfl)
theorem OX {f : E → Nat → Option (V × Ob)} : snaps s (⟨g, .a f, u⟩ :: l) ((v, e', s') :: r) = snaps s l r := (rfl)
theorem QS {f : KC → E → St → Option (V × St)} : snaps s (⟨g, .e f, u⟩ :: l) ((v, e', s') :: r) = s :: snaps s' l r := (rfl)
theorem JA : hO sn [] e r = true := by unfold hO; rfl
theorem YT {f : E → Option V} : hO sn (⟨g, .p f, u⟩ :: l) e ((v, e', s') :: r) = hO sn l e' r := (rfl)
theorem aaF {f : E → Nat → Option (V × Ob)} : hO sn (⟨g, .a f, u⟩ :: l) e ((v, e', s') :: r) = hO sn l e' r := (rfl)
theorem ZD {f : KC → E → St → Option (V × St)} : hO sn (⟨g, .e f, u⟩ :: l) e ((v, e', s') :: r) = hO sn l e' r := (rfl)
def lq (x : Option V) (v : V) : Bool := match x with | some v' => dO 100 v' v | none => false
theorem aa' {lo hi : Nat} {f : E → St → Option V} : hO sn (⟨none, .d lo hi f, u⟩ :: l) e ((v, e', s') :: r) = (((sn.drop lo).take (hi + 1 - lo)).all (fun t => lq (f e t) v) && hO sn l e' r) := by
 show (Bool.casesOn (motive := fun _ => Bool) (((sn.drop lo).take (hi + 1 - lo)).all fun t => lq (f e t) v) false (hO sn l e' r)) = _
 cases ((sn.drop lo).take (hi + 1 - lo)).all fun t => lq (f e t) v <;> rfl
theorem eB (h : dO 100 v v = true) : lq (some v) v = true := h
theorem qu {t : DT} : oR k (t :: l) e s c = bE (cB k t e s) fun v s' => oR k l (t.u e v) s' fun r => c ((v, t.u e v, s') :: r) := by
 simp only [oR, cz]
 cases cB k t e s with
 | none => rfl
 | some v => simp only [bE]; cases cz k l (t.u e v.1) v.2 <;> rfl
theorem PU {j : Nat} {w : Bool} {f : E → Option V} : cB k ⟨some (j, w), .p f, u⟩ e s = (aN (Gt j e) w (f e)).map fun v => (v, s) := by
 simp only [cB, iZ]
 generalize Gt j e = x
 unfold aN
 cases x with
 | bool b => cases b <;> cases w <;> simp <;> cases f e <;> rfl
 | bH l => cases l <;> rfl
 | _ => rfl
theorem Pk {j lo hi : Nat} {w : Bool} {f : E → St → Option V} : cB k ⟨some (j, w), .d lo hi f, u⟩ e s = (aN (Gt j e) w (f e s)).map fun v => (v, s) := by
 simp only [cB, iZ]
 generalize Gt j e = x
 unfold aN
 cases x with
 | bool b => cases b <;> cases w <;> simp <;> cases f e s <;> rfl
 | bH l => cases l <;> rfl
 | _ => rfl
theorem ON {j : Nat} {w : Bool} {f : KC → E → St → Option (V × St)} : cB k ⟨some (j, w), .e f, u⟩ e s = ia (Gt j e) w s (f k e s) := by
 simp only [cB, iZ]
 generalize Gt j e = x
 unfold ia
 cases x with
 | bool b => cases b <;> cases w <;> simp
 | bH l => cases l <;> rfl
 | _ => rfl
theorem aa9 {j : Nat} {w : Bool} {f : E → Option V} : oR k (⟨some (j, w), .p f, u⟩ :: l) e s c = bP (aN (Gt j e) w (f e)) fun v => oR k l (u e v) s fun r => c ((v, u e v, s) :: r) := by
 rw [qu, PU]; cases aN (Gt j e) w (f e) <;> rfl
theorem aan {j lo hi : Nat} {w : Bool} {f : E → St → Option V} : oR k (⟨some (j, w), .d lo hi f, u⟩ :: l) e s c = bP (aN (Gt j e) w (f e s)) fun v => oR k l (u e v) s fun r => c ((v, u e v, s) :: r) := by
 rw [qu, Pk]; cases aN (Gt j e) w (f e s) <;> rfl
theorem Zp {j : Nat} {w : Bool} {f : KC → E → St → Option (V × St)} : oR k (⟨some (j, w), .e f, u⟩ :: l) e s c = bE (ia (Gt j e) w s (f k e s)) fun v s' => oR k l (u e v) s' fun r => c ((v, u e v, s') :: r) := by
 rw [qu, ON]
def mV (x : V) (w : Bool) (b : Bool) : Bool := match x with | .bool y => Bool.casesOn (motive := fun _ => Bool) (Bool.casesOn (motive := fun _ => Bool) w (not y) y) true b | _ => true
theorem NT (b : Bool) : mV (.bool true) true b = b := (rfl)
theorem Jm (b : Bool) : mV (.bool false) false b = b := (rfl)
theorem Np (b : Bool) : mV (.bool true) false b = true := (rfl)
theorem I1 (b : Bool) : mV (.bool false) true b = true := (rfl)
theorem zG (w b : Bool) : mV (.bH []) w b = true := (rfl)
theorem QF {j lo hi : Nat} {w : Bool} {f : E → St → Option V} : hO sn (⟨some (j, w), .d lo hi f, u⟩ :: l) e ((v, e', s') :: r) = (mV (Gt j e) w (((sn.drop lo).take (hi + 1 - lo)).all (fun t => lq (f e t) v)) && hO sn l e' r) := by
 have h : rq sn ⟨some (j, w), .d lo hi f, u⟩ e v = mV (Gt j e) w (((sn.drop lo).take (hi + 1 - lo)).all (fun t => lq (f e t) v)) := by
  simp only [rq, iZ]
  generalize Gt j e = x
  unfold mV
  cases x with
  | bool b => cases b <;> cases w <;> simp <;> rfl
  | bH l => cases l <;> simp
  | _ => simp
 show (Bool.casesOn (motive := fun _ => Bool) (rq sn ⟨some (j, w), .d lo hi f, u⟩ e v) false (hO sn l e' r)) = _
 rw [h]
 cases mV (Gt j e) w (((sn.drop lo).take (hi + 1 - lo)).all (fun t => lq (f e t) v)) <;> rfl
theorem dU (x y : aE) : Bool.casesOn (motive := fun _ => aE) true x y = y := (rfl)
end
def cvV (fok : T Bool) (v : V) (l : List V) (k : KC) (s : St) : Option (V × St) := match v with
 | .func f a b => (match fok.get f with | some true => k.call f (a ++ l ++ b) s | _ => none)
 | _ => none
theorem cY {fok : T Bool} {g : E → V} {gs : List (E → V)} {k : KC} {e : E} {s : St} : fP fok g gs k e s = cvV fok (g e) (pV gs e) k s := (rfl)
theorem eO {fok : T Bool} {f : Nat} {a b l : List V} {k : KC} {s : St} (h : fok.get f = some true) : cvV fok (.func f a b) l k s = k.call f (a ++ l ++ b) s := by unfold cvV; simp only [h]
theorem xN {f : Nat} {a b : List (E → V)} {e : E} : vw f a b e = some (.func f (pV a e) (pV b e)) := (rfl)
theorem mH (n : Int) : j7 n n = true := by rw [eP]; simp
theorem wP (n : Int) : dO 100 (.i n) (.i n) = true := mH n
theorem zA (b : Bool) : dO 100 (.bool b) (.bool b) = true := by cases b <;> rfl
theorem jl : dO 100 .ay .ay = true := (rfl)
theorem Jh (b o : Nat) : dO 100 (.ptr b o) (.ptr b o) = true := by show and (Nat.beq b b) (Nat.beq o o) = true; rw [Nat.beq_refl, Nat.beq_refl]; rfl
theorem Nq (b : Nat) : dO 100 (.map b) (.map b) = true := Nat.beq_refl b
theorem ep (b o n es : Nat) (c : Option Nat) : dO 100 (.slice b o n c es) (.slice b o n c es) = true := by
 show and (and (Nat.beq b b) (Nat.beq o o)) (and (and (Nat.beq n n) (Nat.beq es es)) (c == c)) = true
 simp
section
variable {s : St} {k : KC} {e : E}
def bJ (n : Nat) : V := .int .u8 (n : Int)
end
end
end Go.Proofs.YtcgdlgbomjnnnaaGreatLab
/- The jL: rules to reckon a run of ours by hand: calls through interfaces, numbers without a sign. No condition on the program. -/
namespace Go.Proofs.YtcgdlgbomjnnnaaGreatLab
open Go
set_option linter.all false
noncomputable section
def bL (o : Option V) (c : V → Option (V × St)) : Option (V × St) := match o with | some v => c v | none => none
section
variable {ms : List (Nat × Nat × RM)} {v u z : V} {l : List V} {k : KC} {s : St} {t t' f : Nat} {m : RM} {c : V → Option (V × St)} {g : E → V} {gs : List (E → V)} {e : E}
@[congr] theorem aeK {o o' : Option V} (h : o = o') : bL o c = bL o' c := by rw [h]
end
theorem aaW (a b : Int) : bK .u64 dW (.int .u64 a) (.int .u64 b) = some (.bool (decide (a < b))) := by
 show some (V.bool (uu a b)) = _; rw [iA]
theorem Ze (a b : Int) : bK .u64 zM (.int .u64 a) (.int .u64 b) = some (.bool (decide (a ≤ b))) := by
 show some (V.bool (oK a b)) = _; rw [fL]
theorem aba (a b : Int) : bK .u64 bp (.int .u64 a) (.int .u64 b) = some (.bool (decide (a = b))) := by
 show some (V.bool (j7 a b)) = _; rw [eP]; by_cases h : a = b <;> simp [h]
theorem wrap64 {n : Int} (h0 : 0 ≤ n) (h1 : n < 18446744073709551616) : IntKind.wrap .u64 n = n := by
 have : IntKind.wrap .u64 n = n % 18446744073709551616 := by
  simp [IntKind.wrap, IntKind.bits, IntKind.signed]
 rw [this]; omega
theorem Pu {a b : Int} (h0 : 0 ≤ a + b) (h1 : a + b < 18446744073709551616) : bK .u64 (fun a b => .int .u64 (IntKind.wrap .u64 (Int.add a b))) (.int .u64 a) (.int .u64 b) = some (.int .u64 (a + b)) := by
 show some (V.int .u64 (IntKind.wrap .u64 (a + b))) = _; rw [wrap64 h0 h1]
theorem agR {n : Int} (h0 : 0 ≤ n) (h1 : n < 18446744073709551616) : cT .u64 (.i n) = some (.int .u64 n) := by
 show some (V.int .u64 (IntKind.wrap .u64 n)) = _; rw [wrap64 h0 h1]
theorem xp {n : Int} (h0 : -9223372036854775808 < n) (h1 : n ≤ 9223372036854775808) : Dk (.i n) = some (.i (-n)) := by
 show some (V.i (vE (0 - n))) = _
 rw [show (0 : Int) - n = -n by omega, jI ⟨by omega, by omega⟩]
theorem dz : (∀ n : Int, (V.i n).one = true) ∧ (∀ (k : IntKind) (n : Int), (V.int k n).one = true) ∧ (∀ b : Bool, (V.bool b).one = true) ∧ (∀ l, (V.str l).one = true) ∧ (∀ b o : Nat, (V.ptr b o).one = true) ∧ V.jQ.one = true ∧ V.ay.one = true ∧ (∀ (b o n es : Nat) (c : Option Nat), (V.slice b o n c es).one = true) ∧ (∀ b : Nat, (V.map b).one = true) ∧ V.lY.one = true ∧ (∀ (f : Nat) (a b : List V), (V.func f a b).one = true) ∧ (∀ (t : Nat) (v : V), (V.iface t v).one = true)
 ∧ (∀ n : Int, dO 100 (.i n) (.i n) = true) ∧ (∀ b : Bool, dO 100 (.bool b) (.bool b) = true) ∧ dO 100 .ay .ay = true ∧ (∀ b o : Nat, dO 100 (.ptr b o) (.ptr b o) = true) ∧ (∀ b : Nat, dO 100 (.map b) (.map b) = true) ∧ (∀ (b o n es : Nat) (c : Option Nat), dO 100 (.slice b o n c es) (.slice b o n c es) = true)
 ∧ (∀ (v : V) (l : List V), bn (v :: l) = (v.one && bn l)) ∧ bn [] = true :=
 ⟨aeO, QT, Ow, PX, QL, Oj, IX, zL, Pv, IZ, MR, zH, wP, zA, jl, Jh, Nq, ep, uS, wj⟩
theorem dl : (∀ {α : Type} (a : α) (l : List α), (a :: l).length = l.length + 1) ∧ (∀ {α : Type}, ([] : List α).length = 0) ∧ (∀ {α β : Type} (f : α → β) (l : List α), (l.map f).length = l.length) ∧ (∀ {α : Type} (l : List α) (i : Nat) (a : α), (l.set i a).length = l.length) :=
 ⟨fun a l => List.length_cons, List.length_nil, fun f l => List.length_map .., fun l i a => List.length_set ..⟩
end
end Go.Proofs.YtcgdlgbomjnnnaaGreatLab
/- The jL: a world taken in whole: its rows are looked at, and never tF; a law's run over them. No condition on the program. -/
namespace Go.Proofs.YtcgdlgbomjnnnaaGreatLab
open Go
set_option linter.all false
noncomputable section
section
variable {α : Type}
def T.fill (t : T α) (o : Nat) : List α → T α | [] => t | x :: l => (t.set o x).fill (o + 1) l
theorem T.uk : ∀ (l : List α) {t : T α} {o : Nat}, t.Full o → (∀ i, o ≤ i → t.get i = none) → (∀ i, (t.fill o l).get i = if i < o then t.get i else l[i - o]?) ∧ (t.fill o l).Full (o + l.length)
 | [], t, o, h, hn => ⟨fun i => by
  show t.get i = _
  by_cases hi : i < o
  · rw [if_pos hi]
  · rw [if_neg hi, hn i (by omega)]; simp, h⟩
 | x :: l, t, o, h, hn => by
   obtain ⟨h1, h2⟩ := T.uk l (t := t.set o x) (o := o + 1) (h.next x) (fun i hi => by rw [T.dI x (by omega)]; exact hn i (by omega))
   refine ⟨fun i => ?_, ?_⟩
   · show ((t.set o x).fill (o + 1) l).get i = _
     rw [h1 i]
     by_cases hi : i < o
     · rw [if_pos (by omega), if_pos hi, T.dI x (by omega)]
     · by_cases e : i = o
       · subst e; rw [if_pos (by omega), if_neg hi, T.mS x h]; simp
       · rw [if_neg (by omega), if_neg hi, show i - o = (i - (o + 1)) + 1 by omega]; simp
   · show ((t.set o x).fill (o + 1) l).Full _
     intro i hi
     exact h2 i (by simp at hi; omega)
end
/-! ### A world's rows -/
def imp (W : World) (es k : Nat) : Value → Option V
 | .bool b => some (.bool b)
 | .int .i64 n => some (.i n)
 | .int k n => some (.int k n)
 | .string s => some (.str (aaf s))
 | .pointer none => some .jQ
 | .slice none 0 0 => some .ay
 | .slice (some a) len cap =>
   if len ≤ cap then
    (if cap = 0 then some (.slice k 0 0 none es) else
     match W.heap[a.block]? with
     | some (.cells c _ _) => if a.spot = none ∧ a.off + cap * es ≤ c.size then some (.slice a.block a.off len none es) else none
     | _ => none)
   else none
 | _ => none
def h_ (W : World) : Pl := fun b => match W.heap[b]? with | some (.cells c _ _) => some ⟨b, 0, c.size⟩ | _ => none
def rV (W : World) (es k : Nat) : Obj → Ob
 | .cells c _ _ => .ro c.size fun i => match c[i]? with | some x => imp W es k x | none => none
 | _ => .dead
def nH (W : World) (es : Nat) : St := ⟨T.fill .nil 0 ((List.range W.heap.size).map fun k => match W.heap[k]? with | some o => rV W es k o | none => .dead), W.heap.size⟩
theorem iE (W : World) (es b : Nat) : (nH W es).heap.get b = (W.heap[b]?).map (rV W es b) := by
 have := (T.uk ((List.range W.heap.size).map fun k => match W.heap[k]? with | some o => rV W es k o | none => .dead) (t := .nil) (o := 0) (TI _) (fun i _ => T.get_nil i)).1 b
 show (T.fill .nil 0 _).get b = _
 rw [this, if_neg (by omega)]
 by_cases h : b < W.heap.size
 · simp [h]
 · simp [h]
theorem aak {W : World} {es k : Nat} {x : Value} {v : V} (hk : ∃ l, h_ W k = some l) (h : imp W es k x = some v) : VR (h_ W) v x ∧ x.oneCell' = true := by
 obtain ⟨lk, hk⟩ := hk
 unfold imp at h
 split at h
 · cases h; exact ⟨.bool _, rfl⟩
 · cases h; exact ⟨.i _, rfl⟩
 · cases h; exact ⟨.int _ _, rfl⟩
 · cases h; exact ⟨.str _, rfl⟩
 · cases h; exact ⟨.jQ, rfl⟩
 · cases h; exact ⟨.ay, rfl⟩
 · rename_i a len cap
   split at h
   · rename_i hle
     split at h
     · rename_i h0; subst h0
       cases h
       have : len = 0 := by omega
       subst this
       exact ⟨.slice _ _ _ _ _ _ lk _ hk (Nat.le_refl _) (fun k h => by cases h) (.inl rfl) (.inl rfl), rfl⟩
     · split at h
       · rename_i c el fz hc
         split at h
         · rename_i hh
           cases h
           have hg : h_ W a.block = some ⟨a.block, 0, c.size⟩ := by unfold h_; rw [hc]
           obtain ⟨ab, ao, as⟩ := a
           obtain ⟨h1, h2⟩ := hh
           simp only at h1 h2 hg hc
           subst h1
           exact ⟨.slice _ _ _ _ _ _ ⟨ab, 0, c.size⟩ _ hg hle (fun k h => by cases h) (.inr (by simp)) (.inr (by simpa using h2)), rfl⟩
         · cases h
       · cases h
   · cases h
 · cases h
theorem O1 (W : World) (es : Nat) : SR (h_ W) (nH W es) W := by
 refine ⟨⟨fun b o hb => ?_, fun b b' o o' l l' _ _ _ _ hl hl' he => ?_⟩, fun b hb => ?_, fun b l hb => ?_⟩
 · rw [iE] at hb
   cases hq : W.heap[b]? with
   | none => rw [hq] at hb; cases hb
   | some ob =>
     rw [hq] at hb
     cases hb
     unfold rV
     split
     · rename_i c el fz
       have hg : h_ W b = some ⟨b, 0, c.size⟩ := by unfold h_; rw [hq]
       refine ⟨⟨b, 0, c.size⟩, c, el, fz, hg, hq, rfl, by simp, fun i x hi hx => ?_⟩
       simp only at hx
       split at hx
       · rename_i y hy
         obtain ⟨h1, h2⟩ := aak ⟨_, hg⟩ hx
         exact ⟨y, by simpa using hy, h1, h2⟩
       · cases hx
     · trivial
 · unfold h_ at hl hl'
   split at hl <;> cases hl
   split at hl' <;> cases hl'
   exact he
 · rw [iE, Array.getElem?_eq_none (by exact hb)]; rfl
 · unfold h_ at hb
   split at hb
   · rename_i hq
     cases hb
     have := (Array.getElem?_eq_some_iff.1 hq).1
     exact ⟨this, this⟩
   · cases hb
theorem Qp (W : World) (es : Nat) : Wf (nH W es) := by
 refine ⟨fun b hb => ?_, fun b hb => ?_, fun b o hb => ?_⟩
 · have hb : b < W.heap.size := hb
   rw [iE]; simp [hb]
 · have hb : W.heap.size ≤ b := hb
   rw [iE, Array.getElem?_eq_none hb]; rfl
 · rw [iE] at hb
   cases hq : W.heap[b]? with
   | none => rw [hq] at hb; cases hb
   | some ob =>
     rw [hq] at hb
     cases hb
     unfold rV
     split <;> trivial
theorem xu {W : World} {es b : Nat} {c : Array Value} {el : TypeId} {fz : Nat × Nat} (h : W.heap[b]? = some (.cells c el fz)) : fQ (nH W es) b = some (c.size, fun i => match c[i]? with | some x => imp W es b x | none => none) :=
 O0 (by rw [iE, h]; rfl)
theorem ZF {P : Program} {dS : T aX} (ht : T.rM (aI P []) dS) {fuel n f es : Nat} {args : List V} {args' : List Value} {W : World} (h : dg ((kc dS fuel n).call f args (nH W es)) (fun v _ => v = .bool true)) (hargs : ew (h_ W) args args') :
 Calls P f ⟨args'⟩ W (fun e w' => e = .returned (.bool true) ∧ RowKit.Below W.heap.size W w') := by
 obtain ⟨v, s', hr, rfl⟩ := h
 refine (sX ht fuel n f args _ _ _ hr _ W args' (fun g hg => by cases hg) hargs (O1 W es)).mono ?_
 intro e w' he
 match e, he with
 | .returned v', ⟨G', g1, g2, g3⟩ =>
   refine ⟨by rw [g3.j_], g1.go.os, g1.go.tape, g1.go.output, g1.go.size, fun k hk => g1.go.same k hk ?_⟩
   rintro ⟨b, o, l, hb, hm, _⟩
   rw [iE] at hb
   cases hq : W.heap[b]? with
   | none => rw [hq] at hb; cases hb
   | some ob =>
     rw [hq] at hb; cases hb
     unfold rV at hm
     split at hm <;> cases hm
end
end Go.Proofs.YtcgdlgbomjnnnaaGreatLab
/- The jL: a law's arguments as ours. No condition on the program. -/
namespace Go.Proofs.YtcgdlgbomjnnnaaGreatLab
open Go Go.WideShapes Go.ChangeShapes
set_option linter.all false
noncomputable section
section
variable {H : Type} {enc : TypeId × Value → H} {P : Program} {W : World} {base b0 : Nat} {r : Reach} {spare : Nat → Bool} {held : Bool}
theorem mW {t e : TypeId} {a : Addr} {len cap : Nat} (ht : P.underlying t = some (.slice e)) (h : Value.okWide P W r base t (.slice (some a) len cap)) : a.spot = none ∧ len ≤ cap ∧ ∃ c el fz, W.heap[a.block]? = some (.cells c el fz) := by
 simp only [Value.okWide, ht, Cell.okWide, Cell.ok] at h
 obtain ⟨h1, _, h2, h3, row, cells, h4, _⟩ := h
 refine ⟨h3, h1, ?_⟩
 unfold World.shape? at h4
 split at h4
 · exact ⟨_, _, _, by assumption⟩
 · cases h4
theorem Ki {t e : TypeId} {v : Value} {d : DataW H} {ps : List MemPlace} (ht : P.underlying t = some (.slice e)) (he : P.underlying e = some (.int .i64)) (hc : P.cellsOf e = 1)
 (hval : Value.okWide P W r b0 t v) (h : DataW.Trod enc P W base (fun _ => true) held t v d ps) :
 ∃ (x : V) (l : List Int), VR (h_ W) x v ∧ SL (nH W 1) x (l.map V.i) ∧ (∀ b ∈ aB x, b < W.heap.size) ∧ l.length ≤ maxLen ∧ ∀ n ∈ l, -9223372036854775808 ≤ n ∧ n < 9223372036854775808 := by
 obtain ⟨fuel, hf⟩ := h
 obtain ⟨a, len, cap, rfl⟩ := okWide_slice ht hval
 rcases open_ints ht he hc hf with ⟨hcs, _⟩ | ⟨a', len', cap', zs, hcs, hb, hl, hm, hzl, hx, hcell, hwf⟩
 · simp [Value.cells] at hcs
   obtain ⟨rfl, rfl, rfl⟩ := hcs
   exact ⟨.ay, [], .ay, .inl ⟨rfl, .inl rfl⟩, fun b hb => by simp [aB] at hb, by simp, fun n hn => by cases hn⟩
 · simp [Value.cells] at hcs
   obtain ⟨rfl, rfl, rfl⟩ := hcs
   simp only [if_true] at hzl
   obtain ⟨hsp, _, c, el, fz, hblk⟩ := mW ht hval
   have hg : h_ W a'.block = some ⟨a'.block, 0, c.size⟩ := by unfold h_; rw [hblk]
   have hlt : a'.block < W.heap.size := (Array.getElem?_eq_some_iff.1 hblk).1
   obtain ⟨ab, ao, as⟩ := a'
   simp only at hsp hblk hg hlt
   subst hsp
   have hcl : ∀ i, i < cap → c[ao + i]? = some (.int .i64 (zs.getD i 0)) := fun i hi => by
    have := hcell i (by omega)
    rw [dM] at this
    unfold World.cell? at this
    simp only [hblk] at this
    simpa using this
   have htot : cap = 0 ∨ ao + cap ≤ c.size := by
    by_cases h0 : cap = 0
    · exact .inl h0
    · have := (Array.getElem?_eq_some_iff.1 (hcl (cap - 1) (by omega))).1
      exact .inr (by omega)
   refine ⟨.slice ab ao len none 1, zs.take len, .slice _ _ _ _ _ _ ⟨ab, 0, c.size⟩ _ hg hl (fun k h => by cases h) (.inr (by simp)) (by simpa using htot), ?_, fun b hb => by simp [aB] at hb; subst hb; exact hlt, by simp; omega, fun n hn => ?_⟩
   · by_cases h0 : len = 0
     · subst h0; exact .inl ⟨by simp, .inr ⟨_, _, _, rfl⟩⟩
     · refine .inr ⟨ab, ao, none, _, _, by simp; omega, xu hblk, by simp; omega, fun i hi => ?_⟩
       simp at hi
       simp only [hcl i (by omega), imp]
       rw [List.getElem?_map, List.getElem?_take, if_pos (by omega), List.getElem?_eq_getElem (by omega)]
       simp [List.getD_eq_getElem?_getD, show i < zs.length by omega]
   · have := hwf n (List.mem_of_mem_take hn)
     simp [Lit.wf, IntKind.min, IntKind.max, IntKind.bits, IntKind.signed] at this
     exact ⟨by omega, by omega⟩
theorem aaC {n : Int} (h : (Lit.int .i64 n).wf = true) : -9223372036854775808 ≤ n ∧ n < 9223372036854775808 := by
 simp [Lit.wf, IntKind.min, IntKind.max, IntKind.bits, IntKind.signed] at h
 exact ⟨by omega, by omega⟩
end
end
end Go.Proofs.YtcgdlgbomjnnnaaGreatLab
/- The jL: slices among a law's arguments, one in the other. No condition on the program. -/
namespace Go.Proofs.YtcgdlgbomjnnnaaGreatLab
open Go Go.WideShapes Go.ChangeShapes
set_option linter.all false
noncomputable section
def SN (s : St) (v : V) (l : List V) : Prop := (l = [] ∧ (v = .ay ∨ ∃ b o, v = .slice b o 0 none 1)) ∨ ∃ b o n f, v = .slice b o l.length none 1 ∧ fQ s b = some (n, f) ∧ o + l.length ≤ n ∧ ∀ i, i < l.length → f (o + i) = l[i]?
section
variable {s : St} {v : V} {l : List V}
theorem SN.sl (h : SN s v l) : SL s v l := by
 rcases h with ⟨h1, h2 | ⟨b, o, h2⟩⟩ | ⟨b, o, n, f, h⟩
 · exact .inl ⟨h1, .inl h2⟩
 · exact .inl ⟨h1, .inr ⟨b, o, none, h2⟩⟩
 · exact .inr ⟨b, o, none, n, f, h⟩
theorem SN.fr {s' : St} {L : List Nat} (h : SN s v l) (hw : Wf s) (f : Fr s s' L) (hd : ∀ b, b ∈ aB v → b ∉ L) : SN s' v l := by
 rcases h with h | ⟨b, o, n, g, h1, h2, h3⟩
 · exact .inl h
 · subst h1; exact .inr ⟨b, o, n, g, rfl, (oL (f.same b (xO hw h2) (hd b (by simp [aB])))).trans h2, h3⟩
theorem SN.cut (h : SN s v l) {m : Int} (hm0 : 0 ≤ m) (hm : m < (l.length : Nat)) : ∃ v', oe 1 v none (some (.i m)) none = some v' ∧ SN s v' (l.take m.toNat) ∧ aB v' = aB v := by
 rcases h with ⟨rfl, _⟩ | ⟨b, o, n, g, rfl, h2, h3, h4⟩
 · simp at hm; omega
 · refine ⟨_, lV hm0 (by omega), .inr ⟨b, o, n, g, ?_, h2, by simp; omega, fun i hi => ?_⟩, rfl⟩
   · congr 1; simp; omega
   · simp at hi
     rw [h4 i (by omega), List.getElem?_take, if_pos (by omega)]
end
section
variable {H : Type} {enc : TypeId × Value → H} {P : Program} {W : World} {base b0 : Nat} {r : Reach} {held : Bool}
theorem vf {t e : TypeId} {m fuel : Nat} {cs : List Value} {x : DataW H × List MemPlace} (ht : P.underlying t = some (.slice e)) (hc : P.cellsOf e = m) (h : DataW.trod enc P W base (fun _ => true) held fuel t cs = some x) :
 cs = [.slice none 0 0] ∨ ∃ (a : Addr) (len cap : Nat), cs = [.slice (some a) len cap] ∧ len ≤ cap ∧ cap ≤ maxLen ∧
  ∀ i, i < cap → ∃ cs' y n', cs'.length = m ∧ (∀ j, j < m → W.cell? (a.add (i * m + j)) = cs'[j]?) ∧ DataW.trod enc P W base (fun _ => true) held n' e cs' = some y := by
 rcases DataW.trod_slice ht h with ⟨h0, _⟩ | ⟨a, len, cap, elems, rest, n, _, h1, _, _, hl, hm, hlen, hel, hsp, _⟩
 · exact .inl h0
 · refine .inr ⟨a, len, cap, h1, hl, hm, fun i hi => ?_⟩
   obtain ⟨hrl, hr⟩ := hsp rfl
   have key : ∃ y, (W.cells? base (a.add (i * P.cellsOf e)) (P.cellsOf e)).bind (DataW.trod enc P W base (fun _ => true) held n e) = some y := by
    by_cases h : i < len
    · exact ⟨elems[i], (hel i h).trans (List.getElem?_eq_getElem (by omega))⟩
    · refine ⟨rest[i - len], ?_⟩
      have := hr (i - len) (by omega)
      rw [show len + (i - len) = i by omega] at this
      exact this.trans (List.getElem?_eq_getElem (by omega))
   obtain ⟨y, hy⟩ := key
   rw [hc] at hy
   cases hq : W.cells? base (a.add (i * m)) m with
   | none => rw [hq] at hy; cases hy
   | some cs' =>
     rw [hq] at hy
     obtain ⟨_, q1, q2⟩ := World.cells?_some hq
     exact ⟨cs', y, n, q1, fun j hj => by rw [← Addr.add_add]; exact q2 j hj, hy⟩
end
end
end Go.Proofs.YtcgdlgbomjnnnaaGreatLab
/- The jL: a function that takes nothing and answers true whatever the world is, as one step of ours. No condition on the program. -/
namespace Go.Proofs.YtcgdlgbomjnnnaaGreatLab
open Go
set_option linter.all false
noncomputable section
def xZ : aX := ⟨[], fun _ e s => .ret e s, fun _ _ => some (.bool true)⟩
theorem wL {dS : T aX} {fuel n f : Nat} {s : St} (h : dS.get f = some xZ) : (kc dS fuel (n + 1)).call f [] s = some (.bool true, s) := by
 show (match dS.get f with | some F => bA F (kc dS fuel n) [] s | none => none) = _
 rw [h]; rfl
theorem aI.aat {P : Program} {gl : List Nat} {f : Nat} (hC : ∀ W, Calls P f #[] W (fun e w' => e = .returned (.bool true) ∧ RowKit.Below W.heap.size W w')) : aI P gl f xZ := by
 intro k hk args s v s' hr G w args' hgl hargs hs
 cases args with
 | cons a l => cases hr
 | nil =>
   cases hr
   cases hargs
   refine (hC w).mono ?_
   rintro e w' ⟨rfl, hw⟩
   refine ⟨G, ⟨⟨Pl.le_refl G, hw.os, hw.tape, hw.output, hw.size, fun m k' hk' => .inl hk', fun k' hk' _ => hw.block k' hk', ?_⟩, Nat.le_refl _, fun _ _ h => h⟩, ⟨⟨fun b o hb => ?_, hs.r.inj⟩, hs.fresh, fun b l hb => ?_⟩, .bool true⟩
   · exact Rows.of hw.block
   · exact (hs.r.ob b o hb).other (Pl.le_refl G) (fun m hm _ => hw.block _ (hs.dom b m hm).2)
   · have := hs.dom b l hb; have := hw.size; omega
end
end Go.Proofs.YtcgdlgbomjnnnaaGreatLab
