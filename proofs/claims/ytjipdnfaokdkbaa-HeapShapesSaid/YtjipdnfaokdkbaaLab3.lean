/- The lab: operations that hang on their operands alone, each beside the model's own. No condition on the program. -/
import Derived.Test.YtjipdnfaokdkbaaLab2
namespace Go.Proofs.YtjipdnfaokdkbaaLab
open Go
set_option linter.unusedVariables false
noncomputable section

/-- An operation of operands alone. -/
def OPs (P : Program) (o : Oper) (nt : Nat) (gl : List Nat) (f : E → Option V) : Prop :=
  ∀ G e a w v, f e = some v → EnvR nt gl G e a → ∃ v', (execOp a.eval o).run P w = .ok (.value v') w ∧ VR G v v'

section
variable {P : Program} {nt : Nat} {gl : List Nat} {o : Oper}

/-! ### move, assign, pick -/
def pMove (g : E → V) (e : E) : Option V := some (g e)
theorem pMove_ok {x : Operand} {g : E → V} (ho : o.op = .move x ∨ o.op = .assign x) (hg : opd gl x = some g) : OPs P o nt gl (pMove g) := by
  intro G e a w v hv he
  cases hv
  refine ⟨a.eval x, ?_, opd_ok hg he⟩
  rcases ho with ho | ho <;> simp [execOp, ho]
def pPick (c g h : E → V) (e : E) : Option V := match c e with | .bool b => some (Bool.casesOn (motive := fun _ => V) b (h e) (g e)) | _ => none
theorem pPick_ok {x y z : Operand} {c g h : E → V} (ho : o.op = .pick x y z) (hc : opd gl x = some c) (hg : opd gl y = some g) (hh : opd gl z = some h) : OPs P o nt gl (pPick c g h) := by
  intro G e a w v hv he
  unfold pPick at hv
  split at hv
  · rename_i b hb
    cases hv
    have h1 := opd_ok hc he
    rw [hb] at h1
    generalize hx : a.eval x = x' at h1
    cases h1
    refine ⟨if b then a.eval y else a.eval z, ?_, ?_⟩
    · simp [execOp, ho, hx, asBool]
    · cases b
      · exact opd_ok hh he
      · exact opd_ok hg he
  · cases hv

/-! ### Operations of whole numbers -/
/-- An operation of two numbers of one kind. -/
def bI (f : Int → Int → V) (x y : V) : Option V := match x, y with | .i a, .i b => some (f a b) | _, _ => none
def bK (k : IntKind) (f : Int → Int → V) (x y : V) : Option V := match x, y with
  | .int k1 a, .int k2 b => Bool.casesOn (motive := fun _ => Option V) (Nat.beq (kn k1) (kn k)) none (Bool.casesOn (motive := fun _ => Option V) (Nat.beq (kn k2) (kn k)) none (some (f a b)))
  | _, _ => none
def b2 (k : IntKind) (f : Int → Int → V) : V → V → Option V := match k with | .i64 => bI f | k => bK k f
theorem b2_ok {G : Pl} {k : IntKind} {f : Int → Int → V} {x y v : V} {x' y' : Value} (h : b2 k f x y = some v) (hx : VR G x x') (hy : VR G y y') : ∃ m n, x' = .int k m ∧ y' = .int k n ∧ v = f m n := by
  have key : ∀ k, bK k f x y = some v → ∃ m n, x' = .int k m ∧ y' = .int k n ∧ v = f m n := by
    intro k h
    unfold bK at h
    split at h
    · rename_i k1 m k2 n _
      cases hx; cases hy
      cases h1 : Nat.beq (kn k1) (kn k) with
      | false => rw [h1] at h; cases h
      | true =>
        cases h2 : Nat.beq (kn k2) (kn k) with
        | false => rw [h1, h2] at h; cases h
        | true =>
          rw [h1, h2] at h
          cases h
          rw [kn_inj (Nat.eq_of_beq_eq_true h1), kn_inj (Nat.eq_of_beq_eq_true h2)]
          exact ⟨_, _, rfl, rfl, rfl⟩
    · cases h
  cases k <;> first
    | exact key _ h
    | (unfold b2 bI at h
       simp only at h
       split at h
       · cases hx; cases hy; cases h; exact ⟨_, _, rfl, rfl, rfl⟩
       · cases h)

/-- The kind's own spelling of a number. -/
def mkW (k : IntKind) : Int → V := match k with | .i64 => fun n => .i (w64 n) | k => fun n => .int k (IntKind.wrap k n)
theorem mkW_ok (G : Pl) (k : IntKind) (n : Int) : VR G (mkW k n) (.int k (k.wrap n)) := by
  cases k <;> first | (show VR G (.i (w64 n)) _; rw [w64_eq]; exact .i _) | exact .int _ _

/-- Bits of two numbers that are not below 0: quick. -/
def bitsI (op : BinOp) (k : IntKind) (x y : Int) : Int :=
  let a := BitVec.ofInt k.bits x
  let b := BitVec.ofInt k.bits y
  match op with
  | .and => k.wrap (a &&& b).toNat
  | .or => k.wrap (a ||| b).toNat
  | .xor => k.wrap (a ^^^ b).toNat
  | _ => k.wrap (a &&& ~~~b).toNat
theorem intBits_run {P : Program} {w : World} {op : BinOp} (k : IntKind) (m n : Int) (h : op = .and ∨ op = .or ∨ op = .xor ∨ op = .andNot) : (Op.intBits op k m n).run P w = .ok (.int k (bitsI op k m n)) w := by
  rcases h with h | h | h | h <;> subst h <;> rfl

/-- What an operation of two numbers gives. -/
def intF (op : BinOp) (k : IntKind) : Option (Int → Int → V) := match op with
  | .add => some fun a b => mkW k (Int.add a b)
  | .sub => some fun a b => mkW k (Int.sub a b)
  | .mul => some fun a b => mkW k (Int.mul a b)
  | .and => some fun a b => mkI k (bitsI .and k a b)
  | .or => some fun a b => mkI k (bitsI .or k a b)
  | .xor => some fun a b => mkI k (bitsI .xor k a b)
  | .andNot => some fun a b => mkI k (bitsI .andNot k a b)
  | .eql => some fun a b => .bool (eqI a b)
  | .neq => some fun a b => .bool (not (eqI a b))
  | .lss => some fun a b => .bool (ltI a b)
  | .leq => some fun a b => .bool (leI a b)
  | .gtr => some fun a b => .bool (ltI b a)
  | .geq => some fun a b => .bool (leI b a)
  | _ => none

def fAdd (a b : Int) : V := .i (w64 (Int.add a b))
def fSub (a b : Int) : V := .i (w64 (Int.sub a b))
def fMul (a b : Int) : V := .i (w64 (Int.mul a b))
def fEq (a b : Int) : V := .bool (eqI a b)
def fNe (a b : Int) : V := .bool (not (eqI a b))
def fLt (a b : Int) : V := .bool (ltI a b)
def fLe (a b : Int) : V := .bool (leI a b)
def fGt (a b : Int) : V := .bool (ltI b a)
def fGe (a b : Int) : V := .bool (leI b a)
def pBin (f : V → V → Option V) (g h : E → V) (e : E) : Option V := f (g e) (h e)

theorem pBin_int_ok {op : BinOp} {t : Nat} {x y : Operand} {yt : Nat} {k : IntKind} {f : Int → Int → V} {g h : E → V} (ho : o.op = .binOp op t x y yt) (hf : intF op k = some f)
    (hg : opd gl x = some g) (hh : opd gl y = some h) : OPs P o nt gl (pBin (b2 k f) g h) := by
  intro G e a w v hv he
  obtain ⟨m, n, hx, hy, rfl⟩ := b2_ok hv (opd_ok hg he) (opd_ok hh he)
  have hgd : ∀ op, (eqGuard op t x y (a.eval x) (a.eval y)).run P w = .ok () w := by
    intro op
    rw [hx, hy]
    unfold eqGuard
    cases op <;> simp
  have hb : ∀ r v', (binOp op t (a.eval x) (a.eval y)).run P w = .ok r w → VR G v' r → ∃ u, (execOp a.eval o).run P w = .ok (.value u) w ∧ VR G v' u := by
    intro r v' hr hv'
    refine ⟨r, ?_, hv'⟩
    simp [execOp, ho, hgd, hr]
  rw [hx, hy] at hb
  cases op <;> simp only [intF, Option.some.injEq, reduceCtorEq] at hf <;> subst hf
  case add => exact hb _ _ (by simp [binOp, Op.intArith]) (mkW_ok G k _)
  case sub => exact hb _ _ (by simp [binOp, Op.intArith]; rfl) (mkW_ok G k _)
  case mul => exact hb _ _ (by simp [binOp, Op.intArith]) (mkW_ok G k _)
  case and => exact hb _ _ (by simp only [binOp, ne_eq, not_true_eq_false, if_false]; exact intBits_run k m n (by simp)) (mkI_ok G k _)
  case or => exact hb _ _ (by simp only [binOp, ne_eq, not_true_eq_false, if_false]; exact intBits_run k m n (by simp)) (mkI_ok G k _)
  case xor => exact hb _ _ (by simp only [binOp, ne_eq, not_true_eq_false, if_false]; exact intBits_run k m n (by simp)) (mkI_ok G k _)
  case andNot => exact hb _ _ (by simp only [binOp, ne_eq, not_true_eq_false, if_false]; exact intBits_run k m n (by simp)) (mkI_ok G k _)
  case eql => exact hb (.bool (m == n)) _ (by simp [binOp, Op.intCmp]) (by simp only [eqI_eq]; exact .bool _)
  case neq => exact hb (.bool (m != n)) _ (by simp [binOp, Op.intCmp]) (by simp only [eqI_eq]; exact .bool _)
  case lss => exact hb (.bool (decide (m < n))) _ (by simp [binOp, Op.intCmp]) (by simp only [ltI_eq]; exact .bool _)
  case leq => exact hb (.bool (decide (m ≤ n))) _ (by simp [binOp, Op.intCmp]) (by simp only [leI_eq]; exact .bool _)
  case gtr => exact hb (.bool (decide (m > n))) _ (by simp [binOp, Op.intCmp]) (by simp only [ltI_eq]; exact .bool _)
  case geq => exact hb (.bool (decide (m ≥ n))) _ (by simp [binOp, Op.intCmp]) (by simp only [leI_eq]; exact .bool _)

end
end
end Go.Proofs.YtjipdnfaokdkbaaLab
