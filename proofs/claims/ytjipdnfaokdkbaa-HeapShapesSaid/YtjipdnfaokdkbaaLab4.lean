/- The lab: more operations that hang on their operands alone, each beside the model's own. No condition on the program. -/
import Derived.Test.YtjipdnfaokdkbaaLab3
namespace Go.Proofs.YtjipdnfaokdkbaaLab
open Go
set_option linter.unusedVariables false
noncomputable section

def b2o (k : IntKind) (f : Int → Int → Option V) (x y : V) : Option V := match asI x, asI y with
  | some (k1, a), some (k2, b) => Bool.casesOn (motive := fun _ => Option V) (Nat.beq (kn k1) (kn k)) none (Bool.casesOn (motive := fun _ => Option V) (Nat.beq (kn k2) (kn k)) none (f a b))
  | _, _ => none
theorem b2o_ok {G : Pl} {k : IntKind} {f : Int → Int → Option V} {x y v : V} {x' y' : Value} (h : b2o k f x y = some v) (hx : VR G x x') (hy : VR G y y') : ∃ m n, x' = .int k m ∧ y' = .int k n ∧ f m n = some v := by
  unfold b2o at h
  cases h1 : asI x with
  | none => rw [h1] at h; cases h
  | some p =>
    obtain ⟨k1, m⟩ := p
    cases h2 : asI y with
    | none => rw [h1, h2] at h; cases h
    | some q =>
      obtain ⟨k2, n⟩ := q
      rw [h1, h2] at h
      simp only at h
      cases e1 : Nat.beq (kn k1) (kn k) with
      | false => rw [e1] at h; cases h
      | true =>
        cases e2 : Nat.beq (kn k2) (kn k) with
        | false => rw [e1, e2] at h; cases h
        | true =>
          rw [e1, e2] at h
          have a1 := kn_inj (Nat.eq_of_beq_eq_true e1)
          have a2 := kn_inj (Nat.eq_of_beq_eq_true e2)
          subst a1; subst a2
          exact ⟨m, n, asI_ok h1 hx, asI_ok h2 hy, h⟩

def divF (op : BinOp) (k : IntKind) : Option (Int → Int → Option V) := match op with
  | .quo => some fun a b => Bool.casesOn (motive := fun _ => Option V) (eqI b 0) (some (mkW k (Int.tdiv a b))) none
  | .rem => some fun a b => Bool.casesOn (motive := fun _ => Option V) (eqI b 0) (some (mkI k (Int.tmod a b))) none
  | _ => none

/-- An operation whose run is told. -/
theorem OPs.of {P : Program} {o : Oper} {nt : Nat} {gl : List Nat} {f : E → Option V} (h : ∀ G e a w v, f e = some v → EnvR nt gl G e a → ∃ v', (execOp a.eval o).run P w = .ok (.value v') w ∧ VR G v v') : OPs P o nt gl f := h

/-- Two operands: what the operation's own program does. -/
theorem bin_of {P : Program} {o : Oper} {nt : Nat} {gl : List Nat} {op : BinOp} {t yt : Nat} {x y : Operand} {g h : E → V} (ho : o.op = .binOp op t x y yt) (hg : opd gl x = some g) (hh : opd gl y = some h) (f : V → V → Option V)
    (hf : ∀ G u u' x' y' v w, f u u' = some v → VR G u x' → VR G u' y' → (eqGuard op t x y x' y').run P w = .ok () w ∧ ∃ v', (binOp op t x' y').run P w = .ok v' w ∧ VR G v v') : OPs P o nt gl (pBin f g h) := by
  intro G e a w v hv he
  obtain ⟨h1, v', h2, h3⟩ := hf G _ _ _ _ _ w hv (opd_ok hg he) (opd_ok hh he)
  exact ⟨v', by simp [execOp, ho, h1, h2], h3⟩

/-- Quotient and remainder; also of a number of which the remainder alone is known. -/
def dv (op : BinOp) (k : IntKind) (f : Int → Int → Option V) (x y : V) : Option V := match x with
  | .rem m t => (match op, k, y with
    | .rem, .i64, .i b => Bool.casesOn (motive := fun _ => Option V) (eqI m b) none (Bool.casesOn (motive := fun _ => Option V) (eqI m 0) (some (.i t)) none)
    | _, _, _ => none)
  | x => b2o k f x y
theorem pBin_div_ok {P : Program} {o : Oper} {nt : Nat} {gl : List Nat} {op : BinOp} {t : Nat} {x y : Operand} {yt : Nat} {k : IntKind} {f : Int → Int → Option V} {g h : E → V} (ho : o.op = .binOp op t x y yt) (hf : divF op k = some f)
    (hg : opd gl x = some g) (hh : opd gl y = some h) : OPs P o nt gl (pBin (dv op k f) g h) := by
  refine bin_of ho hg hh _ ?_
  intro G u u' x' y' v w hv hx hy
  unfold dv at hv
  split at hv
  · rename_i m t
    split at hv
    · rename_i b
      cases hx with
      | rem _ _ n hn =>
        cases hy
        cases e : eqI m b with
        | false => simp only [e] at hv; cases hv
        | true =>
          simp only [e] at hv
          cases e2 : eqI m 0 with
          | true => simp only [e2] at hv; cases hv
          | false =>
            simp only [e2] at hv; cases hv
            rw [eqI_eq] at e e2
            have e : m = b := by simpa using e
            have e2 : ¬ m = 0 := by simpa using e2
            subst e; subst hn
            exact ⟨by simp [eqGuard], .int .i64 (n.tmod m), by simp [binOp, Op.intDiv, e2], .i _⟩
    · cases hv
  obtain ⟨m, n, rfl, rfl, hv⟩ := b2o_ok hv hx hy
  refine ⟨by cases op <;> simp [eqGuard], ?_⟩
  cases op <;> simp only [divF, Option.some.injEq, reduceCtorEq] at hf <;> subst hf
  case quo =>
    cases e : eqI n 0 with
    | true => simp only [e] at hv; cases hv
    | false =>
      simp only [e] at hv; cases hv
      have hn : ¬ n = 0 := by rw [eqI_eq] at e; simpa using e
      exact ⟨.int k (k.wrap (m.tdiv n)), by simp [binOp, Op.intDiv, hn], mkW_ok G k _⟩
  case rem =>
    cases e : eqI n 0 with
    | true => simp only [e] at hv; cases hv
    | false =>
      simp only [e] at hv; cases hv
      have hn : ¬ n = 0 := by rw [eqI_eq] at e; simpa using e
      exact ⟨.int k (m.tmod n), by simp [binOp, Op.intDiv, hn], mkI_ok G k _⟩

/-- Shifts. -/
def bSh (op : BinOp) (k : IntKind) (x y : V) : Option V := match asI x, asN y with
  | some (k1, a), some b => Bool.casesOn (motive := fun _ => Option V) (Nat.beq (kn k1) (kn k)) none (Bool.casesOn (motive := fun _ => Option V) (ltI b 0)
      (match op with
       | .shl => some (mkW k (Int.mul a (Int.ofNat (Nat.pow 2 (min b.toNat k.bits)))))
       | .shr => some (mkI k (Int.fdiv a (Int.ofNat (Nat.pow 2 (min b.toNat k.bits)))))
       | _ => none) none)
  | _, _ => none
theorem pBin_sh_ok {P : Program} {o : Oper} {nt : Nat} {gl : List Nat} {op : BinOp} {t : Nat} {x y : Operand} {yt : Nat} {k : IntKind} {g h : E → V} (ho : o.op = .binOp op t x y yt)
    (hg : opd gl x = some g) (hh : opd gl y = some h) : OPs P o nt gl (pBin (bSh op k) g h) := by
  refine bin_of ho hg hh _ ?_
  intro G u u' x' y' v w hv hx hy
  unfold bSh at hv
  cases h1 : asI u with
  | none => rw [h1] at hv; cases hv
  | some p =>
    obtain ⟨k1, m⟩ := p
    cases h2 : asN u' with
    | none => rw [h1, h2] at hv; cases hv
    | some n =>
      rw [h1, h2] at hv
      simp only at hv
      cases e1 : Nat.beq (kn k1) (kn k) with
      | false => rw [e1] at hv; cases hv
      | true =>
        rw [e1] at hv
        cases e2 : ltI n 0 with
        | true => rw [e2] at hv; cases hv
        | false =>
          rw [e2] at hv
          have a1 := kn_inj (Nat.eq_of_beq_eq_true e1)
          subst a1
          obtain ⟨k2, rfl⟩ := asN_ok h2 hy
          cases asI_ok h1 hx
          have hn : ¬ n < 0 := by rw [ltI_eq] at e2; simpa using e2
          cases op <;> simp only [reduceCtorEq] at hv
          case shl =>
            cases hv
            refine ⟨by simp [eqGuard], .int k1 (k1.wrap (m * 2 ^ (min n.toNat k1.bits))), by simp [binOp, Op.shift, hn], ?_⟩
            have : Int.mul m (Int.ofNat (Nat.pow 2 (min n.toNat k1.bits))) = m * 2 ^ (min n.toNat k1.bits) := by
              show m * ((2 ^ (min n.toNat k1.bits) : Nat) : Int) = _
              rw [Int.natCast_pow]; rfl
            rw [this]; exact mkW_ok G k1 _
          case shr =>
            cases hv
            refine ⟨by simp [eqGuard], .int k1 (m.fdiv (2 ^ (min n.toNat k1.bits))), by simp [binOp, Op.shift, hn], ?_⟩
            have : (Int.ofNat (Nat.pow 2 (min n.toNat k1.bits))) = (2 : Int) ^ (min n.toNat k1.bits) := by
              show ((2 ^ (min n.toNat k1.bits) : Nat) : Int) = _
              rw [Int.natCast_pow]; rfl
            rw [this]; exact mkI_ok G k1 _

/-! ### Texts -/
def eqL : List Nat → List Nat → Bool
  | [], [] => true
  | x :: l, y :: r => Bool.casesOn (motive := fun _ => Bool) (Nat.beq x y) false (eqL l r)
  | _, _ => false
theorem eqL_eq : ∀ l r, eqL l r = (l == r)
  | [], [] => rfl
  | [], _ :: _ => rfl
  | _ :: _, [] => rfl
  | x :: l, y :: r => by
    unfold eqL
    by_cases h : x = y
    · subst h; simp [eqL_eq l r]
    · simp only [nbeq_false h]
      symm; rw [beq_eq_false_iff_ne]; intro hh; exact h (List.cons.inj hh).1
def ltL : List Nat → List Nat → Bool
  | _, [] => false
  | [], _ :: _ => true
  | x :: l, y :: r => Bool.casesOn (motive := fun _ => Bool) (Nat.blt x y) (Bool.casesOn (motive := fun _ => Bool) (Nat.beq x y) false (ltL l r)) true
theorem ltL_eq : ∀ (l r : List UInt8), ltL (l.map UInt8.toNat) (r.map UInt8.toNat) = Op.bytesLess l r
  | _, [] => by cases ‹List UInt8› <;> rfl
  | [], _ :: _ => rfl
  | x :: l, y :: r => by
    have ih := ltL_eq l r
    simp only [List.map_cons, ltL, Op.bytesLess, nblt_eq, nbeq_eq, ih, UInt8.lt_iff_toNat_lt]
    by_cases h : x.toNat < y.toNat
    · simp [h]
    · by_cases h' : x = y
      · subst h'; simp
      · have : ¬ x.toNat = y.toNat := fun e => h' (UInt8.toNat_inj.1 e)
        simp [h, h', this]
theorem map_toNat_inj : ∀ {l r : List UInt8}, l.map UInt8.toNat = r.map UInt8.toNat → l = r
  | [], [], _ => rfl
  | x :: l, y :: r, h => by
    have := List.cons.inj h
    rw [UInt8.toNat_inj.1 this.1, map_toNat_inj this.2]
theorem eqL_str (s t : ByteArray) : eqL (s.data.toList.map UInt8.toNat) (t.data.toList.map UInt8.toNat) = (s.toList == t.toList) := by
  rw [eqL_eq, ByteArray.toList_eq, ByteArray.toList_eq, Bool.eq_iff_iff, beq_iff_eq, beq_iff_eq]
  exact ⟨map_toNat_inj, fun h => by rw [h]⟩

/-- Two texts. -/
def bS (f : List Nat → List Nat → Option V) (x y : V) : Option V := match x, y with | .str a, .str b => f a b | _, _ => none
def strF (op : BinOp) : Option (List Nat → List Nat → Option V) := match op with
  | .eql => some fun a b => some (.bool (eqL a b))
  | .neq => some fun a b => some (.bool (not (eqL a b)))
  | .lss => some fun a b => some (.bool (ltL a b))
  | .gtr => some fun a b => some (.bool (not (or (ltL a b) (eqL a b))))
  | .leq => some fun a b => some (.bool (or (ltL a b) (eqL a b)))
  | .geq => some fun a b => some (.bool (not (ltL a b)))
  | .add => some fun a b => Bool.casesOn (motive := fun _ => Option V) (Nat.blt (Nat.add a.length b.length) 1000000000) none (some (.str (a ++ b)))
  | _ => none
theorem VR.str_inv {G : Pl} {l : List Nat} {x' : Value} (h : VR G (.str l) x') : ∃ s : ByteArray, x' = .string s ∧ l = s.data.toList.map UInt8.toNat := by
  cases h; exact ⟨_, rfl, rfl⟩
theorem VR.str_of {G : Pl} {l : List Nat} {s : ByteArray} (h : l = s.data.toList.map UInt8.toNat) : VR G (.str l) (.string s) := by subst h; exact .str s
theorem pBin_str_ok {P : Program} {o : Oper} {nt : Nat} {gl : List Nat} {op : BinOp} {t : Nat} {x y : Operand} {yt : Nat} {f : List Nat → List Nat → Option V} {g h : E → V} (ho : o.op = .binOp op t x y yt) (hf : strF op = some f)
    (hg : opd gl x = some g) (hh : opd gl y = some h) : OPs P o nt gl (pBin (bS f) g h) := by
  refine bin_of ho hg hh _ ?_
  intro G u u' x' y' v w hv hx hy
  unfold bS at hv
  split at hv
  · rename_i a b
    obtain ⟨s, rfl, rfl⟩ := hx.str_inv
    obtain ⟨t', rfl, rfl⟩ := hy.str_inv
    refine ⟨by cases op <;> simp [eqGuard], ?_⟩
    cases op <;> simp only [strF, Option.some.injEq, reduceCtorEq] at hf <;> subst hf
    case add =>
      simp only at hv
      cases e : Nat.blt (Nat.add (s.data.toList.map UInt8.toNat).length (t'.data.toList.map UInt8.toNat).length) 1000000000 with
      | false => rw [e] at hv; cases hv
      | true =>
        rw [e] at hv; cases hv
        rw [nblt_eq] at e
        have hl : s.size + t'.size < 1000000000 := by
          have := of_decide_eq_true e
          rw [List.length_map, List.length_map, Array.length_toList, Array.length_toList] at this
          exact this
        refine ⟨.string (s ++ t'), by rw [binOp_string_add]; exact run_string_add_sum _ _ _ (by omega), VR.str_of ?_⟩
        simp
    case eql => cases hv; exact ⟨_, by rw [binOp_string_eql]; rfl, by rw [eqL_str]; exact .bool _⟩
    case neq => cases hv; exact ⟨_, by rw [binOp_string_neq]; rfl, by rw [eqL_str]; exact .bool _⟩
    case lss => cases hv; exact ⟨_, by rw [binOp_string_lss]; rfl, by rw [ltL_eq, ← ByteArray.toList_eq, ← ByteArray.toList_eq]; exact .bool _⟩
    case leq => cases hv; exact ⟨.bool (Op.bytesLess s.toList t'.toList || s.toList == t'.toList), by simp [binOp, Op.stringOp], by rw [ltL_eq, eqL_str, ← ByteArray.toList_eq, ← ByteArray.toList_eq]; exact .bool _⟩
    case gtr => cases hv; exact ⟨.bool (!(Op.bytesLess s.toList t'.toList || s.toList == t'.toList)), by simp [binOp, Op.stringOp], by rw [ltL_eq, eqL_str, ← ByteArray.toList_eq, ← ByteArray.toList_eq]; exact .bool _⟩
    case geq => cases hv; exact ⟨.bool (!(Op.bytesLess s.toList t'.toList)), by simp [binOp, Op.stringOp], by rw [ltL_eq, ← ByteArray.toList_eq, ← ByteArray.toList_eq]; exact .bool _⟩
  · cases hv

/-! ### Truth; nil -/
def bBool (neg : Bool) (x y : V) : Option V := match x, y with | .bool a, .bool b => some (.bool (xor neg (a == b))) | _, _ => none
/-- A pointer, slice, map or function: is it nil? By its type. -/
def nilP : V → Option Bool | .nilp => some true | .ptr _ _ => some false | _ => none
def nilS : V → Option Bool | .nils => some true | .slice _ _ _ _ _ => some false | _ => none
def nilM : V → Option Bool | .nilm => some true | .map _ => some false | _ => none
def nilN : V → Option Bool | .nilf => some true | .func _ _ _ => some false | _ => none
def nilI : V → Option Bool | .nili => some true | .iface _ _ => some false | _ => none
def nilF : TypeDesc → Option (V → Option Bool)
  | .pointer _ => some nilP | .slice _ => some nilS | .map _ _ => some nilM | .func _ _ _ => some nilN | .interface _ => some nilI | _ => none
/-- Two of them, of which one is nil at least. -/
def bNil (neg : Bool) (n : V → Option Bool) (x y : V) : Option V := match n x, n y with
  | some a, some true => some (.bool (xor neg a))
  | some true, some b => some (.bool (xor neg b))
  | _, _ => none
theorem bNil_inv {neg : Bool} {n : V → Option Bool} {x y v : V} (h : bNil neg n x y = some v) : ∃ a b, n x = some a ∧ n y = some b ∧ (a = true ∨ b = true) ∧ v = .bool (xor neg (a && b)) := by
  unfold bNil at h
  split at h
  · rename_i a h1 h2; cases h; exact ⟨a, true, h1, h2, .inr rfl, by simp⟩
  · rename_i b _ h1 h2; cases h; exact ⟨true, b, h1, h2, .inl rfl, by simp⟩
  · cases h

section
variable {P : Program} {tt : TT} (H : TOk P tt) {nt : Nat} {gl : List Nat} {o : Oper} {t : Nat} {x y : Operand} {yt : Nat} {g h : E → V}
theorem equal_succ (t : Nat) (x y : Value) : Op.equal t x y = Op.equalIn (9999 + 1) t x y := rfl
theorem eql_run {P : Program} {w : World} {neg : Bool} {t : Nat} {x' y' : Value} {r : Bool} (hr : (Op.equal t x' y').run P w = .ok r w) (hne : binOp .eql t x' y' = (do pure (.bool (← Op.equal t x' y')))) (hnn : binOp .neq t x' y' = (do pure (.bool !(← Op.equal t x' y')))) :
    (binOp (if neg then .neq else .eql) t x' y').run P w = .ok (.bool (xor neg r)) w := by
  cases neg
  · rw [if_neg (by simp), hne]; simp [hr]
  · rw [if_pos rfl, hnn]; simp [hr]
include H in
theorem equal_bool_run {w : World} (ht : tt.ud t = some .bool) (a b : Bool) : (Op.equal t (.bool a) (.bool b)).run P w = .ok (a == b) w := by
  rw [equal_succ, Op.equalIn]; simp only [Sem.run_bind, ud_run H w ht, Result.andThen_ok, Sem.run_pure]
include H in
theorem pBin_bool_ok {neg : Bool} (ho : o.op = .binOp (if neg then .neq else .eql) t x y yt) (ht : tt.ud t = some .bool) (hg : opd gl x = some g) (hh : opd gl y = some h) : OPs P o nt gl (pBin (bBool neg) g h) := by
  refine bin_of ho hg hh _ ?_
  intro G u u' x' y' v w hv hx hy
  unfold bBool at hv
  split at hv
  · rename_i a b
    cases hv; cases hx; cases hy
    exact ⟨by cases neg <;> simp [eqGuard], _, eql_run (equal_bool_run H ht a b) (by simp [binOp]) (by simp [binOp]), .bool _⟩
  · cases hv
include H in
theorem pBin_nil_ok {neg : Bool} {d : TypeDesc} {n : V → Option Bool} (ho : o.op = .binOp (if neg then .neq else .eql) t x y yt) (hc : (∃ v, x = .const v) ∨ (∃ v, y = .const v)) (ht : tt.ud t = some d) (hd : nilF d = some n) (hg : opd gl x = some g) (hh : opd gl y = some h) : OPs P o nt gl (pBin (bNil neg n) g h) := by
  refine bin_of ho hg hh _ ?_
  intro G u u' x' y' v w hv hx hy
  obtain ⟨a, b, ha, hb, hab, rfl⟩ := bNil_inv hv
  have key : (eqGuard (if neg then .neq else .eql) t x y x' y').run P w = .ok () w ∧ (Op.equal t x' y').run P w = .ok (a && b) w ∧ binOp .eql t x' y' = (do pure (.bool (← Op.equal t x' y'))) ∧ binOp .neq t x' y' = (do pure (.bool !(← Op.equal t x' y'))) := by
    have hrun : ∀ r, (Op.equalIn (9999 + 1) t x' y').run P w = .ok r w → (Op.equal t x' y').run P w = .ok r w := fun _ h => h
    cases d <;> simp only [nilF, Option.some.injEq, reduceCtorEq] at hd <;> subst hd
    case pointer el =>
      unfold nilP at ha hb
      split at ha <;> cases ha <;> split at hb <;> cases hb <;> cases hx <;> cases hy <;> first
        | (simp at hab; done)
        | exact ⟨by cases neg <;> simp [eqGuard], hrun _ (by rw [Op.equalIn]; simp only [Sem.run_bind, ud_run H w ht, Result.andThen_ok]; simp), by simp [binOp], by simp [binOp]⟩
    case slice el =>
      unfold nilS at ha hb
      split at ha <;> cases ha <;> split at hb <;> cases hb <;> cases hx <;> cases hy <;> first
        | (simp at hab; done)
        | exact ⟨by cases neg <;> simp [eqGuard], hrun _ (by rw [Op.equalIn]; simp only [Sem.run_bind, ud_run H w ht, Result.andThen_ok]; simp), by simp [binOp], by simp [binOp]⟩
    case map k el =>
      unfold nilM at ha hb
      split at ha <;> cases ha <;> split at hb <;> cases hb <;> cases hx <;> cases hy <;> first
        | (simp at hab; done)
        | exact ⟨by cases neg <;> simp [eqGuard], hrun _ (by rw [Op.equalIn]; simp only [Sem.run_bind, ud_run H w ht, Result.andThen_ok]; simp), by simp [binOp], by simp [binOp]⟩
    case func a1 a2 a3 =>
      unfold nilN at ha hb
      split at ha <;> cases ha <;> split at hb <;> cases hb <;> cases hx <;> cases hy <;> first
        | (simp at hab; done)
        | exact ⟨by cases neg <;> simp [eqGuard], hrun _ (by rw [Op.equalIn]; simp only [Sem.run_bind, ud_run H w ht, Result.andThen_ok]; simp), by simp [binOp], by simp [binOp]⟩
    case interface ms =>
      unfold nilI at ha hb
      split at ha <;> cases ha <;> split at hb <;> cases hb <;> cases hx <;> cases hy <;> first
        | (simp at hab; done)
        | exact ⟨by rcases hc with ⟨q, rfl⟩ | ⟨q, rfl⟩ <;> cases neg <;> simp [eqGuard], hrun _ (by rw [Op.equalIn]; simp only [Sem.run_bind, ud_run H w ht, Result.andThen_ok]; simp), by simp [binOp], by simp [binOp]⟩
  exact ⟨key.1, _, eql_run key.2.1 key.2.2.1 key.2.2.2, .bool _⟩
end
end
end Go.Proofs.YtjipdnfaokdkbaaLab
