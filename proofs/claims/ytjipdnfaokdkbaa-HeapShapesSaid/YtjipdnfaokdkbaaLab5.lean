/- The lab: addresses, fields, elements, slices; conversions; interfaces; functions. No condition on the program. -/
import Derived.Test.YtjipdnfaokdkbaaLab4
namespace Go.Proofs.YtjipdnfaokdkbaaLab
open Go
set_option linter.unusedVariables false
noncomputable section

/-! ### Lists of values -/
theorem VRs.drop {G : Pl} : ∀ (n : Nat) {v : List V} {v' : List Value}, VRs G v v' → VRs G (v.drop n) (v'.drop n)
  | 0, _, _, h => h
  | _ + 1, _, _, .nil => .nil
  | n + 1, _, _, .cons _ _ _ _ _ h => VRs.drop n h
theorem VRs.take {G : Pl} : ∀ (n : Nat) {v : List V} {v' : List Value}, VRs G v v' → VRs G (v.take n) (v'.take n)
  | 0, _, _, _ => .nil
  | _ + 1, _, _, .nil => .nil
  | n + 1, _, _, .cons x x' l l' hx h => .cons x x' _ _ hx (VRs.take n h)
theorem VR.tup_inv {G : Pl} {l : List V} {x' : Value} (h : VR G (.tup l) x') : ∃ l', x' = .tuple ⟨l'⟩ ∧ VRs G l l' := by cases h; exact ⟨_, rfl, by assumption⟩
theorem VR.agg_inv {G : Pl} {l : List V} {x' : Value} (h : VR G (.agg l) x') : ∃ l', x' = .agg ⟨l'⟩ ∧ VRs G l l' := by cases h; exact ⟨_, rfl, by assumption⟩
theorem VR.iface_inv {G : Pl} {t : Nat} {v : V} {x' : Value} (h : VR G (.iface t v) x') : ∃ v', x' = .iface t v' ∧ VR G v v' := by cases h; exact ⟨_, rfl, by assumption⟩
theorem VR.ptr_inv {G : Pl} {b o : Nat} {x' : Value} (h : VR G (.ptr b o) x') : ∃ l : Loc, x' = .pointer (some ⟨l.blk, l.base + o, none⟩) ∧ G b = some l := by cases h; exact ⟨_, rfl, by assumption⟩
theorem VR.slice_inv {G : Pl} {b o len es : Nat} {cap : Option Nat} {x' : Value} (h : VR G (.slice b o len cap es) x') : ∃ (l : Loc) (a : Addr) (c : Nat), x' = .slice (some a) len c ∧ G b = some l ∧ len ≤ c ∧ (∀ k, cap = some k → c = k) ∧ (c = 0 ∨ a = ⟨l.blk, l.base + o, none⟩) ∧ (c = 0 ∨ l.base + o + c * es ≤ l.tot) := by
  cases h; exact ⟨_, _, _, rfl, by assumption, by assumption, by assumption, by assumption, by assumption⟩
theorem VR.bool_inv {G : Pl} {b : Bool} {x' : Value} (h : VR G (.bool b) x') : x' = .bool b := by cases h; rfl

/-- One operand: what the operation's own program does. -/
def pUn (f : V → Option V) (g : E → V) (e : E) : Option V := f (g e)
theorem un_of {P : Program} {o : Oper} {nt : Nat} {gl : List Nat} {x : Operand} {g : E → V} (hg : opd gl x = some g) (f : V → Option V) (S : Value → Sem Value) (hS : ∀ a : Act, execOp a.eval o = (do pure (.value (← S (a.eval x)))))
    (hf : ∀ G u x' v w, f u = some v → VR G u x' → ∃ v', (S x').run P w = .ok v' w ∧ VR G v v') : OPs P o nt gl (pUn f g) := by
  intro G e a w v hv he
  obtain ⟨v', h2, h3⟩ := hf G _ _ _ w hv (opd_ok hg he)
  exact ⟨v', by rw [hS]; simp [h2], h3⟩
theorem bi_of {P : Program} {o : Oper} {nt : Nat} {gl : List Nat} {x y : Operand} {g h : E → V} (hg : opd gl x = some g) (hh : opd gl y = some h) (f : V → V → Option V) (S : Value → Value → Sem Value) (hS : ∀ a : Act, execOp a.eval o = (do pure (.value (← S (a.eval x) (a.eval y)))))
    (hf : ∀ G u u' x' y' v w, f u u' = some v → VR G u x' → VR G u' y' → ∃ v', (S x' y').run P w = .ok v' w ∧ VR G v v') : OPs P o nt gl (pBin f g h) := by
  intro G e a w v hv he
  obtain ⟨v', h2, h3⟩ := hf G _ _ _ _ _ w hv (opd_ok hg he) (opd_ok hh he)
  exact ⟨v', by rw [hS]; simp [h2], h3⟩

section
variable {P : Program} {tt : TT} (H : TOk P tt) {nt : Nat} {gl : List Nat} {o : Oper} {x y : Operand} {g h : E → V}

/-! ### Not, minus -/
def uNot : V → Option V | .bool b => some (.bool (not b)) | _ => none
theorem uNot_ok {t : Nat} (ho : o.op = .unOp .not t x) (hg : opd gl x = some g) : OPs P o nt gl (pUn uNot g) := by
  refine un_of hg _ (fun v => Op.unary .not v) (fun a => by simp [execOp, ho]) ?_
  intro G u x' v w hv hx
  unfold uNot at hv
  split at hv
  · cases hv; cases hx; exact ⟨_, by simp [Op.unary], .bool _⟩
  · cases hv
def uNeg (x : V) : Option V := match asI x with | some (k, n) => some (mkW k (Int.sub 0 n)) | none => none
theorem uNeg_ok {t : Nat} (ho : o.op = .unOp .neg t x) (hg : opd gl x = some g) : OPs P o nt gl (pUn uNeg g) := by
  refine un_of hg _ (fun v => Op.unary .neg v) (fun a => by simp [execOp, ho]) ?_
  intro G u x' v w hv hx
  unfold uNeg at hv
  split at hv
  · rename_i k n h1
    cases hv
    cases asI_ok h1 hx
    exact ⟨.int k (k.wrap (0 - n)), by simp [Op.unary, Op.intArith], mkW_ok G k _⟩
  · cases hv
def uXor (x : V) : Option V := match asI x with | some (k, n) => some (mkI k (bitsI .xor k (if k.signed then -1 else k.max) n)) | none => none
theorem uXor_ok {t : Nat} (ho : o.op = .unOp .xor t x) (hg : opd gl x = some g) : OPs P o nt gl (pUn uXor g) := by
  refine un_of hg _ (fun v => Op.unary .xor v) (fun a => by simp [execOp, ho]) ?_
  intro G u x' v w hv hx
  unfold uXor at hv
  split at hv
  · rename_i k n h1
    cases hv
    cases asI_ok h1 hx
    exact ⟨_, by simp only [Op.unary]; exact intBits_run k _ n (by simp), mkI_ok G k _⟩
  · cases hv

/-! ### Conversions -/
def cInt (k : IntKind) (x : V) : Option V := match asN x with | some n => some (mkW k n) | none => none
include H in
theorem cInt_ok {s d : Nat} {sd : TypeDesc} {k : IntKind} (ho : o.op = .convert s d x) (hs : tt.ud s = some sd) (hd : tt.ud d = some (.int k)) (hg : opd gl x = some g) : OPs P o nt gl (pUn (cInt k) g) := by
  refine un_of hg _ (fun v => convert s d v) (fun a => by simp [execOp, ho]) ?_
  intro G u x' v w hv hx
  unfold cInt at hv
  split at hv
  · rename_i n h1
    cases hv
    obtain ⟨k', rfl⟩ := asN_ok h1 hx
    exact ⟨.int k (k.wrap n), by simp [convert, ud_run H w hs, ud_run H w hd, Conv.intToInt], mkW_ok G k _⟩
  · cases hv
def cStr (x : V) : Option V := match x with | .str l => some (.str l) | .i n => some (.str (nats (Utf8.encode n))) | .int _ n => some (.str (nats (Utf8.encode n))) | _ => none
include H in
theorem cStr_ok {s d : Nat} {sd : TypeDesc} (ho : o.op = .convert s d x) (hs : tt.ud s = some sd) (hd : tt.ud d = some .string) (hg : opd gl x = some g) : OPs P o nt gl (pUn cStr g) := by
  refine un_of hg _ (fun v => convert s d v) (fun a => by simp [execOp, ho]) ?_
  intro G u x' v w hv hx
  unfold cStr at hv
  split at hv
  · cases hv
    obtain ⟨s', rfl, rfl⟩ := hx.str_inv
    exact ⟨.string s', by cases sd <;> simp [convert, ud_run H w hs, ud_run H w hd], .str _⟩
  · cases hv; cases hx
    exact ⟨_, by cases sd <;> simp [convert, ud_run H w hs, ud_run H w hd, Conv.intToString] <;> rfl, .str _⟩
  · cases hv; cases hx
    exact ⟨_, by cases sd <;> simp [convert, ud_run H w hs, ud_run H w hd, Conv.intToString] <;> rfl, .str _⟩
  · cases hv

/-! ### Interfaces, functions -/
def ifcB : TypeDesc → Bool | .interface _ => true | _ => false
def uIfc (t : Nat) (x : V) : Option V := some (.iface t x)
include H in
theorem uIfc_ok {t : Nat} {d : TypeDesc} (ho : o.op = .makeInterface t x) (hd : tt.ud t = some d) (hn : ifcB d = false) (hg : opd gl x = some g) : OPs P o nt gl (pUn (uIfc t) g) := by
  refine un_of hg _ (fun v => Instr.makeInterface t v) (fun a => by simp [execOp, ho]) ?_
  intro G u x' v w hv hx
  cases hv
  refine ⟨.iface t x', ?_, .iface t u x' hx⟩
  cases d <;> simp only [ifcB, reduceCtorEq] at hn <;> simp [Instr.makeInterface, ud_run H w hd]
/-- An assertion to a type that is no interface. -/
def uAss (t : Nat) (ok : Bool) (z : V) (x : V) : Option V := match x with
  | .iface u v => Bool.casesOn (motive := fun _ => Option V) (Nat.beq u t) (Bool.casesOn (motive := fun _ => Option V) ok none (some (.tup [z, .bool false]))) (Bool.casesOn (motive := fun _ => Option V) ok (some v) (some (.tup [v, .bool true])))
  | .nili => Bool.casesOn (motive := fun _ => Option V) ok none (some (.tup [z, .bool false]))
  | _ => none
include H in
theorem uAss_ok {s t : Nat} {ok : Bool} {d : TypeDesc} {ti : TypeInfo} {zv : Value} {z : V} (ho : o.op = .typeAssert x s t ok) (hd : tt.ud t = some d) (hn : ifcB d = false) (hti : tt.ti t = some ti) (hz : ti.zero = some zv) (hzv : lowV 300 zv = some z) (hg : opd gl x = some g) : OPs P o nt gl (pUn (uAss t ok z) g) := by
  refine un_of hg _ (fun v => Instr.typeAssert v s t ok) (fun a => by simp [execOp, ho]) ?_
  intro G u x' v w hv hx
  have hzr : (zeroValue t).run P w = .ok zv w := by simp [zeroValue, ti_run H w hti, hz]
  unfold uAss at hv
  split at hv
  · rename_i t' y
    obtain ⟨y', rfl, hy⟩ := hx.iface_inv
    cases e : Nat.beq t' t with
    | true =>
      have := Nat.eq_of_beq_eq_true e
      subst this
      rw [e] at hv
      cases ok
      · cases hv; exact ⟨y', by cases d <;> simp only [ifcB, reduceCtorEq] at hn <;> simp [Instr.typeAssert, ud_run H w hd], hy⟩
      · cases hv; exact ⟨.tuple #[y', .bool true], by cases d <;> simp only [ifcB, reduceCtorEq] at hn <;> simp [Instr.typeAssert, ud_run H w hd], .tup _ _ (.cons _ _ _ _ hy (.cons _ _ _ _ (.bool _) .nil))⟩
    | false =>
      have hne : ¬ t' = t := fun h => by subst h; simp at e
      rw [e] at hv
      cases ok
      · cases hv
      · cases hv
        exact ⟨.tuple #[zv, .bool false], by cases d <;> simp only [ifcB, reduceCtorEq] at hn <;> simp [Instr.typeAssert, ud_run H w hd, hne, hzr], .tup _ _ (.cons _ _ _ _ (lowV_ok hzv G) (.cons _ _ _ _ (.bool _) .nil))⟩
  · cases hx
    cases ok
    · cases hv
    · cases hv
      exact ⟨.tuple #[zv, .bool false], by cases d <;> simp only [ifcB, reduceCtorEq] at hn <;> simp [Instr.typeAssert, ud_run H w hd, hzr], .tup _ _ (.cons _ _ _ _ (lowV_ok hzv G) (.cons _ _ _ _ (.bool _) .nil))⟩
  · cases hv

/-- Several operands. -/
def opds (gl : List Nat) : List Operand → Option (List (E → V))
  | [] => some []
  | x :: l => do some ((← opd gl x) :: (← opds gl l))
def evs (l : List (E → V)) (e : E) : List V := match l with | [] => [] | g :: l => g e :: evs l e
theorem opds_ok {nt : Nat} {G : Pl} {e : E} {a : Act} (he : EnvR nt gl G e a) : ∀ {l : List Operand} {gs : List (E → V)}, opds gl l = some gs → VRs G (evs gs e) (l.map a.eval)
  | [], gs, h => by cases h; exact .nil
  | x :: l, gs, h => by
    unfold opds at h
    cases h1 : opd gl x with
    | none => rw [h1] at h; cases h
    | some g =>
      cases h2 : opds gl l with
      | none => rw [h1, h2] at h; cases h
      | some gs' =>
        rw [h1, h2] at h; cases h
        exact .cons _ _ _ _ (opd_ok h1 he) (opds_ok he h2)
def pFun (f : Nat) (a b : List (E → V)) (e : E) : Option V := some (.func f (evs a e) (evs b e))
theorem pFun_ok {f : Nat} {p q : Array Operand} {a b : List (E → V)} (ho : o.op = .makeFunc (.func f) p q) (ha : opds gl p.toList = some a) (hb : opds gl q.toList = some b) : OPs P o nt gl (pFun f a b) := by
  intro G e ac w v hv he
  cases hv
  refine ⟨.func (.func f) (p.map ac.eval) (q.map ac.eval), by simp [execOp, ho, Instr.makeFunc], ?_⟩
  have h1 : p.map ac.eval = ⟨p.toList.map ac.eval⟩ := by cases p; simp
  have h2 : q.map ac.eval = ⟨q.toList.map ac.eval⟩ := by cases q; simp
  rw [h1, h2]
  exact .func _ _ _ _ _ (opds_ok he ha) (opds_ok he hb)

/-! ### Addresses -/
def uFld (off : Nat) : V → Option V | .ptr b o => some (.ptr b (Nat.add o off)) | _ => none
theorem add_at (b o n : Nat) : (⟨b, o, none⟩ : Addr).add n = ⟨b, o + n, none⟩ := by
  unfold Addr.add; split
  · subst_vars; rfl
  · rfl
include H in
theorem uFld_ok {s f n : Nat} {fs : Array Field} {fd : Field} (ho : o.op = .fieldAddr s x f) (hs : tt.ud s = some (.struct fs)) (hf : fs[f]? = some fd) (hz : tt.sz fd.type = some (n + 1)) (hg : opd gl x = some g) : OPs P o nt gl (pUn (uFld fd.offset) g) := by
  refine un_of hg _ (fun v => Instr.fieldAt s v f) (fun a => by simp [execOp, ho]) ?_
  intro G u x' v w hv hx
  unfold uFld at hv
  split at hv
  · cases hv
    obtain ⟨l, rfl, hl⟩ := hx.ptr_inv
    refine ⟨_, ?_, .ptr _ _ l hl⟩
    simp [Instr.fieldAt, ud_run H w hs, hf, Instr.sureAddr, fieldPlace, sz_run H w hz, add_at, Nat.add_assoc]
  · cases hv

/-- An element of a slice. -/
def bIdx (es : Nat) (x i : V) : Option V := match x, asN i with
  | .slice b o len _ es', some n => Bool.casesOn (motive := fun _ => Option V) (Nat.beq es' es) none (Bool.casesOn (motive := fun _ => Option V) (leI 0 n) none (Bool.casesOn (motive := fun _ => Option V) (Nat.blt n.toNat len) none (some (.ptr b (Nat.add o (Nat.mul n.toNat es))))))
  | _, _ => none
include H in
theorem bIdx_ok {t el es : Nat} (ho : o.op = .indexAddr t x y) (ht : tt.ud t = some (.slice el)) (hz : tt.sz el = some es) (hg : opd gl x = some g) (hh : opd gl y = some h) : OPs P o nt gl (pBin (bIdx es) g h) := by
  refine bi_of hg hh _ (fun u v => Instr.indexAt t u v) (fun a => by simp [execOp, ho]) ?_
  intro G u u' x' y' v w hv hx hy
  unfold bIdx at hv
  split at hv
  · rename_i b o' len cap es' n h1
    cases e1 : Nat.beq es' es with
    | false => rw [e1] at hv; cases hv
    | true =>
      rw [e1] at hv
      have := Nat.eq_of_beq_eq_true e1
      subst this
      cases e2 : leI 0 n with
      | false => rw [e2] at hv; cases hv
      | true =>
        rw [e2] at hv
        cases e3 : Nat.blt n.toNat len with
        | false => rw [e3] at hv; cases hv
        | true =>
          rw [e3] at hv; cases hv
          rw [leI_eq] at e2; rw [nblt_eq] at e3
          have i0 : 0 ≤ n := of_decide_eq_true e2
          have i1 : n.toNat < len := of_decide_eq_true e3
          obtain ⟨k, rfl⟩ := asN_ok h1 hy
          obtain ⟨l, a, c, rfl, hl, hc, _, ha, _⟩ := hx.slice_inv
          have ha : a = ⟨l.blk, l.base + o', none⟩ := ha.resolve_left (by omega)
          subst ha
          refine ⟨.pointer (some ⟨l.blk, l.base + (o' + n.toNat * es'), none⟩), ?_, .ptr _ _ l hl⟩
          have hn : 0 ≤ n ∧ n < (len : Int) := by omega
          simp [Instr.indexAt, asIntOf, ud_run H w ht, hn, sz_run H w hz, add_at, Nat.add_assoc]
  · cases hv
/-- An element of an array that is pointed to. -/
def bIdxA (len es : Nat) (x i : V) : Option V := match x, asN i with
  | .ptr b o, some n => Bool.casesOn (motive := fun _ => Option V) (leI 0 n) none (Bool.casesOn (motive := fun _ => Option V) (Nat.blt n.toNat len) none (some (.ptr b (Nat.add o (Nat.mul n.toNat es)))))
  | _, _ => none
include H in
theorem bIdxA_ok {t el es len : Nat} (ho : o.op = .indexAddr t x y) (ht : tt.ud t = some (.array len el)) (hz : tt.sz el = some es) (hg : opd gl x = some g) (hh : opd gl y = some h) : OPs P o nt gl (pBin (bIdxA len es) g h) := by
  refine bi_of hg hh _ (fun u v => Instr.indexAt t u v) (fun a => by simp [execOp, ho]) ?_
  intro G u u' x' y' v w hv hx hy
  unfold bIdxA at hv
  split at hv
  · rename_i b o' n h1
    cases e2 : leI 0 n with
    | false => rw [e2] at hv; cases hv
    | true =>
      rw [e2] at hv
      cases e3 : Nat.blt n.toNat len with
      | false => rw [e3] at hv; cases hv
      | true =>
        rw [e3] at hv; cases hv
        rw [leI_eq] at e2; rw [nblt_eq] at e3
        have i0 : 0 ≤ n := of_decide_eq_true e2
        have i1 : n.toNat < len := of_decide_eq_true e3
        obtain ⟨k, rfl⟩ := asN_ok h1 hy
        obtain ⟨l, rfl, hl⟩ := hx.ptr_inv
        refine ⟨.pointer (some ⟨l.blk, l.base + (o' + n.toNat * es), none⟩), ?_, .ptr _ _ l hl⟩
        have hn : 0 ≤ n ∧ n < (len : Int) := by omega
        simp [Instr.indexAt, asIntOf, ud_run H w ht, hn, sz_run H w hz, add_at, Nat.add_assoc, Instr.sureAddr]
  · cases hv

/-! ### Parts of values -/
/-- A part of a struct's or array's cells. -/
def partV (ag : Bool) (l : List V) (off n : Nat) : Option V := Bool.casesOn (motive := fun _ => Option V) ag l[off]? (some (.agg ((l.drop off).take n)))
include H in
theorem part_run {w : World} {G : Pl} {t n off : Nat} {d : TypeDesc} {l : List V} {l' : List Value} {v : V} (hd : tt.ud t = some d) (hn : tt.sz t = some n) (hl : VRs G l l') (hv : partV (aggB d) l off n = some v) : ∃ v', (part t ⟨l'⟩ off).run P w = .ok v' w ∧ VR G v v' := by
  unfold partV at hv
  cases hb : aggB d with
  | true =>
    rw [hb] at hv; cases hv
    refine ⟨.agg ((⟨l'⟩ : Array Value).extract off (off + n)), by simp [part, isAgg_run H w hd, hb, sz_run H w hn], ?_⟩
    have : (⟨l'⟩ : Array Value).extract off (off + n) = ⟨(l'.drop off).take n⟩ := by
      simp [List.take_drop, Nat.add_comm]
    rw [this]
    exact .agg _ _ ((hl.drop off).take n)
  | false =>
    rw [hb] at hv
    obtain ⟨v', h1, h2⟩ := hl.get hv
    exact ⟨v', by simp [part, isAgg_run H w hd, hb, h1], h2⟩
def uPart (ag : Bool) (off n : Nat) : V → Option V | .agg l => partV ag l off n | _ => none
include H in
theorem uPart_ok {s f n : Nat} {fs : Array Field} {fd : Field} {d : TypeDesc} (ho : o.op = .field s x f) (hs : tt.ud s = some (.struct fs)) (hf : fs[f]? = some fd) (hd : tt.ud fd.type = some d) (hz : tt.sz fd.type = some n) (hg : opd gl x = some g) : OPs P o nt gl (pUn (uPart (aggB d) fd.offset n) g) := by
  refine un_of hg _ (fun v => Instr.field s v f) (fun a => by simp [execOp, ho]) ?_
  intro G u x' v w hv hx
  unfold uPart at hv
  split at hv
  · obtain ⟨l', rfl, hl⟩ := hx.agg_inv
    obtain ⟨v', h1, h2⟩ := part_run H (w := w) hd hz hl hv
    exact ⟨v', by simp [Instr.field, ud_run H w hs, hf, asAgg, h1], h2⟩
  · cases hv
def bPart (ag : Bool) (len n : Nat) (x i : V) : Option V := match x, asN i with
  | .agg l, some m => Bool.casesOn (motive := fun _ => Option V) (leI 0 m) none (Bool.casesOn (motive := fun _ => Option V) (Nat.blt m.toNat len) none (partV ag l (Nat.mul m.toNat n) n))
  | _, _ => none
include H in
theorem bPart_ok {t el n len : Nat} {d : TypeDesc} (ho : o.op = .index t x y) (ht : tt.ud t = some (.array len el)) (hd : tt.ud el = some d) (hz : tt.sz el = some n) (hg : opd gl x = some g) (hh : opd gl y = some h) : OPs P o nt gl (pBin (bPart (aggB d) len n) g h) := by
  refine bi_of hg hh _ (fun u v => Instr.index t u v) (fun a => by simp [execOp, ho]) ?_
  intro G u u' x' y' v w hv hx hy
  unfold bPart at hv
  split at hv
  · rename_i l m h1
    cases e2 : leI 0 m with
    | false => rw [e2] at hv; cases hv
    | true =>
      rw [e2] at hv
      cases e3 : Nat.blt m.toNat len with
      | false => rw [e3] at hv; cases hv
      | true =>
        rw [e3] at hv
        rw [leI_eq] at e2; rw [nblt_eq] at e3
        have i0 : 0 ≤ m := of_decide_eq_true e2
        have i1 : m.toNat < len := of_decide_eq_true e3
        obtain ⟨k, rfl⟩ := asN_ok h1 hy
        obtain ⟨l', rfl, hl⟩ := hx.agg_inv
        obtain ⟨v', h1, h2⟩ := part_run H (w := w) (off := m.toNat * n) hd hz hl hv
        have hn : 0 ≤ m ∧ m < (len : Int) := by omega
        exact ⟨v', by simp [Instr.index, asIntOf, ud_run H w ht, hn, sz_run H w hz, h1], h2⟩
  · cases hv
/-- A byte of a text. -/
def bByte (x i : V) : Option V := match x, asN i with
  | .str l, some m => Bool.casesOn (motive := fun _ => Option V) (leI 0 m) none (match l[m.toNat]? with | some c => some (.int .u8 (Int.ofNat c)) | none => none)
  | _, _ => none
include H in
theorem bByte_ok {t : Nat} (ho : o.op = .index t x y) (ht : tt.ud t = some .string) (hg : opd gl x = some g) (hh : opd gl y = some h) : OPs P o nt gl (pBin bByte g h) := by
  refine bi_of hg hh _ (fun u v => Instr.index t u v) (fun a => by simp [execOp, ho]) ?_
  intro G u u' x' y' v w hv hx hy
  unfold bByte at hv
  split at hv
  · rename_i l m h1
    cases e2 : leI 0 m with
    | false => rw [e2] at hv; cases hv
    | true =>
      rw [e2] at hv
      rw [leI_eq] at e2
      have i0 : 0 ≤ m := of_decide_eq_true e2
      obtain ⟨s, rfl, rfl⟩ := hx.str_inv
      obtain ⟨k, rfl⟩ := asN_ok h1 hy
      simp only at hv
      split at hv
      · rename_i c hc
        cases hv
        rw [List.getElem?_map] at hc
        cases hq : s.data.toList[m.toNat]? with
        | none => rw [hq] at hc; cases hc
        | some q =>
          rw [hq] at hc; cases hc
          have hlt : m.toNat < s.size := by
            have := (List.getElem?_eq_some_iff.1 hq).1
            rw [Array.length_toList] at this; exact this
          have hs : s[m.toNat]? = some q := by
            rw [ByteArray.getElem?_lt' s m.toNat hlt]
            have := (List.getElem?_eq_some_iff.1 hq).2
            rw [← this]; rfl
          exact ⟨.int .u8 q.toNat, by simp [Instr.index, asIntOf, ud_run H w ht, i0, hs], .int _ _⟩
      · cases hv
  · cases hv
def uExt (i : Nat) : V → Option V | .tup l => l[i]? | _ => none
theorem uExt_ok {i : Nat} (ho : o.op = .extract x i) (hg : opd gl x = some g) : OPs P o nt gl (pUn (uExt i) g) := by
  refine un_of hg _ (fun v => Instr.extract v i) (fun a => by simp [execOp, ho]) ?_
  intro G u x' v w hv hx
  unfold uExt at hv
  split at hv
  · obtain ⟨l', rfl, hl⟩ := hx.tup_inv
    obtain ⟨v', h1, h2⟩ := hl.get hv
    exact ⟨v', by simp [Instr.extract, h1], h2⟩
  · cases hv
def uChk : V → Option V | .ptr b o => some (.ptr b o) | .func f a b => some (.func f a b) | .iface t v => some (.iface t v) | _ => none
theorem uChk_ok (ho : o.op = .nilCheck x) (hg : opd gl x = some g) : OPs P o nt gl (pUn uChk g) := by
  intro G e a w v hv he
  have hx := opd_ok hg he
  unfold pUn uChk at hv
  split at hv
  · rename_i b o' h1
    rw [h1] at hx
    cases hv
    obtain ⟨l, h2, hl⟩ := hx.ptr_inv
    exact ⟨_, by simp only [execOp, ho, h2]; rfl, .ptr _ _ l hl⟩
  · rename_i h1
    rw [h1] at hx
    cases hv
    generalize hq : a.eval x = x' at hx
    cases hx with
    | func f p q p' q' hp hq' => exact ⟨_, by simp only [execOp, ho, hq]; rfl, .func _ _ _ _ _ hp hq'⟩
  · rename_i h1
    rw [h1] at hx
    cases hv
    obtain ⟨v', h2, h3⟩ := hx.iface_inv
    exact ⟨_, by simp only [execOp, ho, h2]; rfl, .iface _ _ _ h3⟩
  · cases hv
end
end
end Go.Proofs.YtjipdnfaokdkbaaLab
