/- The lab: from the program's operations to ours. No condition on the program. -/
import Derived.Test.YtjipdnfaokdkbaaLabW
namespace Go.Proofs.YtjipdnfaokdkbaaLab
open Go
set_option linter.unusedVariables false
noncomputable section

/-- An operand: a slot, a value. -/
inductive OO where
  | t (n : Nat)
  | c (v : V)
def OO.den : OO → E → V | .t n => Gt n | .c v => cV v
def lowOd (gl : List Nat) : Operand → Option OO
  | .tmp t => if t < 256 then some (.t t) else none
  | .const v => (lowV 300 v).map .c
  | .global g => if gl.contains g then some (.c (.ptr g 0)) else none
  | .func f => some (.c (.func f [] []))
theorem lowOd_ok {gl : List Nat} {x : Operand} {y : OO} (h : lowOd gl x = some y) : opd gl x = some y.den := by
  cases x with
  | tmp t => simp only [lowOd] at h; split at h <;> cases h; simp [opd, *, OO.den]
  | const v =>
    simp only [lowOd] at h
    cases hv : lowV 300 v with
    | none => rw [hv] at h; cases h
    | some u => rw [hv] at h; cases h; simp [opd, hv, OO.den]
  | global g => simp only [lowOd] at h; split at h <;> cases h; simp only [opd, if_pos ‹gl.contains g = true›, OO.den]
  | func f => cases h; rfl
def lowOds (gl : List Nat) : List Operand → Option (List OO)
  | [] => some []
  | x :: l => do some ((← lowOd gl x) :: (← lowOds gl l))
theorem lowOds_ok {gl : List Nat} : ∀ {l : List Operand} {r : List OO}, lowOds gl l = some r → opds gl l = some (r.map OO.den)
  | [], r, h => by cases h; rfl
  | x :: l, r, h => by
    simp only [lowOds, Option.bind_eq_bind, Option.bind_eq_some_iff] at h
    obtain ⟨y, h1, q, h2, h3⟩ := h
    cases h3
    simp [opds, lowOd_ok h1, lowOds_ok h2]
def lowOdO (gl : List Nat) : Option Operand → Option (Option OO) | none => some none | some x => (lowOd gl x).map some
theorem lowOdO_ok {gl : List Nat} {x : Option Operand} {y : Option OO} (h : lowOdO gl x = some y) : opdO gl x = some (y.map OO.den) := by
  cases x with
  | none => cases h; rfl
  | some x =>
    simp only [lowOdO] at h
    cases hv : lowOd gl x with
    | none => rw [hv] at h; cases h
    | some u => rw [hv] at h; cases h; simp [opdO, lowOd_ok hv]
def lowParts (gl : List Nat) (place : Nat → Option (Nat × Nat)) : List (Nat × Operand) → Option (List (Nat × Nat × OO))
  | [] => some []
  | (i, x) :: l => match place i, lowOd gl x, lowParts gl place l with
    | some (off, size), some g, some r => some ((off, size, g) :: r)
    | _, _, _ => none
def denPart (p : Nat × Nat × OO) : Nat × Nat × (E → V) := (p.1, p.2.1, p.2.2.den)
theorem lowParts_ok {gl : List Nat} {place : Nat → Option (Nat × Nat)} : ∀ {l : List (Nat × Operand)} {r : List (Nat × Nat × OO)}, lowParts gl place l = some r → partsG gl place l = some (r.map denPart)
  | [], r, h => by cases h; rfl
  | (i, x) :: l, r, h => by
    unfold lowParts at h
    split at h
    · rename_i off size g q h1 h2 h3
      cases h
      simp [partsG, h1, lowOd_ok h2, lowParts_ok h3, denPart]
    · cases h

/-- Our operations, as data. -/
inductive LO where
  | move (x : OO)
  | pick (c a b : OO)
  | int (op : BinOp) (k : IntKind) (x y : OO)
  | div (op : BinOp) (k : IntKind) (x y : OO)
  | sh (op : BinOp) (k : IntKind) (x y : OO)
  | str (op : BinOp) (x y : OO)
  | beq (neg : Bool) (x y : OO)
  | nil (neg : Bool) (d : TypeDesc) (x y : OO)
  | not (x : OO)
  | neg (x : OO)
  | xor (x : OO)
  | cInt (k : IntKind) (x : OO)
  | cStr (x : OO)
  | ifc (t : Nat) (x : OO)
  | ass (t : Nat) (ok : Bool) (z : V) (x : OO)
  | fn (f : Nat) (a b : List OO)
  | fld (off : Nat) (x : OO)
  | idx (es : Nat) (x y : OO)
  | idxA (len es : Nat) (x y : OO)
  | part (ag : Bool) (off n : Nat) (x : OO)
  | partI (ag : Bool) (len n : Nat) (x y : OO)
  | byte (x y : OO)
  | ext (i : Nat) (x : OO)
  | chk (x : OO)
  | sl (es : Nat) (x : OO) (lo hi mx : Option OO)
  | slS (x : OO) (lo hi : Option OO)
  | lenS (x : OO)
  | lenT (x : OO)
  | lenA (n : Nat) (x : OO)
  | cap (x : OO)
  | mn (k : IntKind) (x y : OO)
  | mx (k : IntKind) (x y : OO)
  | build (z : List V) (ps : List (Nat × Nat × OO))
  | ld (x : OO)
  | ldN (n : Nat) (x : OO)
  | lk (d : TypeDesc) (z : V) (ok : Bool) (x y : OO)
  | lenM (x : OO)
  | al (l : List V)
  | box (x : OO)
  | bSl (len size : Nat) (z : List V) (ps : List (Nat × Nat × OO))
  | mk
  | mkN (x : OO)
  | st (m : Nat) (x y : OO)
  | ap (es : Nat) (x y : OO)
  | mu (d : TypeDesc) (x y z : OO)
  | call (f : Nat) (a : List OO)
  | callV (x : OO) (a : List OO)
  | stuck
  | mkS (es bytes : Nat) (z : List V) (x y : OO)
  | apZ (es bytes : Nat) (z : List V) (x y : OO)
  | clr (z : List V) (x : OO)
  | cpy (es : Nat) (x y : OO)
  | rng (x : OO)
  | nx (x : OO)
  | ent (x : OO)
  | bstr (x : OO)
  | inv (ms : List (Nat × Nat × RM)) (x : OO) (a : List OO)
  | mE (d : TypeDesc) (z : V) (x y : OO)
  | eS (x y z : OO)
  | strE (ng : Bool) (ks : List CK) (x y : OO)
  | lkS (ks : List CK) (z : V) (ok : Bool) (x y : OO)
  | muS (ks : List CK) (x y z : OO)
  | slA (n es : Nat) (x : OO) (lo hi : Option OO)
/-- One that ours does not go: what comes of it is not told. -/
def pStuck (_ : E) : Option V := none

/-- What an operation is. -/
inductive OD where
  | p (f : E → Option V)
  | d (f : E → St → Option V)
  | a (f : E → Nat → Option (V × Ob))
  | e (f : KC → E → St → Option (V × St))
def OD.den : OD → (E → V → E) → Den | .p f, u => oP f u | .d f, u => oD f u | .a f, u => oA f u | .e f, u => oE f u

def denLO (fok : T Bool) : LO → Option OD
  | .move x => some (.p (pMove x.den))
  | .pick c a b => some (.p (pPick c.den a.den b.den))
  | .int op k x y => match intF op k with | some f => some (.p (pBin (b2 k f) x.den y.den)) | none => none
  | .div op k x y => match divF op k with | some f => some (.p (pBin (dv op k f) x.den y.den)) | none => none
  | .sh op k x y => some (.p (pBin (bSh op k) x.den y.den))
  | .str op x y => match strF op with | some f => some (.p (pBin (bS f) x.den y.den)) | none => none
  | .beq ng x y => some (.p (pBin (bBool ng) x.den y.den))
  | .nil ng d x y => match nilF d with | some n => some (.p (pBin (bNil ng n) x.den y.den)) | none => none
  | .not x => some (.p (pUn uNot x.den))
  | .neg x => some (.p (pUn uNeg x.den))
  | .xor x => some (.p (pUn uXor x.den))
  | .cInt k x => some (.p (pUn (cInt k) x.den))
  | .cStr x => some (.p (pUn cStr x.den))
  | .ifc t x => some (.p (pUn (uIfc t) x.den))
  | .ass t ok z x => some (.p (pUn (uAss t ok z) x.den))
  | .fn f a b => some (.p (pFun f (a.map OO.den) (b.map OO.den)))
  | .fld off x => some (.p (pUn (uFld off) x.den))
  | .idx es x y => some (.p (pBin (bIdx es) x.den y.den))
  | .idxA len es x y => some (.p (pBin (bIdxA len es) x.den y.den))
  | .part ag off n x => some (.p (pUn (uPart ag off n) x.den))
  | .partI ag len n x y => some (.p (pBin (bPart ag len n) x.den y.den))
  | .byte x y => some (.p (pBin bByte x.den y.den))
  | .ext i x => some (.p (pUn (uExt i) x.den))
  | .chk x => some (.p (pUn uChk x.den))
  | .sl es x lo hi mx => some (.p (pSl es x.den (lo.map OO.den) (hi.map OO.den) (mx.map OO.den)))
  | .slS x lo hi => some (.p (pSlS x.den (lo.map OO.den) (hi.map OO.den)))
  | .lenS x => some (.p (pUn uLenS x.den))
  | .lenT x => some (.p (pUn uLenT x.den))
  | .lenA n x => some (.p (pUn (uLenA n) x.den))
  | .cap x => some (.p (pUn uCap x.den))
  | .mn k x y => some (.p (pBin (b2 k (mnF k)) x.den y.den))
  | .mx k x y => some (.p (pBin (b2 k (mxF k)) x.den y.den))
  | .build z ps => some (.p (pBuild z (ps.map denPart)))
  | .ld x => some (.d (dLd x.den))
  | .ldN n x => some (.d (dLdN n x.den))
  | .lk d z ok x y => match eqK d with | some q => some (.d (dLk q z ok x.den y.den)) | none => none
  | .lenM x => some (.d (dLenM x.den))
  | .al l => some (.a (aAl l.length (ofL l)))
  | .box x => some (.a (aBox x.den))
  | .bSl len size z ps => some (.a (aBSl len size z (ps.map denPart)))
  | .mk => some (.a aMk)
  | .mkN x => some (.a (aMkN x.den))
  | .st m x y => some (.e (eSt m x.den y.den))
  | .ap es x y => some (.e (eAp es x.den y.den))
  | .mu d x y z => match eqK d with | some q => some (.e (eMu q x.den y.den z.den)) | none => none
  | .call f a => some (.e (eCall f (a.map OO.den)))
  | .callV x a => some (.e (eCallV fok x.den (a.map OO.den)))
  | .stuck => some (.p pStuck)
  | .mkS es bytes z x y => some (.a (aMkS es bytes z x.den y.den))
  | .apZ es bytes z x y => some (.a (aApZ es bytes z x.den y.den))
  | .clr z x => some (.e (eClr z x.den))
  | .cpy es x y => some (.e (eCp es x.den y.den))
  | .rng x => some (.e (eRng x.den))
  | .nx x => some (.e (eNx x.den))
  | .ent x => some (.d (dEnt x.den))
  | .bstr x => some (.d (dBStr x.den))
  | .inv ms x a => some (.e (eInv ms x.den (a.map OO.den)))
  | .mE d z x y => match eqK d with | some q => some (.e (eME q z x.den y.den)) | none => none
  | .eS x y z => some (.e (eES x.den y.den z.den))
  | .strE ng ks x y => some (.p (pBin (bStr ng ks) x.den y.den))
  | .lkS ks z ok x y => some (.d (dLkS ks z ok x.den y.den))
  | .muS ks x y z => some (.e (eMuS ks x.den y.den z.den))
  | .slA n es x lo hi => some (.d (dSlA n es x.den (lo.map OO.den) (hi.map OO.den)))

def isC : Operand → Bool | .const _ => true | _ => false

/-- A binary operation. -/
def lowBin (tt : TT) (op : BinOp) (t : Nat) (x y : Operand) (a b : OO) : Option LO :=
  match tt.ud t with
  | some (.int k) => match op with
    | .quo | .rem => some (.div op k a b)
    | .shl | .shr => some (.sh op k a b)
    | _ => some (.int op k a b)
  | some .string => some (.str op a b)
  | some .bool => match op with
    | .eql => some (.beq false a b)
    | .neq => some (.beq true a b)
    | _ => none
  | some d => if isC x || isC y then (match op with
    | .eql => some (.nil false d a b)
    | .neq => some (.nil true d a b)
    | _ => none) else none
  | none => none
/-- A conversion. -/
def lowConv (tt : TT) (s d : Nat) (a : OO) : Option LO :=
  match tt.ud s, tt.ud d with
  | some (.slice _), some .string => none
  | some _, some (.int k) => some (.cInt k a)
  | some _, some .string => some (.cStr a)
  | _, _ => none
/-- The zero of a type, as ours. -/
def zeroOf (tt : TT) (t : Nat) : Option V := match tt.ti t with | some ti => (match ti.zero with | some zv => lowV 300 zv | none => none) | none => none
def lowLen (tt : TT) (t : Nat) (a : OO) : Option LO :=
  match tt.ud t with
  | some (.slice _) => some (.lenS a)
  | some .string => some (.lenT a)
  | some (.array n _) => some (.lenA n a)
  | some (.map _ _) => some (.lenM a)
  | some (.pointer ar) => match tt.ud ar with | some (.array n _) => some (.lenA n a) | _ => none
  | _ => none
def lowAp (tt : TT) (t1 t2 : Nat) (a b : OO) : Option LO :=
  match tt.ud t1, tt.ud t2 with
  | some (.slice el), some d2 => (match d2 with
    | .int _ => none
    | _ => match tt.sz el, tt.ti el with
      | some es, some ti => (match ti.zero with
        | some zv => if zv.cells.size = es ∧ 0 < ti.bytes ∧ ti.bytes ≤ 65536 then some (.ap es a b) else none
        | none => none)
      | _, _ => none)
  | _, _ => none
def lowBuiltin (tt : TT) (gl : List Nat) (b : Builtin) (args : List Operand) (ats : List Nat) : Option LO :=
  match b, args, ats with
  | .len, [x], [t] => (lowOd gl x).bind (lowLen tt t)
  | .cap, [x], [t] => match tt.ud t with | some (.slice _) => (lowOd gl x).map .cap | _ => none
  | .append, [x, y], [t1, t2] => (lowOd gl x).bind fun a => (lowOd gl y).bind fun b => lowAp tt t1 t2 a b
  | .min, [x, y], [t1, _] => match tt.ud t1 with | some (.int k) => (lowOd gl x).bind fun a => (lowOd gl y).map fun b => .mn k a b | _ => none
  | .max, [x, y], [t1, _] => match tt.ud t1 with | some (.int k) => (lowOd gl x).bind fun a => (lowOd gl y).map fun b => .mx k a b | _ => none
  | _, _, _ => none

/-- From an operation of the program to ours. -/
def lowOp (tt : TT) (gl : List Nat) (fok : T Bool) (o : Oper) : Option LO := match o.op with
  | .move x | .assign x => (lowOd gl x).map .move
  | .pick c a b => (lowOd gl c).bind fun c => (lowOd gl a).bind fun a => (lowOd gl b).map fun b => .pick c a b
  | .binOp op t x y _ => (lowOd gl x).bind fun a => (lowOd gl y).bind fun b => lowBin tt op t x y a b
  | .unOp .not _ x => (lowOd gl x).map .not
  | .unOp .neg _ x => (lowOd gl x).map .neg
  | .unOp .xor _ x => (lowOd gl x).map .xor
  | .convert s d x => (lowOd gl x).bind (lowConv tt s d)
  | .makeInterface t x => match tt.ud t with | some d => if ifcB d then none else (lowOd gl x).map (.ifc t) | none => none
  | .typeAssert x _ t ok => match tt.ud t with | some d => if ifcB d then none else (match zeroOf tt t with | some z => (lowOd gl x).map (.ass t ok z) | none => none) | none => none
  | .makeFunc (.func f) a b => (lowOds gl a.toList).bind fun a => (lowOds gl b.toList).map fun b => .fn f a b
  | .fieldAddr s x f => match tt.ud s with
    | some (.struct fs) => (match fs[f]? with
      | some fd => (match tt.sz fd.type with | some (_ + 1) => (lowOd gl x).map (.fld fd.offset) | _ => none)
      | none => none)
    | _ => none
  | .indexAddr t x y => match tt.ud t with
    | some (.slice el) => (match tt.sz el with | some es => (lowOd gl x).bind fun a => (lowOd gl y).map fun b => .idx es a b | none => none)
    | some (.array len el) => (match tt.sz el with | some es => (lowOd gl x).bind fun a => (lowOd gl y).map fun b => .idxA len es a b | none => none)
    | _ => none
  | .field s x f => match tt.ud s with
    | some (.struct fs) => (match fs[f]? with
      | some fd => (match tt.ud fd.type, tt.sz fd.type with | some d, some n => (lowOd gl x).map (.part (aggB d) fd.offset n) | _, _ => none)
      | none => none)
    | _ => none
  | .index t x y => match tt.ud t with
    | some (.array len el) => (match tt.ud el, tt.sz el with | some d, some n => (lowOd gl x).bind fun a => (lowOd gl y).map fun b => .partI (aggB d) len n a b | _, _ => none)
    | some .string => (lowOd gl x).bind fun a => (lowOd gl y).map fun b => .byte a b
    | _ => none
  | .extract x i => (lowOd gl x).map (.ext i)
  | .nilCheck x => (lowOd gl x).map .chk
  | .slice t x lo hi mx => match tt.ud t with
    | some (.slice el) => (match tt.sz el with
      | some es => if mx.isNone || hi.isSome then (lowOd gl x).bind fun a => (lowOdO gl lo).bind fun l => (lowOdO gl hi).bind fun h => (lowOdO gl mx).map fun m => .sl es a l h m else none
      | none => none)
    | some .string => if mx.isNone then (lowOd gl x).bind fun a => (lowOdO gl lo).bind fun l => (lowOdO gl hi).map fun h => .slS a l h else none
    | _ => none
  | .build t ps => match tt.ud t with
    | some (.struct fs) => (match zeroOf tt t, placesOf tt fs.toList with
      | some (.agg z), some pl => (lowParts gl (fun i => pl[i]?) ps.toList).map (.build z)
      | _, _ => none)
    | some (.array _ el) => (match zeroOf tt t, tt.sz el with
      | some (.agg z), some n => (lowParts gl (fun i => some (i * n, n)) ps.toList).map (.build z)
      | _, _ => none)
    | _ => none
  | .load t x => match tt.ud t, tt.sz t with
    | some d, some n => (lowOd gl x).map (if aggB d then .ldN n else .ld)
    | _, _ => none
  | .lookup t x y ok => match tt.ud t with
    | some (.map kt el) => (match tt.ud kt, zeroOf tt el with
      | some d, some z => (lowOd gl x).bind fun a => (lowOd gl y).map fun b => .lk d z ok a b
      | _, _ => none)
    | _ => none
  | .alloc t => match zeroOf tt t with
    | some z => (match cellsV z with | some l => if allOne l then some (.al l) else none | none => none)
    | none => none
  | .box _ x => (lowOd gl x).map .box
  | .buildSlice t len ps => match tt.ud t with
    | some (.slice el) => (match tt.sz el, zeroOf tt el with
      | some size, some z0 => (match cellsV z0 with
        | some z => if len * size ≤ 2 ^ 24 then (lowParts gl (fun i => some (i * size, size)) ps.toList).map (.bSl len size (if len * size = 0 then [] else zer (len * size) z)) else none
        | none => none)
      | _, _ => none)
    | _ => none
  | .makeMap _ none => some .mk
  | .makeMap t (some x) => match tt.ud t with | some (.map _ _) => (lowOd gl x).map .mkN | _ => none
  | .store t x y => match tt.sz t with | some m => (lowOd gl x).bind fun a => (lowOd gl y).map fun b => .st m a b | none => none
  | .mapUpdate t x y z | .insert t x y z => match tt.ud t with
    | some (.map kt _) => (match tt.ud kt with
      | some d => (lowOd gl x).bind fun a => (lowOd gl y).bind fun b => (lowOd gl z).map fun c => .mu d a b c
      | none => none)
    | _ => none
  | .call c => match c.callee with
    | .builtin b => lowBuiltin tt gl b c.args.toList c.argTypes.toList
    | .value (.func f) => match fok.get f with | some true => (lowOds gl c.args.toList).map (.call f) | _ => none
    | .value x => (lowOd gl x).bind fun a => (lowOds gl c.args.toList).map (.callV a)
    | _ => none
  | _ => none

def OdOk (P : Program) (nt : Nat) (gl : List Nat) (o : Oper) : OD → Prop
  | .p f => OPs P o nt gl f
  | .d f => ODs P o nt gl f
  | .a f => OAs P o nt gl f
  | .e f => OEs P o nt gl f

theorem zeroOf_inv {tt : TT} {t : Nat} {z : V} (h : zeroOf tt t = some z) : ∃ ti zv, tt.ti t = some ti ∧ ti.zero = some zv ∧ lowV 300 zv = some z := by
  unfold zeroOf at h
  split at h
  · rename_i ti hti
    split at h
    · rename_i zv hz; exact ⟨ti, zv, hti, hz, h⟩
    · cases h
  · cases h

section
variable {P : Program} {tt : TT} (H : TOk P tt) {nt : Nat} {gl : List Nat} {o : Oper} {fok : T Bool} (hfok : ∀ f, fok.get f = some true → FOk P f)
include H in
theorem lowBin_ok {op : BinOp} {t yt : Nat} {x y : Operand} {a b : OO} {l : LO} {od : OD} (ho : o.op = .binOp op t x y yt) (ha : lowOd gl x = some a) (hb : lowOd gl y = some b) (h : lowBin tt op t x y a b = some l) (hd : denLO fok l = some od) : OdOk P nt gl o od := by
  have hg := lowOd_ok ha
  have hh := lowOd_ok hb
  unfold lowBin at h
  split at h
  · rename_i k ht
    cases op <;> simp only [Option.some.injEq] at h <;> subst h <;> simp only [denLO] at hd
    case quo => split at hd <;> cases hd; exact pBin_div_ok ho ‹_› hg hh
    case rem => split at hd <;> cases hd; exact pBin_div_ok ho ‹_› hg hh
    case shl => cases hd; exact pBin_sh_ok ho hg hh
    case shr => cases hd; exact pBin_sh_ok ho hg hh
    all_goals (split at hd <;> cases hd; exact pBin_int_ok ho ‹_› hg hh)
  · rename_i ht
    cases h
    simp only [denLO] at hd
    split at hd <;> cases hd
    exact pBin_str_ok ho ‹_› hg hh
  · rename_i ht
    split at h <;> cases h <;> cases hd
    · exact pBin_bool_ok H (neg := false) (by simpa using ho) ht hg hh
    · exact pBin_bool_ok H (neg := true) (by simpa using ho) ht hg hh
  · rename_i d h1 h2 h3 ht
    have hc : ∀ x : Operand, isC x = true → ∃ v, x = .const v := by
      intro x hx; cases x <;> simp only [isC, reduceCtorEq] at hx; exact ⟨_, rfl⟩
    split at h
    · rename_i hcc
      have hcc : (∃ v, x = .const v) ∨ (∃ v, y = .const v) := by
        rcases Bool.or_eq_true_iff.1 hcc with hx | hx
        · exact .inl (hc _ hx)
        · exact .inr (hc _ hx)
      split at h <;> cases h <;> simp only [denLO] at hd <;> split at hd <;> cases hd
      · exact pBin_nil_ok H (neg := false) (by simpa using ho) hcc ht ‹_› hg hh
      · exact pBin_nil_ok H (neg := true) (by simpa using ho) hcc ht ‹_› hg hh
    · cases h
  · cases h
include H in
theorem lowConv_ok {s d : Nat} {x : Operand} {a : OO} {l : LO} {od : OD} (ho : o.op = .convert s d x) (ha : lowOd gl x = some a) (h : lowConv tt s d a = some l) (hd : denLO fok l = some od) : OdOk P nt gl o od := by
  unfold lowConv at h
  split at h
  · cases h
  · cases h; cases hd; exact cInt_ok H ho ‹_› ‹_› (lowOd_ok ha)
  · cases h; cases hd; exact cStr_ok H ho ‹_› ‹_› (lowOd_ok ha)
  · cases h
include H in
theorem lowLen_ok {t : Nat} {x : Operand} {a : OO} {l : LO} {od : OD} (ho : isB1 o .len t x) (ha : lowOd gl x = some a) (h : lowLen tt t a = some l) (hd : denLO fok l = some od) : OdOk P nt gl o od := by
  unfold lowLen at h
  split at h
  · cases h; cases hd; exact uLenS_ok H ho ‹_› (lowOd_ok ha)
  · cases h; cases hd; exact uLenT_ok H ho ‹_› (lowOd_ok ha)
  · cases h; cases hd; exact uLenA_ok H ho ‹_› (lowOd_ok ha)
  · cases h; cases hd; exact dLenM_ok H ho ‹_› (lowOd_ok ha)
  · split at h
    · cases h; cases hd; exact uLenAp_ok H ho ‹_› ‹_› (lowOd_ok ha)
    · cases h
  · cases h
include H in
theorem lowAp_ok {t1 t2 : Nat} {x y : Operand} {a b : OO} {l : LO} {od : OD} (ho : isB2 o .append t1 t2 x y) (ha : lowOd gl x = some a) (hb : lowOd gl y = some b) (h : lowAp tt t1 t2 a b = some l) (hd : denLO fok l = some od) : OdOk P nt gl o od := by
  unfold lowAp at h
  split at h
  · rename_i el d2 h1 h2
    split at h
    · cases h
    · rename_i hne
      split at h
      · rename_i es ti h3 h4
        split at h
        · rename_i zv h5
          split at h
          · rename_i h6
            cases h; cases hd
            exact eAp_ok H ho h1 h2 (fun k hk => hne k hk) h3 h4 h5 h6.1 h6.2.1 h6.2.2 (lowOd_ok ha) (lowOd_ok hb)
          · cases h
        · cases h
      · cases h
  · cases h
include H in
theorem lowBuiltin_ok {c : Call} {b : Builtin} {l : LO} {od : OD} (ho : o.op = .call c) (hc : c.callee = .builtin b) (h : lowBuiltin tt gl b c.args.toList c.argTypes.toList = some l) (hd : denLO fok l = some od) : OdOk P nt gl o od := by
  obtain ⟨cal, args, ats⟩ := c
  simp only at hc h
  subst hc
  unfold lowBuiltin at h
  split at h
  · rename_i x t h1 h2
    have e1 : args = #[x] := by rw [← Array.toArray_toList (xs := args), h1]
    have e2 : ats = #[t] := by rw [← Array.toArray_toList (xs := ats), h2]
    subst e1; subst e2
    rw [Option.bind_eq_some_iff] at h
    obtain ⟨a, ha, h⟩ := h
    exact lowLen_ok H ho ha h hd
  · rename_i x t h1 h2
    have e1 : args = #[x] := by rw [← Array.toArray_toList (xs := args), h1]
    have e2 : ats = #[t] := by rw [← Array.toArray_toList (xs := ats), h2]
    subst e1; subst e2
    split at h
    · rw [Option.map_eq_some_iff] at h
      obtain ⟨a, ha, rfl⟩ := h
      cases hd
      exact uCap_ok H ho ‹_› (lowOd_ok ha)
    · cases h
  · rename_i x y t1 t2 h1 h2
    have e1 : args = #[x, y] := by rw [← Array.toArray_toList (xs := args), h1]
    have e2 : ats = #[t1, t2] := by rw [← Array.toArray_toList (xs := ats), h2]
    subst e1; subst e2
    rw [Option.bind_eq_some_iff] at h
    obtain ⟨a, ha, h⟩ := h
    rw [Option.bind_eq_some_iff] at h
    obtain ⟨b, hb, h⟩ := h
    exact lowAp_ok H ho ha hb h hd
  · rename_i x y t1 t2 h1 h2
    have e1 : args = #[x, y] := by rw [← Array.toArray_toList (xs := args), h1]
    have e2 : ats = #[t1, t2] := by rw [← Array.toArray_toList (xs := ats), h2]
    subst e1; subst e2
    split at h
    · rw [Option.bind_eq_some_iff] at h
      obtain ⟨a, ha, h⟩ := h
      rw [Option.map_eq_some_iff] at h
      obtain ⟨b, hb, rfl⟩ := h
      cases hd
      exact mn_ok ho (lowOd_ok ha) (lowOd_ok hb)
    · cases h
  · rename_i x y t1 t2 h1 h2
    have e1 : args = #[x, y] := by rw [← Array.toArray_toList (xs := args), h1]
    have e2 : ats = #[t1, t2] := by rw [← Array.toArray_toList (xs := ats), h2]
    subst e1; subst e2
    split at h
    · rw [Option.bind_eq_some_iff] at h
      obtain ⟨a, ha, h⟩ := h
      rw [Option.map_eq_some_iff] at h
      obtain ⟨b, hb, rfl⟩ := h
      cases hd
      exact mx_ok ho (lowOd_ok ha) (lowOd_ok hb)
    · cases h
  · cases h
include H hfok in
theorem lowOp_ok {l : LO} {od : OD} (h : lowOp tt gl fok o = some l) (hd : denLO fok l = some od) : OdOk P nt gl o od := by
  unfold lowOp at h
  split at h
  all_goals (try (simp only [Option.map_eq_some_iff, Option.bind_eq_some_iff] at h))
  · rename_i x ho; obtain ⟨a, ha, rfl⟩ := h; cases hd; exact pMove_ok (.inl ho) (lowOd_ok ha)
  · rename_i x ho; obtain ⟨a, ha, rfl⟩ := h; cases hd; exact pMove_ok (.inr ho) (lowOd_ok ha)
  · rename_i ho; obtain ⟨a, ha, b, hb, c, hc, rfl⟩ := h; cases hd; exact pPick_ok ho (lowOd_ok ha) (lowOd_ok hb) (lowOd_ok hc)
  · rename_i ho; obtain ⟨a, ha, b, hb, h⟩ := h; exact lowBin_ok H ho ha hb h hd
  · rename_i ho; obtain ⟨a, ha, rfl⟩ := h; cases hd; exact uNot_ok ho (lowOd_ok ha)
  · rename_i ho; obtain ⟨a, ha, rfl⟩ := h; cases hd; exact uNeg_ok ho (lowOd_ok ha)
  · rename_i ho; obtain ⟨a, ha, rfl⟩ := h; cases hd; exact uXor_ok ho (lowOd_ok ha)
  · rename_i ho; obtain ⟨a, ha, h⟩ := h; exact lowConv_ok H ho ha h hd
  · rename_i t x ho
    split at h
    · rename_i d hd'
      split at h
      · cases h
      · rename_i hn
        rw [Option.map_eq_some_iff] at h
        obtain ⟨a, ha, rfl⟩ := h; cases hd
        exact uIfc_ok H ho hd' (by simpa using hn) (lowOd_ok ha)
    · cases h
  · rename_i x s t ok ho
    split at h
    · rename_i d hd'
      split at h
      · cases h
      · rename_i hn
        split at h
        · rename_i z hz
          rw [Option.map_eq_some_iff] at h
          obtain ⟨a, ha, rfl⟩ := h; cases hd
          obtain ⟨ti, zv, z1, z2, z3⟩ := zeroOf_inv hz
          exact uAss_ok H ho hd' (by simpa using hn) z1 z2 z3 (lowOd_ok ha)
        · cases h
    · cases h
  · rename_i ho
    obtain ⟨a, ha, b, hb, rfl⟩ := h; cases hd
    exact pFun_ok ho (lowOds_ok ha) (lowOds_ok hb)
  · rename_i s x f ho
    split at h
    · rename_i fs hs
      split at h
      · rename_i fd hf
        split at h
        · rename_i n hz
          rw [Option.map_eq_some_iff] at h
          obtain ⟨a, ha, rfl⟩ := h; cases hd
          exact uFld_ok H ho hs hf hz (lowOd_ok ha)
        · cases h
      · cases h
    · cases h
  · rename_i t x y ho
    split at h
    · rename_i el ht
      split at h
      · rename_i es hz
        simp only [Option.map_eq_some_iff, Option.bind_eq_some_iff] at h
        obtain ⟨a, ha, b, hb, rfl⟩ := h; cases hd
        exact bIdx_ok H ho ht hz (lowOd_ok ha) (lowOd_ok hb)
      · cases h
    · rename_i len el ht
      split at h
      · rename_i es hz
        simp only [Option.map_eq_some_iff, Option.bind_eq_some_iff] at h
        obtain ⟨a, ha, b, hb, rfl⟩ := h; cases hd
        exact bIdxA_ok H ho ht hz (lowOd_ok ha) (lowOd_ok hb)
      · cases h
    · cases h
  · rename_i s x f ho
    split at h
    · rename_i fs hs
      split at h
      · rename_i fd hf
        split at h
        · rename_i d n h1 h2
          rw [Option.map_eq_some_iff] at h
          obtain ⟨a, ha, rfl⟩ := h; cases hd
          exact uPart_ok H ho hs hf h1 h2 (lowOd_ok ha)
        · cases h
      · cases h
    · cases h
  · rename_i t x y ho
    split at h
    · rename_i len el ht
      split at h
      · rename_i d n h1 h2
        simp only [Option.map_eq_some_iff, Option.bind_eq_some_iff] at h
        obtain ⟨a, ha, b, hb, rfl⟩ := h; cases hd
        exact bPart_ok H ho ht h1 h2 (lowOd_ok ha) (lowOd_ok hb)
      · cases h
    · rename_i ht
      simp only [Option.map_eq_some_iff, Option.bind_eq_some_iff] at h
      obtain ⟨a, ha, b, hb, rfl⟩ := h; cases hd
      exact bByte_ok H ho ht (lowOd_ok ha) (lowOd_ok hb)
    · cases h
  · rename_i ho; obtain ⟨a, ha, rfl⟩ := h; cases hd; exact uExt_ok ho (lowOd_ok ha)
  · rename_i ho; obtain ⟨a, ha, rfl⟩ := h; cases hd; exact uChk_ok ho (lowOd_ok ha)
  · rename_i t x lo hi mx ho
    split at h
    · rename_i el ht
      split at h
      · rename_i es hz
        split at h
        · rename_i hm
          simp only [Option.map_eq_some_iff, Option.bind_eq_some_iff] at h
          obtain ⟨a, ha, l, hl, hh, hhh, m, hmm, rfl⟩ := h; cases hd
          refine pSl_ok H ho ht hz ?_ (lowOd_ok ha) (lowOdO_ok hl) (lowOdO_ok hhh) (lowOdO_ok hmm)
          rcases Bool.or_eq_true_iff.1 hm with hm | hm
          · exact .inl (by simpa using hm)
          · exact .inr (fun e => by rw [e] at hm; cases hm)
        · cases h
      · cases h
    · rename_i ht
      split at h
      · rename_i hm
        have hm : mx = none := by simpa using hm
        subst hm
        simp only [Option.map_eq_some_iff, Option.bind_eq_some_iff] at h
        obtain ⟨a, ha, l, hl, hh, hhh, rfl⟩ := h; cases hd
        exact pSlS_ok H ho ht (lowOd_ok ha) (lowOdO_ok hl) (lowOdO_ok hhh)
      · cases h
    · cases h
  · rename_i t ps ho
    split at h
    · rename_i fs ht
      split at h
      · rename_i z pl hz hp
        rw [Option.map_eq_some_iff] at h
        obtain ⟨q, hq, rfl⟩ := h; cases hd
        obtain ⟨ti, zv, z1, z2, z3⟩ := zeroOf_inv hz
        exact pBuild_ok H ho ht z1 z2 z3 hp (lowParts_ok hq)
      · cases h
    · rename_i len el ht
      split at h
      · rename_i z n hz hn
        rw [Option.map_eq_some_iff] at h
        obtain ⟨q, hq, rfl⟩ := h; cases hd
        obtain ⟨ti, zv, z1, z2, z3⟩ := zeroOf_inv hz
        exact pBuildA_ok H ho ht z1 z2 z3 hn (lowParts_ok hq)
      · cases h
    · cases h
  · rename_i t x ho
    split at h
    · rename_i d n h1 h2
      rw [Option.map_eq_some_iff] at h
      obtain ⟨a, ha, rfl⟩ := h
      cases hb : aggB d with
      | true => rw [hb] at hd; cases hd; exact dLdN_ok H ho h1 hb h2 (lowOd_ok ha)
      | false => rw [hb] at hd; cases hd; exact dLd_ok H ho h1 hb (lowOd_ok ha)
    · cases h
  · rename_i t x y ok ho
    split at h
    · rename_i kt el ht
      split at h
      · rename_i d z h1 hz
        simp only [Option.map_eq_some_iff, Option.bind_eq_some_iff] at h
        obtain ⟨a, ha, b, hb, rfl⟩ := h
        simp only [denLO] at hd
        split at hd <;> cases hd
        obtain ⟨ti, zv, z1, z2, z3⟩ := zeroOf_inv hz
        exact dLk_ok H ho ht h1 ‹_› z1 z2 z3 (lowOd_ok ha) (lowOd_ok hb)
      · cases h
    · cases h
  · rename_i t ho
    split at h
    · rename_i z hz
      split at h
      · rename_i l' hl
        split at h
        · rename_i h1
          cases h; cases hd
          obtain ⟨ti, zv, z1, z2, z3⟩ := zeroOf_inv hz
          exact aAl_ok H ho z1 z2 z3 hl h1
        · cases h
      · cases h
    · cases h
  · rename_i ho; obtain ⟨a, ha, rfl⟩ := h; cases hd; exact aBox_ok ho (lowOd_ok ha)
  · rename_i t len ps ho
    split at h
    · rename_i el ht
      split at h
      · rename_i size z0 hn hz
        split at h
        · rename_i z hc
          split at h
          · rename_i hsm
            rw [Option.map_eq_some_iff] at h
            obtain ⟨q, hq, rfl⟩ := h; cases hd
            obtain ⟨ti, zv, z1, z2, z3⟩ := zeroOf_inv hz
            exact aBSl_ok H ho ht z1 z2 z3 hc hn hsm (lowParts_ok hq)
          · cases h
        · cases h
      · cases h
    · cases h
  · rename_i ho; cases h; cases hd; exact aMk_ok ho
  · rename_i t x ho
    split at h
    · rename_i ht
      rw [Option.map_eq_some_iff] at h
      obtain ⟨a, ha, rfl⟩ := h; cases hd
      exact aMkN_ok H ho ht (lowOd_ok ha)
    · cases h
  · rename_i t x y ho
    split at h
    · rename_i m hz
      simp only [Option.map_eq_some_iff, Option.bind_eq_some_iff] at h
      obtain ⟨a, ha, b, hb, rfl⟩ := h; cases hd
      exact eSt_ok H ho hz (lowOd_ok ha) (lowOd_ok hb)
    · cases h
  · rename_i t x y z ho
    split at h
    · rename_i kt _ ht
      split at h
      · rename_i d h1
        simp only [Option.map_eq_some_iff, Option.bind_eq_some_iff] at h
        obtain ⟨a, ha, b, hb, c, hc, rfl⟩ := h
        simp only [denLO] at hd
        split at hd <;> cases hd
        exact eMu_ok H (.inl ho) ht h1 ‹_› (lowOd_ok ha) (lowOd_ok hb) (lowOd_ok hc)
      · cases h
    · cases h
  · rename_i t x y z ho
    split at h
    · rename_i kt _ ht
      split at h
      · rename_i d h1
        simp only [Option.map_eq_some_iff, Option.bind_eq_some_iff] at h
        obtain ⟨a, ha, b, hb, c, hc, rfl⟩ := h
        simp only [denLO] at hd
        split at hd <;> cases hd
        exact eMu_ok H (.inr ho) ht h1 ‹_› (lowOd_ok ha) (lowOd_ok hb) (lowOd_ok hc)
      · cases h
    · cases h
  · rename_i c ho
    split at h
    · rename_i b hc
      exact lowBuiltin_ok H ho hc h hd
    · rename_i f hc
      split at h
      · rename_i hf
        rw [Option.map_eq_some_iff] at h
        obtain ⟨a, ha, rfl⟩ := h; cases hd
        obtain ⟨cal, args, ats⟩ := c
        simp only at hc ha
        subst hc
        exact eCall_ok ho (hfok f hf) (lowOds_ok ha)
      · cases h
    · rename_i x _ hc
      simp only [Option.map_eq_some_iff, Option.bind_eq_some_iff] at h
      obtain ⟨a, ha, b, hb, rfl⟩ := h; cases hd
      obtain ⟨cal, args, ats⟩ := c
      simp only at hc hb
      subst hc
      exact eCallV_ok hfok ho (lowOd_ok ha) (lowOds_ok hb)
    · cases h
  · cases h
end
end
end Go.Proofs.YtjipdnfaokdkbaaLab
