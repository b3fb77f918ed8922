/- The lab: regions that draw their order; whole functions. No condition on the program. -/
import Derived.Test.YtgfghbhcifkmgaaLabQ
namespace Go.Proofs.YtgfghbhcifkmgaaLab
open Go
set_option linter.unusedVariables false
noncomputable section

/-! ### Regions that draw their order -/
/-- An operation of such a region: what it is; for one that looks at memory: behind how many that do more it may come, from .. to. -/
inductive DI where
  | p (f : E → Option V)
  | d (lo hi : Nat) (f : E → St → Option V)
  | a (f : E → Nat → Option (V × Ob))
  | e (f : KC → E → St → Option (V × St))
structure DT where
  g : Option (Nat × Bool)
  k : DI
  u : E → V → E
/-- Is the operation left out, by its guard? -/
def offB (t : DT) (e : E) : Option Bool := match t.g with
  | none => some false
  | some (j, want) => match Gt j e with | .bool b => some (b != want) | .tup [] => some true | _ => none
/-- One operation: its value, the memory behind it. -/
def drawStep (k : KC) (t : DT) (e : E) (s : St) : Option (V × St) := match offB t e with
  | none => none
  | some true => some (.tup [], s)
  | some false => match t.k with
    | .p f => (match f e with | some v => some (v, s) | none => none)
    | .d _ _ f => (match f e s with | some v => some (v, s) | none => none)
    | .a f => (match f e s.next with | some (v, o) => some (v, s.new o) | none => none)
    | .e f => f k e s
/-- Does it turn memory, other than by one new block? Does it make a block? -/
def DI.isE : DI → Bool | .e _ => true | _ => false
def DI.isA : DI → Bool | .a _ => true | _ => false
/-- All of them in the text's order: value, frame, memory behind each. -/
def drawRun (k : KC) : List DT → E → St → Option (List (V × E × St))
  | [], _, _ => some []
  | t :: l, e, s => match drawStep k t e s with
    | none => none
    | some (v, s') => match drawRun k l (t.u e v) s' with
      | none => none
      | some r => some ((v, t.u e v, s') :: r)
/-- The memories behind none, one, two .. of those that do more. -/
def snaps (s : St) : List DT → List (V × E × St) → List St
  | t :: l, (_, _, s') :: r => if t.k.isE then s :: snaps s' l r else snaps s l r
  | _, _ => [s]
/-- One that looks at memory sees the same wherever it may come. -/
def chk1 (sn : List St) (t : DT) (e : E) (v : V) : Bool := match t.k with
  | .d lo hi f => ((sn.drop lo).take (hi + 1 - lo)).all fun s => match offB t e with | some false => (match f e s with | some v' => sameV 100 v' v | none => false) | _ => true
  | _ => true
def chks (sn : List St) : List DT → E → List (V × E × St) → Bool
  | t :: l, e, (v, e', _) :: r => Bool.casesOn (motive := fun _ => Bool) (chk1 sn t e v) false (chks sn l e' r)
  | _, _, _ => true
def lastOf (e : E) (s : St) : List (V × E × St) → Res | [] => .nrm e s | (_, e', s') :: r => lastOf e' s' r
def dDraw (l : List DT) : Den := fun k e s => match drawRun k l e s with
  | none => .bad
  | some r => Bool.casesOn (motive := fun _ => Res) (chks (snaps s l r) l e r) .bad (lastOf e s r)

def OD.isE : OD → Bool | .e _ => true | _ => false
def OD.isA : OD → Bool | .a _ => true | _ => false
def countB (p : Nat → Bool) : Nat → Nat | 0 => 0 | n + 1 => countB p n + (if p n then 1 else 0)
def isEd (ds : List OD) (i : Nat) : Bool := match ds[i]? with | some d => d.isE | none => false
def isAd (ds : List OD) (i : Nat) : Bool := match ds[i]? with | some d => d.isA | none => false
/-- What an operation of a region that draws is, by its number. -/
def mkDT (ds : List OD) (ord : Nat → Nat → Bool) (i : Nat) (d : OD) (u : E → V → E) (g : Option (Nat × Bool)) : DT :=
  let lo := countB (fun j => isEd ds j && ord j i) ds.length
  let hi := countB (fun j => isEd ds j && !ord i j) ds.length
  ⟨g, (match d with | .p f => .p f | .a f => .a f | .e f => .e f | .d f => .d lo hi f), u⟩
def mkDTs (ds : List OD) (ord : Nat → Nat → Bool) : Nat → List OD → List (E → V → E) → List (Option (Nat × Bool)) → List DT
  | i, d :: l, u :: us, g :: gs => mkDT ds ord i d u g :: mkDTs ds ord (i + 1) l us gs
  | _, _, _, _ => []
def ordOf (os : Array Oper) (i j : Nat) : Bool := ((Region.before os).getD j 0).testBit i
/-- Those that turn memory come in one order; so do they beside those that make a block. -/
def okE (os : Array Oper) (ds : List OD) : Bool :=
  (List.range ds.length).all fun j => (List.range j).all fun i => !((isEd ds j && (isEd ds i || isAd ds i)) || (isEd ds i && isAd ds j)) || ordOf os i j

/-! ### What an operation reads -/
def OO.sl : OO → List Nat | .t n => [n] | .c _ => []
def slO : Option OO → List Nat | none => [] | some x => x.sl
def slP (l : List (Nat × Nat × OO)) : List Nat := l.flatMap fun p => p.2.2.sl
def slL (l : List OO) : List Nat := l.flatMap OO.sl
def slots : LO → List Nat
  | .move x | .not x | .neg x | .xor x | .cInt _ x | .cStr x | .ifc _ x | .ass _ _ _ x | .fld _ x | .part _ _ _ x | .ext _ x | .chk x | .lenS x | .lenT x | .lenA _ x | .cap x | .ld x | .ldN _ x | .lenM x | .box x | .mkN x => x.sl
  | .pick c a b => c.sl ++ a.sl ++ b.sl
  | .int _ _ x y | .div _ _ x y | .sh _ _ x y | .str _ x y | .beq _ x y | .nil _ _ x y | .idx _ x y | .idxA _ _ x y | .partI _ _ _ x y | .byte x y | .mn _ x y | .mx _ x y | .lk _ _ _ x y | .st _ x y | .ap _ x y => x.sl ++ y.sl
  | .fn _ a b => slL a ++ slL b
  | .sl _ x lo hi mx => x.sl ++ slO lo ++ slO hi ++ slO mx
  | .slS x lo hi => x.sl ++ slO lo ++ slO hi
  | .build _ ps | .bSl _ _ _ ps => slP ps
  | .al _ | .mk => []
  | .mu _ x y z => x.sl ++ y.sl ++ z.sl
  | .call _ a => slL a
  | .callV x a => x.sl ++ slL a
  | .stuck => []
  | .mkS _ _ _ x y | .cpy _ x y => x.sl ++ y.sl
  | .clr _ x | .rng x | .nx x | .ent x | .bstr x => x.sl
  | .inv _ x a => x.sl ++ slL a
  | .mE _ _ x y => x.sl ++ y.sl
  | .eS x y z => x.sl ++ y.sl ++ z.sl
/-- Two operations, the one of the lesser number first: the later waits for the earlier by an edge of its own, or they are apart. -/
def steadyL (os : Array Oper) (sl : List (List Nat)) : Bool :=
  (List.range os.size).all fun j => match os[j]? with
    | none => true
    | some oj =>
      oj.after.all (fun e => !Region.binds .any e || decide (e.on < j)) &&
      (List.range j).all fun i => match os[i]? with
        | none => true
        | some oi => oj.after.any (fun e => Region.binds .any e && e.on == i) ||
          ((match oi.dst with | some d => !((sl[j]?).getD []).contains d && oj.dst != some d | none => true) && (match oj.dst with | some d => !((sl[i]?).getD []).contains d | none => true))
def slG (g : Option (Nat × Bool)) : List Nat := match g with | some (t, _) => [t] | none => []

/-- What stands ahead of an operation's guard. -/
def lowGuard (os : Array Oper) (o : Oper) : Option (Option (Nat × Bool)) := match o.guard with
  | none => some none
  | some (j, want) => match (os[j]?).bind (·.dst) with | some t => if t < 256 then some (some (t, want)) else none | none => none
def lowOps (tt : TT) (gl : List Nat) (fok : T Bool) : List Oper → Option (List OD)
  | [] => some []
  | o :: l => match denLO fok (lowOpS tt gl fok o), lowOps tt gl fok l with | some d, some r => some (d :: r) | _, _ => none
def lowUs (nt : Nat) : List Oper → Option (List (E → V → E))
  | [] => some []
  | o :: l => match dstG nt o.dst, lowUs nt l with | some u, some r => some (u :: r) | _, _ => none
def lowGs (os : Array Oper) : List Oper → Option (List (Option (Nat × Bool)))
  | [] => some []
  | o :: l => match lowGuard os o, lowGs os l with | some g, some r => some (g :: r) | _, _ => none
def seqItems : List OD → List (E → V → E) → List (Option (Nat × Bool)) → List Den
  | d :: ds, u :: us, g :: gs => (match g with | none => d.den u | some (t, want) => oG (Gt t) want (d.den u) u) :: seqItems ds us gs
  | _, _, _ => []
def lowSl (tt : TT) (gl : List Nat) (fok : T Bool) : List Oper → List (Option (Nat × Bool)) → List (List Nat)
  | o :: l, g :: gs => (slots (lowOpS tt gl fok o) ++ slG g) :: lowSl tt gl fok l gs
  | _, _ => []
def lowRegion (tt : TT) (gl : List Nat) (fok : T Bool) (nt : Nat) (os : Array Oper) (draw : Bool) : Option Den :=
  match lowOps tt gl fok os.toList, lowUs nt os.toList, lowGs os os.toList with
  | some ds, some us, some gs => if draw then (if okE os ds && steadyL os (lowSl tt gl fok os.toList gs) && (lowSl tt gl fok os.toList gs).all (·.all (Nat.blt · 256)) then some (dDraw (mkDTs ds (ordOf os) 0 ds us gs)) else none) else some (ops (seqItems ds us gs))
  | _, _, _ => none
def dBad : Den := fun _ _ _ => .bad
/-- A region in the text's order that begins with 'next': which walk, and what it comes to. -/
def lowNext (tt : TT) (gl : List Nat) (fok : T Bool) (nt : Nat) (os : Array Oper) (draw : Bool) : Option ((E → V) × Den) := match draw, os.toList with
  | false, o :: l => (match o.op, o.guard with
    | .next x false, none => (match opd gl x, dstG nt o.dst, lowOps tt gl fok l, lowUs nt l, lowGs os l with
      | some g, some u, some ds, some us, some gs => some (g, ops (oE (eNxP g) u :: seqItems ds us gs))
      | _, _, _, _, _ => none)
    | _, _ => none)
  | _, _ => none
/-- What code comes to; and, if it begins with 'next', what it comes to by what comes next. -/
def lowC (tt : TT) (gl : List Nat) (fok : T Bool) (nt : Nat) : Code → Option Den × Option ((E → V) × Den)
  | .skip => (some dSkip, none)
  | .region _ os draw => (some ((lowRegion tt gl fok nt os draw).getD dBad), lowNext tt gl fok nt os draw)
  | .seq a b => ((match (lowC tt gl fok nt a).1, (lowC tt gl fok nt b).1 with | some a, some b => some (dSeq a b) | _, _ => none), (match (lowC tt gl fok nt a).2, (lowC tt gl fok nt b).1 with | some p, some b => some (p.1, dSeq p.2 b) | _, _ => none))
  | .cond c a b => ((match opd gl c, (lowC tt gl fok nt a).1, (lowC tt gl fok nt b).1 with | some g, some a, some b => some (dCond g a b) | _, _, _ => some dBad), none)
  | .block id a => ((lowC tt gl fok nt a).1.map (dBlock id), none)
  | .loop a => ((match (lowC tt gl fok nt a).2 with | some p => some (dLoopM p.1 p.2) | none => (lowC tt gl fok nt a).1.map dLoop), none)
  | .scope a => ((lowC tt gl fok nt a).1, none)
  | .label _ => (some dSkip, none)
  | .exit id => (some (dExit id), none)
  | .ret => (some dRet, none)
  | _ => (some dBad, none)
def lowCode (tt : TT) (gl : List Nat) (fok : T Bool) (nt : Nat) (c : Code) : Option Den := (lowC tt gl fok nt c).1
def lowFunc (tt : TT) (gl : List Nat) (fok : T Bool) (fn : Func) : Option FDen :=
  match fn.body with
  | some c => (match lowCode tt gl fok fn.ntmps c, resG tt fn.results.toList with
    | some b, some gs => if fn.params.size + fn.nfree ≤ 256 ∧ fn.params.size + fn.nfree ≤ fn.ntmps then some ⟨usFrom 0 (fn.params.size + fn.nfree), b, resV gs⟩ else none
    | _, _ => none)
  | none => none
end
end Go.Proofs.YtgfghbhcifkmgaaLab
