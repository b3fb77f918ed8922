/- The lab: regions that draw their order; whole functions. No condition on the program. -/
import Derived.Test.YtjipdnfaokdkbaaLabU
namespace Go.Proofs.YtjipdnfaokdkbaaLab
open Go
set_option linter.unusedVariables false
noncomputable section

/-! ### Regions that draw their order -/
/-- An operation of such a region: what it is; for one that looks at memory: behind how many that do more it may come, from .. to. -/
inductive DI where
  | p (f : E → Option V)
  | d (lo hi : Nat) (f : E → St → Option V)
  | a (f : E → Nat → Option (V × Ob))
  | e (f : KC → E → St → Option (V × St))
structure DT where
  g : Option (Nat × Bool)
  k : DI
  u : E → V → E
/-- Is the operation left out, by its guard? -/
def offB (t : DT) (e : E) : Option Bool := match t.g with
  | none => some false
  | some (j, want) => match Gt j e with | .bool b => some (b != want) | .tup [] => some true | _ => none
/-- One operation: its value, the memory behind it. -/
def drawStep (k : KC) (t : DT) (e : E) (s : St) : Option (V × St) := match offB t e with
  | none => none
  | some true => some (.tup [], s)
  | some false => match t.k with
    | .p f => (match f e with | some v => some (v, s) | none => none)
    | .d _ _ f => (match f e s with | some v => some (v, s) | none => none)
    | .a f => (match f e s.next with | some (v, o) => some (v, s.new o) | none => none)
    | .e f => f k e s
/-- Does it turn memory, other than by one new block? Does it make a block? -/
def DI.isE : DI → Bool | .e _ => true | _ => false
def DI.isA : DI → Bool | .a _ => true | _ => false
/-- All of them in the text's order: value, frame, memory behind each. -/
def drawRun (k : KC) : List DT → E → St → Option (List (V × E × St))
  | [], _, _ => some []
  | t :: l, e, s => match drawStep k t e s with
    | none => none
    | some (v, s') => match drawRun k l (t.u e v) s' with
      | none => none
      | some r => some ((v, t.u e v, s') :: r)
/-- The memories behind none, one, two .. of those that do more. -/
def snaps (s : St) : List DT → List (V × E × St) → List St
  | t :: l, (_, _, s') :: r => if t.k.isE then s :: snaps s' l r else snaps s l r
  | _, _ => [s]
/-- One that looks at memory sees the same wherever it may come. -/
def chk1 (sn : List St) (t : DT) (e : E) (v : V) : Bool := match t.k with
  | .d lo hi f => ((sn.drop lo).take (hi + 1 - lo)).all fun s => match offB t e with | some false => (match f e s with | some v' => sameV 100 v' v | none => false) | _ => true
  | _ => true
def chks (sn : List St) : List DT → E → List (V × E × St) → Bool
  | t :: l, e, (v, e', _) :: r => Bool.casesOn (motive := fun _ => Bool) (chk1 sn t e v) false (chks sn l e' r)
  | _, _, _ => true
def lastOf (e : E) (s : St) : List (V × E × St) → Res | [] => .nrm e s | (_, e', s') :: r => lastOf e' s' r
def dDraw (l : List DT) : Den := fun k e s => match drawRun k l e s with
  | none => .bad
  | some r => Bool.casesOn (motive := fun _ => Res) (chks (snaps s l r) l e r) .bad (lastOf e s r)

def OD.isE : OD → Bool | .e _ => true | _ => false
def OD.isA : OD → Bool | .a _ => true | _ => false
def countB (p : Nat → Bool) : Nat → Nat | 0 => 0 | n + 1 => countB p n + (if p n then 1 else 0)
def isEd (ds : List OD) (i : Nat) : Bool := match ds[i]? with | some d => d.isE | none => false
def isAd (ds : List OD) (i : Nat) : Bool := match ds[i]? with | some d => d.isA | none => false
def ordOf (os : Array Oper) (i j : Nat) : Bool := ((Region.before os).getD j 0).testBit i
/-- One that looks at memory sees the same in every order: nothing makes a block, and all that turn memory come ahead of it, or behind it. -/
def quickB (ds : List OD) (ord : Nat → Nat → Bool) (i : Nat) : Bool := ds.all (fun d => !d.isA) && (List.range ds.length).all fun j => !isEd ds j || ord j i || ord i j
/-- What an operation of a region that draws is, by its number. -/
def mkDT (ds : List OD) (ord : Nat → Nat → Bool) (i : Nat) (d : OD) (u : E → V → E) (g : Option (Nat × Bool)) : DT :=
  let lo := countB (fun j => isEd ds j && ord j i) ds.length
  let hi := countB (fun j => isEd ds j && !ord i j) ds.length
  ⟨g, (match d with | .p f => .p f | .a f => .a f | .e f => .e f | .d f => .d (if quickB ds ord i then 1 else lo) (if quickB ds ord i then 0 else hi) f), u⟩
def mkDTs (ds : List OD) (ord : Nat → Nat → Bool) : Nat → List OD → List (E → V → E) → List (Option (Nat × Bool)) → List DT
  | i, d :: l, u :: us, g :: gs => mkDT ds ord i d u g :: mkDTs ds ord (i + 1) l us gs
  | _, _, _, _ => []
/-- Those that turn memory come in one order; so do they beside those that make a block. -/
def okE (os : Array Oper) (ds : List OD) : Bool :=
  (List.range ds.length).all fun j => (List.range j).all fun i => !((isEd ds j && (isEd ds i || isAd ds i)) || (isEd ds i && isAd ds j)) || ordOf os i j

/-! ### Regions that draw their order, whose new blocks come beside those that do more: numbers kept from the start -/
/-- An operation of such a region; one that does more: the new blocks that surely come ahead of it. -/
inductive RI where
  | p (f : E → Option V)
  | d (lo hi : Nat) (f : E → St → Option V)
  | a (f : E → Nat → Option (V × Ob))
  | e (bef : List Nat) (f : KC → E → St → Option (V × St))
structure RTm where
  g : Option (Nat × Bool)
  k : RI
  u : E → V → E
/-- A block that is made, and not shown yet. -/
structure PA where
  i : Nat
  id : Nat
  ob : Ob
/-- Behind an operation: its value, the frame, the memory that is shown, the blocks that are not, the next number that was kept. -/
structure RRec where
  v : V
  e : E
  s : St
  ps : List PA
  id : Nat
def shB (bef : List Nat) : List PA → St → St
  | [], s => s
  | a :: l, s => Bool.casesOn (motive := fun _ => St) (memN a.i bef) (shB bef l s) (shB bef l (s.put a.id a.ob))
def leftB (bef : List Nat) : List PA → List PA
  | [] => []
  | a :: l => Bool.casesOn (motive := fun _ => List PA) (memN a.i bef) (a :: leftB bef l) (leftB bef l)
def shAll : List PA → St → St
  | [], s => s
  | a :: l, s => shAll l (s.put a.id a.ob)
def offR (g : Option (Nat × Bool)) (e : E) : Option Bool := match g with
  | none => some false
  | some (j, want) => match Gt j e with | .bool b => some (b != want) | .tup [] => some true | _ => none
def RI.isA : RI → Bool | .a _ => true | _ => false
def idR (k : RI) (id : Nat) : Nat := Bool.casesOn (motive := fun _ => Nat) k.isA id (Nat.succ id)
def stepR (k : KC) (i : Nat) (t : RTm) (x : RRec) : Option RRec := match offR t.g x.e with
  | none => none
  | some true => some ⟨.tup [], t.u x.e (.tup []), x.s, x.ps, idR t.k x.id⟩
  | some false => match t.k with
    | .p f => (match f x.e with | some v => some ⟨v, t.u x.e v, x.s, x.ps, x.id⟩ | none => none)
    | .d _ _ f => (match f x.e x.s with | some v => some ⟨v, t.u x.e v, x.s, x.ps, x.id⟩ | none => none)
    | .a f => (match f x.e x.id with | some (v, ob) => some ⟨v, t.u x.e v, x.s, x.ps ++ [⟨i, x.id, ob⟩], Nat.succ x.id⟩ | none => none)
    | .e bef f => (match f k x.e (shB bef x.ps x.s) with | some (v, s) => some ⟨v, t.u x.e v, s, leftB bef x.ps, x.id⟩ | none => none)
/-- Behind each. -/
def drR (k : KC) : List RTm → Nat → RRec → Option (List RRec)
  | [], _, _ => some []
  | t :: l, i, x => match stepR k i t x with
    | none => none
    | some y => match drR k l (Nat.succ i) y with
      | none => none
      | some r => some (y :: r)
def lastR (x : RRec) : List RRec → RRec | [] => x | y :: r => lastR y r
def RI.isE : RI → Bool | .e _ _ => true | _ => false
/-- The memories behind none, one, two .. of those that turn it. -/
def snR (s : St) : List RTm → List RRec → List St
  | t :: l, y :: r => Bool.casesOn (motive := fun _ => List St) t.k.isE (snR y.s l r) (s :: snR y.s l r)
  | _, _ => [s]
def chkR1 (sn : List St) (t : RTm) (e : E) (v : V) : Bool := match t.k with
  | .d lo hi f => ((sn.drop lo).take (hi + 1 - lo)).all fun s => match offR t.g e with | some false => (match f e s with | some v' => sameV 100 v' v | none => false) | _ => true
  | _ => true
def chksR (sn : List St) : List RTm → RRec → List RRec → Bool
  | t :: l, x, y :: r => Bool.casesOn (motive := fun _ => Bool) (chkR1 sn t x.e y.v) false (chksR sn l y r)
  | _, _, _ => true
def resv : Nat → St → St
  | 0, s => s
  | n + 1, s => resv n (s.new .dead)
def finR (x : RRec) : Res := .nrm x.e (shAll x.ps x.s)
def dDrawR (n : Nat) (l : List RTm) : Den := fun k e s => match drR k l 0 ⟨.undef, e, resv n s, [], s.next⟩ with
  | none => .bad
  | some r => Bool.casesOn (motive := fun _ => Res) (chksR (snR (resv n s) l r) l ⟨.undef, e, resv n s, [], s.next⟩ r) .bad (finR (lastR ⟨.undef, e, resv n s, [], s.next⟩ r))
/-- It knows behind which of those that turn memory it comes. -/
def quickR (ds : List OD) (ord : Nat → Nat → Bool) (i : Nat) : Bool := (List.range ds.length).all fun j => !isEd ds j || ord j i || ord i j
def mkRT (ds : List OD) (ord : Nat → Nat → Bool) (i : Nat) (d : OD) (u : E → V → E) (g : Option (Nat × Bool)) : RTm :=
  ⟨g, (match d with | .p f => .p f | .d f => .d (if quickR ds ord i then 1 else countB (fun j => isEd ds j && ord j i) ds.length) (if quickR ds ord i then 0 else countB (fun j => isEd ds j && !ord i j) ds.length) f | .a f => .a f | .e f => .e ((List.range ds.length).filter fun a => isAd ds a && ord a i) f), u⟩
def mkRTs (ds : List OD) (ord : Nat → Nat → Bool) : Nat → List OD → List (E → V → E) → List (Option (Nat × Bool)) → List RTm
  | i, d :: l, u :: us, g :: gs => mkRT ds ord i d u g :: mkRTs ds ord (i + 1) l us gs
  | _, _, _, _ => []
/-- Those that turn memory come in one order. -/
def okRb (ds : List OD) (ord : Nat → Nat → Bool) : Bool :=
  (List.range ds.length).all fun j => (List.range ds.length).all fun i => !isEd ds j || !(Nat.blt i j && isEd ds i) || ord i j || ord j i

/-- Two operations, the one of the lesser number first: the later waits for the earlier by an edge of its own, or they are apart. -/
def steadyL (os : Array Oper) (sl : List (List Nat)) : Bool :=
  (List.range os.size).all fun j => match os[j]? with
    | none => true
    | some oj =>
      oj.after.all (fun e => !Region.binds .any e || decide (e.on < j)) &&
      (List.range j).all fun i => match os[i]? with
        | none => true
        | some oi => oj.after.any (fun e => Region.binds .any e && e.on == i) ||
          ((match oi.dst with | some d => !((sl[j]?).getD []).contains d && oj.dst != some d | none => true) && (match oj.dst with | some d => !((sl[i]?).getD []).contains d | none => true))
def slG (g : Option (Nat × Bool)) : List Nat := match g with | some (t, _) => [t] | none => []

/-- What stands ahead of an operation's guard. -/
def lowGuard (os : Array Oper) (o : Oper) : Option (Option (Nat × Bool)) := match o.guard with
  | none => some none
  | some (j, want) => match (os[j]?).bind (·.dst) with | some t => if t < 256 then some (some (t, want)) else none | none => none
def lowOps (tt : TT) (gl : List Nat) (fok : T Bool) : List Oper → Option (List OD)
  | [] => some []
  | o :: l => match denLO fok (lowOpS tt gl fok o), lowOps tt gl fok l with | some d, some r => some (d :: r) | _, _ => none
def lowUs (nt : Nat) : List Oper → Option (List (E → V → E))
  | [] => some []
  | o :: l => match dstG nt o.dst, lowUs nt l with | some u, some r => some (u :: r) | _, _ => none
def lowGs (os : Array Oper) : List Oper → Option (List (Option (Nat × Bool)))
  | [] => some []
  | o :: l => match lowGuard os o, lowGs os l with | some g, some r => some (g :: r) | _, _ => none
def seqItems : List OD → List (E → V → E) → List (Option (Nat × Bool)) → List Den
  | d :: ds, u :: us, g :: gs => (match g with | none => d.den u | some (t, want) => oG (Gt t) want (d.den u) u) :: seqItems ds us gs
  | _, _, _ => []
def lowSl (tt : TT) (gl : List Nat) (fok : T Bool) : List Oper → List (Option (Nat × Bool)) → List (List Nat)
  | o :: l, g :: gs => (slots (lowOpS tt gl fok o) ++ slG g) :: lowSl tt gl fok l gs
  | _, _ => []
def allQuick (ds : List OD) (ord : Nat → Nat → Bool) : Bool := (List.range ds.length).all fun i => match ds[i]? with | some (.d _) => quickB ds ord i | _ => true
def mkFIs (tt : TT) (gl : List Nat) (fok : T Bool) : List Oper → List (Option (Nat × Bool)) → List FI
  | o :: l, g :: gs => ⟨lowOpS tt gl fok o, o.dst, g⟩ :: mkFIs tt gl fok l gs
  | _, _ => []
/-- A region that draws its order, either way. -/
def lowDraw (ord : Nat → Nat → Bool) (eo : Bool) (ds : List OD) (us : List (E → V → E)) (gs : List (Option (Nat × Bool))) (fi : Option Den) : Option Den :=
  if eo then (match fi with | some d => some d | none => some (dDraw (mkDTs ds ord 0 ds us gs)))
  else if okRb ds ord then some (dDrawR (countB (isAd ds) ds.length) (mkRTs ds ord 0 ds us gs)) else none
def lowRegion (tt : TT) (gl : List Nat) (fok : T Bool) (nt : Nat) (os : Array Oper) (draw : Bool) : Option Den :=
  match lowOps tt gl fok os.toList, lowUs nt os.toList, lowGs os os.toList with
  | some ds, some us, some gs => if draw then (if steadyL os (lowSl tt gl fok os.toList gs) && (lowSl tt gl fok os.toList gs).all (·.all (Nat.blt · 256)) then lowDraw (ordOf os) (okE os ds) ds us gs (if allQuick ds (ordOf os) && (mkFIs tt gl fok os.toList gs).all FI.ok then some (fuse fok (mkFIs tt gl fok os.toList gs) []) else none) else none) else (if (mkFIs tt gl fok os.toList gs).all FI.ok then some (fuse fok (mkFIs tt gl fok os.toList gs) []) else some (ops (seqItems ds us gs)))
  | _, _, _ => none
def dBad : Den := fun _ _ _ => .bad
/-- A region in the text's order that begins with 'next': which walk, and what it comes to. -/
def lowNext (tt : TT) (gl : List Nat) (fok : T Bool) (nt : Nat) (os : Array Oper) (draw : Bool) : Option ((E → V) × Den) := match draw, os.toList with
  | false, o :: l => (match o.op, o.guard with
    | .next x false, none => (match opd gl x, dstG nt o.dst, lowOps tt gl fok l, lowUs nt l, lowGs os l with
      | some g, some u, some ds, some us, some gs => some (g, ops (oE (eNxP g) u :: seqItems ds us gs))
      | _, _, _, _, _ => none)
    | _, _ => none)
  | _, _ => none
/-- What code comes to; and, if it begins with 'next', what it comes to by what comes next. -/
def lowC (tt : TT) (gl : List Nat) (fok : T Bool) (nt : Nat) : Code → Option Den × Option ((E → V) × Den)
  | .skip => (some dSkip, none)
  | .region _ os draw => (some ((lowRegion tt gl fok nt os draw).getD dBad), lowNext tt gl fok nt os draw)
  | .seq a b => ((match (lowC tt gl fok nt a).1, (lowC tt gl fok nt b).1 with | some a, some b => some (dSeq a b) | _, _ => none), (match (lowC tt gl fok nt a).2, (lowC tt gl fok nt b).1 with | some p, some b => some (p.1, dSeq p.2 b) | _, _ => none))
  | .cond c a b => ((match opd gl c, (lowC tt gl fok nt a).1, (lowC tt gl fok nt b).1 with | some g, some a, some b => some (dCond g a b) | _, _, _ => some dBad), none)
  | .block id a => ((lowC tt gl fok nt a).1.map (dBlock id), none)
  | .loop a => ((match (lowC tt gl fok nt a).2 with | some p => some (dLoopM p.1 p.2) | none => (lowC tt gl fok nt a).1.map dLoop), none)
  | .scope a => ((lowC tt gl fok nt a).1, none)
  | .label _ => (some dSkip, none)
  | .exit id => (some (dExit id), none)
  | .ret => (some dRet, none)
  | _ => (some dBad, none)
def lowCode (tt : TT) (gl : List Nat) (fok : T Bool) (nt : Nat) (c : Code) : Option Den := (lowC tt gl fok nt c).1
def lowFunc (tt : TT) (gl : List Nat) (fok : T Bool) (fn : Func) : Option FDen :=
  match fn.body with
  | some c => (match lowCode tt gl fok fn.ntmps c, resG tt fn.results.toList with
    | some b, some gs => if fn.params.size + fn.nfree ≤ 256 ∧ fn.params.size + fn.nfree ≤ fn.ntmps then some ⟨usFrom 0 (fn.params.size + fn.nfree), b, resV gs⟩ else none
    | _, _ => none)
  | none => none
end
end Go.Proofs.YtjipdnfaokdkbaaLab
