/- The lab, part 3 of 5. No condition on the program. Pruned. -/
import Derived.Test.YtcgdlgbomjnnnaaGreatLm2
import Derived.Laws.StructEq
/- The jL: structs of plain fields held against one another; maps that have such keys; slices of an array's address. No condition on the program. -/
namespace Go.Proofs.YtcgdlgbomjnnnaaGreatLab
open Go
set_option linter.all false
noncomputable section
inductive CK where
 | i
 | s
 | b
def eqC : CK → V → V → Option Bool
 | .i => abQ
 | .s => aek
 | .b => ad'
def Hu (ks : List CK) (xs ys : List V) : Option Bool := match ks with
 | [] => (match xs, ys with | [], [] => some true | _, _ => none)
 | k :: ks => (match xs, ys with
   | x :: xs, y :: ys => (match eqC k x y with | some r => (match Hu ks xs ys with | some t => some (and r t) | none => none) | none => none)
   | _, _ => none)
def eqS (ks : List CK) (x y : V) : Option Bool := match x, y with | .agg a, .agg b => Hu ks a b | _, _ => none
def ckL (tt : TT) : Nat → List Field → Option (List CK)
 | _, [] => some []
 | i, f :: fs => if (f.name != "_") && Nat.beq f.offset i then (match tt.ud f.type, ckL tt (i + 1) fs with
   | some (.int _), some r => some (.i :: r)
   | some .string, some r => some (.s :: r)
   | some .bool, some r => some (.b :: r)
   | _, _ => none) else none
def dOf : CK → TypeDesc → Prop
 | .i, d => ∃ k, d = .int k
 | .s, d => d = .string
 | .b, d => d = .bool
theorem Ap {tt : TT} {i : Nat} {f : Field} {fs : List Field} {ks : List CK} (h : ckL tt i (f :: fs) = some ks) : ∃ k r d, ks = k :: r ∧ f.name ≠ "_" ∧ f.offset = i ∧ tt.ud f.type = some d ∧ dOf k d ∧ ckL tt (i + 1) fs = some r := by
 unfold ckL at h
 split at h
 · rename_i hc
   rw [Bool.and_eq_true] at hc
   have h1 : f.name ≠ "_" := by simpa using hc.1
   have h2 := Nat.eq_of_beq_eq_true hc.2
   split at h <;> cases h
   · rename_i k r h3 h4; exact ⟨_, _, _, rfl, h1, h2, h3, ⟨_, rfl⟩, h4⟩
   · rename_i r h3 h4; exact ⟨_, _, _, rfl, h1, h2, h3, rfl, h4⟩
   · rename_i r h3 h4; exact ⟨_, _, _, rfl, h1, h2, h3, rfl, h4⟩
 · cases h
section
variable {P : Program} {tt : TT} (H : qW P tt) {nt : Nat} {gl : List Nat} {o : Oper} {x y z : Operand} {g h i : E → V}
include H in
theorem QW {k : CK} {d : TypeDesc} {t : Nat} (hd : tt.ud t = some d) (hk : dOf k d) {G : Pl} {u v : V} {u' v' : Value} {r : Bool} (h : eqC k u v = some r) (hu : VR G u u') (hv : VR G v v') (w : World) (n m : Nat) :
 (Op.equalIn (n + 1) t u' v').run P w = .ok r w ∧ (r = true → Instr.sameBits m u' v' = true ∧ u' = v') := by
 have hP : P.underlying t = some d := by
  unfold TT.ud at hd
  cases hx : T.get tt t with
  | none => rw [hx] at hd; cases hd
  | some x => rw [hx] at hd; cases hd; exact (H t x hx).1
 cases k with
 | i =>
   obtain ⟨kk, rfl⟩ := hk
   simp only [eqC, abQ] at h
   cases h1 : y_ u with
   | none => rw [h1] at h; cases h
   | some p =>
     obtain ⟨k1, a⟩ := p
     cases h2 : y_ v with
     | none => rw [h1, h2] at h; cases h
     | some q =>
       obtain ⟨k2, b⟩ := q
       rw [h1, h2] at h
       simp only at h
       cases e1 : Nat.beq (kn k1) (kn k2) with
       | false => rw [e1] at h; cases h
       | true =>
         rw [e1] at h
         have := lU (Nat.eq_of_beq_eq_true e1)
         subst this
         cases nL h1 hu; cases nL h2 hv
         cases h
         rw [eP]
         refine ⟨(run_equalIn_int w n t k1 kk a b hP).trans (by congr 1), fun hb => ?_⟩
         have : a = b := by simpa using hb
         subst this
         exact ⟨by cases m <;> simp [Instr.sameBits], rfl⟩
 | s =>
   cases hk
   simp only [eqC, aek] at h
   split at h
   · cases h
     obtain ⟨a, rfl, rfl⟩ := hu.iL
     obtain ⟨b, rfl, rfl⟩ := hv.iL
     rw [mX]
     refine ⟨run_equalIn_string w n t a b hP, fun hb => ?_⟩
     have : a = b := by
      rw [ByteArray.toList_eq, ByteArray.toList_eq] at hb
      have := eq_of_beq hb
      cases a; cases b; simp only at this; congr 1; exact Array.toList_inj.1 this
     subst this
     exact ⟨by cases m <;> (simp only [Instr.sameBits]; rw [beq_toListBytes]; exact hb), rfl⟩
   · cases h
 | b =>
   cases hk
   simp only [eqC, ad'] at h
   split at h
   · cases h; cases hu; cases hv
     refine ⟨run_equalIn_bool' w n t _ _ hP, fun hb => ?_⟩
     have := eq_of_beq hb
     subst this
     exact ⟨by cases m <;> simp [Instr.sameBits], rfl⟩
   · cases h
include H in
theorem vk (w : World) (n m : Nat) {G : Pl} {X Y : List Value} : ∀ {fs : List Field} {i : Nat} {ks : List CK} {xs ys : List V} {r : Bool}, ckL tt i fs = some ks → Hu ks xs ys = some r → ew G xs (X.drop i) → ew G ys (Y.drop i) →
 (Op.eqFields (n + 1) ⟨X⟩ ⟨Y⟩ fs).run P w = .ok r w ∧ (X.drop i).length = (Y.drop i).length ∧ (r = true → ((X.drop i).zip (Y.drop i)).all (fun (x, y) => Instr.sameBits m x y) = true ∧ X.drop i = Y.drop i)
 | [], i, ks, xs, ys, r, h, he, hx, hy => by
   cases h
   unfold Hu at he
   split at he
   · cases he
     generalize X.drop i = X0 at hx
     generalize Y.drop i = Y0 at hy
     cases hx; cases hy
     exact ⟨by simp [Op.eqFields], rfl, fun _ => ⟨rfl, rfl⟩⟩
   · cases he
 | f :: fs, i, ks, xs, ys, r, h, he, hx, hy => by
   obtain ⟨k, rk, d, rfl, h1, h2, h3, h4, h5⟩ := Ap h
   unfold Hu at he
   split at he
   · rename_i x xs y ys
     split at he
     · rename_i a ha
       split at he
       · rename_i t ht
         cases he
         generalize hX : X.drop i = X0 at hx
         generalize hY : Y.drop i = Y0 at hy
         cases hx with
         | cons _ x' _ X1 hxx hx1 =>
           cases hy with
           | cons _ y' _ Y1 hyy hy1 =>
             have gX : X[i]? = some x' := by rw [← List.head?_drop, hX]; rfl
             have gY : Y[i]? = some y' := by rw [← List.head?_drop, hY]; rfl
             have dX : X.drop (i + 1) = X1 := by rw [← List.drop_drop, hX]; rfl
             have dY : Y.drop (i + 1) = Y1 := by rw [← List.drop_drop, hY]; rfl
             obtain ⟨q1, q2⟩ := QW H h3 h4 ha hxx hyy w n m
             obtain ⟨p1, p2, p3⟩ := vk w n m h5 ht (dX ▸ hx1) (dY ▸ hy1)
             rw [dX, dY] at p2 p3
             have hagg : tT d = false := by cases k <;> simp only [dOf] at h4 <;> first | (obtain ⟨_, rfl⟩ := h4; rfl) | (subst h4; rfl)
             have pX : (part f.type ⟨X⟩ f.offset).run P w = .ok x' w := by simp [part, ie H w h3, hagg, h2, gX]
             have pY : (part f.type ⟨Y⟩ f.offset).run P w = .ok y' w := by simp [part, ie H w h3, hagg, h2, gY]
             refine ⟨?_, by simp [p2], ?_⟩
             · rw [Op.eqFields, if_pos h1]
               simp only [Sem.run_bind, pX, pY, q1, Result.andThen_ok]
               cases a
               · simp
               · simpa using p1
             · intro hr
               rw [Bool.and_eq_true] at hr
               refine ⟨by simp only [List.zip_cons_cons, List.all_cons, (q2 hr.1).1, (p3 hr.2).1, Bool.and_self], ?_⟩
               rw [(q2 hr.1).2, (p3 hr.2).2]
       · cases he
     · cases he
   · cases he
structure SOk (P : Program) (tt : TT) (t : Nat) (ks : List CK) : Prop where
 ex : ∃ fs, tt.ud t = some (.struct fs) ∧ ckL tt 0 fs.toList = some ks
 so : P.stoodInHeld t = false
 eg : P.eqGuardType P.depth t = false
include H in
theorem OW {t : Nat} {ks : List CK} (hs : SOk P tt t ks) {G : Pl} {u v : V} {u' v' : Value} {r : Bool} (h : eqS ks u v = some r) (hu : VR G u u') (hv : VR G v v') (w : World) :
 (∃ a b, u' = .agg a ∧ v' = .agg b) ∧ (Op.equalIn 10000 t u' v').run P w = .ok r w ∧ (r = true → Instr.sameBits 10000 u' v' = true ∧ u' = v') := by
 obtain ⟨⟨fs, h1, h2⟩, h3, h4⟩ := hs
 have hP : P.underlying t = some (.struct fs) := by
  unfold TT.ud at h1
  cases hx : T.get tt t with
  | none => rw [hx] at h1; cases h1
  | some x =>
    rw [hx, Option.map_some, Option.some.injEq] at h1
    rw [← h1]; exact (H t x hx).1
 have hf : P.fieldsOf t = fs := by simp [Program.fieldsOf, hP]
 unfold eqS at h
 split at h
 · cases hu with
   | agg _ X hX =>
     cases hv with
     | agg _ Y hY =>
       obtain ⟨q1, q2, q3⟩ := vk H w 9998 9999 (X := X) (Y := Y) (i := 0) h2 h (by simpa using hX) (by simpa using hY)
       refine ⟨⟨_, _, rfl, rfl⟩, ?_, fun hr => ?_⟩
       · show (Op.equalIn (9999 + 1) t (.agg ⟨X⟩) (.agg ⟨Y⟩)).run P w = _
         rw [run_equalIn_struct w 9999 t ⟨X⟩ ⟨Y⟩ (by rw [hf]; exact hP) h3, hf]
         exact q1
       · show Instr.sameBits (9999 + 1) (.agg ⟨X⟩) (.agg ⟨Y⟩) = true ∧ _
         obtain ⟨t1, t2⟩ := q3 hr
         simp only [List.drop_zero] at t1 t2 q2
         refine ⟨?_, by rw [t2]⟩
         simp only [Instr.sameBits]
         simp [q2, t1]
 · cases h
def LN (ng : Bool) (ks : List CK) (x y : V) : Option V := match eqS ks x y with | some r => some (.bool (xor ng r)) | none => none
include H in
theorem xX {t yt : Nat} {ks : List CK} {ng : Bool} (ho : o.op = .binOp (if ng then .neq else .eql) t x y yt) (hs : SOk P tt t ks) (hg : eV gl x = some g) (hh : eV gl y = some h) : l8 P o nt gl (ak (LN ng ks) g h) := by
 intro G e a w v hv he
 have hx := cA hg he
 have hy := cA hh he
 unfold ak LN at hv
 split at hv
 · rename_i r hr
   cases hv
   obtain ⟨⟨A, B, e1, e2⟩, q1, _⟩ := OW H hs hr hx hy w
   rw [e1, e2] at q1
   refine ⟨.bool (xor ng r), ?_, .bool _⟩
   cases ng
   · simp only [Bool.false_eq_true, if_false] at ho
     simp only [execOp, ho, e1, e2, Sem.run_bind, run_eqGuard_agg w .eql t x y A B hs.eg, Result.andThen_ok, run_eql_struct, q1, Sem.run_pure, Bool.false_xor]
   · simp only [if_true] at ho
     simp only [execOp, ho, e1, e2, Sem.run_bind, run_eqGuard_agg w .neq t x y A B hs.eg, Result.andThen_ok, run_neq_struct, q1, Sem.run_pure, Bool.true_xor]
 · cases hv
include H in
include H in
include H in
include H in
include H in
include H in
include H in
def ckT (tt : TT) (t : Nat) : Option (List CK) := if tt.so t then (match tt.ud t with | some (.struct fs) => ckL tt 0 fs.toList | _ => none) else none
include H in
theorem ME {t : Nat} {ks : List CK} (h : ckT tt t = some ks) : SOk P tt t ks := by
 unfold ckT at h
 split at h
 · rename_i hso
   split at h
   · rename_i fs hu
     unfold TT.so at hso
     cases hx : T.get tt t with
     | none => rw [hx] at hso; cases hso
     | some p =>
       rw [hx] at hso
       obtain ⟨_, _, q⟩ := H t p hx
       exact ⟨⟨fs, hu, h⟩, (q hso).1, (q hso).2⟩
   · cases h
 · cases h
end
end
end Go.Proofs.YtcgdlgbomjnnnaaGreatLab
/- The jL: from the program's operations to ours. No condition on the program. -/
namespace Go.Proofs.YtcgdlgbomjnnnaaGreatLab
open Go
set_option linter.all false
noncomputable section
inductive OO where
 | t (n : Nat)
 | c (v : V)
def OO.den : OO → E → V | .t n => Gt n | .c v => cV v
def bZ (gl : List Nat) : Operand → Option OO
 | .tmp t => if t < 256 then some (.t t) else none
 | .const v => (jY 300 v).map .c
 | .global g => if gl.contains g then some (.c (.ptr g 0)) else none
 | .func f => some (.c (.func f [] []))
theorem aY {gl : List Nat} {x : Operand} {y : OO} (h : bZ gl x = some y) : eV gl x = some y.den := by
 cases x with
 | tmp t => simp only [bZ] at h; split at h <;> cases h; simp [eV, *, OO.den]
 | const v =>
   simp only [bZ] at h
   cases hv : jY 300 v with
   | none => rw [hv] at h; cases h
   | some u => rw [hv] at h; cases h; simp [eV, hv, OO.den]
 | global g => simp only [bZ] at h; split at h <;> cases h; simp only [eV, if_pos ‹gl.contains g = true›, OO.den]
 | func f => cases h; rfl
def lJ (gl : List Nat) : List Operand → Option (List OO)
 | [] => some []
 | x :: l => do some ((← bZ gl x) :: (← lJ gl l))
theorem jq {gl : List Nat} : ∀ {l : List Operand} {r : List OO}, lJ gl l = some r → q_ gl l = some (r.map OO.den)
 | [], r, h => by cases h; rfl
 | x :: l, r, h => by
   simp only [lJ, Option.bind_eq_bind, Option.bind_eq_some_iff] at h
   obtain ⟨y, h1, q, h2, h3⟩ := h
   cases h3
   simp [q_, aY h1, jq h2]
def mg (gl : List Nat) : Option Operand → Option (Option OO) | none => some none | some x => (bZ gl x).map some
theorem jf {gl : List Nat} {x : Option Operand} {y : Option OO} (h : mg gl x = some y) : tV gl x = some (y.map OO.den) := by
 cases x with
 | none => cases h; rfl
 | some x =>
   simp only [mg] at h
   cases hv : bZ gl x with
   | none => rw [hv] at h; cases h
   | some u => rw [hv] at h; cases h; simp [tV, aY hv]
def je (gl : List Nat) (place : Nat → Option (Nat × Nat)) : List (Nat × Operand) → Option (List (Nat × Nat × OO))
 | [] => some []
 | (i, x) :: l => match place i, bZ gl x, je gl place l with
   | some (off, size), some g, some r => some ((off, size, g) :: r)
   | _, _, _ => none
def eE (p : Nat × Nat × OO) : Nat × Nat × (E → V) := (p.1, p.2.1, p.2.2.den)
theorem iQ {gl : List Nat} {place : Nat → Option (Nat × Nat)} : ∀ {l : List (Nat × Operand)} {r : List (Nat × Nat × OO)}, je gl place l = some r → kI gl place l = some (r.map eE)
 | [], r, h => by cases h; rfl
 | (i, x) :: l, r, h => by
   unfold je at h
   split at h
   · rename_i off size g q h1 h2 h3
     cases h
     simp [kI, h1, aY h2, iQ h3, eE]
   · cases h
inductive LO where
 | move (x : OO)
 | pick (c a b : OO)
 | int (op : BinOp) (k : IntKind) (x y : OO)
 | div (op : BinOp) (k : IntKind) (x y : OO)
 | sh (op : BinOp) (k : IntKind) (x y : OO)
 | str (op : BinOp) (x y : OO)
 | beq (neg : Bool) (x y : OO)
 | nil (neg : Bool) (d : TypeDesc) (x y : OO)
 | not (x : OO)
 | neg (x : OO)
 | cT (k : IntKind) (x : OO)
 | fn (f : Nat) (a b : List OO)
 | ZG (off : Nat) (x : OO)
 | idx (es : Nat) (x y : OO)
 | byte (x y : OO)
 | ext (i : Nat) (x : OO)
 | zU (x : OO)
 | sl (es : Nat) (x : OO) (lo hi mx : Option OO)
 | OH (x : OO) (lo hi : Option OO)
 | qL (x : OO)
 | wS (x : OO)
 | build (z : List V) (ps : List (Nat × Nat × OO))
 | ld (x : OO)
 | Z0 (n : Nat) (x : OO)
 | al (l : List V)
 | box (x : OO)
 | ZS (len size : Nat) (z : List V) (ps : List (Nat × Nat × OO))
 | st (m : Nat) (x y : OO)
 | ap (lim es : Nat) (x y : OO)
 | call (f : Nat) (a : List OO)
 | pP (x : OO) (a : List OO)
 | stuck
 | mkS (es bytes : Nat) (z : List V) (x y : OO)
 | ZW (z : List V) (x : OO)
 | uZ (ng : Bool) (ks : List CK) (x y : OO)
def Y4 (_ : E) : Option V := none
inductive OD where
 | p (f : E → Option V)
 | d (f : E → St → Option V)
 | a (f : E → Nat → Option (V × Ob))
 | e (f : KC → E → St → Option (V × St))
def OD.den : OD → (E → V → E) → Den | .p f, u => oP f u | .d f, u => oD f u | .a f, u => oA f u | .e f, u => oE f u
def dy (fok : T Bool) : LO → Option OD
 | .move x => some (.p (aC x.den))
 | .pick c a b => some (.p (aO c.den a.den b.den))
 | .int op k x y => match aas op k with | some f => some (.p (ak (b2 k f) x.den y.den)) | none => none
 | .div op k x y => match ZL op k with | some f => some (.p (ak (dv op k f) x.den y.den)) | none => none
 | .sh op k x y => some (.p (ak (yI op k) x.den y.den))
 | .str op x y => match aaE op with | some f => some (.p (ak (bS f) x.den y.den)) | none => none
 | .beq ng x y => some (.p (ak (qD ng) x.den y.den))
 | .nil ng d x y => match Zc d with | some n => some (.p (ak (qf ng n) x.den y.den)) | none => none
 | .not x => some (.p (aD gR x.den))
 | .neg x => some (.p (aD Dk x.den))
 | .cT k x => some (.p (aD (cT k) x.den))
 | .fn f a b => some (.p (vw f (a.map OO.den) (b.map OO.den)))
 | .ZG off x => some (.p (aD (aF off) x.den))
 | .idx es x y => some (.p (ak (aP es) x.den y.den))
 | .byte x y => some (.p (ak lu x.den y.den))
 | .ext i x => some (.p (aD (dF i) x.den))
 | .zU x => some (.p (aD bF x.den))
 | .sl es x lo hi mx => some (.p (xg es x.den (lo.map OO.den) (hi.map OO.den) (mx.map OO.den)))
 | .OH x lo hi => some (.p (nN x.den (lo.map OO.den) (hi.map OO.den)))
 | .qL x => some (.p (aD aM x.den))
 | .wS x => some (.p (aD kG x.den))
 | .build z ps => some (.p (bM z (ps.map eE)))
 | .ld x => some (.d (aQ x.den))
 | .Z0 n x => some (.d (dh n x.den))
 | .al l => some (.a (kO l.length (cK l)))
 | .box x => some (.a (kH x.den))
 | .ZS len size z ps => some (.a (cg len size z (ps.map eE)))
 | .st m x y => some (.e (dJ m x.den y.den))
 | .ap lim es x y => some (.e (ZB lim es x.den y.den))
 | .call f a => some (.e (aq f (a.map OO.den)))
 | .pP x a => some (.e (fP fok x.den (a.map OO.den)))
 | .stuck => some (.p Y4)
 | .mkS es bytes z x y => some (.a (qV es bytes z x.den y.den))
 | .ZW z x => some (.e (tK z x.den))
 | .uZ ng ks x y => some (.p (ak (LN ng ks) x.den y.den))
def isC : Operand → Bool | .const _ => true | _ => false
def wN (tt : TT) (op : BinOp) (t : Nat) (x y : Operand) (a b : OO) : Option LO :=
 match tt.ud t with
 | some (.int k) => match op with
   | .quo | .rem => some (.div op k a b)
   | .shl | .shr => some (.sh op k a b)
   | _ => some (.int op k a b)
 | some .string => some (.str op a b)
 | some .bool => match op with
   | .eql => some (.beq false a b)
   | .neq => some (.beq true a b)
   | _ => none
 | some d => if isC x || isC y then (match op with
   | .eql => some (.nil false d a b)
   | .neq => some (.nil true d a b)
   | _ => none) else none
 | none => none
def sF (tt : TT) (s d : Nat) (a : OO) : Option LO :=
 match tt.ud s, tt.ud d with
 | some (.slice _), some .string => none
 | some _, some (.int k) => some (.cT k a)
 | _, _ => none
def zeroOf (tt : TT) (t : Nat) : Option V := match tt.ti t with | some ti => (match ti.zero with | some zv => jY 300 zv | none => none) | none => none
def vT (tt : TT) (t : Nat) (a : OO) : Option LO :=
 match tt.ud t with
 | some (.slice _) => some (.qL a)
 | some .string => some (.wS a)
 | _ => none
def C0 (tt : TT) (t1 t2 : Nat) (a b : OO) : Option LO :=
 match tt.ud t1, tt.ud t2 with
 | some (.slice el), some d2 => (match d2 with
   | .int _ => none
   | _ => match tt.sz el, tt.ti el with
     | some es, some ti => (match ti.zero with
       | some zv => if zv.cells.size = es ∧ 0 < ti.bytes ∧ ti.bytes ≤ 65536 then some (.ap (if ti.bytes ≤ 8 then 17596481011712 else 100000000) es a b) else none
       | none => none)
     | _, _ => none)
 | _, _ => none
def mh (tt : TT) (gl : List Nat) (b : Builtin) (args : List Operand) (ats : List Nat) : Option LO :=
 match b, args, ats with
 | .len, [x], [t] => (bZ gl x).bind (vT tt t)
 | .append, [x, y], [t1, t2] => (bZ gl x).bind fun a => (bZ gl y).bind fun b => C0 tt t1 t2 a b
 | _, _, _ => none
def BO (tt : TT) (gl : List Nat) (fok : T Bool) (o : Oper) : Option LO := match o.op with
 | .move x | .assign x => (bZ gl x).map .move
 | .pick c a b => (bZ gl c).bind fun c => (bZ gl a).bind fun a => (bZ gl b).map fun b => .pick c a b
 | .binOp op t x y _ => (bZ gl x).bind fun a => (bZ gl y).bind fun b => wN tt op t x y a b
 | .unOp .not _ x => (bZ gl x).map .not
 | .unOp .neg _ x => (bZ gl x).map .neg
 | .convert s d x => (bZ gl x).bind (sF tt s d)
 | .makeFunc (.func f) a b => (lJ gl a.toList).bind fun a => (lJ gl b.toList).map fun b => .fn f a b
 | .fieldAddr s x f => match tt.ud s with
   | some (.struct fs) => (match fs[f]? with
     | some fd => (match tt.sz fd.type with | some (_ + 1) => (bZ gl x).map (.ZG fd.offset) | _ => none)
     | none => none)
   | _ => none
 | .indexAddr t x y => match tt.ud t with
   | some (.slice el) => (match tt.sz el with | some es => (bZ gl x).bind fun a => (bZ gl y).map fun b => .idx es a b | none => none)
   | _ => none
 | .index t x y => match tt.ud t with
   | some .string => (bZ gl x).bind fun a => (bZ gl y).map fun b => .byte a b
   | _ => none
 | .extract x i => (bZ gl x).map (.ext i)
 | .nilCheck x => (bZ gl x).map .zU
 | .slice t x lo hi mx => match tt.ud t with
   | some (.slice el) => (match tt.sz el with
     | some es => if mx.isNone || hi.isSome then (bZ gl x).bind fun a => (mg gl lo).bind fun l => (mg gl hi).bind fun h => (mg gl mx).map fun m => .sl es a l h m else none
     | none => none)
   | some .string => if mx.isNone then (bZ gl x).bind fun a => (mg gl lo).bind fun l => (mg gl hi).map fun h => .OH a l h else none
   | _ => none
 | .build t ps => match tt.ud t with
   | some (.struct fs) => (match zeroOf tt t, placesOf tt fs.toList with
     | some (.agg z), some pl => (je gl (fun i => pl[i]?) ps.toList).map (.build z)
     | _, _ => none)
   | some (.array _ el) => (match zeroOf tt t, tt.sz el with
     | some (.agg z), some n => (je gl (fun i => some (i * n, n)) ps.toList).map (.build z)
     | _, _ => none)
   | _ => none
 | .load t x => match tt.ud t, tt.sz t with
   | some d, some n => (bZ gl x).map (if tT d then .Z0 n else .ld)
   | _, _ => none
 | .alloc t => match zeroOf tt t with
   | some z => (match dG z with | some l => if bn l then some (.al l) else none | none => none)
   | none => none
 | .box _ x => (bZ gl x).map .box
 | .buildSlice t len ps => match tt.ud t with
   | some (.slice el) => (match tt.sz el, zeroOf tt el with
     | some size, some z0 => (match dG z0 with
       | some z => if len * size ≤ 2 ^ 24 then (je gl (fun i => some (i * size, size)) ps.toList).map (.ZS len size (if len * size = 0 then [] else vA (len * size) z)) else none
       | none => none)
     | _, _ => none)
   | _ => none
 | .store t x y => match tt.sz t with | some m => (bZ gl x).bind fun a => (bZ gl y).map fun b => .st m a b | none => none
 | .call c => match c.callee with
   | .builtin b => mh tt gl b c.args.toList c.argTypes.toList
   | .value (.func f) => match fok.get f with | some true => (lJ gl c.args.toList).map (.call f) | _ => none
   | .value x => (bZ gl x).bind fun a => (lJ gl c.args.toList).map (.pP a)
   | _ => none
 | _ => none
def ot (P : Program) (nt : Nat) (gl : List Nat) (o : Oper) : OD → Prop
 | .p f => l8 P o nt gl f
 | .d f => ODs P o nt gl f
 | .a f => OAs P o nt gl f
 | .e f => Z9 P o nt gl f
theorem fU {tt : TT} {t : Nat} {z : V} (h : zeroOf tt t = some z) : ∃ ti zv, tt.ti t = some ti ∧ ti.zero = some zv ∧ jY 300 zv = some z := by
 unfold zeroOf at h
 split at h
 · rename_i ti hti
   split at h
   · rename_i zv hz; exact ⟨ti, zv, hti, hz, h⟩
   · cases h
 · cases h
section
variable {P : Program} {tt : TT} (H : qW P tt) {nt : Nat} {gl : List Nat} {o : Oper} {fok : T Bool} (hfok : ∀ f, fok.get f = some true → OI P f)
include H in
theorem zo {op : BinOp} {t yt : Nat} {x y : Operand} {a b : OO} {l : LO} {od : OD} (ho : o.op = .binOp op t x y yt) (ha : bZ gl x = some a) (hb : bZ gl y = some b) (h : wN tt op t x y a b = some l) (hd : dy fok l = some od) : ot P nt gl o od := by
 have hg := aY ha
 have hh := aY hb
 unfold wN at h
 split at h
 · rename_i k ht
   cases op <;> simp only [Option.some.injEq] at h <;> subst h <;> simp only [dy] at hd
   case quo => split at hd <;> cases hd; exact nY ho ‹_› hg hh
   case rem => split at hd <;> cases hd; exact nY ho ‹_› hg hh
   case shl => cases hd; exact qv ho hg hh
   case shr => cases hd; exact qv ho hg hh
   all_goals (split at hd <;> cases hd; exact uA ho ‹_› hg hh)
 · rename_i ht
   cases h
   simp only [dy] at hd
   split at hd <;> cases hd
   exact uX ho ‹_› hg hh
 · rename_i ht
   split at h <;> cases h <;> cases hd
   · exact mE H (neg := false) (by simpa using ho) ht hg hh
   · exact mE H (neg := true) (by simpa using ho) ht hg hh
 · rename_i d h1 h2 h3 ht
   have hc : ∀ x : Operand, isC x = true → ∃ v, x = .const v := by
    intro x hx; cases x <;> simp only [isC, reduceCtorEq] at hx; exact ⟨_, rfl⟩
   split at h
   · rename_i hcc
     have hcc : (∃ v, x = .const v) ∨ (∃ v, y = .const v) := by
      rcases Bool.or_eq_true_iff.1 hcc with hx | hx
      · exact .inl (hc _ hx)
      · exact .inr (hc _ hx)
     split at h <;> cases h <;> simp only [dy] at hd <;> split at hd <;> cases hd
     · exact n_ H (neg := false) (by simpa using ho) hcc ht ‹_› hg hh
     · exact n_ H (neg := true) (by simpa using ho) hcc ht ‹_› hg hh
   · cases h
 · cases h
include H in
theorem vW {s d : Nat} {x : Operand} {a : OO} {l : LO} {od : OD} (ho : o.op = .convert s d x) (ha : bZ gl x = some a) (h : sF tt s d a = some l) (hd : dy fok l = some od) : ot P nt gl o od := by
 unfold sF at h
 split at h
 · cases h
 · cases h; cases hd; exact PT H ho ‹_› ‹_› (aY ha)
 · cases h
include H in
theorem yG {t : Nat} {x : Operand} {a : OO} {l : LO} {od : OD} (ho : wU o .len t x) (ha : bZ gl x = some a) (h : vT tt t a = some l) (hd : dy fok l = some od) : ot P nt gl o od := by
 unfold vT at h
 split at h
 · cases h; cases hd; exact HG H ho ‹_› (aY ha)
 · cases h; cases hd; exact NJ H ho ‹_› (aY ha)
 · cases h
include H in
theorem HM {t1 t2 : Nat} {x y : Operand} {a b : OO} {l : LO} {od : OD} (ho : Zy o .append t1 t2 x y) (ha : bZ gl x = some a) (hb : bZ gl y = some b) (h : C0 tt t1 t2 a b = some l) (hd : dy fok l = some od) : ot P nt gl o od := by
 unfold C0 at h
 split at h
 · rename_i el d2 h1 h2
   split at h
   · cases h
   · rename_i hne
     split at h
     · rename_i es ti h3 h4
       split at h
       · rename_i zv h5
         split at h
         · rename_i h6
           cases h; cases hd
           exact aah H ho h1 h2 (fun k hk => hne k hk) h3 h4 h5 h6.1 h6.2.1 (by have := h6.2.2; split <;> omega) (aY ha) (aY hb)
         · cases h
       · cases h
     · cases h
 · cases h
include H in
theorem qZ {c : Call} {b : Builtin} {l : LO} {od : OD} (ho : o.op = .call c) (hc : c.callee = .builtin b) (h : mh tt gl b c.args.toList c.argTypes.toList = some l) (hd : dy fok l = some od) : ot P nt gl o od := by
 obtain ⟨cal, args, ats⟩ := c
 simp only at hc h
 subst hc
 unfold mh at h
 split at h
 · rename_i x t h1 h2
   have e1 : args = #[x] := by rw [← Array.toArray_toList (xs := args), h1]
   have e2 : ats = #[t] := by rw [← Array.toArray_toList (xs := ats), h2]
   subst e1; subst e2
   rw [Option.bind_eq_some_iff] at h
   obtain ⟨a, ha, h⟩ := h
   exact yG H ho ha h hd
 · rename_i x y t1 t2 h1 h2
   have e1 : args = #[x, y] := by rw [← Array.toArray_toList (xs := args), h1]
   have e2 : ats = #[t1, t2] := by rw [← Array.toArray_toList (xs := ats), h2]
   subst e1; subst e2
   rw [Option.bind_eq_some_iff] at h
   obtain ⟨a, ha, h⟩ := h
   rw [Option.bind_eq_some_iff] at h
   obtain ⟨b, hb, h⟩ := h
   exact HM H ho ha hb h hd
 · cases h
include H hfok in
theorem KN {l : LO} {od : OD} (h : BO tt gl fok o = some l) (hd : dy fok l = some od) : ot P nt gl o od := by
 unfold BO at h
 split at h
 all_goals (try (simp only [Option.map_eq_some_iff, Option.bind_eq_some_iff] at h))
 · rename_i x ho; obtain ⟨a, ha, rfl⟩ := h; cases hd; exact vz (.inl ho) (aY ha)
 · rename_i x ho; obtain ⟨a, ha, rfl⟩ := h; cases hd; exact vz (.inr ho) (aY ha)
 · rename_i ho; obtain ⟨a, ha, b, hb, c, hc, rfl⟩ := h; cases hd; exact Ar ho (aY ha) (aY hb) (aY hc)
 · rename_i ho; obtain ⟨a, ha, b, hb, h⟩ := h; exact zo H ho ha hb h hd
 · rename_i ho; obtain ⟨a, ha, rfl⟩ := h; cases hd; exact O7 ho (aY ha)
 · rename_i ho; obtain ⟨a, ha, rfl⟩ := h; cases hd; exact O5 ho (aY ha)
 · rename_i ho; obtain ⟨a, ha, h⟩ := h; exact vW H ho ha h hd
 · rename_i ho
   obtain ⟨a, ha, b, hb, rfl⟩ := h; cases hd
   exact Qt ho (jq ha) (jq hb)
 · rename_i s x f ho
   split at h
   · rename_i fs hs
     split at h
     · rename_i fd hf
       split at h
       · rename_i n hz
         rw [Option.map_eq_some_iff] at h
         obtain ⟨a, ha, rfl⟩ := h; cases hd
         exact Pt H ho hs hf hz (aY ha)
       · cases h
     · cases h
   · cases h
 · rename_i t x y ho
   split at h
   · rename_i el ht
     split at h
     · rename_i es hz
       simp only [Option.map_eq_some_iff, Option.bind_eq_some_iff] at h
       obtain ⟨a, ha, b, hb, rfl⟩ := h; cases hd
       exact QM H ho ht hz (aY ha) (aY hb)
     · cases h
   · cases h
 · rename_i t x y ho
   split at h
   · rename_i ht
     simp only [Option.map_eq_some_iff, Option.bind_eq_some_iff] at h
     obtain ⟨a, ha, b, hb, rfl⟩ := h; cases hd
     exact Ey H ho ht (aY ha) (aY hb)
   · cases h
 · rename_i ho; obtain ⟨a, ha, rfl⟩ := h; cases hd; exact PC ho (aY ha)
 · rename_i ho; obtain ⟨a, ha, rfl⟩ := h; cases hd; exact OZ ho (aY ha)
 · rename_i t x lo hi mx ho
   split at h
   · rename_i el ht
     split at h
     · rename_i es hz
       split at h
       · rename_i hm
         simp only [Option.map_eq_some_iff, Option.bind_eq_some_iff] at h
         obtain ⟨a, ha, l, hl, hh, hhh, m, hmm, rfl⟩ := h; cases hd
         refine aa7 H ho ht hz ?_ (aY ha) (jf hl) (jf hhh) (jf hmm)
         rcases Bool.or_eq_true_iff.1 hm with hm | hm
         · exact .inl (by simpa using hm)
         · exact .inr (fun e => by rw [e] at hm; cases hm)
       · cases h
     · cases h
   · rename_i ht
     split at h
     · rename_i hm
       have hm : mx = none := by simpa using hm
       subst hm
       simp only [Option.map_eq_some_iff, Option.bind_eq_some_iff] at h
       obtain ⟨a, ha, l, hl, hh, hhh, rfl⟩ := h; cases hd
       exact QV H ho ht (aY ha) (jf hl) (jf hhh)
     · cases h
   · cases h
 · rename_i t ps ho
   split at h
   · rename_i fs ht
     split at h
     · rename_i z pl hz hp
       rw [Option.map_eq_some_iff] at h
       obtain ⟨q, hq, rfl⟩ := h; cases hd
       obtain ⟨ti, zv, z1, z2, z3⟩ := fU hz
       exact yS H ho ht z1 z2 z3 hp (iQ hq)
     · cases h
   · rename_i len el ht
     split at h
     · rename_i z n hz hn
       rw [Option.map_eq_some_iff] at h
       obtain ⟨q, hq, rfl⟩ := h; cases hd
       obtain ⟨ti, zv, z1, z2, z3⟩ := fU hz
       exact wT H ho ht z1 z2 z3 hn (iQ hq)
     · cases h
   · cases h
 · rename_i t x ho
   split at h
   · rename_i d n h1 h2
     rw [Option.map_eq_some_iff] at h
     obtain ⟨a, ha, rfl⟩ := h
     cases hb : tT d with
     | true => rw [hb] at hd; cases hd; exact QU H ho h1 hb h2 (aY ha)
     | false => rw [hb] at hd; cases hd; exact Z5 H ho h1 hb (aY ha)
   · cases h
 · rename_i t ho
   split at h
   · rename_i z hz
     split at h
     · rename_i l' hl
       split at h
       · rename_i h1
         cases h; cases hd
         obtain ⟨ti, zv, z1, z2, z3⟩ := fU hz
         exact Yy H ho z1 z2 z3 hl h1
       · cases h
     · cases h
   · cases h
 · rename_i ho; obtain ⟨a, ha, rfl⟩ := h; cases hd; exact PY ho (aY ha)
 · rename_i t len ps ho
   split at h
   · rename_i el ht
     split at h
     · rename_i size z0 hn hz
       split at h
       · rename_i z hc
         split at h
         · rename_i hsm
           rw [Option.map_eq_some_iff] at h
           obtain ⟨q, hq, rfl⟩ := h; cases hd
           obtain ⟨ti, zv, z1, z2, z3⟩ := fU hz
           exact PD H ho ht z1 z2 z3 hc hn hsm (iQ hq)
         · cases h
       · cases h
     · cases h
   · cases h
 · rename_i t x y ho
   split at h
   · rename_i m hz
     simp only [Option.map_eq_some_iff, Option.bind_eq_some_iff] at h
     obtain ⟨a, ha, b, hb, rfl⟩ := h; cases hd
     exact ZA H ho hz (aY ha) (aY hb)
   · cases h
 · rename_i c ho
   split at h
   · rename_i b hc
     exact qZ H ho hc h hd
   · rename_i f hc
     split at h
     · rename_i hf
       rw [Option.map_eq_some_iff] at h
       obtain ⟨a, ha, rfl⟩ := h; cases hd
       obtain ⟨cal, args, ats⟩ := c
       simp only at hc ha
       subst hc
       exact KH ho (hfok f hf) (jq ha)
     · cases h
   · rename_i x _ hc
     simp only [Option.map_eq_some_iff, Option.bind_eq_some_iff] at h
     obtain ⟨a, ha, b, hb, rfl⟩ := h; cases hd
     obtain ⟨cal, args, ats⟩ := c
     simp only at hc hb
     subst hc
     exact yC hfok ho (aY ha) (jq hb)
   · cases h
 · cases h
end
end
end Go.Proofs.YtcgdlgbomjnnnaaGreatLab
/- The jL: lowering, more. No condition on the program. -/
namespace Go.Proofs.YtcgdlgbomjnnnaaGreatLab
open Go
set_option linter.all false
noncomputable section
def sW (tt : TT) (gl : List Nat) (b : Builtin) (args : List Operand) (ats : List Nat) : Option LO :=
 match b, args, ats with
 | .clear, [x], [t] => (match tt.ud t with
   | some (.slice el) => (match zeroOf tt el with
     | some z0 => (match dG z0 with | some z => if bn z then (bZ gl x).map (.ZW z) else none | none => none)
     | none => none)
   | _ => none)
 | _, _, _ => none
def T.cnt {α : Type} : T α → Nat | .nil => 0 | .ah _ l r => Nat.succ (Nat.add (T.cnt l) (T.cnt r))
def tQ (tt : TT) (gl : List Nat) (fok : T Bool) (o : Oper) : Option LO := match o.op with
 | .makeSlice t x y => (match tt.ud t with
   | some (.slice el) => (match tt.ti el, tt.sz el, zeroOf tt el with
     | some ti, some es, some z0 => (match dG z0 with | some z => if bn z && (Nat.beq es 0 || !isNil z) then (bZ gl x).bind fun a => (bZ gl y).map fun b => .mkS es ti.bytes z a b else none | none => none)
     | _, _, _ => none)
   | _ => none)
 | .call c => (match c.callee with
   | .builtin b => sW tt gl b c.args.toList c.argTypes.toList
   | _ => none)
 | .binOp op t x y _ => (match ckT tt t, op with
   | some ks, .eql => (bZ gl x).bind fun a => (bZ gl y).map fun b => .uZ false ks a b
   | some ks, .neq => (bZ gl x).bind fun a => (bZ gl y).map fun b => .uZ true ks a b
   | _, _ => none)
 | _ => none
def kq (tt : TT) (gl : List Nat) (fok : T Bool) (o : Oper) : LO := match BO tt gl fok o with
 | some l => (match dy fok l with | some _ => l | none => (match tQ tt gl fok o with | some l => l | none => .stuck))
 | none => (match tQ tt gl fok o with | some l => l | none => .stuck)
section
variable {P : Program} {tt : TT} (H : qW P tt) {nt : Nat} {gl : List Nat} {o : Oper} {fok : T Bool} (hfok : ∀ f, fok.get f = some true → OI P f)
theorem uT {od : OD} (hd : dy fok .stuck = some od) : ot P nt gl o od := by
 cases hd
 intro G e a w v hv
 cases hv
include H in
theorem vI {c : Call} {b : Builtin} {l : LO} {od : OD} (ho : o.op = .call c) (hc : c.callee = .builtin b) (h : sW tt gl b c.args.toList c.argTypes.toList = some l) (hd : dy fok l = some od) : ot P nt gl o od := by
 obtain ⟨cal, args, ats⟩ := c
 simp only at hc h
 subst hc
 unfold sW at h
 split at h
 · rename_i x t h1 h2
   have e1 : args = #[x] := by rw [← Array.toArray_toList (xs := args), h1]
   have e2 : ats = #[t] := by rw [← Array.toArray_toList (xs := ats), h2]
   subst e1; subst e2
   split at h
   · rename_i el ht
     split at h
     · rename_i z0 hz
       split at h
       · rename_i z hzc
         split at h
         · rename_i h1
           rw [Option.map_eq_some_iff] at h
           obtain ⟨a, ha, rfl⟩ := h; cases hd
           obtain ⟨ti, zv, z1, z2, z3⟩ := fU hz
           exact QB H ho ht z1 z2 z3 hzc h1 (aY ha)
         · cases h
       · cases h
     · cases h
   · cases h
 · cases h
include H hfok in
theorem rW {l : LO} {od : OD} (h : tQ tt gl fok o = some l) (hd : dy fok l = some od) : ot P nt gl o od := by
 unfold tQ at h
 split at h
 · rename_i t x y ho
   split at h
   · rename_i el ht
     split at h
     · rename_i ti es z0 hti hn hz
       split at h
       · rename_i z hzc
         split at h
         · rename_i h1
           simp only [Option.map_eq_some_iff, Option.bind_eq_some_iff] at h
           obtain ⟨a, ha, b, hb, rfl⟩ := h; cases hd
           obtain ⟨ti', zv, z1, z2, z3⟩ := fU hz
           rw [hti] at z1; cases z1
           rw [Bool.and_eq_true, Bool.or_eq_true] at h1
           refine Pb H ho ht hti z2 z3 hzc h1.1 hn ?_ (aY ha) (aY hb)
           rcases h1.2 with h2 | h2
           · exact .inl (Nat.eq_of_beq_eq_true h2)
           · exact .inr (fun e => by rw [e] at h2; cases h2)
         · cases h
       · cases h
     · cases h
   · cases h
 · rename_i c ho
   split at h
   · rename_i b hc
     exact vI H ho hc h hd
   · cases h
 · rename_i op t x y yt ho
   split at h
   · rename_i ks hk
     simp only [Option.map_eq_some_iff, Option.bind_eq_some_iff] at h
     obtain ⟨a, ha, b, hb, rfl⟩ := h; cases hd
     exact xX H (ng := false) (by simpa using ho) (ME H hk) (aY ha) (aY hb)
   · rename_i ks hk
     simp only [Option.map_eq_some_iff, Option.bind_eq_some_iff] at h
     obtain ⟨a, ha, b, hb, rfl⟩ := h; cases hd
     exact xX H (ng := true) (by simpa using ho) (ME H hk) (aY ha) (aY hb)
   · cases h
 · cases h
include H hfok in
theorem sv {od : OD} (hd : dy fok (kq tt gl fok o) = some od) : ot P nt gl o od := by
 unfold kq at hd
 split at hd
 · rename_i l hl
   split at hd
   · exact KN H hfok hl hd
   · split at hd
     · rename_i l hl
       exact rW H hfok hl hd
     · exact uT hd
 · split at hd
   · rename_i l hl
     exact rW H hfok hl hd
   · exact uT hd
end
end
end Go.Proofs.YtcgdlgbomjnnnaaGreatLab
/- The jL: a region in the text's order whose values are named, and its frame tF once at its end. No condition on the program. -/
namespace Go.Proofs.YtcgdlgbomjnnnaaGreatLab
open Go
set_option linter.all false
noncomputable section
def zF (n : Nat) : List (Nat × V) → Option V
 | [] => none
 | p :: l => Bool.casesOn (motive := fun _ => Option V) (Nat.beq p.1 n) (zF n l) (some p.2)
def OO.sub (ρ : List (Nat × V)) : OO → OO
 | .t n => match zF n ρ with | some v => .c v | none => .t n
 | .c v => .c v
def GU (ρ : List (Nat × V)) (p : Nat × Nat × OO) : Nat × Nat × OO := (p.1, p.2.1, p.2.2.sub ρ)
def LO.sub (ρ : List (Nat × V)) : LO → LO
 | .move zx => .move (zx.sub ρ)
 | .pick zc za zb => .pick (zc.sub ρ) (za.sub ρ) (zb.sub ρ)
 | .int zop zk zx zy => .int zop zk (zx.sub ρ) (zy.sub ρ)
 | .div zop zk zx zy => .div zop zk (zx.sub ρ) (zy.sub ρ)
 | .sh zop zk zx zy => .sh zop zk (zx.sub ρ) (zy.sub ρ)
 | .str zop zx zy => .str zop (zx.sub ρ) (zy.sub ρ)
 | .beq zneg zx zy => .beq zneg (zx.sub ρ) (zy.sub ρ)
 | .nil zneg zd zx zy => .nil zneg zd (zx.sub ρ) (zy.sub ρ)
 | .not zx => .not (zx.sub ρ)
 | .neg zx => .neg (zx.sub ρ)
 | .cT zk zx => .cT zk (zx.sub ρ)
 | .fn zf za zb => .fn zf (za.map (OO.sub ρ)) (zb.map (OO.sub ρ))
 | .ZG zoff zx => .ZG zoff (zx.sub ρ)
 | .idx zes zx zy => .idx zes (zx.sub ρ) (zy.sub ρ)
 | .byte zx zy => .byte (zx.sub ρ) (zy.sub ρ)
 | .ext zi zx => .ext zi (zx.sub ρ)
 | .zU zx => .zU (zx.sub ρ)
 | .sl zes zx zlo zhi zmx => .sl zes (zx.sub ρ) (zlo.map (OO.sub ρ)) (zhi.map (OO.sub ρ)) (zmx.map (OO.sub ρ))
 | .OH zx zlo zhi => .OH (zx.sub ρ) (zlo.map (OO.sub ρ)) (zhi.map (OO.sub ρ))
 | .qL zx => .qL (zx.sub ρ)
 | .wS zx => .wS (zx.sub ρ)
 | .build zz zps => .build zz (zps.map (GU ρ))
 | .ld zx => .ld (zx.sub ρ)
 | .Z0 zn zx => .Z0 zn (zx.sub ρ)
 | .al zl => .al zl
 | .box zx => .box (zx.sub ρ)
 | .ZS zlen zsize zz zps => .ZS zlen zsize zz (zps.map (GU ρ))
 | .st zm zx zy => .st zm (zx.sub ρ) (zy.sub ρ)
 | .ap zlim zes zx zy => .ap zlim zes (zx.sub ρ) (zy.sub ρ)
 | .call zf za => .call zf (za.map (OO.sub ρ))
 | .pP zx za => .pP (zx.sub ρ) (za.map (OO.sub ρ))
 | .stuck => .stuck
 | .mkS zes zbytes zz zx zy => .mkS zes zbytes zz (zx.sub ρ) (zy.sub ρ)
 | .ZW zz zx => .ZW zz (zx.sub ρ)
 | .uZ zng zks zx zy => .uZ zng zks (zx.sub ρ) (zy.sub ρ)
def flush (ρ : List (Nat × V)) (e : E) : E := ρ.foldr (fun p e => Ut p.1 e p.2) e
def WN (ρ : List (Nat × V)) : Prop := ∀ p, p ∈ ρ → p.1 < 256
theorem pI {ρ : List (Nat × V)} (h : WN ρ) (e : E) {n : Nat} (hn : n < 256) : Gt n (flush ρ e) = (zF n ρ).getD (Gt n e) := by
 induction ρ with
 | nil => rfl
 | cons p ρ ih =>
   show Gt n (Ut p.1 (flush ρ e) p.2) = _
   rw [iT n p.1 hn (h p List.mem_cons_self), ih (fun q hq => h q (List.mem_cons_of_mem _ hq))]
   by_cases hp : n = p.1
   · subst hp; simp [zF]
   · rw [if_neg hp]; simp only [zF, dH (Ne.symm hp)]
theorem ad8 {e e' : E} (h : ∀ t, t < 256 → Gt t e = Gt t e') : e = e' := by
 have h1 : ∀ (x y : ax V), (∀ j, j < 16 → ax.get j x = ax.get j y) → x = y := by
  intro x y hxy
  obtain ⟨x0, x1, x2, x3, x4, x5, x6, x7, x8, x9, x10, x11, x12, x13, x14, x15⟩ := x
  obtain ⟨y0, y1, y2, y3, y4, y5, y6, y7, y8, y9, y10, y11, y12, y13, y14, y15⟩ := y
  have p := fun j hj => hxy j hj
  have p0 := p 0 (by omega); have p1 := p 1 (by omega); have p2 := p 2 (by omega); have p3 := p 3 (by omega); have p4 := p 4 (by omega); have p5 := p 5 (by omega); have p6 := p 6 (by omega); have p7 := p 7 (by omega)
  have p8 := p 8 (by omega); have p9 := p 9 (by omega); have p10 := p 10 (by omega); have p11 := p 11 (by omega); have p12 := p 12 (by omega); have p13 := p 13 (by omega); have p14 := p 14 (by omega); have p15 := p 15 (by omega)
  simp only [ax.get] at p0 p1 p2 p3 p4 p5 p6 p7 p8 p9 p10 p11 p12 p13 p14 p15
  subst p0 p1 p2 p3 p4 p5 p6 p7 p8 p9 p10 p11 p12 p13 p14 p15
  rfl
 have h2 : ∀ (x y : E), (∀ i, i < 16 → ax.get i x = ax.get i y) → x = y := by
  intro x y hxy
  obtain ⟨x0, x1, x2, x3, x4, x5, x6, x7, x8, x9, x10, x11, x12, x13, x14, x15⟩ := x
  obtain ⟨y0, y1, y2, y3, y4, y5, y6, y7, y8, y9, y10, y11, y12, y13, y14, y15⟩ := y
  have p := fun j hj => hxy j hj
  have p0 := p 0 (by omega); have p1 := p 1 (by omega); have p2 := p 2 (by omega); have p3 := p 3 (by omega); have p4 := p 4 (by omega); have p5 := p 5 (by omega); have p6 := p 6 (by omega); have p7 := p 7 (by omega)
  have p8 := p 8 (by omega); have p9 := p 9 (by omega); have p10 := p 10 (by omega); have p11 := p 11 (by omega); have p12 := p 12 (by omega); have p13 := p 13 (by omega); have p14 := p 14 (by omega); have p15 := p 15 (by omega)
  simp only [ax.get] at p0 p1 p2 p3 p4 p5 p6 p7 p8 p9 p10 p11 p12 p13 p14 p15
  subst p0 p1 p2 p3 p4 p5 p6 p7 p8 p9 p10 p11 p12 p13 p14 p15
  rfl
 refine h2 e e' fun i hi => h1 _ _ fun j hj => ?_
 have := h (16 * i + j) (by omega)
 unfold Gt at this
 rwa [show (16 * i + j) % 16 = j by omega, show (16 * i + j) / 16 = i by omega] at this
def OO.sl : OO → List Nat | .t n => [n] | .c _ => []
def Pr : Option OO → List Nat | none => [] | some x => x.sl
def Pg (l : List (Nat × Nat × OO)) : List Nat := l.flatMap fun p => p.2.2.sl
def zR (l : List OO) : List Nat := l.flatMap OO.sl
def slots : LO → List Nat
 | .move x | .not x | .neg x | .cT _ x | .ZG _ x | .ext _ x | .zU x | .qL x | .wS x | .ld x | .Z0 _ x | .box x => x.sl
 | .pick c a b => c.sl ++ a.sl ++ b.sl
 | .int _ _ x y | .div _ _ x y | .sh _ _ x y | .str _ x y | .beq _ x y | .nil _ _ x y | .idx _ x y | .byte x y | .st _ x y | .ap _ _ x y => x.sl ++ y.sl
 | .fn _ a b => zR a ++ zR b
 | .sl _ x lo hi mx => x.sl ++ Pr lo ++ Pr hi ++ Pr mx
 | .OH x lo hi => x.sl ++ Pr lo ++ Pr hi
 | .build _ ps | .ZS _ _ _ ps => Pg ps
 | .al _ => []
 | .call _ a => zR a
 | .pP x a => x.sl ++ zR a
 | .stuck => []
 | .mkS _ _ _ x y => x.sl ++ y.sl
 | .ZW _ x => x.sl
 | .uZ _ _ x y => x.sl ++ y.sl
def OD.eC (e e' : E) : OD → OD → Prop
 | .p f, .p g => f e = g e'
 | .d f, .d g => ∀ s, f e s = g e' s
 | .a f, .a g => ∀ n, f e n = g e' n
 | .e f, .e g => ∀ k s, f k e s = g k e' s
 | _, _ => False
section
variable {ρ : List (Nat × V)} (hρ : WN ρ) (e : E)
include hρ
theorem kM {x : OO} (hx : ∀ n, n ∈ x.sl → n < 256) : (x.sub ρ).den e = x.den (flush ρ e) := by
 cases x with
 | c v => rfl
 | t n =>
   have hn := hx n (by simp [OO.sl])
   show _ = Gt n (flush ρ e)
   rw [pI hρ e hn]
   show OO.den (match zF n ρ with | some v => .c v | none => .t n) e = _
   cases zF n ρ <;> rfl
theorem T5 : ∀ {l : List OO}, (∀ n, n ∈ zR l → n < 256) → pV ((l.map (OO.sub ρ)).map OO.den) e = pV (l.map OO.den) (flush ρ e)
 | [], _ => rfl
 | x :: l, h => by
   simp only [List.map_cons, pV]
   rw [kM hρ e (fun t ht => h t (by simp [zR, ht])), T5 (fun t ht => h t (by simp only [zR, List.flatMap_cons, List.mem_append]; exact .inr ht))]
theorem WK : ∀ {l : List (Nat × Nat × OO)}, (∀ n, n ∈ Pg l → n < 256) → qU ((l.map (GU ρ)).map eE) e = qU (l.map eE) (flush ρ e)
 | [], _ => rfl
 | (a, b, x) :: l, h => by
   simp only [List.map_cons, GU, eE, qU]
   rw [kM hρ e (fun t ht => h t (by simp [Pg, ht])), WK (fun t ht => h t (by simp only [Pg, List.flatMap_cons, List.mem_append]; exact .inr ht))]
theorem aeT {x : Option OO} (h : ∀ n, n ∈ Pr x → n < 256) : mA ((x.map (OO.sub ρ)).map OO.den) e = mA (x.map OO.den) (flush ρ e) := by
 cases x with
 | none => rfl
 | some x => simp only [Option.map_some, mA]; rw [kM hρ e h]
theorem aa6 {fok : T Bool} {l : LO} {od : OD} (hd : dy fok l = some od) (h : ∀ n, n ∈ slots l → n < 256) : ∃ od', dy fok (l.sub ρ) = some od' ∧ OD.eC e (flush ρ e) od' od := by
 have s1 : ∀ {x : OO} (hx : ∀ t, t ∈ x.sl → t ∈ slots l := by simp +contextual [slots]), (x.sub ρ).den e = x.den (flush ρ e) := fun hx => kM hρ e fun t ht => h t (hx t ht)
 have s2 : ∀ {x : List OO} (hx : ∀ t, t ∈ zR x → t ∈ slots l := by simp +contextual [slots]), pV ((x.map (OO.sub ρ)).map OO.den) e = pV (x.map OO.den) (flush ρ e) := fun hx => T5 hρ e fun t ht => h t (hx t ht)
 have s3 : ∀ {x : List (Nat × Nat × OO)} (hx : ∀ t, t ∈ Pg x → t ∈ slots l := by simp +contextual [slots]), qU ((x.map (GU ρ)).map eE) e = qU (x.map eE) (flush ρ e) := fun hx => WK hρ e fun t ht => h t (hx t ht)
 have s4 : ∀ {x : Option OO} (hx : ∀ t, t ∈ Pr x → t ∈ slots l := by simp +contextual [slots]), mA ((x.map (OO.sub ρ)).map OO.den) e = mA (x.map OO.den) (flush ρ e) := fun hx => aeT hρ e fun t ht => h t (hx t ht)
 cases l <;> simp only [dy] at hd
 case move x => cases hd; refine ⟨_, rfl, ?_⟩; simp only [OD.eC, aC]; rw [s1]
 case pick c a b => cases hd; refine ⟨_, rfl, ?_⟩; simp only [OD.eC, aO]; rw [s1 (x := c), s1 (x := a), s1 (x := b)]
 case int op k x y => split at hd <;> cases hd; rename_i hq; refine ⟨_, by simp only [LO.sub, dy, hq]; rfl, ?_⟩; simp only [OD.eC, ak]; rw [s1 (x := x), s1 (x := y)]
 case div op k x y => split at hd <;> cases hd; rename_i hq; refine ⟨_, by simp only [LO.sub, dy, hq]; rfl, ?_⟩; simp only [OD.eC, ak]; rw [s1 (x := x), s1 (x := y)]
 case sh op k x y => cases hd; refine ⟨_, rfl, ?_⟩; simp only [OD.eC, ak]; rw [s1 (x := x), s1 (x := y)]
 case str op x y => split at hd <;> cases hd; rename_i hq; refine ⟨_, by simp only [LO.sub, dy, hq]; rfl, ?_⟩; simp only [OD.eC, ak]; rw [s1 (x := x), s1 (x := y)]
 case beq ng x y => cases hd; refine ⟨_, rfl, ?_⟩; simp only [OD.eC, ak]; rw [s1 (x := x), s1 (x := y)]
 case nil ng d x y => split at hd <;> cases hd; rename_i hq; refine ⟨_, by simp only [LO.sub, dy, hq]; rfl, ?_⟩; simp only [OD.eC, ak]; rw [s1 (x := x), s1 (x := y)]
 case not x => cases hd; refine ⟨_, rfl, ?_⟩; simp only [OD.eC, aD]; rw [s1]
 case neg x => cases hd; refine ⟨_, rfl, ?_⟩; simp only [OD.eC, aD]; rw [s1]
 case cT k x => cases hd; refine ⟨_, rfl, ?_⟩; simp only [OD.eC, aD]; rw [s1]
 case fn f a b => cases hd; refine ⟨_, rfl, ?_⟩; simp only [OD.eC, vw]; rw [s2 (x := a), s2 (x := b)]
 case ZG off x => cases hd; refine ⟨_, rfl, ?_⟩; simp only [OD.eC, aD]; rw [s1]
 case idx es x y => cases hd; refine ⟨_, rfl, ?_⟩; simp only [OD.eC, ak]; rw [s1 (x := x), s1 (x := y)]
 case byte x y => cases hd; refine ⟨_, rfl, ?_⟩; simp only [OD.eC, ak]; rw [s1 (x := x), s1 (x := y)]
 case ext i x => cases hd; refine ⟨_, rfl, ?_⟩; simp only [OD.eC, aD]; rw [s1]
 case zU x => cases hd; refine ⟨_, rfl, ?_⟩; simp only [OD.eC, aD]; rw [s1]
 case sl es x lo hi mx => cases hd; refine ⟨_, rfl, ?_⟩; simp only [OD.eC, xg]; rw [s1 (x := x), s4 (x := lo), s4 (x := hi), s4 (x := mx)]
 case OH x lo hi => cases hd; refine ⟨_, rfl, ?_⟩; simp only [OD.eC, nN]; rw [s1 (x := x), s4 (x := lo), s4 (x := hi)]
 case qL x => cases hd; refine ⟨_, rfl, ?_⟩; simp only [OD.eC, aD]; rw [s1]
 case wS x => cases hd; refine ⟨_, rfl, ?_⟩; simp only [OD.eC, aD]; rw [s1]
 case build z ps => cases hd; refine ⟨_, rfl, ?_⟩; simp only [OD.eC, bM]; rw [s3]
 case ld x => cases hd; refine ⟨_, rfl, ?_⟩; intro s; simp only [aQ]; rw [s1]
 case Z0 n x => cases hd; refine ⟨_, rfl, ?_⟩; intro s; simp only [dh]; rw [s1]
 case al l => cases hd; refine ⟨_, rfl, ?_⟩; intro n; rfl
 case box x => cases hd; refine ⟨_, rfl, ?_⟩; intro n; simp only [kH]; rw [s1]
 case ZS len size z ps => cases hd; refine ⟨_, rfl, ?_⟩; intro n; simp only [cg]; rw [s3]
 case st m x y => cases hd; refine ⟨_, rfl, ?_⟩; intro k s; simp only [dJ]; rw [s1 (x := x), s1 (x := y)]
 case ap lim es x y => cases hd; refine ⟨_, rfl, ?_⟩; intro k s; simp only [ZB]; rw [s1 (x := x), s1 (x := y)]
 case call f a => cases hd; refine ⟨_, rfl, ?_⟩; intro k s; simp only [aq]; rw [s2]
 case pP x a => cases hd; refine ⟨_, rfl, ?_⟩; intro k s; simp only [fP]; rw [s1 (x := x), s2 (x := a)]
 case stuck => cases hd; refine ⟨_, rfl, ?_⟩; rfl
 case mkS es bytes z x y => cases hd; refine ⟨_, rfl, ?_⟩; intro n; simp only [qV]; rw [s1 (x := x), s1 (x := y)]
 case ZW z x => cases hd; refine ⟨_, rfl, ?_⟩; intro k s; simp only [tK]; rw [s1]
 case uZ ng ks x y => cases hd; refine ⟨_, rfl, ?_⟩; simp only [OD.eC, ak]; rw [s1 (x := x), s1 (x := y)]
end
structure FI where
 lo : LO
 dst : Option Nat
 g : Option (Nat × Bool)
def D1 : Option Nat → E → V → E | none => nW | some t => Ut t
def nV (d : OD) (i : FI) : Den := match i.g with | none => d.den (D1 i.dst) | some (t, want) => oG (Gt t) want (d.den (D1 i.dst)) (D1 i.dst)
def oq (d : Option Nat) (v : V) (ρ : List (Nat × V)) : List (Nat × V) := match d with | none => ρ | some t => (t, v) :: ρ.filter fun p => not (Nat.beq p.1 t)
def bP (x : Option V) (k : V → aE) : aE := Option.rec (motive := fun _ => aE) .bad k x
def bE (x : Option (V × St)) (k : V → St → aE) : aE := Option.rec (motive := fun _ => aE) .bad (fun p => k p.1 p.2) x
def cZ (x : Option (V × Ob)) (s : St) : Option (V × St) := Option.rec (motive := fun _ => Option (V × St)) none (fun p => some (p.1, s.new p.2)) x
def aN (v : V) (w : Bool) (x : Option V) : Option V := match v with
 | .bool b => Bool.casesOn (motive := fun _ => Option V) (Bool.casesOn (motive := fun _ => Bool) w (not b) b) (some (.bH [])) x
 | .bH [] => some (.bH [])
 | _ => none
def ia (v : V) (w : Bool) (s : St) (x : Option (V × St)) : Option (V × St) := match v with
 | .bool b => Bool.casesOn (motive := fun _ => Option (V × St)) (Bool.casesOn (motive := fun _ => Bool) w (not b) b) (some (.bH [], s)) x
 | .bH [] => some (.bH [], s)
 | _ => none
def gP (g : Option (Nat × Bool)) (ρ : List (Nat × V)) (e : E) (x : Option V) : Option V := match g with | none => x | some (t, w) => aN ((OO.sub ρ (.t t)).den e) w x
def gW (g : Option (Nat × Bool)) (ρ : List (Nat × V)) (e : E) (s : St) (x : Option (V × St)) : Option (V × St) := match g with | none => x | some (t, w) => ia ((OO.sub ρ (.t t)).den e) w s x
def mK (fok : T Bool) : List FI → List (Nat × V) → Den
 | [], ρ, _, e, s => .au (flush ρ e) s
 | i :: l, ρ, k, e, s => match i.g, i.lo.sub ρ with
  | none, .move x => mK fok l (oq i.dst (x.den e) ρ) k e s
  | _, lo => match dy fok lo with
   | some (.p f) => bP (gP i.g ρ e (f e)) fun v => mK fok l (oq i.dst v ρ) k e s
   | some (.d f) => bP (gP i.g ρ e (f e s)) fun v => mK fok l (oq i.dst v ρ) k e s
   | some (.a f) => bE (gW i.g ρ e s (cZ (f e s.next) s)) fun v s => mK fok l (oq i.dst v ρ) k e s
   | some (.e f) => bE (gW i.g ρ e s (f k e s)) fun v s => mK fok l (oq i.dst v ρ) k e s
   | none => .bad
def FI.ok (i : FI) : Bool := (slots i.lo).all (Nat.blt · 256) && (match i.g with | some (t, _) => Nat.blt t 256 | none => true) && (match i.dst with | some t => Nat.blt t 256 | none => true)
theorem lS {n t : Nat} (h : n ≠ t) : ∀ (ρ : List (Nat × V)), zF n (ρ.filter fun p => not (Nat.beq p.1 t)) = zF n ρ
 | [] => rfl
 | p :: ρ => by
   rw [List.filter_cons]
   by_cases hp : p.1 = t
   · have h1 : Nat.beq p.1 t = true := by rw [hp]; simp
     have h2 : Nat.beq p.1 n = false := dH (by omega)
     rw [h1]; simp only [Bool.not_true, Bool.false_eq_true, if_false, zF, h2]
     exact lS h ρ
   · have h1 : Nat.beq p.1 t = false := dH hp
     rw [h1]; simp only [Bool.not_false, if_true, zF]
     rw [lS h ρ]
theorem yj {ρ : List (Nat × V)} (h : WN ρ) {d : Option Nat} (hd : ∀ t, d = some t → t < 256) (v : V) : WN (oq d v ρ) := by
 cases d with
 | none => exact h
 | some t =>
   intro p hp
   rcases List.mem_cons.1 hp with rfl | hp
   · exact hd t rfl
   · exact h p (List.mem_filter.1 hp).1
theorem yQ {ρ : List (Nat × V)} (h : WN ρ) {d : Option Nat} (hd : ∀ t, d = some t → t < 256) (v : V) (e : E) : flush (oq d v ρ) e = D1 d (flush ρ e) v := by
 cases d with
 | none => rfl
 | some t =>
   have ht := hd t rfl
   have ho := yj h hd v
   refine ad8 fun n hn => ?_
   rw [pI ho e hn]
   show _ = Gt n (Ut t (flush ρ e) v)
   rw [iT n t hn ht, pI h e hn]
   by_cases hnt : n = t
   · subst hnt; simp [oq, zF]
   · rw [if_neg hnt]
     simp only [oq, zF, dH (Ne.symm hnt)]
     rw [lS hnt]
def gV (g : Option (Nat × Bool)) (e : E) (x : Option V) : Option V := match g with | none => x | some (t, w) => aN (Gt t e) w x
def gVW (g : Option (Nat × Bool)) (e : E) (s : St) (x : Option (V × St)) : Option (V × St) := match g with | none => x | some (t, w) => ia (Gt t e) w s x
theorem abl {g : Option (Nat × Bool)} {ρ : List (Nat × V)} (h : WN ρ) (e : E) (hg : ∀ t w, g = some (t, w) → t < 256) (x : Option V) : gP g ρ e x = gV g (flush ρ e) x := by
 cases g with
 | none => rfl
 | some p =>
   obtain ⟨t, w⟩ := p
   simp only [gP, gV]
   rw [kM h e (x := .t t) (fun n hn => by simp [OO.sl] at hn; rw [hn]; exact hg t w rfl)]
   rfl
theorem aeu {g : Option (Nat × Bool)} {ρ : List (Nat × V)} (h : WN ρ) (e : E) (s : St) (hg : ∀ t w, g = some (t, w) → t < 256) (x : Option (V × St)) : gW g ρ e s x = gVW g (flush ρ e) s x := by
 cases g with
 | none => rfl
 | some p =>
   obtain ⟨t, w⟩ := p
   simp only [gW, gVW]
   rw [kM h e (x := .t t) (fun n hn => by simp [OO.sl] at hn; rw [hn]; exact hg t w rfl)]
   rfl
theorem ZJ {g : Option (Nat × Bool)} {u : E → V → E} {d : Den} {k : KC} {e : E} {s : St} {x : Option V} (hx : d k e s = match x with | some v => .au (u e v) s | none => .bad) :
 (match g with | none => d | some (t, want) => oG (Gt t) want d u) k e s = match gV g e x with | some v => .au (u e v) s | none => .bad := by
 cases g with
 | none => exact hx
 | some p =>
   obtain ⟨t, w⟩ := p
   simp only [oG, gV, aN]
   generalize Gt t e = q
   cases q with
   | bool b => cases b <;> cases w <;> first | exact hx | rfl
   | bH l => cases l <;> rfl
   | _ => rfl
theorem aaR {g : Option (Nat × Bool)} {u : E → V → E} {d : Den} {k : KC} {e : E} {s : St} {x : Option (V × St)} (hx : d k e s = match x with | some (v, s') => .au (u e v) s' | none => .bad) :
 (match g with | none => d | some (t, want) => oG (Gt t) want d u) k e s = match gVW g e s x with | some (v, s') => .au (u e v) s' | none => .bad := by
 cases g with
 | none => exact hx
 | some p =>
   obtain ⟨t, w⟩ := p
   simp only [oG, gVW, ia]
   generalize Gt t e = q
   cases q with
   | bool b => cases b <;> cases w <;> first | exact hx | rfl
   | bH l => cases l <;> rfl
   | _ => rfl
theorem tG {fok : T Bool} (k : KC) (e : E) : ∀ (l : List FI) (ds : List OD) (ρ : List (Nat × V)) (s : St), l.all FI.ok = true → ds.length = l.length → (∀ (i : Nat) (x : FI), l[i]? = some x → ∃ d, ds[i]? = some d ∧ dy fok x.lo = some d) → WN ρ →
 mK fok l ρ k e s = ops (List.zipWith nV ds l) k (flush ρ e) s
 | [], [], ρ, s, _, _, _, _ => rfl
 | i :: l, d :: ds, ρ, s, hok, hlen, hd, hρ => by
   obtain ⟨d', e1, hden⟩ := hd 0 i rfl
   cases e1
   simp only [List.all_cons, Bool.and_eq_true, FI.ok] at hok
   obtain ⟨⟨⟨o1, o2⟩, o3⟩, hok⟩ := hok
   have h1 : ∀ n, n ∈ slots i.lo → n < 256 := fun n hn => by
    have := List.all_eq_true.1 o1 n hn
    rw [dD] at this; simpa using this
   have h2 : ∀ t w, i.g = some (t, w) → t < 256 := fun t w h => by rw [h] at o2; simp only [dD] at o2; simpa using o2
   have h3 : ∀ t, i.dst = some t → t < 256 := fun t h => by rw [h] at o3; simp only [dD] at o3; simpa using o3
   have hlen' : ds.length = l.length := by simpa using hlen
   have hd' : ∀ (j : Nat) (x : FI), l[j]? = some x → ∃ d, ds[j]? = some d ∧ dy fok x.lo = some d := fun j x hx => by simpa using hd (j + 1) x (by simpa using hx)
   obtain ⟨od, q1, q2⟩ := aa6 hρ e hden h1
   have ih : ∀ v s, mK fok l (oq i.dst v ρ) k e s = ops (List.zipWith nV ds l) k (D1 i.dst (flush ρ e) v) s := fun v s => by
    rw [tG k e l ds _ s hok hlen' hd' (yj hρ h3 v), yQ hρ h3]
   have hP : ∀ (x : Option V), d.den (D1 i.dst) k (flush ρ e) s = (match x with | some v => .au (D1 i.dst (flush ρ e) v) s | none => .bad) → bP (gP i.g ρ e x) (fun v => mK fok l (oq i.dst v ρ) k e s) = ops (List.zipWith nV (d :: ds) (i :: l)) k (flush ρ e) s := by
    intro x hx
    rw [abl hρ e h2]
    simp only [List.zipWith_cons_cons, ops, aa, nV]
    rw [ZJ (g := i.g) hx]
    generalize gV i.g (flush ρ e) x = y
    cases y with
    | none => rfl
    | some v => exact ih v s
   have hW : ∀ (x : Option (V × St)), d.den (D1 i.dst) k (flush ρ e) s = (match x with | some (v, s') => .au (D1 i.dst (flush ρ e) v) s' | none => .bad) → bE (gW i.g ρ e s x) (fun v s => mK fok l (oq i.dst v ρ) k e s) = ops (List.zipWith nV (d :: ds) (i :: l)) k (flush ρ e) s := by
    intro x hx
    rw [aeu hρ e s h2]
    simp only [List.zipWith_cons_cons, ops, aa, nV]
    rw [aaR (g := i.g) hx]
    generalize gVW i.g (flush ρ e) s x = y
    cases y with
    | none => rfl
    | some p => exact ih p.1 p.2
   unfold mK
   split
   · rename_i x hg hlo
     rw [hlo] at q1
     cases q1
     cases d with
     | p g =>
       have hq : some (x.den e) = g (flush ρ e) := q2
       rw [ih]
       simp only [List.zipWith_cons_cons, ops, aa, nV, hg, OD.den, oP, ← hq]
     | d g => exact q2.elim
     | a g => exact q2.elim
     | e g => exact q2.elim
   rw [q1]
   cases od with
   | p f =>
     cases d with
     | p g => exact hP (f e) (by rw [show f e = g (flush ρ e) from q2]; rfl)
     | d g => exact q2.elim
     | a g => exact q2.elim
     | e g => exact q2.elim
   | d f =>
     cases d with
     | d g => exact hP (f e s) (by rw [show f e s = g (flush ρ e) s from q2 s]; rfl)
     | p g => exact q2.elim
     | a g => exact q2.elim
     | e g => exact q2.elim
   | a f =>
     cases d with
     | a g => exact hW (cZ (f e s.next) s) (by
         rw [show f e s.next = g (flush ρ e) s.next from q2 s.next]
         show oA g (D1 i.dst) k (flush ρ e) s = _
         unfold oA
         cases g (flush ρ e) s.next with
         | none => rfl
         | some p => rfl)
     | p g => exact q2.elim
     | d g => exact q2.elim
     | e g => exact q2.elim
   | e f =>
     cases d with
     | e g => exact hW (f k e s) (by rw [show f k e s = g k (flush ρ e) s from q2 k s]; rfl)
     | p g => exact q2.elim
     | d g => exact q2.elim
     | a g => exact q2.elim
noncomputable def fV (e : E) (k : V → V → V → V → V → V → V → V → V → V → V → V → V → V → V → V → ax V) : E := ax.rec (motive := fun _ => E) (fun x0 x1 x2 x3 x4 x5 x6 x7 x8 x9 x10 x11 x12 x13 x14 x15 => ax.rec (motive := fun _ => E) (fun y0 y1 y2 y3 y4 y5 y6 y7 y8 y9 y10 y11 y12 y13 y14 y15 => ⟨k y0 y1 y2 y3 y4 y5 y6 y7 y8 y9 y10 y11 y12 y13 y14 y15, x1, x2, x3, x4, x5, x6, x7, x8, x9, x10, x11, x12, x13, x14, x15⟩) x0) e
noncomputable def lW (e : E) (k : V → V → V → V → V → V → V → V → V → V → V → V → V → V → V → V → ax V) : E := ax.rec (motive := fun _ => E) (fun x0 x1 x2 x3 x4 x5 x6 x7 x8 x9 x10 x11 x12 x13 x14 x15 => ax.rec (motive := fun _ => E) (fun y0 y1 y2 y3 y4 y5 y6 y7 y8 y9 y10 y11 y12 y13 y14 y15 => ⟨x0, k y0 y1 y2 y3 y4 y5 y6 y7 y8 y9 y10 y11 y12 y13 y14 y15, x2, x3, x4, x5, x6, x7, x8, x9, x10, x11, x12, x13, x14, x15⟩) x1) e
noncomputable def mu (e : E) (k : V → V → V → V → V → V → V → V → V → V → V → V → V → V → V → V → ax V) : E := ax.rec (motive := fun _ => E) (fun x0 x1 x2 x3 x4 x5 x6 x7 x8 x9 x10 x11 x12 x13 x14 x15 => ax.rec (motive := fun _ => E) (fun y0 y1 y2 y3 y4 y5 y6 y7 y8 y9 y10 y11 y12 y13 y14 y15 => ⟨x0, x1, k y0 y1 y2 y3 y4 y5 y6 y7 y8 y9 y10 y11 y12 y13 y14 y15, x3, x4, x5, x6, x7, x8, x9, x10, x11, x12, x13, x14, x15⟩) x2) e
noncomputable def EG (e : E) (k : V → V → V → V → V → V → V → V → V → V → V → V → V → V → V → V → ax V) : E := ax.rec (motive := fun _ => E) (fun x0 x1 x2 x3 x4 x5 x6 x7 x8 x9 x10 x11 x12 x13 x14 x15 => ax.rec (motive := fun _ => E) (fun y0 y1 y2 y3 y4 y5 y6 y7 y8 y9 y10 y11 y12 y13 y14 y15 => ⟨x0, x1, x2, k y0 y1 y2 y3 y4 y5 y6 y7 y8 y9 y10 y11 y12 y13 y14 y15, x4, x5, x6, x7, x8, x9, x10, x11, x12, x13, x14, x15⟩) x3) e
noncomputable def T0 (e : E) (k : V → V → V → V → V → V → V → V → V → V → V → V → V → V → V → V → ax V) : E := ax.rec (motive := fun _ => E) (fun x0 x1 x2 x3 x4 x5 x6 x7 x8 x9 x10 x11 x12 x13 x14 x15 => ax.rec (motive := fun _ => E) (fun y0 y1 y2 y3 y4 y5 y6 y7 y8 y9 y10 y11 y12 y13 y14 y15 => ⟨x0, x1, x2, x3, k y0 y1 y2 y3 y4 y5 y6 y7 y8 y9 y10 y11 y12 y13 y14 y15, x5, x6, x7, x8, x9, x10, x11, x12, x13, x14, x15⟩) x4) e
noncomputable def Tt (e : E) (k : V → V → V → V → V → V → V → V → V → V → V → V → V → V → V → V → ax V) : E := ax.rec (motive := fun _ => E) (fun x0 x1 x2 x3 x4 x5 x6 x7 x8 x9 x10 x11 x12 x13 x14 x15 => ax.rec (motive := fun _ => E) (fun y0 y1 y2 y3 y4 y5 y6 y7 y8 y9 y10 y11 y12 y13 y14 y15 => ⟨x0, x1, x2, x3, x4, k y0 y1 y2 y3 y4 y5 y6 y7 y8 y9 y10 y11 y12 y13 y14 y15, x6, x7, x8, x9, x10, x11, x12, x13, x14, x15⟩) x5) e
noncomputable def rw6 (e : E) (k : V → V → V → V → V → V → V → V → V → V → V → V → V → V → V → V → ax V) : E := ax.rec (motive := fun _ => E) (fun x0 x1 x2 x3 x4 x5 x6 x7 x8 x9 x10 x11 x12 x13 x14 x15 => ax.rec (motive := fun _ => E) (fun y0 y1 y2 y3 y4 y5 y6 y7 y8 y9 y10 y11 y12 y13 y14 y15 => ⟨x0, x1, x2, x3, x4, x5, k y0 y1 y2 y3 y4 y5 y6 y7 y8 y9 y10 y11 y12 y13 y14 y15, x7, x8, x9, x10, x11, x12, x13, x14, x15⟩) x6) e
noncomputable def rw7 (e : E) (k : V → V → V → V → V → V → V → V → V → V → V → V → V → V → V → V → ax V) : E := ax.rec (motive := fun _ => E) (fun x0 x1 x2 x3 x4 x5 x6 x7 x8 x9 x10 x11 x12 x13 x14 x15 => ax.rec (motive := fun _ => E) (fun y0 y1 y2 y3 y4 y5 y6 y7 y8 y9 y10 y11 y12 y13 y14 y15 => ⟨x0, x1, x2, x3, x4, x5, x6, k y0 y1 y2 y3 y4 y5 y6 y7 y8 y9 y10 y11 y12 y13 y14 y15, x8, x9, x10, x11, x12, x13, x14, x15⟩) x7) e
noncomputable def rw8 (e : E) (k : V → V → V → V → V → V → V → V → V → V → V → V → V → V → V → V → ax V) : E := ax.rec (motive := fun _ => E) (fun x0 x1 x2 x3 x4 x5 x6 x7 x8 x9 x10 x11 x12 x13 x14 x15 => ax.rec (motive := fun _ => E) (fun y0 y1 y2 y3 y4 y5 y6 y7 y8 y9 y10 y11 y12 y13 y14 y15 => ⟨x0, x1, x2, x3, x4, x5, x6, x7, k y0 y1 y2 y3 y4 y5 y6 y7 y8 y9 y10 y11 y12 y13 y14 y15, x9, x10, x11, x12, x13, x14, x15⟩) x8) e
noncomputable def abq (e : E) (k : V → V → V → V → V → V → V → V → V → V → V → V → V → V → V → V → ax V) : E := ax.rec (motive := fun _ => E) (fun x0 x1 x2 x3 x4 x5 x6 x7 x8 x9 x10 x11 x12 x13 x14 x15 => ax.rec (motive := fun _ => E) (fun y0 y1 y2 y3 y4 y5 y6 y7 y8 y9 y10 y11 y12 y13 y14 y15 => ⟨x0, x1, x2, x3, x4, x5, x6, x7, x8, x9, k y0 y1 y2 y3 y4 y5 y6 y7 y8 y9 y10 y11 y12 y13 y14 y15, x11, x12, x13, x14, x15⟩) x10) e
end
end Go.Proofs.YtcgdlgbomjnnnaaGreatLab
/- The jL: regions that draw their order; whole functions. No condition on the program. -/
namespace Go.Proofs.YtcgdlgbomjnnnaaGreatLab
open Go
set_option linter.all false
noncomputable section
/-! ### Regions that draw their order -/
inductive DI where
 | p (f : E → Option V)
 | d (lo hi : Nat) (f : E → St → Option V)
 | a (f : E → Nat → Option (V × Ob))
 | e (f : KC → E → St → Option (V × St))
structure DT where
 g : Option (Nat × Bool)
 k : DI
 u : E → V → E
def iZ (t : DT) (e : E) : Option Bool := match t.g with
 | none => some false
 | some (j, want) => match Gt j e with | .bool b => some (b != want) | .bH [] => some true | _ => none
def cB (k : KC) (t : DT) (e : E) (s : St) : Option (V × St) := match iZ t e with
 | none => none
 | some true => some (.bH [], s)
 | some false => match t.k with
   | .p f => (match f e with | some v => some (v, s) | none => none)
   | .d _ _ f => (match f e s with | some v => some (v, s) | none => none)
   | .a f => (match f e s.next with | some (v, o) => some (v, s.new o) | none => none)
   | .e f => f k e s
def DI.kX : DI → Bool | .e _ => true | _ => false
def DI.JI : DI → Bool | .a _ => true | _ => false
def cz (k : KC) : List DT → E → St → Option (List (V × E × St))
 | [], _, _ => some []
 | t :: l, e, s => match cB k t e s with
   | none => none
   | some (v, s') => match cz k l (t.u e v) s' with
     | none => none
     | some r => some ((v, t.u e v, s') :: r)
def snaps (s : St) : List DT → List (V × E × St) → List St
 | t :: l, (_, _, s') :: r => if t.k.kX then s :: snaps s' l r else snaps s l r
 | _, _ => [s]
def rq (sn : List St) (t : DT) (e : E) (v : V) : Bool := match t.k with
 | .d lo hi f => ((sn.drop lo).take (hi + 1 - lo)).all fun s => match iZ t e with | some false => (match f e s with | some v' => dO 100 v' v | none => false) | _ => true
 | _ => true
def hO (sn : List St) : List DT → E → List (V × E × St) → Bool
 | t :: l, e, (v, e', _) :: r => Bool.casesOn (motive := fun _ => Bool) (rq sn t e v) false (hO sn l e' r)
 | _, _, _ => true
def fZ (e : E) (s : St) : List (V × E × St) → aE | [] => .au e s | (_, e', s') :: r => fZ e' s' r
def fK (l : List DT) : Den := fun k e s => match cz k l e s with
 | none => .bad
 | some r => Bool.casesOn (motive := fun _ => aE) (hO (snaps s l r) l e r) .bad (fZ e s r)
def OD.kX : OD → Bool | .e _ => true | _ => false
def OD.JI : OD → Bool | .a _ => true | _ => false
def aT (p : Nat → Bool) : Nat → Nat | 0 => 0 | n + 1 => aT p n + (if p n then 1 else 0)
def bz (ds : List OD) (i : Nat) : Bool := match ds[i]? with | some d => d.kX | none => false
def cJ (ds : List OD) (i : Nat) : Bool := match ds[i]? with | some d => d.JI | none => false
def br (os : Array Oper) (i j : Nat) : Bool := ((Region.before os).getD j 0).testBit i
def m9 (ds : List OD) (ord : Nat → Nat → Bool) (i : Nat) : Bool := ds.all (fun d => !d.JI) && (List.range ds.length).all fun j => !bz ds j || ord j i || ord i j
def fR (ds : List OD) (ord : Nat → Nat → Bool) (i : Nat) (d : OD) (u : E → V → E) (g : Option (Nat × Bool)) : DT :=
 let lo := aT (fun j => bz ds j && ord j i) ds.length
 let hi := aT (fun j => bz ds j && !ord i j) ds.length
 ⟨g, (match d with | .p f => .p f | .a f => .a f | .e f => .e f | .d f => .d (if m9 ds ord i then 1 else lo) (if m9 ds ord i then 0 else hi) f), u⟩
def eY (ds : List OD) (ord : Nat → Nat → Bool) : Nat → List OD → List (E → V → E) → List (Option (Nat × Bool)) → List DT
 | i, d :: l, u :: us, g :: gs => fR ds ord i d u g :: eY ds ord (i + 1) l us gs
 | _, _, _, _ => []
def okE (os : Array Oper) (ds : List OD) : Bool :=
 (List.range ds.length).all fun j => (List.range j).all fun i => !((bz ds j && (bz ds i || cJ ds i)) || (bz ds i && cJ ds j)) || br os i j
/-! ### Regions that draw their order, whose new blocks come beside those that do more: numbers kept from the start -/
inductive RI where
 | p (f : E → Option V)
 | d (lo hi : Nat) (f : E → St → Option V)
 | a (f : E → Nat → Option (V × Ob))
 | e (bef : List Nat) (f : KC → E → St → Option (V × St))
structure oC where
 g : Option (Nat × Bool)
 k : RI
 u : E → V → E
structure PA where
 i : Nat
 id : Nat
 ob : Ob
structure dN where
 v : V
 e : E
 s : St
 ps : List PA
 id : Nat
def rO (bef : List Nat) : List PA → St → St
 | [], s => s
 | a :: l, s => Bool.casesOn (motive := fun _ => St) (jE a.i bef) (rO bef l s) (rO bef l (s.put a.id a.ob))
def kz (bef : List Nat) : List PA → List PA
 | [] => []
 | a :: l => Bool.casesOn (motive := fun _ => List PA) (jE a.i bef) (a :: kz bef l) (kz bef l)
def uy : List PA → St → St
 | [], s => s
 | a :: l, s => uy l (s.put a.id a.ob)
def jX (g : Option (Nat × Bool)) (e : E) : Option Bool := match g with
 | none => some false
 | some (j, want) => match Gt j e with | .bool b => some (b != want) | .bH [] => some true | _ => none
def RI.JI : RI → Bool | .a _ => true | _ => false
def idR (k : RI) (id : Nat) : Nat := Bool.casesOn (motive := fun _ => Nat) k.JI id (Nat.succ id)
def eu (k : KC) (i : Nat) (t : oC) (x : dN) : Option dN := match jX t.g x.e with
 | none => none
 | some true => some ⟨.bH [], t.u x.e (.bH []), x.s, x.ps, idR t.k x.id⟩
 | some false => match t.k with
   | .p f => (match f x.e with | some v => some ⟨v, t.u x.e v, x.s, x.ps, x.id⟩ | none => none)
   | .d _ _ f => (match f x.e x.s with | some v => some ⟨v, t.u x.e v, x.s, x.ps, x.id⟩ | none => none)
   | .a f => (match f x.e x.id with | some (v, ob) => some ⟨v, t.u x.e v, x.s, x.ps ++ [⟨i, x.id, ob⟩], Nat.succ x.id⟩ | none => none)
   | .e bef f => (match f k x.e (rO bef x.ps x.s) with | some (v, s) => some ⟨v, t.u x.e v, s, kz bef x.ps, x.id⟩ | none => none)
def uW (k : KC) : List oC → Nat → dN → Option (List dN)
 | [], _, _ => some []
 | t :: l, i, x => match eu k i t x with
   | none => none
   | some y => match uW k l (Nat.succ i) y with
     | none => none
     | some r => some (y :: r)
def lB (x : dN) : List dN → dN | [] => x | y :: r => lB y r
def RI.kX : RI → Bool | .e _ _ => true | _ => false
def qY (s : St) : List oC → List dN → List St
 | t :: l, y :: r => Bool.casesOn (motive := fun _ => List St) t.k.kX (qY y.s l r) (s :: qY y.s l r)
 | _, _ => [s]
def vj (sn : List St) (t : oC) (e : E) (v : V) : Bool := match t.k with
 | .d lo hi f => ((sn.drop lo).take (hi + 1 - lo)).all fun s => match jX t.g e with | some false => (match f e s with | some v' => dO 100 v' v | none => false) | _ => true
 | _ => true
def fE (sn : List St) : List oC → dN → List dN → Bool
 | t :: l, x, y :: r => Bool.casesOn (motive := fun _ => Bool) (vj sn t x.e y.v) false (fE sn l y r)
 | _, _, _ => true
def fI : Nat → St → St
 | 0, s => s
 | n + 1, s => fI n (s.new .dead)
def zD (x : dN) : aE := .au x.e (uy x.ps x.s)
def jO (n : Nat) (l : List oC) : Den := fun k e s => match uW k l 0 ⟨.undef, e, fI n s, [], s.next⟩ with
 | none => .bad
 | some r => Bool.casesOn (motive := fun _ => aE) (fE (qY (fI n s) l r) l ⟨.undef, e, fI n s, [], s.next⟩ r) .bad (zD (lB ⟨.undef, e, fI n s, [], s.next⟩ r))
def tP (ds : List OD) (ord : Nat → Nat → Bool) (i : Nat) : Bool := (List.range ds.length).all fun j => !bz ds j || ord j i || ord i j
def jG (ds : List OD) (ord : Nat → Nat → Bool) (i : Nat) (d : OD) (u : E → V → E) (g : Option (Nat × Bool)) : oC :=
 ⟨g, (match d with | .p f => .p f | .d f => .d (if tP ds ord i then 1 else aT (fun j => bz ds j && ord j i) ds.length) (if tP ds ord i then 0 else aT (fun j => bz ds j && !ord i j) ds.length) f | .a f => .a f | .e f => .e ((List.range ds.length).filter fun a => cJ ds a && ord a i) f), u⟩
def e_ (ds : List OD) (ord : Nat → Nat → Bool) : Nat → List OD → List (E → V → E) → List (Option (Nat × Bool)) → List oC
 | i, d :: l, u :: us, g :: gs => jG ds ord i d u g :: e_ ds ord (i + 1) l us gs
 | _, _, _, _ => []
def PF (ds : List OD) (ord : Nat → Nat → Bool) : Bool :=
 (List.range ds.length).all fun j => (List.range ds.length).all fun i => !bz ds j || !(Nat.blt i j && bz ds i) || ord i j || ord j i
def jS (os : Array Oper) (sl : List (List Nat)) : Bool :=
 (List.range os.size).all fun j => match os[j]? with
  | none => true
  | some oj =>
    oj.after.all (fun e => !Region.binds .any e || decide (e.on < j)) &&
    (List.range j).all fun i => match os[i]? with
     | none => true
     | some oi => oj.after.any (fun e => Region.binds .any e && e.on == i) ||
       ((match oi.dst with | some d => !((sl[j]?).getD []).contains d && oj.dst != some d | none => true) && (match oj.dst with | some d => !((sl[i]?).getD []).contains d | none => true))
def slG (g : Option (Nat × Bool)) : List Nat := match g with | some (t, _) => [t] | none => []
def ir (os : Array Oper) (o : Oper) : Option (Option (Nat × Bool)) := match o.guard with
 | none => some none
 | some (j, want) => match (os[j]?).bind (·.dst) with | some t => if t < 256 then some (some (t, want)) else none | none => none
def nJ (tt : TT) (gl : List Nat) (fok : T Bool) : List Oper → Option (List OD)
 | [] => some []
 | o :: l => match dy fok (kq tt gl fok o), nJ tt gl fok l with | some d, some r => some (d :: r) | _, _ => none
def rU (nt : Nat) : List Oper → Option (List (E → V → E))
 | [] => some []
 | o :: l => match DL nt o.dst, rU nt l with | some u, some r => some (u :: r) | _, _ => none
def r_ (os : Array Oper) : List Oper → Option (List (Option (Nat × Bool)))
 | [] => some []
 | o :: l => match ir os o, r_ os l with | some g, some r => some (g :: r) | _, _ => none
def seqItems : List OD → List (E → V → E) → List (Option (Nat × Bool)) → List Den
 | d :: ds, u :: us, g :: gs => (match g with | none => d.den u | some (t, want) => oG (Gt t) want (d.den u) u) :: seqItems ds us gs
 | _, _, _ => []
def qE (tt : TT) (gl : List Nat) (fok : T Bool) : List Oper → List (Option (Nat × Bool)) → List (List Nat)
 | o :: l, g :: gs => (slots (kq tt gl fok o) ++ slG g) :: qE tt gl fok l gs
 | _, _ => []
def uf (ds : List OD) (ord : Nat → Nat → Bool) : Bool := (List.range ds.length).all fun i => match ds[i]? with | some (.d _) => m9 ds ord i | _ => true
def iW (tt : TT) (gl : List Nat) (fok : T Bool) : List Oper → List (Option (Nat × Bool)) → List FI
 | o :: l, g :: gs => ⟨kq tt gl fok o, o.dst, g⟩ :: iW tt gl fok l gs
 | _, _ => []
def xm (ord : Nat → Nat → Bool) (eo : Bool) (ds : List OD) (us : List (E → V → E)) (gs : List (Option (Nat × Bool))) (fi : Option Den) : Option Den :=
 if eo then (match fi with | some d => some d | none => some (fK (eY ds ord 0 ds us gs)))
 else if PF ds ord then some (jO (aT (cJ ds) ds.length) (e_ ds ord 0 ds us gs)) else none
def jy (tt : TT) (gl : List Nat) (fok : T Bool) (nt : Nat) (os : Array Oper) (draw : Bool) : Option Den :=
 match nJ tt gl fok os.toList, rU nt os.toList, r_ os os.toList with
 | some ds, some us, some gs => if draw then (if jS os (qE tt gl fok os.toList gs) && (qE tt gl fok os.toList gs).all (·.all (Nat.blt · 256)) then xm (br os) (okE os ds) ds us gs (if uf ds (br os) && (iW tt gl fok os.toList gs).all FI.ok then some (mK fok (iW tt gl fok os.toList gs) []) else none) else none) else (if (iW tt gl fok os.toList gs).all FI.ok then some (mK fok (iW tt gl fok os.toList gs) []) else some (ops (seqItems ds us gs)))
 | _, _, _ => none
def Fy : Den := fun _ _ _ => .bad
def nj (tt : TT) (gl : List Nat) (fok : T Bool) (nt : Nat) : Code → Option Den
 | .skip => some az
 | .region _ os draw => some ((jy tt gl fok nt os draw).getD Fy)
 | .seq a b => match nj tt gl fok nt a, nj tt gl fok nt b with | some a, some b => some (aa a b) | _, _ => none
 | .cond c a b => match eV gl c, nj tt gl fok nt a, nj tt gl fok nt b with | some g, some a, some b => some (av g a b) | _, _, _ => some Fy
 | .block id a => (nj tt gl fok nt a).map (aG id)
 | .loop a => (nj tt gl fok nt a).map bT
 | .scope a => nj tt gl fok nt a
 | .label _ => some az
 | .exit id => some (bB id)
 | .ret => some aS
 | _ => some Fy
def yc (tt : TT) (gl : List Nat) (fok : T Bool) (nt : Nat) (c : Code) : Option Den := nj tt gl fok nt c
def aH (tt : TT) (gl : List Nat) (fok : T Bool) (fn : Func) : Option aX :=
 match fn.body with
 | some c => (match yc tt gl fok fn.ntmps c, qT tt fn.results.toList with
   | some b, some gs => if fn.params.size + fn.nfree ≤ 256 ∧ fn.params.size + fn.nfree ≤ fn.ntmps then some ⟨lP 0 (fn.params.size + fn.nfree), b, aL gs⟩ else none
   | _, _ => none)
 | none => none
end
end Go.Proofs.YtcgdlgbomjnnnaaGreatLab
/- The jL: a region in the text's order, told step by step; what operations hang on. No condition on the program. -/
namespace Go.Proofs.YtcgdlgbomjnnnaaGreatLab
open Go
set_option linter.all false
noncomputable section
def aaO {α : Type} (f : Nat → α) : ax α := ⟨f 0, f 1, f 2, f 3, f 4, f 5, f 6, f 7, f 8, f 9, f 10, f 11, f 12, f 13, f 14, f 15⟩
theorem uz {α : Type} (f : Nat → α) : ∀ i, i < 16 → ax.get i (aaO f) = f i := by
 intro i hi
 match i, hi with
 | 0, _ | 1, _ | 2, _ | 3, _ | 4, _ | 5, _ | 6, _ | 7, _ | 8, _ | 9, _ | 10, _ | 11, _ | 12, _ | 13, _ | 14, _ | 15, _ => rfl
 | _ + 16, h => exact absurd h (by omega)
def mR (γ : Nat → V) : E := aaO fun i => aaO fun j => γ (16 * i + j)
theorem gO (γ : Nat → V) (t : Nat) (h : t < 256) : Gt t (mR γ) = γ t := by
 unfold Gt mR
 rw [uz _ _ (by omega), uz _ _ (by omega)]
 congr 1; omega
theorem OO.same {x : OO} {e e' : E} (h : ∀ t, t ∈ x.sl → Gt t e = Gt t e') : x.den e = x.den e' := by
 cases x with
 | t n => exact h n (by simp [OO.sl])
 | c v => rfl
theorem aaG {l : List OO} {e e' : E} (h : ∀ t, t ∈ zR l → Gt t e = Gt t e') : pV (l.map OO.den) e = pV (l.map OO.den) e' := by
 induction l with
 | nil => rfl
 | cons x l ih =>
   simp only [List.map_cons, pV]
   rw [OO.same (fun t ht => h t (by simp [zR, ht])), ih (fun t ht => h t (by simp only [zR, List.flatMap_cons, List.mem_append]; exact .inr ht))]
theorem Z6 {l : List (Nat × Nat × OO)} {e e' : E} (h : ∀ t, t ∈ Pg l → Gt t e = Gt t e') : qU (l.map eE) e = qU (l.map eE) e' := by
 induction l with
 | nil => rfl
 | cons x l ih =>
   obtain ⟨a, b, x⟩ := x
   simp only [List.map_cons, eE, qU]
   rw [OO.same (fun t ht => h t (by simp [Pg, ht])), ih (fun t ht => h t (by simp only [Pg, List.flatMap_cons, List.mem_append]; exact .inr ht))]
theorem ZT {x : Option OO} {e e' : E} (h : ∀ t, t ∈ Pr x → Gt t e = Gt t e') : mA (x.map OO.den) e = mA (x.map OO.den) e' := by
 cases x with
 | none => rfl
 | some x => simp only [Option.map_some, mA]; rw [OO.same h]
def OD.same (e e' : E) : OD → Prop
 | .p f => f e = f e'
 | .d f => ∀ s, f e s = f e' s
 | .a f => ∀ n, f e n = f e' n
 | .e f => ∀ k s, f k e s = f k e' s
theorem HE {fok : T Bool} {l : LO} {od : OD} (hd : dy fok l = some od) {e e' : E} (h : ∀ t, t ∈ slots l → Gt t e = Gt t e') : od.same e e' := by
 have s1 : ∀ {x : OO} (hx : ∀ t, t ∈ x.sl → t ∈ slots l := by simp +contextual [slots]), x.den e = x.den e' := fun hx => OO.same fun t ht => h t (hx t ht)
 have s2 : ∀ {x : List OO} (hx : ∀ t, t ∈ zR x → t ∈ slots l := by simp +contextual [slots]), pV (x.map OO.den) e = pV (x.map OO.den) e' := fun hx => aaG fun t ht => h t (hx t ht)
 have s3 : ∀ {x : List (Nat × Nat × OO)} (hx : ∀ t, t ∈ Pg x → t ∈ slots l := by simp +contextual [slots]), qU (x.map eE) e = qU (x.map eE) e' := fun hx => Z6 fun t ht => h t (hx t ht)
 have s4 : ∀ {x : Option OO} (hx : ∀ t, t ∈ Pr x → t ∈ slots l := by simp +contextual [slots]), mA (x.map OO.den) e = mA (x.map OO.den) e' := fun hx => ZT fun t ht => h t (hx t ht)
 cases l <;> simp only [dy] at hd
 case move x => cases hd; simp only [OD.same, aC]; rw [s1]
 case pick c a b => cases hd; simp only [OD.same, aO]; rw [s1 (x := c), s1 (x := a), s1 (x := b)]
 case int op k x y => split at hd <;> cases hd; simp only [OD.same, ak]; rw [s1 (x := x), s1 (x := y)]
 case div op k x y => split at hd <;> cases hd; simp only [OD.same, ak]; rw [s1 (x := x), s1 (x := y)]
 case sh op k x y => cases hd; simp only [OD.same, ak]; rw [s1 (x := x), s1 (x := y)]
 case str op x y => split at hd <;> cases hd; simp only [OD.same, ak]; rw [s1 (x := x), s1 (x := y)]
 case beq ng x y => cases hd; simp only [OD.same, ak]; rw [s1 (x := x), s1 (x := y)]
 case nil ng d x y => split at hd <;> cases hd; simp only [OD.same, ak]; rw [s1 (x := x), s1 (x := y)]
 case not x => cases hd; simp only [OD.same, aD]; rw [s1]
 case neg x => cases hd; simp only [OD.same, aD]; rw [s1]
 case cT k x => cases hd; simp only [OD.same, aD]; rw [s1]
 case fn f a b => cases hd; simp only [OD.same, vw]; rw [s2 (x := a), s2 (x := b)]
 case ZG off x => cases hd; simp only [OD.same, aD]; rw [s1]
 case idx es x y => cases hd; simp only [OD.same, ak]; rw [s1 (x := x), s1 (x := y)]
 case byte x y => cases hd; simp only [OD.same, ak]; rw [s1 (x := x), s1 (x := y)]
 case ext i x => cases hd; simp only [OD.same, aD]; rw [s1]
 case zU x => cases hd; simp only [OD.same, aD]; rw [s1]
 case sl es x lo hi mx => cases hd; simp only [OD.same, xg]; rw [s1 (x := x), s4 (x := lo), s4 (x := hi), s4 (x := mx)]
 case OH x lo hi => cases hd; simp only [OD.same, nN]; rw [s1 (x := x), s4 (x := lo), s4 (x := hi)]
 case qL x => cases hd; simp only [OD.same, aD]; rw [s1]
 case wS x => cases hd; simp only [OD.same, aD]; rw [s1]
 case build z ps => cases hd; simp only [OD.same, bM]; rw [s3]
 case ld x => cases hd; intro s; simp only [aQ]; rw [s1]
 case Z0 n x => cases hd; intro s; simp only [dh]; rw [s1]
 case al l => cases hd; intro n; rfl
 case box x => cases hd; intro n; simp only [kH]; rw [s1]
 case ZS len size z ps => cases hd; intro n; simp only [cg]; rw [s3]
 case st m x y => cases hd; intro k s; simp only [dJ]; rw [s1 (x := x), s1 (x := y)]
 case ap lim es x y => cases hd; intro k s; simp only [ZB]; rw [s1 (x := x), s1 (x := y)]
 case call f a => cases hd; intro k s; simp only [aq]; rw [s2]
 case pP x a => cases hd; intro k s; simp only [fP]; rw [s1 (x := x), s2 (x := a)]
 case stuck => cases hd; rfl
 case mkS es bytes z x y => cases hd; intro n; simp only [qV]; rw [s1 (x := x), s1 (x := y)]
 case ZW z x => cases hd; intro k s; simp only [tK]; rw [s1]
 case uZ ng ks x y => cases hd; simp only [OD.same, ak]; rw [s1 (x := x), s1 (x := y)]
def nU (e : E) (r : List (V × E × St)) : Nat → E | 0 => e | i + 1 => match r[i]? with | some (_, e', _) => e' | none => e
def eA (s : St) (r : List (V × E × St)) : Nat → St | 0 => s | i + 1 => match r[i]? with | some (_, _, s') => s' | none => s
theorem o_ {e : E} {p : V × E × St} {r : List (V × E × St)} {i : Nat} (h : i ≤ r.length) : nU e (p :: r) (i + 1) = nU p.2.1 r i := by
 cases i with
 | zero => rfl
 | succ i =>
   simp only [nU, List.getElem?_cons_succ]
   rw [List.getElem?_eq_getElem (by omega)]
theorem mI {s : St} {p : V × E × St} {r : List (V × E × St)} {i : Nat} (h : i ≤ r.length) : eA s (p :: r) (i + 1) = eA p.2.2 r i := by
 cases i with
 | zero => rfl
 | succ i =>
   simp only [eA, List.getElem?_cons_succ]
   rw [List.getElem?_eq_getElem (by omega)]
theorem gi {k : KC} : ∀ {l : List DT} {e : E} {s : St} {r : List (V × E × St)}, cz k l e s = some r → r.length = l.length ∧ ∀ i t, l[i]? = some t → ∃ v s', cB k t (nU e r i) (eA s r i) = some (v, s') ∧ r[i]? = some (v, t.u (nU e r i) v, s')
 | [], e, s, r, h => by cases h; exact ⟨rfl, fun i t hi => by simp at hi⟩
 | t :: l, e, s, r, h => by
   unfold cz at h
   split at h
   · cases h
   · rename_i v s' hst
     split at h
     · cases h
     · rename_i r' hr
       cases h
       obtain ⟨h1, h2⟩ := gi hr
       refine ⟨by simp [h1], fun i t' hi => ?_⟩
       cases i with
       | zero => cases hi; exact ⟨v, s', hst, rfl⟩
       | succ i =>
         have hi : l[i]? = some t' := by simpa using hi
         have hlt := (List.getElem?_eq_some_iff.1 hi).1
         obtain ⟨v', s'', a1, a2⟩ := h2 i t' hi
         rw [o_ (by omega), mI (by omega)]
         exact ⟨v', s'', a1, by simpa using a2⟩
theorem yF {l : List (V × E × St)} : ∀ {e : E} {s : St}, fZ e s l = .au (nU e l l.length) (eA s l l.length) := by
 induction l with
 | nil => intro e s; rfl
 | cons p l ih =>
   intro e s
   obtain ⟨v, e', s'⟩ := p
   show fZ e' s' l = _
   rw [ih, List.length_cons, o_ (Nat.le_refl _), mI (Nat.le_refl _)]
theorem xS {sn : List St} : ∀ {l : List DT} {e : E} {r : List (V × E × St)}, hO sn l e r = true → r.length = l.length → ∀ i t v e' s', l[i]? = some t → r[i]? = some (v, e', s') → rq sn t (nU e r i) v = true
 | [], e, r, h, hl, i, t, v, e', s', hi, _ => by simp at hi
 | t :: l, e, [], h, hl, i, _, _, _, _, _, hr => by simp at hr
 | t :: l, e, (v, e1, s1) :: r, h, hl, i, t', v', e', s', hi, hr => by
   unfold hO at h
   cases hc : rq sn t e v with
   | false => rw [hc] at h; cases h
   | true =>
     rw [hc] at h
     cases i with
     | zero => cases hi; cases hr; exact hc
     | succ i =>
       have hlt : i < r.length := (List.getElem?_eq_some_iff.1 (by simpa using hr)).1
       rw [o_ (by omega)]
       exact xS h (by simpa using hl) i t' v' e' s' (by simpa using hi) (by simpa using hr)
def cE (l : List DT) (i : Nat) : Nat := aT (fun j => match l[j]? with | some t => t.k.kX | none => false) i
theorem uF (p : Nat → Bool) (n : Nat) : aT p (n + 1) = (if p 0 then 1 else 0) + aT (fun j => p (j + 1)) n := by
 induction n with
 | zero => simp [aT]
 | succ n ih => rw [aT, ih, aT]; omega
theorem PW (t : DT) (l : List DT) (p : Nat) : cE (t :: l) (p + 1) = (if t.k.kX then 1 else 0) + cE l p := by
 unfold cE; rw [uF]; simp
theorem lI : ∀ {l : List DT} {s : St} {r : List (V × E × St)}, (snaps s l r)[0]? = some s
 | [], s, r => by cases r <;> rfl
 | t :: l, s, [] => rfl
 | t :: l, s, (v, e, s') :: r => by
   unfold snaps
   split
   · rfl
   · exact lI
theorem nF : ∀ {l : List DT} {sn s : St} {r : List (V × E × St)}, r.length = l.length → ∀ p, p ≤ l.length →
 (cE l p = 0 ∧ ∀ j t, j < p → l[j]? = some t → t.k.kX = false) ∨ ∃ m, 0 < m ∧ m ≤ p ∧ (snaps sn l r)[cE l p]? = some (eA s r m) ∧ (∀ j t, m ≤ j → j < p → l[j]? = some t → t.k.kX = false) ∧ ∃ t, l[m - 1]? = some t ∧ t.k.kX = true
 | l, sn, s, r, hl, 0, _ => .inl ⟨rfl, fun j t hj => by omega⟩
 | [], sn, s, r, hl, p + 1, hp => by simp at hp
 | t :: l, sn, s, [], hl, p + 1, hp => by simp at hl
 | t :: l, sn, s, (v, e, s') :: r, hl, p + 1, hp => by
   rw [PW]
   have hl' : r.length = l.length := by simpa using hl
   have hp' : p ≤ l.length := by simpa using hp
   cases ht : t.k.kX with
   | true =>
     right
     simp only [if_true]
     have hsn : snaps sn (t :: l) ((v, e, s') :: r) = sn :: snaps s' l r := by simp [snaps, ht]
     rw [hsn, Nat.add_comm 1, List.getElem?_cons_succ]
     rcases nF (sn := s') (s := s') hl' p hp' with ⟨h1, h2⟩ | ⟨m, h0, h1, h2, h3, h4⟩
     · refine ⟨1, by omega, by omega, ?_, fun j t' hj hj2 hjt => ?_, t, by simp, ht⟩
       · rw [h1, lI]; rfl
       · cases j with
         | zero => omega
         | succ j => exact h2 j t' (by omega) (by simpa using hjt)
     · refine ⟨m + 1, by omega, by omega, ?_, fun j t' hj hj2 hjt => ?_, ?_⟩
       · rw [h2, mI (by omega)]
       · cases j with
         | zero => omega
         | succ j => exact h3 j t' (by omega) (by omega) (by simpa using hjt)
       · obtain ⟨t', a1, a2⟩ := h4
         exact ⟨t', by rw [show m + 1 - 1 = (m - 1) + 1 by omega]; simpa using a1, a2⟩
   | false =>
     have hsn : snaps sn (t :: l) ((v, e, s') :: r) = snaps sn l r := by simp [snaps, ht]
     rw [hsn]
     simp only [Bool.false_eq_true, if_false, Nat.zero_add]
     rcases nF (sn := sn) (s := s') hl' p hp' with ⟨h1, h2⟩ | ⟨m, h0, h1, h2, h3, h4⟩
     · refine .inl ⟨h1, fun j t' hj hjt => ?_⟩
       cases j with
       | zero => cases hjt; exact ht
       | succ j => exact h2 j t' (by omega) (by simpa using hjt)
     · refine .inr ⟨m + 1, by omega, by omega, ?_, fun j t' hj hj2 hjt => ?_, ?_⟩
       · rw [h2, mI (by omega)]
       · cases j with
         | zero => omega
         | succ j => exact h3 j t' (by omega) (by omega) (by simpa using hjt)
       · obtain ⟨t', a1, a2⟩ := h4
         exact ⟨t', by rw [show m + 1 - 1 = (m - 1) + 1 by omega]; simpa using a1, a2⟩
theorem GB {l : List DT} {s : St} {r : List (V × E × St)} (hl : r.length = l.length) (p : Nat) (hp : p ≤ l.length) : ∃ m, m ≤ p ∧ (snaps s l r)[cE l p]? = some (eA s r m) ∧ (∀ j t, m ≤ j → j < p → l[j]? = some t → t.k.kX = false) ∧ (m = 0 ∨ ∃ t, l[m - 1]? = some t ∧ t.k.kX = true) := by
 rcases nF (sn := s) (s := s) hl p hp with ⟨h1, h2⟩ | ⟨m, h0, h1, h2, h3, h4⟩
 · exact ⟨0, by omega, by rw [h1, lI]; rfl, fun j t _ hj hjt => h2 j t hj hjt, .inl rfl⟩
 · exact ⟨m, h1, h2, h3, .inr h4⟩
def ox (acc : Array Nat) (o : Oper) : Nat := o.after.foldl (fun s e => if Region.binds .any e then s ||| 2 ^ e.on ||| acc.getD e.on 0 else s) 0
def dw (acc : Array Nat) (o : Oper) : Array Nat := acc.push (ox acc o)
theorem nB (os : Array Oper) : Region.before os = os.toList.foldl dw #[] := by
 unfold Region.before
 rw [← Array.foldl_toList]; rfl
theorem uP {acc : Array Nat} {o : Oper} {j : Nat} (h : (ox acc o).testBit j = true) : ∃ e, e ∈ o.after ∧ Region.binds .any e = true ∧ (e.on = j ∨ (acc.getD e.on 0).testBit j = true) := by
 unfold ox at h
 rw [← Array.foldl_toList] at h
 have key : ∀ (l : List Edge) (s : Nat), (l.foldl (fun s e => if Region.binds .any e then s ||| 2 ^ e.on ||| acc.getD e.on 0 else s) s).testBit j = true → s.testBit j = true ∨ ∃ e, e ∈ l ∧ Region.binds .any e = true ∧ (e.on = j ∨ (acc.getD e.on 0).testBit j = true) := by
  intro l
  induction l with
  | nil => intro s h; exact .inl h
  | cons e l ih =>
    intro s h
    rcases ih _ h with h | ⟨e', h1, h2, h3⟩
    · simp only at h
      by_cases hb : Region.binds .any e = true
      · rw [if_pos hb, Nat.testBit_or, Nat.testBit_or, Nat.testBit_two_pow] at h
        simp only [Bool.or_eq_true, decide_eq_true_eq] at h
        rcases h with (h | h) | h
        · exact .inl h
        · exact .inr ⟨e, by simp, hb, .inl h⟩
        · exact .inr ⟨e, by simp, hb, .inr h⟩
      · rw [if_neg hb] at h; exact .inl h
    · exact .inr ⟨e', by simp [h1], h2, h3⟩
 rcases key _ _ h with h | ⟨e, h1, h2, h3⟩
 · simp at h
 · exact ⟨e, by simpa using h1, h2, h3⟩
theorem sJ : ∀ (l : List Oper) (acc : Array Nat), (l.foldl dw acc).size = acc.size + l.length ∧ ∀ i, i < acc.size → (l.foldl dw acc).getD i 0 = acc.getD i 0
 | [], acc => ⟨by simp, fun i _ => rfl⟩
 | o :: l, acc => by
   obtain ⟨h1, h2⟩ := sJ l (dw acc o)
   have hs : (dw acc o).size = acc.size + 1 := by simp [dw]
   refine ⟨by rw [List.foldl_cons, h1, hs, List.length_cons]; omega, fun i hi => ?_⟩
   rw [List.foldl_cons, h2 i (by simp [dw]; omega)]
   simp [dw, Array.getD_eq_getD_getElem?, Array.getElem?_push, Nat.ne_of_lt hi]
theorem Kv : ∀ (l : List Oper) (acc : Array Nat) (k : Nat) (o : Oper), l[k]? = some o → ∃ acc', (l.foldl dw acc).getD (acc.size + k) 0 = ox acc' o ∧ acc'.size = acc.size + k ∧ ∀ i, i < acc.size + k → acc'.getD i 0 = (l.foldl dw acc).getD i 0
 | [], acc, k, o, h => by simp at h
 | x :: l, acc, 0, o, h => by
   have hx : x = o := by simpa using h
   subst hx
   have := (sJ l (dw acc x))
   refine ⟨acc, ?_, rfl, fun i hi => ?_⟩
   · rw [List.foldl_cons, Nat.add_zero, this.2 _ (by simp [dw])]
     simp [dw, Array.getD_eq_getD_getElem?]
   · have hi' : i < acc.size := hi
     rw [List.foldl_cons, this.2 _ (by simp [dw]; omega)]
     simp [dw, Array.getD_eq_getD_getElem?, Array.getElem?_push, Nat.ne_of_lt hi']
 | x :: l, acc, k + 1, o, h => by
   obtain ⟨acc', h1, h2, h3⟩ := Kv l (dw acc x) k o (by simpa using h)
   have hs : (dw acc x).size = acc.size + 1 := by simp [dw]
   rw [hs] at h1 h2 h3
   exact ⟨acc', by rw [List.foldl_cons, show acc.size + (k + 1) = acc.size + 1 + k by omega]; exact h1, by omega, fun i hi => by rw [List.foldl_cons]; exact h3 i (by omega)⟩
theorem uM {os : Array Oper} {i j : Nat} (h : br os j i = true) : ∃ o, os[i]? = some o ∧ ∃ e, e ∈ o.after ∧ Region.binds .any e = true ∧ (e.on = j ∨ (br os j e.on = true ∧ e.on < i)) := by
 unfold br at h
 have hsz : (Region.before os).size = os.size := by rw [nB, (sJ _ _).1]; simp
 cases ho : os[i]? with
 | none =>
   have : os.size ≤ i := by simpa using ho
   rw [Array.getD_eq_getD_getElem?, Array.getElem?_eq_none (by omega)] at h
   simp at h
 | some o =>
   refine ⟨o, rfl, ?_⟩
   obtain ⟨acc', h1, h2, h3⟩ := Kv os.toList #[] i o (by simpa using ho)
   simp only [Array.size_empty, Nat.zero_add] at h1 h2 h3
   rw [nB, h1] at h
   obtain ⟨e, a1, a2, a3⟩ := uP h
   refine ⟨e, a1, a2, ?_⟩
   rcases a3 with a3 | a3
   · exact .inl a3
   · right
     by_cases hlt : e.on < i
     · exact ⟨by unfold br; rw [nB, ← h3 _ hlt]; exact a3, hlt⟩
     · rw [Array.getD_eq_getD_getElem?, Array.getElem?_eq_none (by omega)] at a3
       simp at a3
def cW (os : Array Oper) (L : Nat → Bool) : Prop := ∀ j oj, os[j]? = some oj → L j = true → ∀ e ∈ oj.after, Region.binds .any e = true → L e.on = true
theorem d_ {os : Array Oper} {L : Nat → Bool} (hc : cW os L) : ∀ (i j : Nat), br os j i = true → (∀ o, os[i]? = some o → ∀ e ∈ o.after, Region.binds .any e = true → L e.on = true) → L j = true := by
 intro i
 induction i using Nat.strongRecOn with
 | _ i ih =>
   intro j h hd
   obtain ⟨o, ho, e, a1, a2, a3⟩ := uM h
   rcases a3 with rfl | ⟨a3, a4⟩
   · exact hd o ho e a1 a2
   · exact ih e.on a4 j a3 (fun o' ho' e' h1 h2 => hc e.on o' ho' (hd o ho e a1 a2) e' h1 h2)
theorem lE {os : Array Oper} {L : Nat → Bool} (hc : cW os L) {i j : Nat} (h : br os j i = true) (hi : L i = true) : L j = true :=
 d_ hc i j h (fun o ho e h1 h2 => hc i o ho hi e h1 h2)
end
end Go.Proofs.YtcgdlgbomjnnnaaGreatLab
/- The jL: a region that draws its order comes to what ours comes to in the text's order. On the program: that it follows mixed orders. -/
namespace Go.Proofs.YtcgdlgbomjnnnaaGreatLab
open Go
set_option linter.all false
noncomputable section
theorem rN {nt : Nat} {gl : List Nat} {G : Pl} {os : Array Oper} {o : Oper} {t : DT} {e : E} {a : Act} (hg : ir os o = some t.g) (he : cU nt gl G e a) {b : Bool} (h : iZ t e = some b) : Region.wanted o (yielded os a.tmps) = !b := by
 unfold ir at hg
 split at hg
 · rename_i hgd
   cases hg' : t.g with
   | none =>
     unfold iZ at h; rw [hg'] at h; cases h
     simp [Region.wanted, hgd]
   | some p => rw [hg'] at hg; cases hg
 · rename_i j want hgd
   split at hg
   · rename_i tm htm
     split at hg
     · rename_i hlt
       have hg' : t.g = some (tm, want) := (Option.some.inj hg).symm
       unfold iZ at h; rw [hg'] at h
       simp only at h
       have hx := he.tm tm hlt
       have hy : ∀ b, a.tmps.getD tm undef = .bool b → yielded os a.tmps j = some b := by
        intro b hb
        unfold yielded
        rw [htm]
        simp only [Option.bind_some]
        rw [Array.getD_eq_getD_getElem?] at hb
        cases hq : a.tmps[tm]? with
        | none => rw [hq] at hb; cases hb
        | some q => rw [hq] at hb; simp only [Option.getD_some] at hb; rw [hb]
       have hy2 : a.tmps.getD tm undef = .tuple #[] → yielded os a.tmps j = none := by
        intro hb
        unfold yielded
        rw [htm]
        simp only [Option.bind_some]
        rw [Array.getD_eq_getD_getElem?] at hb
        cases hq : a.tmps[tm]? with
        | none => rfl
        | some q => rw [hq] at hb; simp only [Option.getD_some] at hb; rw [hb]
       split at h
       · rename_i b' hb
         rw [hb] at hx
         cases h
         simp only [Region.wanted, hgd, hy b' hx.j_]
         cases b' <;> cases want <;> rfl
       · rename_i hb
         rw [hb] at hx
         cases h
         obtain ⟨l', hl, hvs⟩ := hx.tB
         cases hvs
         simp [Region.wanted, hgd, hy2 hl]
       · cases h
     · cases hg
   · cases hg
structure k_ (P : Program) (nt : Nat) (gl : List Nat) (os : Array Oper) (ds : List OD) (us : List (E → V → E)) (gs : List (Option (Nat × Bool))) (sl : List (List Nat)) : Prop where
 all : ∀ (i : Nat) (o : Oper), os[i]? = some o → ∃ d u g s, ds[i]? = some d ∧ us[i]? = some u ∧ gs[i]? = some g ∧ sl[i]? = some s ∧ ot P nt gl o d ∧ iP nt o.dst u ∧ ir os o = some g ∧
  (∀ e e', (∀ t, t ∈ s → Gt t e = Gt t e') → d.same e e') ∧ (∀ t, t ∈ slG g → t ∈ s) ∧ ∀ t, t ∈ s → t < 256
 len : ds.length = os.size ∧ us.length = os.size ∧ gs.length = os.size
theorem jc {ds0 : List OD} {ord : Nat → Nat → Bool} : ∀ {ds : List OD} {us : List (E → V → E)} {gs : List (Option (Nat × Bool))} {k i : Nat} {d : OD} {u : E → V → E} {g : Option (Nat × Bool)}, ds[i]? = some d → us[i]? = some u → gs[i]? = some g → (eY ds0 ord k ds us gs)[i]? = some (fR ds0 ord (k + i) d u g)
 | [], us, gs, k, i, d, u, g, h, _, _ => by simp at h
 | _ :: _, [], gs, k, i, d, u, g, _, h, _ => by simp at h
 | _ :: _, _ :: _, [], k, i, d, u, g, _, _, h => by simp at h
 | d0 :: ds, u0 :: us, g0 :: gs, k, 0, d, u, g, h1, h2, h3 => by cases h1; cases h2; cases h3; rfl
 | d0 :: ds, u0 :: us, g0 :: gs, k, i + 1, d, u, g, h1, h2, h3 => by
   have := jc (ds0 := ds0) (ord := ord) (ds := ds) (us := us) (gs := gs) (k := k + 1) (i := i) (by simpa using h1) (by simpa using h2) (by simpa using h3)
   rw [show k + (i + 1) = k + 1 + i by omega]
   simpa [eY] using this
theorem sq {ds0 : List OD} {ord : Nat → Nat → Bool} : ∀ {ds : List OD} {us : List (E → V → E)} {gs : List (Option (Nat × Bool))} {k : Nat}, us.length = ds.length → gs.length = ds.length → (eY ds0 ord k ds us gs).length = ds.length
 | [], us, gs, k, _, _ => by unfold eY; rfl
 | d :: ds, [], gs, k, h, _ => by simp at h
 | d :: ds, _ :: _, [], k, _, h => by simp at h
 | d :: ds, u :: us, g :: gs, k, h1, h2 => by
   simp only [eY, List.length_cons]; rw [sq (by simpa using h1) (by simpa using h2)]
def gj (os : Array Oper) (vals : Nat → V) (L : Nat → Bool) (e : E) : Nat → Nat → V
 | 0, t => Gt t e
 | n + 1, t => if L n = true ∧ (os[n]?).bind (·.dst) = some t then vals n else gj os vals L e n t
section
variable {os : Array Oper} {sl : List (List Nat)} (hst : jS os sl = true)
include hst
theorem pZ {j : Nat} {oj : Oper} (hj : os[j]? = some oj) {e : Edge} (he : e ∈ oj.after) (hb : Region.binds .any e = true) : e.on < j := by
 have h1 := List.all_eq_true.1 hst j (List.mem_range.2 (Array.getElem?_eq_some_iff.1 hj).1)
 rw [hj] at h1
 have h2 := Array.all_eq_true_iff_forall_mem.1 (Bool.and_eq_true_iff.1 h1).1 e he
 rw [hb] at h2
 simpa using h2
theorem pE {i j : Nat} {oi oj : Oper} {si sj : List Nat} (hi : os[i]? = some oi) (hj : os[j]? = some oj) (hsi : sl[i]? = some si) (hsj : sl[j]? = some sj) (hij : i < j) :
 (∃ e ∈ oj.after, Region.binds .any e = true ∧ e.on = i) ∨ ((∀ d, oi.dst = some d → d ∉ sj ∧ oj.dst ≠ some d) ∧ ∀ d, oj.dst = some d → d ∉ si) := by
 have h1 := List.all_eq_true.1 hst j (List.mem_range.2 (Array.getElem?_eq_some_iff.1 hj).1)
 rw [hj] at h1
 have h2 := List.all_eq_true.1 (Bool.and_eq_true_iff.1 h1).2 i (List.mem_range.2 hij)
 rw [hi] at h2
 simp only at h2
 rcases Bool.or_eq_true_iff.1 h2 with h3 | h3
 · obtain ⟨e, he, hb⟩ := Array.any_eq_true'.1 h3
   exact .inl ⟨e, he, (Bool.and_eq_true_iff.1 hb).1, by simpa using (Bool.and_eq_true_iff.1 hb).2⟩
 · right
   rw [Bool.and_eq_true] at h3
   obtain ⟨h3, h4⟩ := h3
   rw [hsj] at h3; rw [hsi] at h4
   refine ⟨fun d hd => ?_, fun d hd => ?_⟩
   · rw [hd] at h3; simpa using h3
   · rw [hd] at h4; simpa using h4
theorem qo {vals : Nat → V} {L : Nat → Bool} {e : E} (hall : ∀ (i : Nat) (o : Oper), os[i]? = some o → ∃ s, sl[i]? = some s) (hc : cW os L) {i : Nat} {oi : Oper} {si : List Nat} (hi : os[i]? = some oi) (hsi : sl[i]? = some si) (hiL : L i = false)
 (hw : ∀ e ∈ oi.after, Region.binds .any e = true → L e.on = true) {t : Nat} (ht : t ∈ si) : ∀ n, gj os vals L e n t = gj os vals (fun _ => true) e (min n i) t
 | 0 => by simp [gj]
 | n + 1 => by
   have ih := qo hall hc hi hsi hiL hw (vals := vals) (e := e) ht n
   rcases Nat.lt_trichotomy n i with hn | hn | hn
   · rw [Nat.min_eq_left (by omega)] at ih
     rw [Nat.min_eq_left (show n + 1 ≤ i by omega)]
     simp only [gj, true_and]
     by_cases hL : L n = true
     · simp only [hL, true_and, ih]
     · rw [if_neg (fun h => hL h.1), ih, if_neg]
       intro hd
       cases ho : os[n]? with
       | none => rw [ho] at hd; cases hd
       | some on_ =>
         rw [ho] at hd
         obtain ⟨sn, hsn⟩ := hall n on_ ho
         rcases pE hst ho hi hsn hsi hn with ⟨e', h1, h2, h3⟩ | ⟨h1, _⟩
         · exact hL (h3 ▸ hw e' h1 h2)
         · exact (h1 t (by simpa using hd)).1 ht
   · subst hn
     simp only [gj, hiL, Bool.false_eq_true, false_and, if_false]
     rw [ih, Nat.min_self, Nat.min_eq_right (by omega)]
   · rw [Nat.min_eq_right (by omega)] at ih
     rw [Nat.min_eq_right (show i ≤ n + 1 by omega)]
     simp only [gj]
     rw [if_neg, ih]
     rintro ⟨hL, hd⟩
     cases ho : os[n]? with
     | none => rw [ho] at hd; cases hd
     | some on_ =>
       rw [ho] at hd
       obtain ⟨sn, hsn⟩ := hall n on_ ho
       rcases pE hst hi ho hsi hsn hn with ⟨e', h1, h2, h3⟩ | ⟨_, h1⟩
       · have := hc n on_ ho hL e' h1 h2
         rw [h3, hiL] at this; cases this
       · exact h1 t (by simpa using hd) ht
theorem tu {vals : Nat → V} {L : Nat → Bool} {e : E} (hall : ∀ (i : Nat) (o : Oper), os[i]? = some o → ∃ s, sl[i]? = some s) (hc : cW os L) {i : Nat} {oi : Oper} {si : List Nat} (hi : os[i]? = some oi) (hsi : sl[i]? = some si) (hiL : L i = false) {t : Nat} : ∀ n, i < n →
 gj os vals (fun j => L j || j == i) e n t = if oi.dst = some t then vals i else gj os vals L e n t
 | 0, h => by omega
 | n + 1, h => by
   have below : ∀ m, m ≤ i → gj os vals (fun j => L j || j == i) e m t = gj os vals L e m t := by
    intro m
    induction m with
    | zero => intro _; rfl
    | succ m ihm =>
      intro hm
      have : (m == i) = false := beq_eq_false_iff_ne.2 (by omega)
      simp only [gj, this, Bool.or_false, ihm (by omega)]
   by_cases hn : n = i
   · subst hn
     simp only [gj, hiL, BEq.rfl, Bool.or_true, Bool.false_eq_true, false_and, if_false, below n (Nat.le_refl _), hi, Option.bind_some, true_and]
   · have ih := tu hall hc hi hsi hiL (vals := vals) (e := e) (t := t) n (by omega)
     have hne : (n == i) = false := beq_eq_false_iff_ne.2 hn
     simp only [gj, hne, Bool.or_false]
     by_cases hL : L n = true ∧ (os[n]?).bind (·.dst) = some t
     · rw [if_pos hL, if_pos hL, if_neg]
       intro hd
       cases ho : os[n]? with
       | none => rw [ho] at hL; cases hL.2
       | some on_ =>
         rw [ho] at hL
         obtain ⟨sn, hsn⟩ := hall n on_ ho
         rcases pE hst hi ho hsi hsn (by omega) with ⟨e', h1, h2, h3⟩ | ⟨h1, _⟩
         · have := hc n on_ ho hL.1 e' h1 h2
           rw [h3, hiL] at this; cases this
         · exact (h1 t hd).2 (by simpa using hL.2)
     · rw [if_neg hL, if_neg hL, ih]
end
theorem jo {p q : Nat → Bool} : ∀ {n : Nat}, (∀ i, i < n → p i = true → q i = true) → aT p n ≤ aT q n
 | 0, _ => Nat.le_refl _
 | n + 1, h => by
   have ih := jo (n := n) (fun i hi => h i (by omega))
   simp only [aT]
   by_cases hp : p n = true
   · rw [if_pos hp, if_pos (h n (by omega) hp)]; omega
   · rw [if_neg hp]; omega
theorem lZ {p : Nat → Bool} {m : Nat} : ∀ {n : Nat}, m ≤ n → aT p m = aT (fun i => p i && decide (i < m)) n
 | 0, h => by have : m = 0 := by omega
              subst this; rfl
 | n + 1, h => by
   by_cases hm : m = n + 1
   · subst hm
     have : ∀ k, k ≤ n + 1 → aT p k = aT (fun i => p i && decide (i < n + 1)) k := by
      intro k
      induction k with
      | zero => intro _; rfl
      | succ k ih =>
        intro hk
        have hd : decide (k < n + 1) = true := decide_eq_true (by omega)
        simp only [aT, ih (by omega), hd, Bool.and_true]
     exact this _ (Nat.le_refl _)
   · have hd : decide (n < m) = false := decide_eq_false (by omega)
     rw [aT, ← lZ (n := n) (by omega), hd]; simp
section
variable {P : Program} {nt : Nat} {gl : List Nat} {os : Array Oper} {ds : List OD} {us : List (E → V → E)} {gs : List (Option (Nat × Bool))} {sl : List (List Nat)}
structure Run (k : KC) (l : List DT) (e0 : E) (s0 : St) (r : List (V × E × St)) : Prop where
 run : cz k l e0 s0 = some r
 zU : hO (snaps s0 l r) l e0 r = true
def xK (ds : List OD) (l : List DT) (e0 : E) (r : List (V × E × St)) (i : Nat) : Prop := cJ ds i = true ∧ ∃ t, l[i]? = some t ∧ iZ t (nU e0 r i) = some false
def hid (ds : List OD) (l : List DT) (e0 : E) (s0 : St) (r : List (V × E × St)) (L : Nat → Bool) (p b : Nat) : Prop := ∃ i, i < p ∧ xK ds l e0 r i ∧ L i = false ∧ (eA s0 r i).next = b
open Classical in
noncomputable def view (ds : List OD) (l : List DT) (e0 : E) (s0 : St) (r : List (V × E × St)) (L : Nat → Bool) (p b : Nat) : Option Ob := if hid ds l e0 s0 r L p b then none else (eA s0 r p).heap.get b
variable {k : KC} {e0 : E} {s0 : St} {r : List (V × E × St)}
abbrev dx (ds : List OD) (os : Array Oper) (us : List (E → V → E)) (gs : List (Option (Nat × Bool))) : List DT := eY ds (br os) 0 ds us gs
theorem Qu (hreg : k_ P nt gl os ds us gs sl) (hrun : cz k (dx ds os us gs) e0 s0 = some r) {i : Nat} (hi : i < os.size) (hE : bz ds i = false) :
 (eA s0 r (i + 1) = eA s0 r i ∧ ¬ xK ds (dx ds os us gs) e0 r i) ∨ (xK ds (dx ds os us gs) e0 r i ∧ ∃ f v o, ds[i]? = some (.a f) ∧ f (nU e0 r i) (eA s0 r i).next = some (v, o) ∧ (∃ e' s', r[i]? = some (v, e', s')) ∧ eA s0 r (i + 1) = (eA s0 r i).new o) := by
 obtain ⟨d, u, g, s, h1, h2, h3, _⟩ := hreg.all i os[i] (by simp [hi])
 have ht := jc (ds0 := ds) (ord := br os) (k := 0) h1 h2 h3
 rw [Nat.zero_add] at ht
 obtain ⟨v, s', hst, hr⟩ := (gi hrun).2 i _ ht
 have hs1 : eA s0 r (i + 1) = s' := by simp only [eA, hr]
 have hE' : d.kX = false := by unfold bz at hE; rw [h1] at hE; exact hE
 unfold cB at hst
 cases ho : iZ (fR ds (br os) i d u g) (nU e0 r i) with
 | none => rw [ho] at hst; cases hst
 | some b =>
   rw [ho] at hst
   cases b with
   | true =>
     cases hst
     refine .inl ⟨hs1, fun ⟨_, t, a1, a2⟩ => ?_⟩
     rw [ht] at a1; cases a1; rw [ho] at a2; cases a2
   | false =>
     have hA : ∀ {f}, d = .a f → xK ds (dx ds os us gs) e0 r i := fun hd => ⟨by unfold cJ; rw [h1, hd]; rfl, _, ht, ho⟩
     have hnA : (∀ f, d ≠ .a f) → ¬ xK ds (dx ds os us gs) e0 r i := by
      rintro hd ⟨a1, _⟩
      unfold cJ at a1; rw [h1] at a1
      cases d <;> first | exact hd _ rfl | cases a1
     cases d with
     | p f =>
       simp only [fR] at hst
       split at hst <;> cases hst
       exact .inl ⟨hs1, hnA (by simp)⟩
     | d f =>
       simp only [fR] at hst
       split at hst <;> cases hst
       exact .inl ⟨hs1, hnA (by simp)⟩
     | a f =>
       simp only [fR] at hst
       split at hst
       · rename_i v' o' hf
         cases hst
         exact .inr ⟨hA rfl, f, v, o', h1, hf, ⟨_, _, hr⟩, hs1⟩
       · cases hst
     | e f => cases hE'
theorem chain (hreg : k_ P nt gl os ds us gs sl) (hrun : cz k (dx ds os us gs) e0 s0 = some r) {q : Nat} : ∀ {p : Nat}, q ≤ p → p ≤ os.size → (∀ j, q ≤ j → j < p → bz ds j = false) → (∀ b, (eA s0 r q).next ≤ b → (eA s0 r q).heap.get b = none) →
 (eA s0 r q).next ≤ (eA s0 r p).next ∧ (∀ b, (eA s0 r p).next ≤ b → (eA s0 r p).heap.get b = none) ∧ (∀ b o, (eA s0 r q).heap.get b = some o → (eA s0 r p).heap.get b = some o) ∧
 (∀ b o, (eA s0 r p).heap.get b = some o → (eA s0 r q).heap.get b = some o ∨ ∃ i, q ≤ i ∧ i < p ∧ xK ds (dx ds os us gs) e0 r i ∧ (eA s0 r i).next = b ∧ ∃ f v, ds[i]? = some (.a f) ∧ f (nU e0 r i) b = some (v, o)) ∧
 (∀ i, q ≤ i → i < p → xK ds (dx ds os us gs) e0 r i → (eA s0 r q).next ≤ (eA s0 r i).next ∧ (eA s0 r i).next < (eA s0 r p).next) ∧
 (∀ i j, q ≤ i → i < j → j < p → xK ds (dx ds os us gs) e0 r i → xK ds (dx ds os us gs) e0 r j → (eA s0 r i).next < (eA s0 r j).next)
 | 0, hq, _, _, hf => by
   have : q = 0 := by omega
   subst this
   exact ⟨Nat.le_refl _, hf, fun _ _ h => h, fun _ _ h => .inl h, fun i _ h => by omega, fun i j _ _ h => by omega⟩
 | p + 1, hq, hp, hE, hf => by
   by_cases hqp : q = p + 1
   · subst hqp
     exact ⟨Nat.le_refl _, hf, fun _ _ h => h, fun _ _ h => .inl h, fun i _ h => by omega, fun i j _ _ h => by omega⟩
   · obtain ⟨c1, c2, c3, c4, c5, c6⟩ := chain hreg hrun (p := p) (by omega) (by omega) (fun j h1 h2 => hE j h1 (by omega)) hf
     rcases Qu hreg hrun (i := p) (by omega) (hE p (by omega) (by omega)) with ⟨h1, h2⟩ | ⟨h1, f, v, o, h3, h4, _, h5⟩
     · rw [h1]
       refine ⟨c1, c2, c3, fun b o hb => ?_, fun i hi hi2 ha => ?_, fun i j hi hij hj ha hb => ?_⟩
       · rcases c4 b o hb with h | ⟨i, a1, a2, a3⟩
         · exact .inl h
         · exact .inr ⟨i, a1, by omega, a3⟩
       · by_cases hip : i = p
         · subst hip; exact absurd ha h2
         · exact c5 i hi (by omega) ha
       · by_cases hjp : j = p
         · subst hjp; exact absurd hb h2
         · exact c6 i j hi hij (by omega) ha hb
     · rw [h5]
       have hnx : ((eA s0 r p).new o).next = (eA s0 r p).next + 1 := rfl
       refine ⟨by rw [hnx]; omega, fun b hb => ?_, fun b o' hb => ?_, fun b o' hb => ?_, fun i hi hi2 ha => ?_, fun i j hi hij hj ha hb => ?_⟩
       · rw [hnx] at hb
         cases hq' : ((eA s0 r p).new o).heap.get b with
         | none => rfl
         | some y =>
           rcases T.jJ hq' with ⟨e, _⟩ | ⟨_, e⟩
           · omega
           · rw [c2 b (by omega)] at e; cases e
       · have hb' := c3 b o' hb
         refine T.i_ hb' (fun e => ?_)
         rw [← e] at hb'
         rw [c2 _ (Nat.le_refl _)] at hb'; cases hb'
       · rcases T.jJ hb with ⟨e, e2⟩ | ⟨_, e⟩
         · right
           exact ⟨p, by omega, by omega, h1, e, f, v, h3, by rw [← e, e2]; exact h4⟩
         · rcases c4 b o' e with h | ⟨i, a1, a2, a3⟩
           · exact .inl h
           · exact .inr ⟨i, a1, by omega, a3⟩
       · rw [hnx]
         by_cases hip : i = p
         · subst hip; exact ⟨c1, by omega⟩
         · have := c5 i hi (by omega) ha; omega
       · by_cases hjp : j = p
         · subst hjp; exact (c5 i hi hij ha).2
         · exact c6 i j hi hij (by omega) ha hb
theorem acz (ds : List OD) (n : Nat) : ∀ q, q ≤ n → ∃ p, q ≤ p ∧ p ≤ n ∧ (∀ j, q ≤ j → j < p → bz ds j = false) ∧ (p < n → bz ds p = true) := by
 intro q hq
 generalize hd : n - q = d
 induction d generalizing q with
 | zero => exact ⟨q, Nat.le_refl _, hq, fun j h1 h2 => by omega, fun h => by omega⟩
 | succ d ih =>
   cases he : bz ds q with
   | true => exact ⟨q, Nat.le_refl _, hq, fun j h1 h2 => by omega, fun _ => he⟩
   | false =>
     obtain ⟨p, h1, h2, h3, h4⟩ := ih (q + 1) (by omega) (by omega)
     refine ⟨p, by omega, h2, fun j hj1 hj2 => ?_, h4⟩
     by_cases hjq : j = q
     · subst hjq; exact he
     · exact h3 j (by omega) hj2
end
end
end Go.Proofs.YtcgdlgbomjnnnaaGreatLab
