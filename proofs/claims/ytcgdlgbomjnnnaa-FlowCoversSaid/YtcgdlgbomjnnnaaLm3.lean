/- The lab, part 3 of 5. No condition on the program. Pruned. -/
import Derived.Test.YtcgdlgbomjnnnaaLm2
import Derived.Laws.StructEq
/- The jI: structs of aF fields held against one another; maps that have such keys; slices of an array's address. No condition on the program. -/
namespace Go.Proofs.YtcgdlgbomjnnnaaLab
open Go
set_option linter.all false
noncomputable section
inductive CK where
 | i
 | s
 | b
def Zj : CK → V → V → Option Bool
 | .i => YA
 | .s => Z3
 | .b => Yn
def As (ks : List CK) (xs ys : List V) : Option Bool := match ks with
 | [] => (match xs, ys with | [], [] => some true | _, _ => none)
 | k :: ks => (match xs, ys with
   | x :: xs, y :: ys => (match Zj k x y with | some r => (match As ks xs ys with | some t => some (and r t) | none => none) | none => none)
   | _, _ => none)
def eqS (ks : List CK) (x y : V) : Option Bool := match x, y with | .agg a, .agg b => As ks a b | _, _ => none
def WM (tt : TT) : Nat → List Field → Option (List CK)
 | _, [] => some []
 | i, f :: fs => if (f.name != "_") && Nat.beq f.offset i then (match tt.ud f.type, WM tt (i + 1) fs with
   | some (.int _), some r => some (.i :: r)
   | some .string, some r => some (.s :: r)
   | some .bool, some r => some (.b :: r)
   | _, _ => none) else none
def dOf : CK → TypeDesc → Prop
 | .i, d => ∃ k, d = .int k
 | .s, d => d = .string
 | .b, d => d = .bool
theorem D4 {tt : TT} {i : Nat} {f : Field} {fs : List Field} {ks : List CK} (h : WM tt i (f :: fs) = some ks) : ∃ k r d, ks = k :: r ∧ f.name ≠ "_" ∧ f.offset = i ∧ tt.ud f.type = some d ∧ dOf k d ∧ WM tt (i + 1) fs = some r := by
 unfold WM at h
 split at h
 · rename_i hc
   rw [Bool.and_eq_true] at hc
   have h1 : f.name ≠ "_" := by simpa using hc.1
   have h2 := Nat.eq_of_beq_eq_true hc.2
   split at h <;> cases h
   · rename_i k r h3 h4; exact ⟨_, _, _, rfl, h1, h2, h3, ⟨_, rfl⟩, h4⟩
   · rename_i r h3 h4; exact ⟨_, _, _, rfl, h1, h2, h3, rfl, h4⟩
   · rename_i r h3 h4; exact ⟨_, _, _, rfl, h1, h2, h3, rfl, h4⟩
 · cases h
section
variable {P : Program} {tt : TT} (H : qw P tt) {nt : Nat} {gl : List Nat} {o : Oper} {x y z : Operand} {g h i : E → V}
include H in
theorem MN {k : CK} {d : TypeDesc} {t : Nat} (hd : tt.ud t = some d) (hk : dOf k d) {G : Pl} {u v : V} {u' v' : Value} {r : Bool} (h : Zj k u v = some r) (hu : VR G u u') (hv : VR G v v') (w : World) (n m : Nat) :
 (Op.equalIn (n + 1) t u' v').run P w = .ok r w ∧ (r = true → Instr.sameBits m u' v' = true ∧ u' = v') := by
 have hP : P.underlying t = some d := by
  unfold TT.ud at hd
  cases hx : T.get tt t with
  | none => rw [hx] at hd; cases hd
  | some x => rw [hx] at hd; cases hd; exact (H t x hx).1
 cases k with
 | i =>
   obtain ⟨kk, rfl⟩ := hk
   simp only [Zj, YA] at h
   cases h1 : yB u with
   | none => rw [h1] at h; cases h
   | some p =>
     obtain ⟨k1, a⟩ := p
     cases h2 : yB v with
     | none => rw [h1, h2] at h; cases h
     | some q =>
       obtain ⟨k2, b⟩ := q
       rw [h1, h2] at h
       simp only at h
       cases e1 : Nat.beq (kn k1) (kn k2) with
       | false => rw [e1] at h; cases h
       | true =>
         rw [e1] at h
         have := lq (Nat.eq_of_beq_eq_true e1)
         subst this
         cases nq h1 hu; cases nq h2 hv
         cases h
         rw [eD]
         refine ⟨(run_equalIn_int w n t k1 kk a b hP).trans (by congr 1), fun hb => ?_⟩
         have : a = b := by simpa using hb
         subst this
         exact ⟨by cases m <;> simp [Instr.sameBits], rfl⟩
 | s =>
   cases hk
   simp only [Zj, Z3] at h
   split at h
   · cases h
     obtain ⟨a, rfl, rfl⟩ := hu.iJ
     obtain ⟨b, rfl, rfl⟩ := hv.iJ
     rw [mB]
     refine ⟨run_equalIn_string w n t a b hP, fun hb => ?_⟩
     have : a = b := by
      rw [ByteArray.toList_eq, ByteArray.toList_eq] at hb
      have := eq_of_beq hb
      cases a; cases b; simp only at this; congr 1; exact Array.toList_inj.1 this
     subst this
     exact ⟨by cases m <;> (simp only [Instr.sameBits]; rw [beq_toListBytes]; exact hb), rfl⟩
   · cases h
 | b =>
   cases hk
   simp only [Zj, Yn] at h
   split at h
   · cases h; cases hu; cases hv
     refine ⟨run_equalIn_bool' w n t _ _ hP, fun hb => ?_⟩
     have := eq_of_beq hb
     subst this
     exact ⟨by cases m <;> simp [Instr.sameBits], rfl⟩
   · cases h
include H in
theorem tZ (w : World) (n m : Nat) {G : Pl} {X Y : List Value} : ∀ {fs : List Field} {i : Nat} {ks : List CK} {xs ys : List V} {r : Bool}, WM tt i fs = some ks → As ks xs ys = some r → dV G xs (X.drop i) → dV G ys (Y.drop i) →
 (Op.eqFields (n + 1) ⟨X⟩ ⟨Y⟩ fs).run P w = .ok r w ∧ (X.drop i).length = (Y.drop i).length ∧ (r = true → ((X.drop i).zip (Y.drop i)).all (fun (x, y) => Instr.sameBits m x y) = true ∧ X.drop i = Y.drop i)
 | [], i, ks, xs, ys, r, h, he, hx, hy => by
   cases h
   unfold As at he
   split at he
   · cases he
     generalize X.drop i = X0 at hx
     generalize Y.drop i = Y0 at hy
     cases hx; cases hy
     exact ⟨by simp [Op.eqFields], rfl, fun _ => ⟨rfl, rfl⟩⟩
   · cases he
 | f :: fs, i, ks, xs, ys, r, h, he, hx, hy => by
   obtain ⟨k, rk, d, rfl, h1, h2, h3, h4, h5⟩ := D4 h
   unfold As at he
   split at he
   · rename_i x xs y ys
     split at he
     · rename_i a ha
       split at he
       · rename_i t ht
         cases he
         generalize hX : X.drop i = X0 at hx
         generalize hY : Y.drop i = Y0 at hy
         cases hx with
         | cons _ x' _ X1 hxx hx1 =>
           cases hy with
           | cons _ y' _ Y1 hyy hy1 =>
             have gX : X[i]? = some x' := by rw [← List.head?_drop, hX]; rfl
             have gY : Y[i]? = some y' := by rw [← List.head?_drop, hY]; rfl
             have dX : X.drop (i + 1) = X1 := by rw [← List.drop_drop, hX]; rfl
             have dY : Y.drop (i + 1) = Y1 := by rw [← List.drop_drop, hY]; rfl
             obtain ⟨q1, q2⟩ := MN H h3 h4 ha hxx hyy w n m
             obtain ⟨p1, p2, p3⟩ := tZ w n m h5 ht (dX ▸ hx1) (dY ▸ hy1)
             rw [dX, dY] at p2 p3
             have hagg : sH d = false := by cases k <;> simp only [dOf] at h4 <;> first | (obtain ⟨_, rfl⟩ := h4; rfl) | (subst h4; rfl)
             have pX : (part f.type ⟨X⟩ f.offset).run P w = .ok x' w := by simp [part, hO H w h3, hagg, h2, gX]
             have pY : (part f.type ⟨Y⟩ f.offset).run P w = .ok y' w := by simp [part, hO H w h3, hagg, h2, gY]
             refine ⟨?_, by simp [p2], ?_⟩
             · rw [Op.eqFields, if_pos h1]
               simp only [Sem.run_bind, pX, pY, q1, Result.andThen_ok]
               cases a
               · simp
               · simpa using p1
             · intro hr
               rw [Bool.and_eq_true] at hr
               refine ⟨by simp only [List.zip_cons_cons, List.all_cons, (q2 hr.1).1, (p3 hr.2).1, Bool.and_self], ?_⟩
               rw [(q2 hr.1).2, (p3 hr.2).2]
       · cases he
     · cases he
   · cases he
structure SOk (P : Program) (tt : TT) (t : Nat) (ks : List CK) : Prop where
 ex : ∃ fs, tt.ud t = some (.struct fs) ∧ WM tt 0 fs.toList = some ks
 so : P.stoodInHeld t = false
 eg : P.eqGuardType P.depth t = false
include H in
theorem OP {t : Nat} {ks : List CK} (hs : SOk P tt t ks) {G : Pl} {u v : V} {u' v' : Value} {r : Bool} (h : eqS ks u v = some r) (hu : VR G u u') (hv : VR G v v') (w : World) :
 (∃ a b, u' = .agg a ∧ v' = .agg b) ∧ (Op.equalIn 10000 t u' v').run P w = .ok r w ∧ (r = true → Instr.sameBits 10000 u' v' = true ∧ u' = v') := by
 obtain ⟨⟨fs, h1, h2⟩, h3, h4⟩ := hs
 have hP : P.underlying t = some (.struct fs) := by
  unfold TT.ud at h1
  cases hx : T.get tt t with
  | none => rw [hx] at h1; cases h1
  | some x =>
    rw [hx, Option.map_some, Option.some.injEq] at h1
    rw [← h1]; exact (H t x hx).1
 have hf : P.fieldsOf t = fs := by simp [Program.fieldsOf, hP]
 unfold eqS at h
 split at h
 · cases hu with
   | agg _ X hX =>
     cases hv with
     | agg _ Y hY =>
       obtain ⟨q1, q2, q3⟩ := tZ H w 9998 9999 (X := X) (Y := Y) (i := 0) h2 h (by simpa using hX) (by simpa using hY)
       refine ⟨⟨_, _, rfl, rfl⟩, ?_, fun hr => ?_⟩
       · show (Op.equalIn (9999 + 1) t (.agg ⟨X⟩) (.agg ⟨Y⟩)).run P w = _
         rw [run_equalIn_struct w 9999 t ⟨X⟩ ⟨Y⟩ (by rw [hf]; exact hP) h3, hf]
         exact q1
       · show Instr.sameBits (9999 + 1) (.agg ⟨X⟩) (.agg ⟨Y⟩) = true ∧ _
         obtain ⟨t1, t2⟩ := q3 hr
         simp only [List.drop_zero] at t1 t2 q2
         refine ⟨?_, by rw [t2]⟩
         simp only [Instr.sameBits]
         simp [q2, t1]
 · cases h
def KR (ng : Bool) (ks : List CK) (x y : V) : Option V := match eqS ks x y with | some r => some (.bool (xor ng r)) | none => none
include H in
theorem wW {t yt : Nat} {ks : List CK} {ng : Bool} (ho : o.op = .binOp (if ng then .neq else .eql) t x y yt) (hs : SOk P tt t ks) (hg : eT gl x = some g) (hh : eT gl y = some h) : lP P o nt gl (aj (KR ng ks) g h) := by
 intro G e a w v hv he
 have hx := cz hg he
 have hy := cz hh he
 unfold aj KR at hv
 split at hv
 · rename_i r hr
   cases hv
   obtain ⟨⟨A, B, e1, e2⟩, q1, _⟩ := OP H hs hr hx hy w
   rw [e1, e2] at q1
   refine ⟨.bool (xor ng r), ?_, .bool _⟩
   cases ng
   · simp only [Bool.false_eq_true, if_false] at ho
     simp only [execOp, ho, e1, e2, Sem.run_bind, run_eqGuard_agg w .eql t x y A B hs.eg, Result.andThen_ok, run_eql_struct, q1, Sem.run_pure, Bool.false_xor]
   · simp only [if_true] at ho
     simp only [execOp, ho, e1, e2, Sem.run_bind, run_eqGuard_agg w .neq t x y A B hs.eg, Result.andThen_ok, run_neq_struct, q1, Sem.run_pure, Bool.true_xor]
 · cases hv
include H in
include H in
include H in
include H in
include H in
include H in
include H in
def ckT (tt : TT) (t : Nat) : Option (List CK) := if tt.so t then (match tt.ud t with | some (.struct fs) => WM tt 0 fs.toList | _ => none) else none
include H in
theorem DE {t : Nat} {ks : List CK} (h : ckT tt t = some ks) : SOk P tt t ks := by
 unfold ckT at h
 split at h
 · rename_i hso
   split at h
   · rename_i fs hu
     unfold TT.so at hso
     cases hx : T.get tt t with
     | none => rw [hx] at hso; cases hso
     | some p =>
       rw [hx] at hso
       obtain ⟨_, _, q⟩ := H t p hx
       exact ⟨⟨fs, hu, h⟩, (q hso).1, (q hso).2⟩
   · cases h
 · cases h
end
end
end Go.Proofs.YtcgdlgbomjnnnaaLab
/- The jI: from the program's operations to ours. No condition on the program. -/
namespace Go.Proofs.YtcgdlgbomjnnnaaLab
open Go
set_option linter.all false
noncomputable section
inductive OO where
 | t (n : Nat)
 | c (v : V)
def OO.den : OO → E → V | .t n => Gt n | .c v => cV v
def b_ (gl : List Nat) : Operand → Option OO
 | .tmp t => if t < 256 then some (.t t) else none
 | .const v => (jP 300 v).map .c
 | .global g => if gl.contains g then some (.c (.ptr g 0)) else none
 | .func f => some (.c (.func f [] []))
theorem aX {gl : List Nat} {x : Operand} {y : OO} (h : b_ gl x = some y) : eT gl x = some y.den := by
 cases x with
 | tmp t => simp only [b_] at h; split at h <;> cases h; simp [eT, *, OO.den]
 | const v =>
   simp only [b_] at h
   cases hv : jP 300 v with
   | none => rw [hv] at h; cases h
   | some u => rw [hv] at h; cases h; simp [eT, hv, OO.den]
 | global g => simp only [b_] at h; split at h <;> cases h; simp only [eT, if_pos ‹gl.contains g = true›, OO.den]
 | func f => cases h; rfl
def lM (gl : List Nat) : List Operand → Option (List OO)
 | [] => some []
 | x :: l => do some ((← b_ gl x) :: (← lM gl l))
theorem jq {gl : List Nat} : ∀ {l : List Operand} {r : List OO}, lM gl l = some r → qt gl l = some (r.map OO.den)
 | [], r, h => by cases h; rfl
 | x :: l, r, h => by
   simp only [lM, Option.bind_eq_bind, Option.bind_eq_some_iff] at h
   obtain ⟨y, h1, q, h2, h3⟩ := h
   cases h3
   simp [qt, aX h1, jq h2]
def lK (gl : List Nat) : Option Operand → Option (Option OO) | none => some none | some x => (b_ gl x).map some
theorem jm {gl : List Nat} {x : Option Operand} {y : Option OO} (h : lK gl x = some y) : sx gl x = some (y.map OO.den) := by
 cases x with
 | none => cases h; rfl
 | some x =>
   simp only [lK] at h
   cases hv : b_ gl x with
   | none => rw [hv] at h; cases h
   | some u => rw [hv] at h; cases h; simp [sx, aX hv]
def jl (gl : List Nat) (place : Nat → Option (Nat × Nat)) : List (Nat × Operand) → Option (List (Nat × Nat × OO))
 | [] => some []
 | (i, x) :: l => match place i, b_ gl x, jl gl place l with
   | some (off, size), some g, some r => some ((off, size, g) :: r)
   | _, _, _ => none
def eu (p : Nat × Nat × OO) : Nat × Nat × (E → V) := (p.1, p.2.1, p.2.2.den)
theorem iP {gl : List Nat} {place : Nat → Option (Nat × Nat)} : ∀ {l : List (Nat × Operand)} {r : List (Nat × Nat × OO)}, jl gl place l = some r → jW gl place l = some (r.map eu)
 | [], r, h => by cases h; rfl
 | (i, x) :: l, r, h => by
   unfold jl at h
   split at h
   · rename_i off size g q h1 h2 h3
     cases h
     simp [jW, h1, aX h2, iP h3, eu]
   · cases h
inductive LO where
 | move (x : OO)
 | pick (c a b : OO)
 | int (op : BinOp) (k : IntKind) (x y : OO)
 | div (op : BinOp) (k : IntKind) (x y : OO)
 | sh (op : BinOp) (k : IntKind) (x y : OO)
 | str (op : BinOp) (x y : OO)
 | beq (neg : Bool) (x y : OO)
 | nil (neg : Bool) (d : TypeDesc) (x y : OO)
 | not (x : OO)
 | neg (x : OO)
 | cQ (k : IntKind) (x : OO)
 | fn (f : Nat) (a b : List OO)
 | Vr (off : Nat) (x : OO)
 | idx (es : Nat) (x y : OO)
 | byte (x y : OO)
 | ext (i : Nat) (x : OO)
 | yW (x : OO)
 | sl (es : Nat) (x : OO) (lo hi mx : Option OO)
 | Mx (x : OO) (lo hi : Option OO)
 | pe (x : OO)
 | vH (x : OO)
 | build (z : List V) (ps : List (Nat × Nat × OO))
 | ld (x : OO)
 | VS (n : Nat) (x : OO)
 | al (l : List V)
 | box (x : OO)
 | VA (len size : Nat) (z : List V) (ps : List (Nat × Nat × OO))
 | st (m : Nat) (x y : OO)
 | ap (lim es : Nat) (x y : OO)
 | call (f : Nat) (a : List OO)
 | oy (x : OO) (a : List OO)
 | stuck
 | Wc (es bytes : Nat) (z : List V) (x y : OO)
 | VD (z : List V) (x : OO)
 | uv (ng : Bool) (ks : List CK) (x y : OO)
def Xn (_ : E) : Option V := none
inductive OD where
 | p (f : E → Option V)
 | d (f : E → St → Option V)
 | a (f : E → Nat → Option (V × Ob))
 | e (f : KC → E → St → Option (V × St))
def OD.den : OD → (E → V → E) → Den | .p f, u => oP f u | .d f, u => oD f u | .a f, u => oA f u | .e f, u => oE f u
def de (fok : T Bool) : LO → Option OD
 | .move x => some (.p (aD x.den))
 | .pick c a b => some (.p (aN c.den a.den b.den))
 | .int op k x y => match Xj op k with | some f => some (.p (aj (b2 k f) x.den y.den)) | none => none
 | .div op k x y => match V8 op k with | some f => some (.p (aj (dv op k f) x.den y.den)) | none => none
 | .sh op k x y => some (.p (aj (xT op k) x.den y.den))
 | .str op x y => match XB op with | some f => some (.p (aj (bS f) x.den y.den)) | none => none
 | .beq ng x y => some (.p (aj (qS ng) x.den y.den))
 | .nil ng d x y => match WT d with | some n => some (.p (aj (pE ng n) x.den y.den)) | none => none
 | .not x => some (.p (aA jw x.den))
 | .neg x => some (.p (aA GX x.den))
 | .cQ k x => some (.p (aA (cQ k) x.den))
 | .fn f a b => some (.p (uq f (a.map OO.den) (b.map OO.den)))
 | .Vr off x => some (.p (aA (aC off) x.den))
 | .idx es x y => some (.p (aj (aQ es) x.den y.den))
 | .byte x y => some (.p (aj kP x.den y.den))
 | .ext i x => some (.p (aA (dL i) x.den))
 | .yW x => some (.p (aA bx x.den))
 | .sl es x lo hi mx => some (.p (yC es x.den (lo.map OO.den) (hi.map OO.den) (mx.map OO.den)))
 | .Mx x lo hi => some (.p (mV x.den (lo.map OO.den) (hi.map OO.den)))
 | .pe x => some (.p (aA aP x.den))
 | .vH x => some (.p (aA kq x.den))
 | .build z ps => some (.p (bF z (ps.map eu)))
 | .ld x => some (.d (aO x.den))
 | .VS n x => some (.d (di n x.den))
 | .al l => some (.a (lT l.length (cL l)))
 | .box x => some (.a (jZ x.den))
 | .VA len size z ps => some (.a (cG len size z (ps.map eu)))
 | .st m x y => some (.e (dW m x.den y.den))
 | .ap lim es x y => some (.e (VB lim es x.den y.den))
 | .call f a => some (.e (ak f (a.map OO.den)))
 | .oy x a => some (.e (fQ fok x.den (a.map OO.den)))
 | .stuck => some (.p Xn)
 | .Wc es bytes z x y => some (.a (r9 es bytes z x.den y.den))
 | .VD z x => some (.e (rW z x.den))
 | .uv ng ks x y => some (.p (aj (KR ng ks) x.den y.den))
def isC : Operand → Bool | .const _ => true | _ => false
def vu (tt : TT) (op : BinOp) (t : Nat) (x y : Operand) (a b : OO) : Option LO :=
 match tt.ud t with
 | some (.int k) => match op with
   | .quo | .rem => some (.div op k a b)
   | .shl | .shr => some (.sh op k a b)
   | _ => some (.int op k a b)
 | some .string => some (.str op a b)
 | some .bool => match op with
   | .eql => some (.beq false a b)
   | .neq => some (.beq true a b)
   | _ => none
 | some d => if isC x || isC y then (match op with
   | .eql => some (.nil false d a b)
   | .neq => some (.nil true d a b)
   | _ => none) else none
 | none => none
def rS (tt : TT) (s d : Nat) (a : OO) : Option LO :=
 match tt.ud s, tt.ud d with
 | some (.slice _), some .string => none
 | some _, some (.int k) => some (.cQ k a)
 | _, _ => none
def zeroOf (tt : TT) (t : Nat) : Option V := match tt.ti t with | some ti => (match ti.zero with | some zv => jP 300 zv | none => none) | none => none
def we (tt : TT) (t : Nat) (a : OO) : Option LO :=
 match tt.ud t with
 | some (.slice _) => some (.pe a)
 | some .string => some (.vH a)
 | _ => none
def Fg (tt : TT) (t1 t2 : Nat) (a b : OO) : Option LO :=
 match tt.ud t1, tt.ud t2 with
 | some (.slice el), some d2 => (match d2 with
   | .int _ => none
   | _ => match tt.sz el, tt.ti el with
     | some es, some ti => (match ti.zero with
       | some zv => if zv.cells.size = es ∧ 0 < ti.bytes ∧ ti.bytes ≤ 65536 then some (.ap (if ti.bytes ≤ 8 then 17596481011712 else 100000000) es a b) else none
       | none => none)
     | _, _ => none)
 | _, _ => none
def lH (tt : TT) (gl : List Nat) (b : Builtin) (args : List Operand) (ats : List Nat) : Option LO :=
 match b, args, ats with
 | .len, [x], [t] => (b_ gl x).bind (we tt t)
 | .append, [x, y], [t1, t2] => (b_ gl x).bind fun a => (b_ gl y).bind fun b => Fg tt t1 t2 a b
 | _, _, _ => none
def HE (tt : TT) (gl : List Nat) (fok : T Bool) (o : Oper) : Option LO := match o.op with
 | .move x | .assign x => (b_ gl x).map .move
 | .pick c a b => (b_ gl c).bind fun c => (b_ gl a).bind fun a => (b_ gl b).map fun b => .pick c a b
 | .binOp op t x y _ => (b_ gl x).bind fun a => (b_ gl y).bind fun b => vu tt op t x y a b
 | .unOp .not _ x => (b_ gl x).map .not
 | .unOp .neg _ x => (b_ gl x).map .neg
 | .convert s d x => (b_ gl x).bind (rS tt s d)
 | .makeFunc (.func f) a b => (lM gl a.toList).bind fun a => (lM gl b.toList).map fun b => .fn f a b
 | .fieldAddr s x f => match tt.ud s with
   | some (.struct fs) => (match fs[f]? with
     | some fd => (match tt.sz fd.type with | some (_ + 1) => (b_ gl x).map (.Vr fd.offset) | _ => none)
     | none => none)
   | _ => none
 | .indexAddr t x y => match tt.ud t with
   | some (.slice el) => (match tt.sz el with | some es => (b_ gl x).bind fun a => (b_ gl y).map fun b => .idx es a b | none => none)
   | _ => none
 | .index t x y => match tt.ud t with
   | some .string => (b_ gl x).bind fun a => (b_ gl y).map fun b => .byte a b
   | _ => none
 | .extract x i => (b_ gl x).map (.ext i)
 | .nilCheck x => (b_ gl x).map .yW
 | .slice t x lo hi mx => match tt.ud t with
   | some (.slice el) => (match tt.sz el with
     | some es => if mx.isNone || hi.isSome then (b_ gl x).bind fun a => (lK gl lo).bind fun l => (lK gl hi).bind fun h => (lK gl mx).map fun m => .sl es a l h m else none
     | none => none)
   | some .string => if mx.isNone then (b_ gl x).bind fun a => (lK gl lo).bind fun l => (lK gl hi).map fun h => .Mx a l h else none
   | _ => none
 | .build t ps => match tt.ud t with
   | some (.struct fs) => (match zeroOf tt t, placesOf tt fs.toList with
     | some (.agg z), some pl => (jl gl (fun i => pl[i]?) ps.toList).map (.build z)
     | _, _ => none)
   | some (.array _ el) => (match zeroOf tt t, tt.sz el with
     | some (.agg z), some n => (jl gl (fun i => some (i * n, n)) ps.toList).map (.build z)
     | _, _ => none)
   | _ => none
 | .load t x => match tt.ud t, tt.sz t with
   | some d, some n => (b_ gl x).map (if sH d then .VS n else .ld)
   | _, _ => none
 | .alloc t => match zeroOf tt t with
   | some z => (match dA z with | some l => if bf l then some (.al l) else none | none => none)
   | none => none
 | .box _ x => (b_ gl x).map .box
 | .buildSlice t len ps => match tt.ud t with
   | some (.slice el) => (match tt.sz el, zeroOf tt el with
     | some size, some z0 => (match dA z0 with
       | some z => if len * size ≤ 2 ^ 24 then (jl gl (fun i => some (i * size, size)) ps.toList).map (.VA len size (if len * size = 0 then [] else va (len * size) z)) else none
       | none => none)
     | _, _ => none)
   | _ => none
 | .store t x y => match tt.sz t with | some m => (b_ gl x).bind fun a => (b_ gl y).map fun b => .st m a b | none => none
 | .call c => match c.callee with
   | .builtin b => lH tt gl b c.args.toList c.argTypes.toList
   | .value (.func f) => match fok.get f with | some true => (lM gl c.args.toList).map (.call f) | _ => none
   | .value x => (b_ gl x).bind fun a => (lM gl c.args.toList).map (.oy a)
   | _ => none
 | _ => none
def nM (P : Program) (nt : Nat) (gl : List Nat) (o : Oper) : OD → Prop
 | .p f => lP P o nt gl f
 | .d f => ODs P o nt gl f
 | .a f => XF P o nt gl f
 | .e f => WA P o nt gl f
theorem gx {tt : TT} {t : Nat} {z : V} (h : zeroOf tt t = some z) : ∃ ti zv, tt.ti t = some ti ∧ ti.zero = some zv ∧ jP 300 zv = some z := by
 unfold zeroOf at h
 split at h
 · rename_i ti hti
   split at h
   · rename_i zv hz; exact ⟨ti, zv, hti, hz, h⟩
   · cases h
 · cases h
section
variable {P : Program} {tt : TT} (H : qw P tt) {nt : Nat} {gl : List Nat} {o : Oper} {fok : T Bool} (hfok : ∀ f, fok.get f = some true → Mw P f)
include H in
theorem yg {op : BinOp} {t yt : Nat} {x y : Operand} {a b : OO} {l : LO} {od : OD} (ho : o.op = .binOp op t x y yt) (ha : b_ gl x = some a) (hb : b_ gl y = some b) (h : vu tt op t x y a b = some l) (hd : de fok l = some od) : nM P nt gl o od := by
 have hg := aX ha
 have hh := aX hb
 unfold vu at h
 split at h
 · rename_i k ht
   cases op <;> simp only [Option.some.injEq] at h <;> subst h <;> simp only [de] at hd
   case quo => split at hd <;> cases hd; exact nB ho ‹_› hg hh
   case rem => split at hd <;> cases hd; exact nB ho ‹_› hg hh
   case shl => cases hd; exact oJ ho hg hh
   case shr => cases hd; exact oJ ho hg hh
   all_goals (split at hd <;> cases hd; exact tL ho ‹_› hg hh)
 · rename_i ht
   cases h
   simp only [de] at hd
   split at hd <;> cases hd
   exact tM ho ‹_› hg hh
 · rename_i ht
   split at h <;> cases h <;> cases hd
   · exact mC H (neg := false) (by simpa using ho) ht hg hh
   · exact mC H (neg := true) (by simpa using ho) ht hg hh
 · rename_i d h1 h2 h3 ht
   have hc : ∀ x : Operand, isC x = true → ∃ v, x = .const v := by
    intro x hx; cases x <;> simp only [isC, reduceCtorEq] at hx; exact ⟨_, rfl⟩
   split at h
   · rename_i hcc
     have hcc : (∃ v, x = .const v) ∨ (∃ v, y = .const v) := by
      rcases Bool.or_eq_true_iff.1 hcc with hx | hx
      · exact .inl (hc _ hx)
      · exact .inr (hc _ hx)
     split at h <;> cases h <;> simp only [de] at hd <;> split at hd <;> cases hd
     · exact nF H (neg := false) (by simpa using ho) hcc ht ‹_› hg hh
     · exact nF H (neg := true) (by simpa using ho) hcc ht ‹_› hg hh
   · cases h
 · cases h
include H in
theorem wo {s d : Nat} {x : Operand} {a : OO} {l : LO} {od : OD} (ho : o.op = .convert s d x) (ha : b_ gl x = some a) (h : rS tt s d a = some l) (hd : de fok l = some od) : nM P nt gl o od := by
 unfold rS at h
 split at h
 · cases h
 · cases h; cases hd; exact Ow H ho ‹_› ‹_› (aX ha)
 · cases h
include H in
theorem yl {t : Nat} {x : Operand} {a : OO} {l : LO} {od : OD} (ho : vZ o .len t x) (ha : b_ gl x = some a) (h : we tt t a = some l) (hd : de fok l = some od) : nM P nt gl o od := by
 unfold we at h
 split at h
 · cases h; cases hd; exact Ey H ho ‹_› (aX ha)
 · cases h; cases hd; exact CF H ho ‹_› (aX ha)
 · cases h
include H in
theorem Gr {t1 t2 : Nat} {x y : Operand} {a b : OO} {l : LO} {od : OD} (ho : Wy o .append t1 t2 x y) (ha : b_ gl x = some a) (hb : b_ gl y = some b) (h : Fg tt t1 t2 a b = some l) (hd : de fok l = some od) : nM P nt gl o od := by
 unfold Fg at h
 split at h
 · rename_i el d2 h1 h2
   split at h
   · cases h
   · rename_i hne
     split at h
     · rename_i es ti h3 h4
       split at h
       · rename_i zv h5
         split at h
         · rename_i h6
           cases h; cases hd
           exact WQ H ho h1 h2 (fun k hk => hne k hk) h3 h4 h5 h6.1 h6.2.1 (by have := h6.2.2; split <;> omega) (aX ha) (aX hb)
         · cases h
       · cases h
     · cases h
 · cases h
include H in
theorem qE {c : Call} {b : Builtin} {l : LO} {od : OD} (ho : o.op = .call c) (hc : c.callee = .builtin b) (h : lH tt gl b c.args.toList c.argTypes.toList = some l) (hd : de fok l = some od) : nM P nt gl o od := by
 obtain ⟨cal, args, ats⟩ := c
 simp only at hc h
 subst hc
 unfold lH at h
 split at h
 · rename_i x t h1 h2
   have e1 : args = #[x] := by rw [← Array.toArray_toList (xs := args), h1]
   have e2 : ats = #[t] := by rw [← Array.toArray_toList (xs := ats), h2]
   subst e1; subst e2
   rw [Option.bind_eq_some_iff] at h
   obtain ⟨a, ha, h⟩ := h
   exact yl H ho ha h hd
 · rename_i x y t1 t2 h1 h2
   have e1 : args = #[x, y] := by rw [← Array.toArray_toList (xs := args), h1]
   have e2 : ats = #[t1, t2] := by rw [← Array.toArray_toList (xs := ats), h2]
   subst e1; subst e2
   rw [Option.bind_eq_some_iff] at h
   obtain ⟨a, ha, h⟩ := h
   rw [Option.bind_eq_some_iff] at h
   obtain ⟨b, hb, h⟩ := h
   exact Gr H ho ha hb h hd
 · cases h
include H hfok in
theorem Bu {l : LO} {od : OD} (h : HE tt gl fok o = some l) (hd : de fok l = some od) : nM P nt gl o od := by
 unfold HE at h
 split at h
 all_goals (try (simp only [Option.map_eq_some_iff, Option.bind_eq_some_iff] at h))
 · rename_i x ho; obtain ⟨a, ha, rfl⟩ := h; cases hd; exact uS (.inl ho) (aX ha)
 · rename_i x ho; obtain ⟨a, ha, rfl⟩ := h; cases hd; exact uS (.inr ho) (aX ha)
 · rename_i ho; obtain ⟨a, ha, b, hb, c, hc, rfl⟩ := h; cases hd; exact JE ho (aX ha) (aX hb) (aX hc)
 · rename_i ho; obtain ⟨a, ha, b, hb, h⟩ := h; exact yg H ho ha hb h hd
 · rename_i ho; obtain ⟨a, ha, rfl⟩ := h; cases hd; exact NS ho (aX ha)
 · rename_i ho; obtain ⟨a, ha, rfl⟩ := h; cases hd; exact OJ ho (aX ha)
 · rename_i ho; obtain ⟨a, ha, h⟩ := h; exact wo H ho ha h hd
 · rename_i ho
   obtain ⟨a, ha, b, hb, rfl⟩ := h; cases hd
   exact Ou ho (jq ha) (jq hb)
 · rename_i s x f ho
   split at h
   · rename_i fs hs
     split at h
     · rename_i fd hf
       split at h
       · rename_i n hz
         rw [Option.map_eq_some_iff] at h
         obtain ⟨a, ha, rfl⟩ := h; cases hd
         exact MD H ho hs hf hz (aX ha)
       · cases h
     · cases h
   · cases h
 · rename_i t x y ho
   split at h
   · rename_i el ht
     split at h
     · rename_i es hz
       simp only [Option.map_eq_some_iff, Option.bind_eq_some_iff] at h
       obtain ⟨a, ha, b, hb, rfl⟩ := h; cases hd
       exact OK H ho ht hz (aX ha) (aX hb)
     · cases h
   · cases h
 · rename_i t x y ho
   split at h
   · rename_i ht
     simp only [Option.map_eq_some_iff, Option.bind_eq_some_iff] at h
     obtain ⟨a, ha, b, hb, rfl⟩ := h; cases hd
     exact LR H ho ht (aX ha) (aX hb)
   · cases h
 · rename_i ho; obtain ⟨a, ha, rfl⟩ := h; cases hd; exact OB ho (aX ha)
 · rename_i ho; obtain ⟨a, ha, rfl⟩ := h; cases hd; exact OL ho (aX ha)
 · rename_i t x lo hi mx ho
   split at h
   · rename_i el ht
     split at h
     · rename_i es hz
       split at h
       · rename_i hm
         simp only [Option.map_eq_some_iff, Option.bind_eq_some_iff] at h
         obtain ⟨a, ha, l, hl, hh, hhh, m, hmm, rfl⟩ := h; cases hd
         refine Vc H ho ht hz ?_ (aX ha) (jm hl) (jm hhh) (jm hmm)
         rcases Bool.or_eq_true_iff.1 hm with hm | hm
         · exact .inl (by simpa using hm)
         · exact .inr (fun e => by rw [e] at hm; cases hm)
       · cases h
     · cases h
   · rename_i ht
     split at h
     · rename_i hm
       have hm : mx = none := by simpa using hm
       subst hm
       simp only [Option.map_eq_some_iff, Option.bind_eq_some_iff] at h
       obtain ⟨a, ha, l, hl, hh, hhh, rfl⟩ := h; cases hd
       exact OA H ho ht (aX ha) (jm hl) (jm hhh)
     · cases h
   · cases h
 · rename_i t ps ho
   split at h
   · rename_i fs ht
     split at h
     · rename_i z pl hz hp
       rw [Option.map_eq_some_iff] at h
       obtain ⟨q, hq, rfl⟩ := h; cases hd
       obtain ⟨ti, zv, z1, z2, z3⟩ := gx hz
       exact yc H ho ht z1 z2 z3 hp (iP hq)
     · cases h
   · rename_i len el ht
     split at h
     · rename_i z n hz hn
       rw [Option.map_eq_some_iff] at h
       obtain ⟨q, hq, rfl⟩ := h; cases hd
       obtain ⟨ti, zv, z1, z2, z3⟩ := gx hz
       exact vz H ho ht z1 z2 z3 hn (iP hq)
     · cases h
   · cases h
 · rename_i t x ho
   split at h
   · rename_i d n h1 h2
     rw [Option.map_eq_some_iff] at h
     obtain ⟨a, ha, rfl⟩ := h
     cases hb : sH d with
     | true => rw [hb] at hd; cases hd; exact MF H ho h1 hb h2 (aX ha)
     | false => rw [hb] at hd; cases hd; exact Xz H ho h1 hb (aX ha)
   · cases h
 · rename_i t ho
   split at h
   · rename_i z hz
     split at h
     · rename_i l' hl
       split at h
       · rename_i h1
         cases h; cases hd
         obtain ⟨ti, zv, z1, z2, z3⟩ := gx hz
         exact Wj H ho z1 z2 z3 hl h1
       · cases h
     · cases h
   · cases h
 · rename_i ho; obtain ⟨a, ha, rfl⟩ := h; cases hd; exact Ny ho (aX ha)
 · rename_i t len ps ho
   split at h
   · rename_i el ht
     split at h
     · rename_i size z0 hn hz
       split at h
       · rename_i z hc
         split at h
         · rename_i hsm
           rw [Option.map_eq_some_iff] at h
           obtain ⟨q, hq, rfl⟩ := h; cases hd
           obtain ⟨ti, zv, z1, z2, z3⟩ := gx hz
           exact OW H ho ht z1 z2 z3 hc hn hsm (iP hq)
         · cases h
       · cases h
     · cases h
   · cases h
 · rename_i t x y ho
   split at h
   · rename_i m hz
     simp only [Option.map_eq_some_iff, Option.bind_eq_some_iff] at h
     obtain ⟨a, ha, b, hb, rfl⟩ := h; cases hd
     exact XE H ho hz (aX ha) (aX hb)
   · cases h
 · rename_i c ho
   split at h
   · rename_i b hc
     exact qE H ho hc h hd
   · rename_i f hc
     split at h
     · rename_i hf
       rw [Option.map_eq_some_iff] at h
       obtain ⟨a, ha, rfl⟩ := h; cases hd
       obtain ⟨cal, args, ats⟩ := c
       simp only at hc ha
       subst hc
       exact DJ ho (hfok f hf) (jq ha)
     · cases h
   · rename_i x _ hc
     simp only [Option.map_eq_some_iff, Option.bind_eq_some_iff] at h
     obtain ⟨a, ha, b, hb, rfl⟩ := h; cases hd
     obtain ⟨cal, args, ats⟩ := c
     simp only at hc hb
     subst hc
     exact yo hfok ho (aX ha) (jq hb)
   · cases h
 · cases h
end
end
end Go.Proofs.YtcgdlgbomjnnnaaLab
/- The jI: lowering, more. No condition on the program. -/
namespace Go.Proofs.YtcgdlgbomjnnnaaLab
open Go
set_option linter.all false
noncomputable section
def sW (tt : TT) (gl : List Nat) (b : Builtin) (args : List Operand) (ats : List Nat) : Option LO :=
 match b, args, ats with
 | .clear, [x], [t] => (match tt.ud t with
   | some (.slice el) => (match zeroOf tt el with
     | some z0 => (match dA z0 with | some z => if bf z then (b_ gl x).map (.VD z) else none | none => none)
     | none => none)
   | _ => none)
 | _, _, _ => none
def T.cnt {α : Type} : T α → Nat | .nil => 0 | .aa _ l r => Nat.succ (Nat.add (T.cnt l) (T.cnt r))
def sD (tt : TT) (gl : List Nat) (fok : T Bool) (o : Oper) : Option LO := match o.op with
 | .makeSlice t x y => (match tt.ud t with
   | some (.slice el) => (match tt.ti el, tt.sz el, zeroOf tt el with
     | some ti, some es, some z0 => (match dA z0 with | some z => if bf z && (Nat.beq es 0 || !isNil z) then (b_ gl x).bind fun a => (b_ gl y).map fun b => .Wc es ti.bytes z a b else none | none => none)
     | _, _, _ => none)
   | _ => none)
 | .call c => (match c.callee with
   | .builtin b => sW tt gl b c.args.toList c.argTypes.toList
   | _ => none)
 | .binOp op t x y _ => (match ckT tt t, op with
   | some ks, .eql => (b_ gl x).bind fun a => (b_ gl y).map fun b => .uv false ks a b
   | some ks, .neq => (b_ gl x).bind fun a => (b_ gl y).map fun b => .uv true ks a b
   | _, _ => none)
 | _ => none
def jV (tt : TT) (gl : List Nat) (fok : T Bool) (o : Oper) : LO := match HE tt gl fok o with
 | some l => (match de fok l with | some _ => l | none => (match sD tt gl fok o with | some l => l | none => .stuck))
 | none => (match sD tt gl fok o with | some l => l | none => .stuck)
section
variable {P : Program} {tt : TT} (H : qw P tt) {nt : Nat} {gl : List Nat} {o : Oper} {fok : T Bool} (hfok : ∀ f, fok.get f = some true → Mw P f)
theorem tR {od : OD} (hd : de fok .stuck = some od) : nM P nt gl o od := by
 cases hd
 intro G e a w v hv
 cases hv
include H in
theorem vQ {c : Call} {b : Builtin} {l : LO} {od : OD} (ho : o.op = .call c) (hc : c.callee = .builtin b) (h : sW tt gl b c.args.toList c.argTypes.toList = some l) (hd : de fok l = some od) : nM P nt gl o od := by
 obtain ⟨cal, args, ats⟩ := c
 simp only at hc h
 subst hc
 unfold sW at h
 split at h
 · rename_i x t h1 h2
   have e1 : args = #[x] := by rw [← Array.toArray_toList (xs := args), h1]
   have e2 : ats = #[t] := by rw [← Array.toArray_toList (xs := ats), h2]
   subst e1; subst e2
   split at h
   · rename_i el ht
     split at h
     · rename_i z0 hz
       split at h
       · rename_i z hzc
         split at h
         · rename_i h1
           rw [Option.map_eq_some_iff] at h
           obtain ⟨a, ha, rfl⟩ := h; cases hd
           obtain ⟨ti, zv, z1, z2, z3⟩ := gx hz
           exact OE H ho ht z1 z2 z3 hzc h1 (aX ha)
         · cases h
       · cases h
     · cases h
   · cases h
 · cases h
include H hfok in
theorem qU {l : LO} {od : OD} (h : sD tt gl fok o = some l) (hd : de fok l = some od) : nM P nt gl o od := by
 unfold sD at h
 split at h
 · rename_i t x y ho
   split at h
   · rename_i el ht
     split at h
     · rename_i ti es z0 hti hn hz
       split at h
       · rename_i z hzc
         split at h
         · rename_i h1
           simp only [Option.map_eq_some_iff, Option.bind_eq_some_iff] at h
           obtain ⟨a, ha, b, hb, rfl⟩ := h; cases hd
           obtain ⟨ti', zv, z1, z2, z3⟩ := gx hz
           rw [hti] at z1; cases z1
           rw [Bool.and_eq_true, Bool.or_eq_true] at h1
           refine OG H ho ht hti z2 z3 hzc h1.1 hn ?_ (aX ha) (aX hb)
           rcases h1.2 with h2 | h2
           · exact .inl (Nat.eq_of_beq_eq_true h2)
           · exact .inr (fun e => by rw [e] at h2; cases h2)
         · cases h
       · cases h
     · cases h
   · cases h
 · rename_i c ho
   split at h
   · rename_i b hc
     exact vQ H ho hc h hd
   · cases h
 · rename_i op t x y yt ho
   split at h
   · rename_i ks hk
     simp only [Option.map_eq_some_iff, Option.bind_eq_some_iff] at h
     obtain ⟨a, ha, b, hb, rfl⟩ := h; cases hd
     exact wW H (ng := false) (by simpa using ho) (DE H hk) (aX ha) (aX hb)
   · rename_i ks hk
     simp only [Option.map_eq_some_iff, Option.bind_eq_some_iff] at h
     obtain ⟨a, ha, b, hb, rfl⟩ := h; cases hd
     exact wW H (ng := true) (by simpa using ho) (DE H hk) (aX ha) (aX hb)
   · cases h
 · cases h
include H hfok in
theorem qG {od : OD} (hd : de fok (jV tt gl fok o) = some od) : nM P nt gl o od := by
 unfold jV at hd
 split at hd
 · rename_i l hl
   split at hd
   · exact Bu H hfok hl hd
   · split at hd
     · rename_i l hl
       exact qU H hfok hl hd
     · exact tR hd
 · split at hd
   · rename_i l hl
     exact qU H hfok hl hd
   · exact tR hd
end
end
end Go.Proofs.YtcgdlgbomjnnnaaLab
/- The jI: a region in the text's order whose values are named, and its frame sQ once at its end. No condition on the program. -/
namespace Go.Proofs.YtcgdlgbomjnnnaaLab
open Go
set_option linter.all false
noncomputable section
def yu (n : Nat) : List (Nat × V) → Option V
 | [] => none
 | p :: l => Bool.casesOn (motive := fun _ => Option V) (Nat.beq p.1 n) (yu n l) (some p.2)
def OO.sub (ρ : List (Nat × V)) : OO → OO
 | .t n => match yu n ρ with | some v => .c v | none => .t n
 | .c v => .c v
def JJ (ρ : List (Nat × V)) (p : Nat × Nat × OO) : Nat × Nat × OO := (p.1, p.2.1, p.2.2.sub ρ)
def LO.sub (ρ : List (Nat × V)) : LO → LO
 | .move zx => .move (zx.sub ρ)
 | .pick zc za zb => .pick (zc.sub ρ) (za.sub ρ) (zb.sub ρ)
 | .int zop zk zx zy => .int zop zk (zx.sub ρ) (zy.sub ρ)
 | .div zop zk zx zy => .div zop zk (zx.sub ρ) (zy.sub ρ)
 | .sh zop zk zx zy => .sh zop zk (zx.sub ρ) (zy.sub ρ)
 | .str zop zx zy => .str zop (zx.sub ρ) (zy.sub ρ)
 | .beq zneg zx zy => .beq zneg (zx.sub ρ) (zy.sub ρ)
 | .nil zneg zd zx zy => .nil zneg zd (zx.sub ρ) (zy.sub ρ)
 | .not zx => .not (zx.sub ρ)
 | .neg zx => .neg (zx.sub ρ)
 | .cQ zk zx => .cQ zk (zx.sub ρ)
 | .fn zf za zb => .fn zf (za.map (OO.sub ρ)) (zb.map (OO.sub ρ))
 | .Vr zoff zx => .Vr zoff (zx.sub ρ)
 | .idx zes zx zy => .idx zes (zx.sub ρ) (zy.sub ρ)
 | .byte zx zy => .byte (zx.sub ρ) (zy.sub ρ)
 | .ext zi zx => .ext zi (zx.sub ρ)
 | .yW zx => .yW (zx.sub ρ)
 | .sl zes zx zlo zhi zmx => .sl zes (zx.sub ρ) (zlo.map (OO.sub ρ)) (zhi.map (OO.sub ρ)) (zmx.map (OO.sub ρ))
 | .Mx zx zlo zhi => .Mx (zx.sub ρ) (zlo.map (OO.sub ρ)) (zhi.map (OO.sub ρ))
 | .pe zx => .pe (zx.sub ρ)
 | .vH zx => .vH (zx.sub ρ)
 | .build zz zps => .build zz (zps.map (JJ ρ))
 | .ld zx => .ld (zx.sub ρ)
 | .VS zn zx => .VS zn (zx.sub ρ)
 | .al zl => .al zl
 | .box zx => .box (zx.sub ρ)
 | .VA zlen zsize zz zps => .VA zlen zsize zz (zps.map (JJ ρ))
 | .st zm zx zy => .st zm (zx.sub ρ) (zy.sub ρ)
 | .ap zlim zes zx zy => .ap zlim zes (zx.sub ρ) (zy.sub ρ)
 | .call zf za => .call zf (za.map (OO.sub ρ))
 | .oy zx za => .oy (zx.sub ρ) (za.map (OO.sub ρ))
 | .stuck => .stuck
 | .Wc zes zbytes zz zx zy => .Wc zes zbytes zz (zx.sub ρ) (zy.sub ρ)
 | .VD zz zx => .VD zz (zx.sub ρ)
 | .uv zng zks zx zy => .uv zng zks (zx.sub ρ) (zy.sub ρ)
def flush (ρ : List (Nat × V)) (e : E) : E := ρ.foldr (fun p e => Ut p.1 e p.2) e
def Pr (ρ : List (Nat × V)) : Prop := ∀ p, p ∈ ρ → p.1 < 256
theorem pU {ρ : List (Nat × V)} (h : Pr ρ) (e : E) {n : Nat} (hn : n < 256) : Gt n (flush ρ e) = (yu n ρ).getD (Gt n e) := by
 induction ρ with
 | nil => rfl
 | cons p ρ ih =>
   show Gt n (Ut p.1 (flush ρ e) p.2) = _
   rw [iN n p.1 hn (h p List.mem_cons_self), ih (fun q hq => h q (List.mem_cons_of_mem _ hq))]
   by_cases hp : n = p.1
   · subst hp; simp [yu]
   · rw [if_neg hp]; simp only [yu, dx (Ne.symm hp)]
theorem Zo {e e' : E} (h : ∀ t, t < 256 → Gt t e = Gt t e') : e = e' := by
 have h1 : ∀ (x y : aq V), (∀ j, j < 16 → aq.get j x = aq.get j y) → x = y := by
  intro x y hxy
  obtain ⟨x0, x1, x2, x3, x4, x5, x6, x7, x8, x9, x10, x11, x12, x13, x14, x15⟩ := x
  obtain ⟨y0, y1, y2, y3, y4, y5, y6, y7, y8, y9, y10, y11, y12, y13, y14, y15⟩ := y
  have p := fun j hj => hxy j hj
  have p0 := p 0 (by omega); have p1 := p 1 (by omega); have p2 := p 2 (by omega); have p3 := p 3 (by omega); have p4 := p 4 (by omega); have p5 := p 5 (by omega); have p6 := p 6 (by omega); have p7 := p 7 (by omega)
  have p8 := p 8 (by omega); have p9 := p 9 (by omega); have p10 := p 10 (by omega); have p11 := p 11 (by omega); have p12 := p 12 (by omega); have p13 := p 13 (by omega); have p14 := p 14 (by omega); have p15 := p 15 (by omega)
  simp only [aq.get] at p0 p1 p2 p3 p4 p5 p6 p7 p8 p9 p10 p11 p12 p13 p14 p15
  subst p0 p1 p2 p3 p4 p5 p6 p7 p8 p9 p10 p11 p12 p13 p14 p15
  rfl
 have h2 : ∀ (x y : E), (∀ i, i < 16 → aq.get i x = aq.get i y) → x = y := by
  intro x y hxy
  obtain ⟨x0, x1, x2, x3, x4, x5, x6, x7, x8, x9, x10, x11, x12, x13, x14, x15⟩ := x
  obtain ⟨y0, y1, y2, y3, y4, y5, y6, y7, y8, y9, y10, y11, y12, y13, y14, y15⟩ := y
  have p := fun j hj => hxy j hj
  have p0 := p 0 (by omega); have p1 := p 1 (by omega); have p2 := p 2 (by omega); have p3 := p 3 (by omega); have p4 := p 4 (by omega); have p5 := p 5 (by omega); have p6 := p 6 (by omega); have p7 := p 7 (by omega)
  have p8 := p 8 (by omega); have p9 := p 9 (by omega); have p10 := p 10 (by omega); have p11 := p 11 (by omega); have p12 := p 12 (by omega); have p13 := p 13 (by omega); have p14 := p 14 (by omega); have p15 := p 15 (by omega)
  simp only [aq.get] at p0 p1 p2 p3 p4 p5 p6 p7 p8 p9 p10 p11 p12 p13 p14 p15
  subst p0 p1 p2 p3 p4 p5 p6 p7 p8 p9 p10 p11 p12 p13 p14 p15
  rfl
 refine h2 e e' fun i hi => h1 _ _ fun j hj => ?_
 have := h (16 * i + j) (by omega)
 unfold Gt at this
 rwa [show (16 * i + j) % 16 = j by omega, show (16 * i + j) / 16 = i by omega] at this
def OO.sl : OO → List Nat | .t n => [n] | .c _ => []
def NW : Option OO → List Nat | none => [] | some x => x.sl
def Nk (l : List (Nat × Nat × OO)) : List Nat := l.flatMap fun p => p.2.2.sl
def yV (l : List OO) : List Nat := l.flatMap OO.sl
def slots : LO → List Nat
 | .move x | .not x | .neg x | .cQ _ x | .Vr _ x | .ext _ x | .yW x | .pe x | .vH x | .ld x | .VS _ x | .box x => x.sl
 | .pick c a b => c.sl ++ a.sl ++ b.sl
 | .int _ _ x y | .div _ _ x y | .sh _ _ x y | .str _ x y | .beq _ x y | .nil _ _ x y | .idx _ x y | .byte x y | .st _ x y | .ap _ _ x y => x.sl ++ y.sl
 | .fn _ a b => yV a ++ yV b
 | .sl _ x lo hi mx => x.sl ++ NW lo ++ NW hi ++ NW mx
 | .Mx x lo hi => x.sl ++ NW lo ++ NW hi
 | .build _ ps | .VA _ _ _ ps => Nk ps
 | .al _ => []
 | .call _ a => yV a
 | .oy x a => x.sl ++ yV a
 | .stuck => []
 | .Wc _ _ _ x y => x.sl ++ y.sl
 | .VD _ x => x.sl
 | .uv _ _ x y => x.sl ++ y.sl
def OD.ew (e e' : E) : OD → OD → Prop
 | .p f, .p g => f e = g e'
 | .d f, .d g => ∀ s, f e s = g e' s
 | .a f, .a g => ∀ n, f e n = g e' n
 | .e f, .e g => ∀ k s, f k e s = g k e' s
 | _, _ => False
section
variable {ρ : List (Nat × V)} (hρ : Pr ρ) (e : E)
include hρ
theorem kE {x : OO} (hx : ∀ n, n ∈ x.sl → n < 256) : (x.sub ρ).den e = x.den (flush ρ e) := by
 cases x with
 | c v => rfl
 | t n =>
   have hn := hx n (by simp [OO.sl])
   show _ = Gt n (flush ρ e)
   rw [pU hρ e hn]
   show OO.den (match yu n ρ with | some v => .c v | none => .t n) e = _
   cases yu n ρ <;> rfl
theorem TE : ∀ {l : List OO}, (∀ n, n ∈ yV l → n < 256) → oQ ((l.map (OO.sub ρ)).map OO.den) e = oQ (l.map OO.den) (flush ρ e)
 | [], _ => rfl
 | x :: l, h => by
   simp only [List.map_cons, oQ]
   rw [kE hρ e (fun t ht => h t (by simp [yV, ht])), TE (fun t ht => h t (by simp only [yV, List.flatMap_cons, List.mem_append]; exact .inr ht))]
theorem O3 : ∀ {l : List (Nat × Nat × OO)}, (∀ n, n ∈ Nk l → n < 256) → qy ((l.map (JJ ρ)).map eu) e = qy (l.map eu) (flush ρ e)
 | [], _ => rfl
 | (a, b, x) :: l, h => by
   simp only [List.map_cons, JJ, eu, qy]
   rw [kE hρ e (fun t ht => h t (by simp [Nk, ht])), O3 (fun t ht => h t (by simp only [Nk, List.flatMap_cons, List.mem_append]; exact .inr ht))]
theorem Zs {x : Option OO} (h : ∀ n, n ∈ NW x → n < 256) : lY ((x.map (OO.sub ρ)).map OO.den) e = lY (x.map OO.den) (flush ρ e) := by
 cases x with
 | none => rfl
 | some x => simp only [Option.map_some, lY]; rw [kE hρ e h]
theorem Xq {fok : T Bool} {l : LO} {od : OD} (hd : de fok l = some od) (h : ∀ n, n ∈ slots l → n < 256) : ∃ od', de fok (l.sub ρ) = some od' ∧ OD.ew e (flush ρ e) od' od := by
 have s1 : ∀ {x : OO} (hx : ∀ t, t ∈ x.sl → t ∈ slots l := by simp +contextual [slots]), (x.sub ρ).den e = x.den (flush ρ e) := fun hx => kE hρ e fun t ht => h t (hx t ht)
 have s2 : ∀ {x : List OO} (hx : ∀ t, t ∈ yV x → t ∈ slots l := by simp +contextual [slots]), oQ ((x.map (OO.sub ρ)).map OO.den) e = oQ (x.map OO.den) (flush ρ e) := fun hx => TE hρ e fun t ht => h t (hx t ht)
 have s3 : ∀ {x : List (Nat × Nat × OO)} (hx : ∀ t, t ∈ Nk x → t ∈ slots l := by simp +contextual [slots]), qy ((x.map (JJ ρ)).map eu) e = qy (x.map eu) (flush ρ e) := fun hx => O3 hρ e fun t ht => h t (hx t ht)
 have s4 : ∀ {x : Option OO} (hx : ∀ t, t ∈ NW x → t ∈ slots l := by simp +contextual [slots]), lY ((x.map (OO.sub ρ)).map OO.den) e = lY (x.map OO.den) (flush ρ e) := fun hx => Zs hρ e fun t ht => h t (hx t ht)
 cases l <;> simp only [de] at hd
 case move x => cases hd; refine ⟨_, rfl, ?_⟩; simp only [OD.ew, aD]; rw [s1]
 case pick c a b => cases hd; refine ⟨_, rfl, ?_⟩; simp only [OD.ew, aN]; rw [s1 (x := c), s1 (x := a), s1 (x := b)]
 case int op k x y => split at hd <;> cases hd; rename_i hq; refine ⟨_, by simp only [LO.sub, de, hq]; rfl, ?_⟩; simp only [OD.ew, aj]; rw [s1 (x := x), s1 (x := y)]
 case div op k x y => split at hd <;> cases hd; rename_i hq; refine ⟨_, by simp only [LO.sub, de, hq]; rfl, ?_⟩; simp only [OD.ew, aj]; rw [s1 (x := x), s1 (x := y)]
 case sh op k x y => cases hd; refine ⟨_, rfl, ?_⟩; simp only [OD.ew, aj]; rw [s1 (x := x), s1 (x := y)]
 case str op x y => split at hd <;> cases hd; rename_i hq; refine ⟨_, by simp only [LO.sub, de, hq]; rfl, ?_⟩; simp only [OD.ew, aj]; rw [s1 (x := x), s1 (x := y)]
 case beq ng x y => cases hd; refine ⟨_, rfl, ?_⟩; simp only [OD.ew, aj]; rw [s1 (x := x), s1 (x := y)]
 case nil ng d x y => split at hd <;> cases hd; rename_i hq; refine ⟨_, by simp only [LO.sub, de, hq]; rfl, ?_⟩; simp only [OD.ew, aj]; rw [s1 (x := x), s1 (x := y)]
 case not x => cases hd; refine ⟨_, rfl, ?_⟩; simp only [OD.ew, aA]; rw [s1]
 case neg x => cases hd; refine ⟨_, rfl, ?_⟩; simp only [OD.ew, aA]; rw [s1]
 case cQ k x => cases hd; refine ⟨_, rfl, ?_⟩; simp only [OD.ew, aA]; rw [s1]
 case fn f a b => cases hd; refine ⟨_, rfl, ?_⟩; simp only [OD.ew, uq]; rw [s2 (x := a), s2 (x := b)]
 case Vr off x => cases hd; refine ⟨_, rfl, ?_⟩; simp only [OD.ew, aA]; rw [s1]
 case idx es x y => cases hd; refine ⟨_, rfl, ?_⟩; simp only [OD.ew, aj]; rw [s1 (x := x), s1 (x := y)]
 case byte x y => cases hd; refine ⟨_, rfl, ?_⟩; simp only [OD.ew, aj]; rw [s1 (x := x), s1 (x := y)]
 case ext i x => cases hd; refine ⟨_, rfl, ?_⟩; simp only [OD.ew, aA]; rw [s1]
 case yW x => cases hd; refine ⟨_, rfl, ?_⟩; simp only [OD.ew, aA]; rw [s1]
 case sl es x lo hi mx => cases hd; refine ⟨_, rfl, ?_⟩; simp only [OD.ew, yC]; rw [s1 (x := x), s4 (x := lo), s4 (x := hi), s4 (x := mx)]
 case Mx x lo hi => cases hd; refine ⟨_, rfl, ?_⟩; simp only [OD.ew, mV]; rw [s1 (x := x), s4 (x := lo), s4 (x := hi)]
 case pe x => cases hd; refine ⟨_, rfl, ?_⟩; simp only [OD.ew, aA]; rw [s1]
 case vH x => cases hd; refine ⟨_, rfl, ?_⟩; simp only [OD.ew, aA]; rw [s1]
 case build z ps => cases hd; refine ⟨_, rfl, ?_⟩; simp only [OD.ew, bF]; rw [s3]
 case ld x => cases hd; refine ⟨_, rfl, ?_⟩; intro s; simp only [aO]; rw [s1]
 case VS n x => cases hd; refine ⟨_, rfl, ?_⟩; intro s; simp only [di]; rw [s1]
 case al l => cases hd; refine ⟨_, rfl, ?_⟩; intro n; rfl
 case box x => cases hd; refine ⟨_, rfl, ?_⟩; intro n; simp only [jZ]; rw [s1]
 case VA len size z ps => cases hd; refine ⟨_, rfl, ?_⟩; intro n; simp only [cG]; rw [s3]
 case st m x y => cases hd; refine ⟨_, rfl, ?_⟩; intro k s; simp only [dW]; rw [s1 (x := x), s1 (x := y)]
 case ap lim es x y => cases hd; refine ⟨_, rfl, ?_⟩; intro k s; simp only [VB]; rw [s1 (x := x), s1 (x := y)]
 case call f a => cases hd; refine ⟨_, rfl, ?_⟩; intro k s; simp only [ak]; rw [s2]
 case oy x a => cases hd; refine ⟨_, rfl, ?_⟩; intro k s; simp only [fQ]; rw [s1 (x := x), s2 (x := a)]
 case stuck => cases hd; refine ⟨_, rfl, ?_⟩; rfl
 case Wc es bytes z x y => cases hd; refine ⟨_, rfl, ?_⟩; intro n; simp only [r9]; rw [s1 (x := x), s1 (x := y)]
 case VD z x => cases hd; refine ⟨_, rfl, ?_⟩; intro k s; simp only [rW]; rw [s1]
 case uv ng ks x y => cases hd; refine ⟨_, rfl, ?_⟩; simp only [OD.ew, aj]; rw [s1 (x := x), s1 (x := y)]
end
structure FI where
 lo : LO
 dst : Option Nat
 g : Option (Nat × Bool)
def L_ : Option Nat → E → V → E | none => nH | some t => Ut t
def nD (d : OD) (i : FI) : Den := match i.g with | none => d.den (L_ i.dst) | some (t, want) => oG (Gt t) want (d.den (L_ i.dst)) (L_ i.dst)
def nP (d : Option Nat) (v : V) (ρ : List (Nat × V)) : List (Nat × V) := match d with | none => ρ | some t => (t, v) :: ρ.filter fun p => not (Nat.beq p.1 t)
def bP (x : Option V) (k : V → aB) : aB := Option.rec (motive := fun _ => aB) .bad k x
def bE (x : Option (V × St)) (k : V → St → aB) : aB := Option.rec (motive := fun _ => aB) .bad (fun p => k p.1 p.2) x
def dm (x : Option (V × Ob)) (s : St) : Option (V × St) := Option.rec (motive := fun _ => Option (V × St)) none (fun p => some (p.1, s.new p.2)) x
def aL (v : V) (w : Bool) (x : Option V) : Option V := match v with
 | .bool b => Bool.casesOn (motive := fun _ => Option V) (Bool.casesOn (motive := fun _ => Bool) w (not b) b) (some (.bz [])) x
 | .bz [] => some (.bz [])
 | _ => none
def iH (v : V) (w : Bool) (s : St) (x : Option (V × St)) : Option (V × St) := match v with
 | .bool b => Bool.casesOn (motive := fun _ => Option (V × St)) (Bool.casesOn (motive := fun _ => Bool) w (not b) b) (some (.bz [], s)) x
 | .bz [] => some (.bz [], s)
 | _ => none
def gP (g : Option (Nat × Bool)) (ρ : List (Nat × V)) (e : E) (x : Option V) : Option V := match g with | none => x | some (t, w) => aL ((OO.sub ρ (.t t)).den e) w x
def gW (g : Option (Nat × Bool)) (ρ : List (Nat × V)) (e : E) (s : St) (x : Option (V × St)) : Option (V × St) := match g with | none => x | some (t, w) => iH ((OO.sub ρ (.t t)).den e) w s x
def mF (fok : T Bool) : List FI → List (Nat × V) → Den
 | [], ρ, _, e, s => .au (flush ρ e) s
 | i :: l, ρ, k, e, s => match i.g, i.lo.sub ρ with
  | none, .move x => mF fok l (nP i.dst (x.den e) ρ) k e s
  | _, lo => match de fok lo with
   | some (.p f) => bP (gP i.g ρ e (f e)) fun v => mF fok l (nP i.dst v ρ) k e s
   | some (.d f) => bP (gP i.g ρ e (f e s)) fun v => mF fok l (nP i.dst v ρ) k e s
   | some (.a f) => bE (gW i.g ρ e s (dm (f e s.next) s)) fun v s => mF fok l (nP i.dst v ρ) k e s
   | some (.e f) => bE (gW i.g ρ e s (f k e s)) fun v s => mF fok l (nP i.dst v ρ) k e s
   | none => .bad
def FI.ok (i : FI) : Bool := (slots i.lo).all (Nat.blt · 256) && (match i.g with | some (t, _) => Nat.blt t 256 | none => true) && (match i.dst with | some t => Nat.blt t 256 | none => true)
theorem lB {n t : Nat} (h : n ≠ t) : ∀ (ρ : List (Nat × V)), yu n (ρ.filter fun p => not (Nat.beq p.1 t)) = yu n ρ
 | [] => rfl
 | p :: ρ => by
   rw [List.filter_cons]
   by_cases hp : p.1 = t
   · have h1 : Nat.beq p.1 t = true := by rw [hp]; simp
     have h2 : Nat.beq p.1 n = false := dx (by omega)
     rw [h1]; simp only [Bool.not_true, Bool.false_eq_true, if_false, yu, h2]
     exact lB h ρ
   · have h1 : Nat.beq p.1 t = false := dx hp
     rw [h1]; simp only [Bool.not_false, if_true, yu]
     rw [lB h ρ]
theorem wV {ρ : List (Nat × V)} (h : Pr ρ) {d : Option Nat} (hd : ∀ t, d = some t → t < 256) (v : V) : Pr (nP d v ρ) := by
 cases d with
 | none => exact h
 | some t =>
   intro p hp
   rcases List.mem_cons.1 hp with rfl | hp
   · exact hd t rfl
   · exact h p (List.mem_filter.1 hp).1
theorem yz {ρ : List (Nat × V)} (h : Pr ρ) {d : Option Nat} (hd : ∀ t, d = some t → t < 256) (v : V) (e : E) : flush (nP d v ρ) e = L_ d (flush ρ e) v := by
 cases d with
 | none => rfl
 | some t =>
   have ht := hd t rfl
   have ho := wV h hd v
   refine Zo fun n hn => ?_
   rw [pU ho e hn]
   show _ = Gt n (Ut t (flush ρ e) v)
   rw [iN n t hn ht, pU h e hn]
   by_cases hnt : n = t
   · subst hnt; simp [nP, yu]
   · rw [if_neg hnt]
     simp only [nP, yu, dx (Ne.symm hnt)]
     rw [lB hnt]
def gV (g : Option (Nat × Bool)) (e : E) (x : Option V) : Option V := match g with | none => x | some (t, w) => aL (Gt t e) w x
def ZX (g : Option (Nat × Bool)) (e : E) (s : St) (x : Option (V × St)) : Option (V × St) := match g with | none => x | some (t, w) => iH (Gt t e) w s x
theorem Yi {g : Option (Nat × Bool)} {ρ : List (Nat × V)} (h : Pr ρ) (e : E) (hg : ∀ t w, g = some (t, w) → t < 256) (x : Option V) : gP g ρ e x = gV g (flush ρ e) x := by
 cases g with
 | none => rfl
 | some p =>
   obtain ⟨t, w⟩ := p
   simp only [gP, gV]
   rw [kE h e (x := .t t) (fun n hn => by simp [OO.sl] at hn; rw [hn]; exact hg t w rfl)]
   rfl
theorem aa3 {g : Option (Nat × Bool)} {ρ : List (Nat × V)} (h : Pr ρ) (e : E) (s : St) (hg : ∀ t w, g = some (t, w) → t < 256) (x : Option (V × St)) : gW g ρ e s x = ZX g (flush ρ e) s x := by
 cases g with
 | none => rfl
 | some p =>
   obtain ⟨t, w⟩ := p
   simp only [gW, ZX]
   rw [kE h e (x := .t t) (fun n hn => by simp [OO.sl] at hn; rw [hn]; exact hg t w rfl)]
   rfl
theorem VZ {g : Option (Nat × Bool)} {u : E → V → E} {d : Den} {k : KC} {e : E} {s : St} {x : Option V} (hx : d k e s = match x with | some v => .au (u e v) s | none => .bad) :
 (match g with | none => d | some (t, want) => oG (Gt t) want d u) k e s = match gV g e x with | some v => .au (u e v) s | none => .bad := by
 cases g with
 | none => exact hx
 | some p =>
   obtain ⟨t, w⟩ := p
   simp only [oG, gV, aL]
   generalize Gt t e = q
   cases q with
   | bool b => cases b <;> cases w <;> first | exact hx | rfl
   | bz l => cases l <;> rfl
   | _ => rfl
theorem VL {g : Option (Nat × Bool)} {u : E → V → E} {d : Den} {k : KC} {e : E} {s : St} {x : Option (V × St)} (hx : d k e s = match x with | some (v, s') => .au (u e v) s' | none => .bad) :
 (match g with | none => d | some (t, want) => oG (Gt t) want d u) k e s = match ZX g e s x with | some (v, s') => .au (u e v) s' | none => .bad := by
 cases g with
 | none => exact hx
 | some p =>
   obtain ⟨t, w⟩ := p
   simp only [oG, ZX, iH]
   generalize Gt t e = q
   cases q with
   | bool b => cases b <;> cases w <;> first | exact hx | rfl
   | bz l => cases l <;> rfl
   | _ => rfl
theorem sI {fok : T Bool} (k : KC) (e : E) : ∀ (l : List FI) (ds : List OD) (ρ : List (Nat × V)) (s : St), l.all FI.ok = true → ds.length = l.length → (∀ (i : Nat) (x : FI), l[i]? = some x → ∃ d, ds[i]? = some d ∧ de fok x.lo = some d) → Pr ρ →
 mF fok l ρ k e s = ops (List.zipWith nD ds l) k (flush ρ e) s
 | [], [], ρ, s, _, _, _, _ => rfl
 | i :: l, d :: ds, ρ, s, hok, hlen, hd, hρ => by
   obtain ⟨d', e1, hden⟩ := hd 0 i rfl
   cases e1
   simp only [List.all_cons, Bool.and_eq_true, FI.ok] at hok
   obtain ⟨⟨⟨o1, o2⟩, o3⟩, hok⟩ := hok
   have h1 : ∀ n, n ∈ slots i.lo → n < 256 := fun n hn => by
    have := List.all_eq_true.1 o1 n hn
    rw [dn] at this; simpa using this
   have h2 : ∀ t w, i.g = some (t, w) → t < 256 := fun t w h => by rw [h] at o2; simp only [dn] at o2; simpa using o2
   have h3 : ∀ t, i.dst = some t → t < 256 := fun t h => by rw [h] at o3; simp only [dn] at o3; simpa using o3
   have hlen' : ds.length = l.length := by simpa using hlen
   have hd' : ∀ (j : Nat) (x : FI), l[j]? = some x → ∃ d, ds[j]? = some d ∧ de fok x.lo = some d := fun j x hx => by simpa using hd (j + 1) x (by simpa using hx)
   obtain ⟨od, q1, q2⟩ := Xq hρ e hden h1
   have ih : ∀ v s, mF fok l (nP i.dst v ρ) k e s = ops (List.zipWith nD ds l) k (L_ i.dst (flush ρ e) v) s := fun v s => by
    rw [sI k e l ds _ s hok hlen' hd' (wV hρ h3 v), yz hρ h3]
   have hP : ∀ (x : Option V), d.den (L_ i.dst) k (flush ρ e) s = (match x with | some v => .au (L_ i.dst (flush ρ e) v) s | none => .bad) → bP (gP i.g ρ e x) (fun v => mF fok l (nP i.dst v ρ) k e s) = ops (List.zipWith nD (d :: ds) (i :: l)) k (flush ρ e) s := by
    intro x hx
    rw [Yi hρ e h2]
    simp only [List.zipWith_cons_cons, ops, af, nD]
    rw [VZ (g := i.g) hx]
    generalize gV i.g (flush ρ e) x = y
    cases y with
    | none => rfl
    | some v => exact ih v s
   have hW : ∀ (x : Option (V × St)), d.den (L_ i.dst) k (flush ρ e) s = (match x with | some (v, s') => .au (L_ i.dst (flush ρ e) v) s' | none => .bad) → bE (gW i.g ρ e s x) (fun v s => mF fok l (nP i.dst v ρ) k e s) = ops (List.zipWith nD (d :: ds) (i :: l)) k (flush ρ e) s := by
    intro x hx
    rw [aa3 hρ e s h2]
    simp only [List.zipWith_cons_cons, ops, af, nD]
    rw [VL (g := i.g) hx]
    generalize ZX i.g (flush ρ e) s x = y
    cases y with
    | none => rfl
    | some p => exact ih p.1 p.2
   unfold mF
   split
   · rename_i x hg hlo
     rw [hlo] at q1
     cases q1
     cases d with
     | p g =>
       have hq : some (x.den e) = g (flush ρ e) := q2
       rw [ih]
       simp only [List.zipWith_cons_cons, ops, af, nD, hg, OD.den, oP, ← hq]
     | d g => exact q2.elim
     | a g => exact q2.elim
     | e g => exact q2.elim
   rw [q1]
   cases od with
   | p f =>
     cases d with
     | p g => exact hP (f e) (by rw [show f e = g (flush ρ e) from q2]; rfl)
     | d g => exact q2.elim
     | a g => exact q2.elim
     | e g => exact q2.elim
   | d f =>
     cases d with
     | d g => exact hP (f e s) (by rw [show f e s = g (flush ρ e) s from q2 s]; rfl)
     | p g => exact q2.elim
     | a g => exact q2.elim
     | e g => exact q2.elim
   | a f =>
     cases d with
     | a g => exact hW (dm (f e s.next) s) (by
         rw [show f e s.next = g (flush ρ e) s.next from q2 s.next]
         show oA g (L_ i.dst) k (flush ρ e) s = _
         unfold oA
         cases g (flush ρ e) s.next with
         | none => rfl
         | some p => rfl)
     | p g => exact q2.elim
     | d g => exact q2.elim
     | e g => exact q2.elim
   | e f =>
     cases d with
     | e g => exact hW (f k e s) (by rw [show f k e s = g k (flush ρ e) s from q2 k s]; rfl)
     | p g => exact q2.elim
     | d g => exact q2.elim
     | a g => exact q2.elim
noncomputable def gC (e : E) (k : V → V → V → V → V → V → V → V → V → V → V → V → V → V → V → V → aq V) : E := aq.rec (motive := fun _ => E) (fun x0 x1 x2 x3 x4 x5 x6 x7 x8 x9 x10 x11 x12 x13 x14 x15 => aq.rec (motive := fun _ => E) (fun y0 y1 y2 y3 y4 y5 y6 y7 y8 y9 y10 y11 y12 y13 y14 y15 => ⟨k y0 y1 y2 y3 y4 y5 y6 y7 y8 y9 y10 y11 y12 y13 y14 y15, x1, x2, x3, x4, x5, x6, x7, x8, x9, x10, x11, x12, x13, x14, x15⟩) x0) e
noncomputable def mP (e : E) (k : V → V → V → V → V → V → V → V → V → V → V → V → V → V → V → V → aq V) : E := aq.rec (motive := fun _ => E) (fun x0 x1 x2 x3 x4 x5 x6 x7 x8 x9 x10 x11 x12 x13 x14 x15 => aq.rec (motive := fun _ => E) (fun y0 y1 y2 y3 y4 y5 y6 y7 y8 y9 y10 y11 y12 y13 y14 y15 => ⟨x0, k y0 y1 y2 y3 y4 y5 y6 y7 y8 y9 y10 y11 y12 y13 y14 y15, x2, x3, x4, x5, x6, x7, x8, x9, x10, x11, x12, x13, x14, x15⟩) x1) e
noncomputable def lU (e : E) (k : V → V → V → V → V → V → V → V → V → V → V → V → V → V → V → V → aq V) : E := aq.rec (motive := fun _ => E) (fun x0 x1 x2 x3 x4 x5 x6 x7 x8 x9 x10 x11 x12 x13 x14 x15 => aq.rec (motive := fun _ => E) (fun y0 y1 y2 y3 y4 y5 y6 y7 y8 y9 y10 y11 y12 y13 y14 y15 => ⟨x0, x1, k y0 y1 y2 y3 y4 y5 y6 y7 y8 y9 y10 y11 y12 y13 y14 y15, x3, x4, x5, x6, x7, x8, x9, x10, x11, x12, x13, x14, x15⟩) x2) e
noncomputable def GR (e : E) (k : V → V → V → V → V → V → V → V → V → V → V → V → V → V → V → V → aq V) : E := aq.rec (motive := fun _ => E) (fun x0 x1 x2 x3 x4 x5 x6 x7 x8 x9 x10 x11 x12 x13 x14 x15 => aq.rec (motive := fun _ => E) (fun y0 y1 y2 y3 y4 y5 y6 y7 y8 y9 y10 y11 y12 y13 y14 y15 => ⟨x0, x1, x2, k y0 y1 y2 y3 y4 y5 y6 y7 y8 y9 y10 y11 y12 y13 y14 y15, x4, x5, x6, x7, x8, x9, x10, x11, x12, x13, x14, x15⟩) x3) e
noncomputable def WC (e : E) (k : V → V → V → V → V → V → V → V → V → V → V → V → V → V → V → V → aq V) : E := aq.rec (motive := fun _ => E) (fun x0 x1 x2 x3 x4 x5 x6 x7 x8 x9 x10 x11 x12 x13 x14 x15 => aq.rec (motive := fun _ => E) (fun y0 y1 y2 y3 y4 y5 y6 y7 y8 y9 y10 y11 y12 y13 y14 y15 => ⟨x0, x1, x2, x3, k y0 y1 y2 y3 y4 y5 y6 y7 y8 y9 y10 y11 y12 y13 y14 y15, x5, x6, x7, x8, x9, x10, x11, x12, x13, x14, x15⟩) x4) e
noncomputable def Mz (e : E) (k : V → V → V → V → V → V → V → V → V → V → V → V → V → V → V → V → aq V) : E := aq.rec (motive := fun _ => E) (fun x0 x1 x2 x3 x4 x5 x6 x7 x8 x9 x10 x11 x12 x13 x14 x15 => aq.rec (motive := fun _ => E) (fun y0 y1 y2 y3 y4 y5 y6 y7 y8 y9 y10 y11 y12 y13 y14 y15 => ⟨x0, x1, x2, x3, x4, k y0 y1 y2 y3 y4 y5 y6 y7 y8 y9 y10 y11 y12 y13 y14 y15, x6, x7, x8, x9, x10, x11, x12, x13, x14, x15⟩) x5) e
noncomputable def rw6 (e : E) (k : V → V → V → V → V → V → V → V → V → V → V → V → V → V → V → V → aq V) : E := aq.rec (motive := fun _ => E) (fun x0 x1 x2 x3 x4 x5 x6 x7 x8 x9 x10 x11 x12 x13 x14 x15 => aq.rec (motive := fun _ => E) (fun y0 y1 y2 y3 y4 y5 y6 y7 y8 y9 y10 y11 y12 y13 y14 y15 => ⟨x0, x1, x2, x3, x4, x5, k y0 y1 y2 y3 y4 y5 y6 y7 y8 y9 y10 y11 y12 y13 y14 y15, x7, x8, x9, x10, x11, x12, x13, x14, x15⟩) x6) e
noncomputable def rw7 (e : E) (k : V → V → V → V → V → V → V → V → V → V → V → V → V → V → V → V → aq V) : E := aq.rec (motive := fun _ => E) (fun x0 x1 x2 x3 x4 x5 x6 x7 x8 x9 x10 x11 x12 x13 x14 x15 => aq.rec (motive := fun _ => E) (fun y0 y1 y2 y3 y4 y5 y6 y7 y8 y9 y10 y11 y12 y13 y14 y15 => ⟨x0, x1, x2, x3, x4, x5, x6, k y0 y1 y2 y3 y4 y5 y6 y7 y8 y9 y10 y11 y12 y13 y14 y15, x8, x9, x10, x11, x12, x13, x14, x15⟩) x7) e
noncomputable def rw8 (e : E) (k : V → V → V → V → V → V → V → V → V → V → V → V → V → V → V → V → aq V) : E := aq.rec (motive := fun _ => E) (fun x0 x1 x2 x3 x4 x5 x6 x7 x8 x9 x10 x11 x12 x13 x14 x15 => aq.rec (motive := fun _ => E) (fun y0 y1 y2 y3 y4 y5 y6 y7 y8 y9 y10 y11 y12 y13 y14 y15 => ⟨x0, x1, x2, x3, x4, x5, x6, x7, k y0 y1 y2 y3 y4 y5 y6 y7 y8 y9 y10 y11 y12 y13 y14 y15, x9, x10, x11, x12, x13, x14, x15⟩) x8) e
noncomputable def rw9 (e : E) (k : V → V → V → V → V → V → V → V → V → V → V → V → V → V → V → V → aq V) : E := aq.rec (motive := fun _ => E) (fun x0 x1 x2 x3 x4 x5 x6 x7 x8 x9 x10 x11 x12 x13 x14 x15 => aq.rec (motive := fun _ => E) (fun y0 y1 y2 y3 y4 y5 y6 y7 y8 y9 y10 y11 y12 y13 y14 y15 => ⟨x0, x1, x2, x3, x4, x5, x6, x7, x8, k y0 y1 y2 y3 y4 y5 y6 y7 y8 y9 y10 y11 y12 y13 y14 y15, x10, x11, x12, x13, x14, x15⟩) x9) e
noncomputable def YG (e : E) (k : V → V → V → V → V → V → V → V → V → V → V → V → V → V → V → V → aq V) : E := aq.rec (motive := fun _ => E) (fun x0 x1 x2 x3 x4 x5 x6 x7 x8 x9 x10 x11 x12 x13 x14 x15 => aq.rec (motive := fun _ => E) (fun y0 y1 y2 y3 y4 y5 y6 y7 y8 y9 y10 y11 y12 y13 y14 y15 => ⟨x0, x1, x2, x3, x4, x5, x6, x7, x8, x9, k y0 y1 y2 y3 y4 y5 y6 y7 y8 y9 y10 y11 y12 y13 y14 y15, x11, x12, x13, x14, x15⟩) x10) e
end
end Go.Proofs.YtcgdlgbomjnnnaaLab
/- The jI: regions that draw their order; whole functions. No condition on the program. -/
namespace Go.Proofs.YtcgdlgbomjnnnaaLab
open Go
set_option linter.all false
noncomputable section
/-! ### Regions that draw their order -/
inductive DI where
 | p (f : E → Option V)
 | d (lo hi : Nat) (f : E → St → Option V)
 | a (f : E → Nat → Option (V × Ob))
 | e (f : KC → E → St → Option (V × St))
structure DT where
 g : Option (Nat × Bool)
 k : DI
 u : E → V → E
def iT (t : DT) (e : E) : Option Bool := match t.g with
 | none => some false
 | some (j, want) => match Gt j e with | .bool b => some (b != want) | .bz [] => some true | _ => none
def cA (k : KC) (t : DT) (e : E) (s : St) : Option (V × St) := match iT t e with
 | none => none
 | some true => some (.bz [], s)
 | some false => match t.k with
   | .p f => (match f e with | some v => some (v, s) | none => none)
   | .d _ _ f => (match f e s with | some v => some (v, s) | none => none)
   | .a f => (match f e s.next with | some (v, o) => some (v, s.new o) | none => none)
   | .e f => f k e s
def DI.kH : DI → Bool | .e _ => true | _ => false
def DI.Ag : DI → Bool | .a _ => true | _ => false
def cr (k : KC) : List DT → E → St → Option (List (V × E × St))
 | [], _, _ => some []
 | t :: l, e, s => match cA k t e s with
   | none => none
   | some (v, s') => match cr k l (t.u e v) s' with
     | none => none
     | some r => some ((v, t.u e v, s') :: r)
def snaps (s : St) : List DT → List (V × E × St) → List St
 | t :: l, (_, _, s') :: r => if t.k.kH then s :: snaps s' l r else snaps s l r
 | _, _ => [s]
def qB (sn : List St) (t : DT) (e : E) (v : V) : Bool := match t.k with
 | .d lo hi f => ((sn.drop lo).take (hi + 1 - lo)).all fun s => match iT t e with | some false => (match f e s with | some v' => dI 100 v' v | none => false) | _ => true
 | _ => true
def gZ (sn : List St) : List DT → E → List (V × E × St) → Bool
 | t :: l, e, (v, e', _) :: r => Bool.casesOn (motive := fun _ => Bool) (qB sn t e v) false (gZ sn l e' r)
 | _, _, _ => true
def gy (e : E) (s : St) : List (V × E × St) → aB | [] => .au e s | (_, e', s') :: r => gy e' s' r
def gT (l : List DT) : Den := fun k e s => match cr k l e s with
 | none => .bad
 | some r => Bool.casesOn (motive := fun _ => aB) (gZ (snaps s l r) l e r) .bad (gy e s r)
def OD.kH : OD → Bool | .e _ => true | _ => false
def OD.Ag : OD → Bool | .a _ => true | _ => false
def aR (p : Nat → Bool) : Nat → Nat | 0 => 0 | n + 1 => aR p n + (if p n then 1 else 0)
def bu (ds : List OD) (i : Nat) : Bool := match ds[i]? with | some d => d.kH | none => false
def cF (ds : List OD) (i : Nat) : Bool := match ds[i]? with | some d => d.Ag | none => false
def bq (os : Array Oper) (i j : Nat) : Bool := ((Region.before os).getD j 0).testBit i
def mY (ds : List OD) (ord : Nat → Nat → Bool) (i : Nat) : Bool := ds.all (fun d => !d.Ag) && (List.range ds.length).all fun j => !bu ds j || ord j i || ord i j
def fS (ds : List OD) (ord : Nat → Nat → Bool) (i : Nat) (d : OD) (u : E → V → E) (g : Option (Nat × Bool)) : DT :=
 let lo := aR (fun j => bu ds j && ord j i) ds.length
 let hi := aR (fun j => bu ds j && !ord i j) ds.length
 ⟨g, (match d with | .p f => .p f | .a f => .a f | .e f => .e f | .d f => .d (if mY ds ord i then 1 else lo) (if mY ds ord i then 0 else hi) f), u⟩
def eZ (ds : List OD) (ord : Nat → Nat → Bool) : Nat → List OD → List (E → V → E) → List (Option (Nat × Bool)) → List DT
 | i, d :: l, u :: us, g :: gs => fS ds ord i d u g :: eZ ds ord (i + 1) l us gs
 | _, _, _, _ => []
def okE (os : Array Oper) (ds : List OD) : Bool :=
 (List.range ds.length).all fun j => (List.range j).all fun i => !((bu ds j && (bu ds i || cF ds i)) || (bu ds i && cF ds j)) || bq os i j
/-! ### Regions that draw their order, whose new blocks come beside those that do more: numbers kept from the start -/
inductive RI where
 | p (f : E → Option V)
 | d (lo hi : Nat) (f : E → St → Option V)
 | a (f : E → Nat → Option (V × Ob))
 | e (bef : List Nat) (f : KC → E → St → Option (V × St))
structure nX where
 g : Option (Nat × Bool)
 k : RI
 u : E → V → E
structure PA where
 i : Nat
 id : Nat
 ob : Ob
structure dK where
 v : V
 e : E
 s : St
 ps : List PA
 id : Nat
def rI (bef : List Nat) : List PA → St → St
 | [], s => s
 | a :: l, s => Bool.casesOn (motive := fun _ => St) (jG a.i bef) (rI bef l s) (rI bef l (s.put a.id a.ob))
def jY (bef : List Nat) : List PA → List PA
 | [] => []
 | a :: l => Bool.casesOn (motive := fun _ => List PA) (jG a.i bef) (a :: jY bef l) (jY bef l)
def t_ : List PA → St → St
 | [], s => s
 | a :: l, s => t_ l (s.put a.id a.ob)
def jS (g : Option (Nat × Bool)) (e : E) : Option Bool := match g with
 | none => some false
 | some (j, want) => match Gt j e with | .bool b => some (b != want) | .bz [] => some true | _ => none
def RI.Ag : RI → Bool | .a _ => true | _ => false
def idR (k : RI) (id : Nat) : Nat := Bool.casesOn (motive := fun _ => Nat) k.Ag id (Nat.succ id)
def dU (k : KC) (i : Nat) (t : nX) (x : dK) : Option dK := match jS t.g x.e with
 | none => none
 | some true => some ⟨.bz [], t.u x.e (.bz []), x.s, x.ps, idR t.k x.id⟩
 | some false => match t.k with
   | .p f => (match f x.e with | some v => some ⟨v, t.u x.e v, x.s, x.ps, x.id⟩ | none => none)
   | .d _ _ f => (match f x.e x.s with | some v => some ⟨v, t.u x.e v, x.s, x.ps, x.id⟩ | none => none)
   | .a f => (match f x.e x.id with | some (v, ob) => some ⟨v, t.u x.e v, x.s, x.ps ++ [⟨i, x.id, ob⟩], Nat.succ x.id⟩ | none => none)
   | .e bef f => (match f k x.e (rI bef x.ps x.s) with | some (v, s) => some ⟨v, t.u x.e v, s, jY bef x.ps, x.id⟩ | none => none)
def uJ (k : KC) : List nX → Nat → dK → Option (List dK)
 | [], _, _ => some []
 | t :: l, i, x => match dU k i t x with
   | none => none
   | some y => match uJ k l (Nat.succ i) y with
     | none => none
     | some r => some (y :: r)
def kT (x : dK) : List dK → dK | [] => x | y :: r => kT y r
def RI.kH : RI → Bool | .e _ _ => true | _ => false
def qA (s : St) : List nX → List dK → List St
 | t :: l, y :: r => Bool.casesOn (motive := fun _ => List St) t.k.kH (qA y.s l r) (s :: qA y.s l r)
 | _, _ => [s]
def tF (sn : List St) (t : nX) (e : E) (v : V) : Bool := match t.k with
 | .d lo hi f => ((sn.drop lo).take (hi + 1 - lo)).all fun s => match jS t.g e with | some false => (match f e s with | some v' => dI 100 v' v | none => false) | _ => true
 | _ => true
def fG (sn : List St) : List nX → dK → List dK → Bool
 | t :: l, x, y :: r => Bool.casesOn (motive := fun _ => Bool) (tF sn t x.e y.v) false (fG sn l y r)
 | _, _, _ => true
def fK : Nat → St → St
 | 0, s => s
 | n + 1, s => fK n (s.new .dead)
def yF (x : dK) : aB := .au x.e (t_ x.ps x.s)
def jt (n : Nat) (l : List nX) : Den := fun k e s => match uJ k l 0 ⟨.undef, e, fK n s, [], s.next⟩ with
 | none => .bad
 | some r => Bool.casesOn (motive := fun _ => aB) (fG (qA (fK n s) l r) l ⟨.undef, e, fK n s, [], s.next⟩ r) .bad (yF (kT ⟨.undef, e, fK n s, [], s.next⟩ r))
def sR (ds : List OD) (ord : Nat → Nat → Bool) (i : Nat) : Bool := (List.range ds.length).all fun j => !bu ds j || ord j i || ord i j
def js (ds : List OD) (ord : Nat → Nat → Bool) (i : Nat) (d : OD) (u : E → V → E) (g : Option (Nat × Bool)) : nX :=
 ⟨g, (match d with | .p f => .p f | .d f => .d (if sR ds ord i then 1 else aR (fun j => bu ds j && ord j i) ds.length) (if sR ds ord i then 0 else aR (fun j => bu ds j && !ord i j) ds.length) f | .a f => .a f | .e f => .e ((List.range ds.length).filter fun a => cF ds a && ord a i) f), u⟩
def fc (ds : List OD) (ord : Nat → Nat → Bool) : Nat → List OD → List (E → V → E) → List (Option (Nat × Bool)) → List nX
 | i, d :: l, u :: us, g :: gs => js ds ord i d u g :: fc ds ord (i + 1) l us gs
 | _, _, _, _ => []
def ON (ds : List OD) (ord : Nat → Nat → Bool) : Bool :=
 (List.range ds.length).all fun j => (List.range ds.length).all fun i => !bu ds j || !(Nat.blt i j && bu ds i) || ord i j || ord j i
def jJ (os : Array Oper) (sl : List (List Nat)) : Bool :=
 (List.range os.size).all fun j => match os[j]? with
  | none => true
  | some oj =>
    oj.after.all (fun e => !Region.binds .any e || decide (e.on < j)) &&
    (List.range j).all fun i => match os[i]? with
     | none => true
     | some oi => oj.after.any (fun e => Region.binds .any e && e.on == i) ||
       ((match oi.dst with | some d => !((sl[j]?).getD []).contains d && oj.dst != some d | none => true) && (match oj.dst with | some d => !((sl[i]?).getD []).contains d | none => true))
def slG (g : Option (Nat × Bool)) : List Nat := match g with | some (t, _) => [t] | none => []
def iE (os : Array Oper) (o : Oper) : Option (Option (Nat × Bool)) := match o.guard with
 | none => some none
 | some (j, want) => match (os[j]?).bind (·.dst) with | some t => if t < 256 then some (some (t, want)) else none | none => none
def nj (tt : TT) (gl : List Nat) (fok : T Bool) : List Oper → Option (List OD)
 | [] => some []
 | o :: l => match de fok (jV tt gl fok o), nj tt gl fok l with | some d, some r => some (d :: r) | _, _ => none
def rJ (nt : Nat) : List Oper → Option (List (E → V → E))
 | [] => some []
 | o :: l => match Iq nt o.dst, rJ nt l with | some u, some r => some (u :: r) | _, _ => none
def qK (os : Array Oper) : List Oper → Option (List (Option (Nat × Bool)))
 | [] => some []
 | o :: l => match iE os o, qK os l with | some g, some r => some (g :: r) | _, _ => none
def seqItems : List OD → List (E → V → E) → List (Option (Nat × Bool)) → List Den
 | d :: ds, u :: us, g :: gs => (match g with | none => d.den u | some (t, want) => oG (Gt t) want (d.den u) u) :: seqItems ds us gs
 | _, _, _ => []
def qh (tt : TT) (gl : List Nat) (fok : T Bool) : List Oper → List (Option (Nat × Bool)) → List (List Nat)
 | o :: l, g :: gs => (slots (jV tt gl fok o) ++ slG g) :: qh tt gl fok l gs
 | _, _ => []
def uD (ds : List OD) (ord : Nat → Nat → Bool) : Bool := (List.range ds.length).all fun i => match ds[i]? with | some (.d _) => mY ds ord i | _ => true
def iR (tt : TT) (gl : List Nat) (fok : T Bool) : List Oper → List (Option (Nat × Bool)) → List FI
 | o :: l, g :: gs => ⟨jV tt gl fok o, o.dst, g⟩ :: iR tt gl fok l gs
 | _, _ => []
def w_ (ord : Nat → Nat → Bool) (eo : Bool) (ds : List OD) (us : List (E → V → E)) (gs : List (Option (Nat × Bool))) (fi : Option Den) : Option Den :=
 if eo then (match fi with | some d => some d | none => some (gT (eZ ds ord 0 ds us gs)))
 else if ON ds ord then some (jt (aR (cF ds) ds.length) (fc ds ord 0 ds us gs)) else none
def i_ (tt : TT) (gl : List Nat) (fok : T Bool) (nt : Nat) (os : Array Oper) (draw : Bool) : Option Den :=
 match nj tt gl fok os.toList, rJ nt os.toList, qK os os.toList with
 | some ds, some us, some gs => if draw then (if jJ os (qh tt gl fok os.toList gs) && (qh tt gl fok os.toList gs).all (·.all (Nat.blt · 256)) then w_ (bq os) (okE os ds) ds us gs (if uD ds (bq os) && (iR tt gl fok os.toList gs).all FI.ok then some (mF fok (iR tt gl fok os.toList gs) []) else none) else none) else (if (iR tt gl fok os.toList gs).all FI.ok then some (mF fok (iR tt gl fok os.toList gs) []) else some (ops (seqItems ds us gs)))
 | _, _, _ => none
def I0 : Den := fun _ _ _ => .bad
def m5 (tt : TT) (gl : List Nat) (fok : T Bool) (nt : Nat) : Code → Option Den
 | .skip => some ay
 | .region _ os draw => some ((i_ tt gl fok nt os draw).getD I0)
 | .seq a b => match m5 tt gl fok nt a, m5 tt gl fok nt b with | some a, some b => some (af a b) | _, _ => none
 | .cond c a b => match eT gl c, m5 tt gl fok nt a, m5 tt gl fok nt b with | some g, some a, some b => some (av g a b) | _, _, _ => some I0
 | .block id a => (m5 tt gl fok nt a).map (aG id)
 | .loop a => (m5 tt gl fok nt a).map cB
 | .scope a => m5 tt gl fok nt a
 | .label _ => some ay
 | .exit id => some (bW id)
 | .ret => some aU
 | _ => some I0
def xI (tt : TT) (gl : List Nat) (fok : T Bool) (nt : Nat) (c : Code) : Option Den := m5 tt gl fok nt c
def aJ (tt : TT) (gl : List Nat) (fok : T Bool) (fn : Func) : Option aY :=
 match fn.body with
 | some c => (match xI tt gl fok fn.ntmps c, qu tt fn.results.toList with
   | some b, some gs => if fn.params.size + fn.nfree ≤ 256 ∧ fn.params.size + fn.nfree ≤ fn.ntmps then some ⟨kZ 0 (fn.params.size + fn.nfree), b, aM gs⟩ else none
   | _, _ => none)
 | none => none
end
end Go.Proofs.YtcgdlgbomjnnnaaLab
/- The jI: a region in the text's order, told step by step; what operations hang on. No condition on the program. -/
namespace Go.Proofs.YtcgdlgbomjnnnaaLab
open Go
set_option linter.all false
noncomputable section
def Wm {α : Type} (f : Nat → α) : aq α := ⟨f 0, f 1, f 2, f 3, f 4, f 5, f 6, f 7, f 8, f 9, f 10, f 11, f 12, f 13, f 14, f 15⟩
theorem uL {α : Type} (f : Nat → α) : ∀ i, i < 16 → aq.get i (Wm f) = f i := by
 intro i hi
 match i, hi with
 | 0, _ | 1, _ | 2, _ | 3, _ | 4, _ | 5, _ | 6, _ | 7, _ | 8, _ | 9, _ | 10, _ | 11, _ | 12, _ | 13, _ | 14, _ | 15, _ => rfl
 | _ + 16, h => exact absurd h (by omega)
def l8 (γ : Nat → V) : E := Wm fun i => Wm fun j => γ (16 * i + j)
theorem gR (γ : Nat → V) (t : Nat) (h : t < 256) : Gt t (l8 γ) = γ t := by
 unfold Gt l8
 rw [uL _ _ (by omega), uL _ _ (by omega)]
 congr 1; omega
theorem OO.same {x : OO} {e e' : E} (h : ∀ t, t ∈ x.sl → Gt t e = Gt t e') : x.den e = x.den e' := by
 cases x with
 | t n => exact h n (by simp [OO.sl])
 | c v => rfl
theorem WS {l : List OO} {e e' : E} (h : ∀ t, t ∈ yV l → Gt t e = Gt t e') : oQ (l.map OO.den) e = oQ (l.map OO.den) e' := by
 induction l with
 | nil => rfl
 | cons x l ih =>
   simp only [List.map_cons, oQ]
   rw [OO.same (fun t ht => h t (by simp [yV, ht])), ih (fun t ht => h t (by simp only [yV, List.flatMap_cons, List.mem_append]; exact .inr ht))]
theorem WD {l : List (Nat × Nat × OO)} {e e' : E} (h : ∀ t, t ∈ Nk l → Gt t e = Gt t e') : qy (l.map eu) e = qy (l.map eu) e' := by
 induction l with
 | nil => rfl
 | cons x l ih =>
   obtain ⟨a, b, x⟩ := x
   simp only [List.map_cons, eu, qy]
   rw [OO.same (fun t ht => h t (by simp [Nk, ht])), ih (fun t ht => h t (by simp only [Nk, List.flatMap_cons, List.mem_append]; exact .inr ht))]
theorem VY {x : Option OO} {e e' : E} (h : ∀ t, t ∈ NW x → Gt t e = Gt t e') : lY (x.map OO.den) e = lY (x.map OO.den) e' := by
 cases x with
 | none => rfl
 | some x => simp only [Option.map_some, lY]; rw [OO.same h]
def OD.same (e e' : E) : OD → Prop
 | .p f => f e = f e'
 | .d f => ∀ s, f e s = f e' s
 | .a f => ∀ n, f e n = f e' n
 | .e f => ∀ k s, f k e s = f k e' s
theorem F6 {fok : T Bool} {l : LO} {od : OD} (hd : de fok l = some od) {e e' : E} (h : ∀ t, t ∈ slots l → Gt t e = Gt t e') : od.same e e' := by
 have s1 : ∀ {x : OO} (hx : ∀ t, t ∈ x.sl → t ∈ slots l := by simp +contextual [slots]), x.den e = x.den e' := fun hx => OO.same fun t ht => h t (hx t ht)
 have s2 : ∀ {x : List OO} (hx : ∀ t, t ∈ yV x → t ∈ slots l := by simp +contextual [slots]), oQ (x.map OO.den) e = oQ (x.map OO.den) e' := fun hx => WS fun t ht => h t (hx t ht)
 have s3 : ∀ {x : List (Nat × Nat × OO)} (hx : ∀ t, t ∈ Nk x → t ∈ slots l := by simp +contextual [slots]), qy (x.map eu) e = qy (x.map eu) e' := fun hx => WD fun t ht => h t (hx t ht)
 have s4 : ∀ {x : Option OO} (hx : ∀ t, t ∈ NW x → t ∈ slots l := by simp +contextual [slots]), lY (x.map OO.den) e = lY (x.map OO.den) e' := fun hx => VY fun t ht => h t (hx t ht)
 cases l <;> simp only [de] at hd
 case move x => cases hd; simp only [OD.same, aD]; rw [s1]
 case pick c a b => cases hd; simp only [OD.same, aN]; rw [s1 (x := c), s1 (x := a), s1 (x := b)]
 case int op k x y => split at hd <;> cases hd; simp only [OD.same, aj]; rw [s1 (x := x), s1 (x := y)]
 case div op k x y => split at hd <;> cases hd; simp only [OD.same, aj]; rw [s1 (x := x), s1 (x := y)]
 case sh op k x y => cases hd; simp only [OD.same, aj]; rw [s1 (x := x), s1 (x := y)]
 case str op x y => split at hd <;> cases hd; simp only [OD.same, aj]; rw [s1 (x := x), s1 (x := y)]
 case beq ng x y => cases hd; simp only [OD.same, aj]; rw [s1 (x := x), s1 (x := y)]
 case nil ng d x y => split at hd <;> cases hd; simp only [OD.same, aj]; rw [s1 (x := x), s1 (x := y)]
 case not x => cases hd; simp only [OD.same, aA]; rw [s1]
 case neg x => cases hd; simp only [OD.same, aA]; rw [s1]
 case cQ k x => cases hd; simp only [OD.same, aA]; rw [s1]
 case fn f a b => cases hd; simp only [OD.same, uq]; rw [s2 (x := a), s2 (x := b)]
 case Vr off x => cases hd; simp only [OD.same, aA]; rw [s1]
 case idx es x y => cases hd; simp only [OD.same, aj]; rw [s1 (x := x), s1 (x := y)]
 case byte x y => cases hd; simp only [OD.same, aj]; rw [s1 (x := x), s1 (x := y)]
 case ext i x => cases hd; simp only [OD.same, aA]; rw [s1]
 case yW x => cases hd; simp only [OD.same, aA]; rw [s1]
 case sl es x lo hi mx => cases hd; simp only [OD.same, yC]; rw [s1 (x := x), s4 (x := lo), s4 (x := hi), s4 (x := mx)]
 case Mx x lo hi => cases hd; simp only [OD.same, mV]; rw [s1 (x := x), s4 (x := lo), s4 (x := hi)]
 case pe x => cases hd; simp only [OD.same, aA]; rw [s1]
 case vH x => cases hd; simp only [OD.same, aA]; rw [s1]
 case build z ps => cases hd; simp only [OD.same, bF]; rw [s3]
 case ld x => cases hd; intro s; simp only [aO]; rw [s1]
 case VS n x => cases hd; intro s; simp only [di]; rw [s1]
 case al l => cases hd; intro n; rfl
 case box x => cases hd; intro n; simp only [jZ]; rw [s1]
 case VA len size z ps => cases hd; intro n; simp only [cG]; rw [s3]
 case st m x y => cases hd; intro k s; simp only [dW]; rw [s1 (x := x), s1 (x := y)]
 case ap lim es x y => cases hd; intro k s; simp only [VB]; rw [s1 (x := x), s1 (x := y)]
 case call f a => cases hd; intro k s; simp only [ak]; rw [s2]
 case oy x a => cases hd; intro k s; simp only [fQ]; rw [s1 (x := x), s2 (x := a)]
 case stuck => cases hd; rfl
 case Wc es bytes z x y => cases hd; intro n; simp only [r9]; rw [s1 (x := x), s1 (x := y)]
 case VD z x => cases hd; intro k s; simp only [rW]; rw [s1]
 case uv ng ks x y => cases hd; simp only [OD.same, aj]; rw [s1 (x := x), s1 (x := y)]
def ny (e : E) (r : List (V × E × St)) : Nat → E | 0 => e | i + 1 => match r[i]? with | some (_, e', _) => e' | none => e
def d_ (s : St) (r : List (V × E × St)) : Nat → St | 0 => s | i + 1 => match r[i]? with | some (_, _, s') => s' | none => s
theorem pS {e : E} {p : V × E × St} {r : List (V × E × St)} {i : Nat} (h : i ≤ r.length) : ny e (p :: r) (i + 1) = ny p.2.1 r i := by
 cases i with
 | zero => rfl
 | succ i =>
   simp only [ny, List.getElem?_cons_succ]
   rw [List.getElem?_eq_getElem (by omega)]
theorem mg {s : St} {p : V × E × St} {r : List (V × E × St)} {i : Nat} (h : i ≤ r.length) : d_ s (p :: r) (i + 1) = d_ p.2.2 r i := by
 cases i with
 | zero => rfl
 | succ i =>
   simp only [d_, List.getElem?_cons_succ]
   rw [List.getElem?_eq_getElem (by omega)]
theorem fY {k : KC} : ∀ {l : List DT} {e : E} {s : St} {r : List (V × E × St)}, cr k l e s = some r → r.length = l.length ∧ ∀ i t, l[i]? = some t → ∃ v s', cA k t (ny e r i) (d_ s r i) = some (v, s') ∧ r[i]? = some (v, t.u (ny e r i) v, s')
 | [], e, s, r, h => by cases h; exact ⟨rfl, fun i t hi => by simp at hi⟩
 | t :: l, e, s, r, h => by
   unfold cr at h
   split at h
   · cases h
   · rename_i v s' hst
     split at h
     · cases h
     · rename_i r' hr
       cases h
       obtain ⟨h1, h2⟩ := fY hr
       refine ⟨by simp [h1], fun i t' hi => ?_⟩
       cases i with
       | zero => cases hi; exact ⟨v, s', hst, rfl⟩
       | succ i =>
         have hi : l[i]? = some t' := by simpa using hi
         have hlt := (List.getElem?_eq_some_iff.1 hi).1
         obtain ⟨v', s'', a1, a2⟩ := h2 i t' hi
         rw [pS (by omega), mg (by omega)]
         exact ⟨v', s'', a1, by simpa using a2⟩
theorem ye {l : List (V × E × St)} : ∀ {e : E} {s : St}, gy e s l = .au (ny e l l.length) (d_ s l l.length) := by
 induction l with
 | nil => intro e s; rfl
 | cons p l ih =>
   intro e s
   obtain ⟨v, e', s'⟩ := p
   show gy e' s' l = _
   rw [ih, List.length_cons, pS (Nat.le_refl _), mg (Nat.le_refl _)]
theorem wI {sn : List St} : ∀ {l : List DT} {e : E} {r : List (V × E × St)}, gZ sn l e r = true → r.length = l.length → ∀ i t v e' s', l[i]? = some t → r[i]? = some (v, e', s') → qB sn t (ny e r i) v = true
 | [], e, r, h, hl, i, t, v, e', s', hi, _ => by simp at hi
 | t :: l, e, [], h, hl, i, _, _, _, _, _, hr => by simp at hr
 | t :: l, e, (v, e1, s1) :: r, h, hl, i, t', v', e', s', hi, hr => by
   unfold gZ at h
   cases hc : qB sn t e v with
   | false => rw [hc] at h; cases h
   | true =>
     rw [hc] at h
     cases i with
     | zero => cases hi; cases hr; exact hc
     | succ i =>
       have hlt : i < r.length := (List.getElem?_eq_some_iff.1 (by simpa using hr)).1
       rw [pS (by omega)]
       exact wI h (by simpa using hl) i t' v' e' s' (by simpa using hi) (by simpa using hr)
def cE (l : List DT) (i : Nat) : Nat := aR (fun j => match l[j]? with | some t => t.k.kH | none => false) i
theorem ug (p : Nat → Bool) (n : Nat) : aR p (n + 1) = (if p 0 then 1 else 0) + aR (fun j => p (j + 1)) n := by
 induction n with
 | zero => simp [aR]
 | succ n ih => rw [aR, ih, aR]; omega
theorem MQ (t : DT) (l : List DT) (p : Nat) : cE (t :: l) (p + 1) = (if t.k.kH then 1 else 0) + cE l p := by
 unfold cE; rw [ug]; simp
theorem lz : ∀ {l : List DT} {s : St} {r : List (V × E × St)}, (snaps s l r)[0]? = some s
 | [], s, r => by cases r <;> rfl
 | t :: l, s, [] => rfl
 | t :: l, s, (v, e, s') :: r => by
   unfold snaps
   split
   · rfl
   · exact lz
theorem mR : ∀ {l : List DT} {sn s : St} {r : List (V × E × St)}, r.length = l.length → ∀ p, p ≤ l.length →
 (cE l p = 0 ∧ ∀ j t, j < p → l[j]? = some t → t.k.kH = false) ∨ ∃ m, 0 < m ∧ m ≤ p ∧ (snaps sn l r)[cE l p]? = some (d_ s r m) ∧ (∀ j t, m ≤ j → j < p → l[j]? = some t → t.k.kH = false) ∧ ∃ t, l[m - 1]? = some t ∧ t.k.kH = true
 | l, sn, s, r, hl, 0, _ => .inl ⟨rfl, fun j t hj => by omega⟩
 | [], sn, s, r, hl, p + 1, hp => by simp at hp
 | t :: l, sn, s, [], hl, p + 1, hp => by simp at hl
 | t :: l, sn, s, (v, e, s') :: r, hl, p + 1, hp => by
   rw [MQ]
   have hl' : r.length = l.length := by simpa using hl
   have hp' : p ≤ l.length := by simpa using hp
   cases ht : t.k.kH with
   | true =>
     right
     simp only [if_true]
     have hsn : snaps sn (t :: l) ((v, e, s') :: r) = sn :: snaps s' l r := by simp [snaps, ht]
     rw [hsn, Nat.add_comm 1, List.getElem?_cons_succ]
     rcases mR (sn := s') (s := s') hl' p hp' with ⟨h1, h2⟩ | ⟨m, h0, h1, h2, h3, h4⟩
     · refine ⟨1, by omega, by omega, ?_, fun j t' hj hj2 hjt => ?_, t, by simp, ht⟩
       · rw [h1, lz]; rfl
       · cases j with
         | zero => omega
         | succ j => exact h2 j t' (by omega) (by simpa using hjt)
     · refine ⟨m + 1, by omega, by omega, ?_, fun j t' hj hj2 hjt => ?_, ?_⟩
       · rw [h2, mg (by omega)]
       · cases j with
         | zero => omega
         | succ j => exact h3 j t' (by omega) (by omega) (by simpa using hjt)
       · obtain ⟨t', a1, a2⟩ := h4
         exact ⟨t', by rw [show m + 1 - 1 = (m - 1) + 1 by omega]; simpa using a1, a2⟩
   | false =>
     have hsn : snaps sn (t :: l) ((v, e, s') :: r) = snaps sn l r := by simp [snaps, ht]
     rw [hsn]
     simp only [Bool.false_eq_true, if_false, Nat.zero_add]
     rcases mR (sn := sn) (s := s') hl' p hp' with ⟨h1, h2⟩ | ⟨m, h0, h1, h2, h3, h4⟩
     · refine .inl ⟨h1, fun j t' hj hjt => ?_⟩
       cases j with
       | zero => cases hjt; exact ht
       | succ j => exact h2 j t' (by omega) (by simpa using hjt)
     · refine .inr ⟨m + 1, by omega, by omega, ?_, fun j t' hj hj2 hjt => ?_, ?_⟩
       · rw [h2, mg (by omega)]
       · cases j with
         | zero => omega
         | succ j => exact h3 j t' (by omega) (by omega) (by simpa using hjt)
       · obtain ⟨t', a1, a2⟩ := h4
         exact ⟨t', by rw [show m + 1 - 1 = (m - 1) + 1 by omega]; simpa using a1, a2⟩
theorem Ct {l : List DT} {s : St} {r : List (V × E × St)} (hl : r.length = l.length) (p : Nat) (hp : p ≤ l.length) : ∃ m, m ≤ p ∧ (snaps s l r)[cE l p]? = some (d_ s r m) ∧ (∀ j t, m ≤ j → j < p → l[j]? = some t → t.k.kH = false) ∧ (m = 0 ∨ ∃ t, l[m - 1]? = some t ∧ t.k.kH = true) := by
 rcases mR (sn := s) (s := s) hl p hp with ⟨h1, h2⟩ | ⟨m, h0, h1, h2, h3, h4⟩
 · exact ⟨0, by omega, by rw [h1, lz]; rfl, fun j t _ hj hjt => h2 j t hj hjt, .inl rfl⟩
 · exact ⟨m, h1, h2, h3, .inr h4⟩
def n9 (acc : Array Nat) (o : Oper) : Nat := o.after.foldl (fun s e => if Region.binds .any e then s ||| 2 ^ e.on ||| acc.getD e.on 0 else s) 0
def c_ (acc : Array Nat) (o : Oper) : Array Nat := acc.push (n9 acc o)
theorem mQ (os : Array Oper) : Region.before os = os.toList.foldl c_ #[] := by
 unfold Region.before
 rw [← Array.foldl_toList]; rfl
theorem uE {acc : Array Nat} {o : Oper} {j : Nat} (h : (n9 acc o).testBit j = true) : ∃ e, e ∈ o.after ∧ Region.binds .any e = true ∧ (e.on = j ∨ (acc.getD e.on 0).testBit j = true) := by
 unfold n9 at h
 rw [← Array.foldl_toList] at h
 have key : ∀ (l : List Edge) (s : Nat), (l.foldl (fun s e => if Region.binds .any e then s ||| 2 ^ e.on ||| acc.getD e.on 0 else s) s).testBit j = true → s.testBit j = true ∨ ∃ e, e ∈ l ∧ Region.binds .any e = true ∧ (e.on = j ∨ (acc.getD e.on 0).testBit j = true) := by
  intro l
  induction l with
  | nil => intro s h; exact .inl h
  | cons e l ih =>
    intro s h
    rcases ih _ h with h | ⟨e', h1, h2, h3⟩
    · simp only at h
      by_cases hb : Region.binds .any e = true
      · rw [if_pos hb, Nat.testBit_or, Nat.testBit_or, Nat.testBit_two_pow] at h
        simp only [Bool.or_eq_true, decide_eq_true_eq] at h
        rcases h with (h | h) | h
        · exact .inl h
        · exact .inr ⟨e, by simp, hb, .inl h⟩
        · exact .inr ⟨e, by simp, hb, .inr h⟩
      · rw [if_neg hb] at h; exact .inl h
    · exact .inr ⟨e', by simp [h1], h2, h3⟩
 rcases key _ _ h with h | ⟨e, h1, h2, h3⟩
 · simp at h
 · exact ⟨e, by simpa using h1, h2, h3⟩
theorem rQ : ∀ (l : List Oper) (acc : Array Nat), (l.foldl c_ acc).size = acc.size + l.length ∧ ∀ i, i < acc.size → (l.foldl c_ acc).getD i 0 = acc.getD i 0
 | [], acc => ⟨by simp, fun i _ => rfl⟩
 | o :: l, acc => by
   obtain ⟨h1, h2⟩ := rQ l (c_ acc o)
   have hs : (c_ acc o).size = acc.size + 1 := by simp [c_]
   refine ⟨by rw [List.foldl_cons, h1, hs, List.length_cons]; omega, fun i hi => ?_⟩
   rw [List.foldl_cons, h2 i (by simp [c_]; omega)]
   simp [c_, Array.getD_eq_getD_getElem?, Array.getElem?_push, Nat.ne_of_lt hi]
theorem CT : ∀ (l : List Oper) (acc : Array Nat) (k : Nat) (o : Oper), l[k]? = some o → ∃ acc', (l.foldl c_ acc).getD (acc.size + k) 0 = n9 acc' o ∧ acc'.size = acc.size + k ∧ ∀ i, i < acc.size + k → acc'.getD i 0 = (l.foldl c_ acc).getD i 0
 | [], acc, k, o, h => by simp at h
 | x :: l, acc, 0, o, h => by
   have hx : x = o := by simpa using h
   subst hx
   have := (rQ l (c_ acc x))
   refine ⟨acc, ?_, rfl, fun i hi => ?_⟩
   · rw [List.foldl_cons, Nat.add_zero, this.2 _ (by simp [c_])]
     simp [c_, Array.getD_eq_getD_getElem?]
   · have hi' : i < acc.size := hi
     rw [List.foldl_cons, this.2 _ (by simp [c_]; omega)]
     simp [c_, Array.getD_eq_getD_getElem?, Array.getElem?_push, Nat.ne_of_lt hi']
 | x :: l, acc, k + 1, o, h => by
   obtain ⟨acc', h1, h2, h3⟩ := CT l (c_ acc x) k o (by simpa using h)
   have hs : (c_ acc x).size = acc.size + 1 := by simp [c_]
   rw [hs] at h1 h2 h3
   exact ⟨acc', by rw [List.foldl_cons, show acc.size + (k + 1) = acc.size + 1 + k by omega]; exact h1, by omega, fun i hi => by rw [List.foldl_cons]; exact h3 i (by omega)⟩
theorem tO {os : Array Oper} {i j : Nat} (h : bq os j i = true) : ∃ o, os[i]? = some o ∧ ∃ e, e ∈ o.after ∧ Region.binds .any e = true ∧ (e.on = j ∨ (bq os j e.on = true ∧ e.on < i)) := by
 unfold bq at h
 have hsz : (Region.before os).size = os.size := by rw [mQ, (rQ _ _).1]; simp
 cases ho : os[i]? with
 | none =>
   have : os.size ≤ i := by simpa using ho
   rw [Array.getD_eq_getD_getElem?, Array.getElem?_eq_none (by omega)] at h
   simp at h
 | some o =>
   refine ⟨o, rfl, ?_⟩
   obtain ⟨acc', h1, h2, h3⟩ := CT os.toList #[] i o (by simpa using ho)
   simp only [Array.size_empty, Nat.zero_add] at h1 h2 h3
   rw [mQ, h1] at h
   obtain ⟨e, a1, a2, a3⟩ := uE h
   refine ⟨e, a1, a2, ?_⟩
   rcases a3 with a3 | a3
   · exact .inl a3
   · right
     by_cases hlt : e.on < i
     · exact ⟨by unfold bq; rw [mQ, ← h3 _ hlt]; exact a3, hlt⟩
     · rw [Array.getD_eq_getD_getElem?, Array.getElem?_eq_none (by omega)] at a3
       simp at a3
def cS (os : Array Oper) (L : Nat → Bool) : Prop := ∀ j oj, os[j]? = some oj → L j = true → ∀ e ∈ oj.after, Region.binds .any e = true → L e.on = true
theorem dS {os : Array Oper} {L : Nat → Bool} (hc : cS os L) : ∀ (i j : Nat), bq os j i = true → (∀ o, os[i]? = some o → ∀ e ∈ o.after, Region.binds .any e = true → L e.on = true) → L j = true := by
 intro i
 induction i using Nat.strongRecOn with
 | _ i ih =>
   intro j h hd
   obtain ⟨o, ho, e, a1, a2, a3⟩ := tO h
   rcases a3 with rfl | ⟨a3, a4⟩
   · exact hd o ho e a1 a2
   · exact ih e.on a4 j a3 (fun o' ho' e' h1 h2 => hc e.on o' ho' (hd o ho e a1 a2) e' h1 h2)
theorem lE {os : Array Oper} {L : Nat → Bool} (hc : cS os L) {i j : Nat} (h : bq os j i = true) (hi : L i = true) : L j = true :=
 dS hc i j h (fun o ho e h1 h2 => hc i o ho hi e h1 h2)
end
end Go.Proofs.YtcgdlgbomjnnnaaLab
/- The jI: a region that draws its order comes to what ours comes to in the text's order. On the program: that it follows mixed orders. -/
namespace Go.Proofs.YtcgdlgbomjnnnaaLab
open Go
set_option linter.all false
noncomputable section
theorem qY {nt : Nat} {gl : List Nat} {G : Pl} {os : Array Oper} {o : Oper} {t : DT} {e : E} {a : Act} (hg : iE os o = some t.g) (he : cR nt gl G e a) {b : Bool} (h : iT t e = some b) : Region.wanted o (yielded os a.tmps) = !b := by
 unfold iE at hg
 split at hg
 · rename_i hgd
   cases hg' : t.g with
   | none =>
     unfold iT at h; rw [hg'] at h; cases h
     simp [Region.wanted, hgd]
   | some p => rw [hg'] at hg; cases hg
 · rename_i j want hgd
   split at hg
   · rename_i tm htm
     split at hg
     · rename_i hlt
       have hg' : t.g = some (tm, want) := (Option.some.inj hg).symm
       unfold iT at h; rw [hg'] at h
       simp only at h
       have hx := he.tm tm hlt
       have hy : ∀ b, a.tmps.getD tm undef = .bool b → yielded os a.tmps j = some b := by
        intro b hb
        unfold yielded
        rw [htm]
        simp only [Option.bind_some]
        rw [Array.getD_eq_getD_getElem?] at hb
        cases hq : a.tmps[tm]? with
        | none => rw [hq] at hb; cases hb
        | some q => rw [hq] at hb; simp only [Option.getD_some] at hb; rw [hb]
       have hy2 : a.tmps.getD tm undef = .tuple #[] → yielded os a.tmps j = none := by
        intro hb
        unfold yielded
        rw [htm]
        simp only [Option.bind_some]
        rw [Array.getD_eq_getD_getElem?] at hb
        cases hq : a.tmps[tm]? with
        | none => rfl
        | some q => rw [hq] at hb; simp only [Option.getD_some] at hb; rw [hb]
       split at h
       · rename_i b' hb
         rw [hb] at hx
         cases h
         simp only [Region.wanted, hgd, hy b' hx.jX]
         cases b' <;> cases want <;> rfl
       · rename_i hb
         rw [hb] at hx
         cases h
         obtain ⟨l', hl, hvs⟩ := hx.s_
         cases hvs
         simp [Region.wanted, hgd, hy2 hl]
       · cases h
     · cases hg
   · cases hg
structure kS (P : Program) (nt : Nat) (gl : List Nat) (os : Array Oper) (ds : List OD) (us : List (E → V → E)) (gs : List (Option (Nat × Bool))) (sl : List (List Nat)) : Prop where
 all : ∀ (i : Nat) (o : Oper), os[i]? = some o → ∃ d u g s, ds[i]? = some d ∧ us[i]? = some u ∧ gs[i]? = some g ∧ sl[i]? = some s ∧ nM P nt gl o d ∧ iQ nt o.dst u ∧ iE os o = some g ∧
  (∀ e e', (∀ t, t ∈ s → Gt t e = Gt t e') → d.same e e') ∧ (∀ t, t ∈ slG g → t ∈ s) ∧ ∀ t, t ∈ s → t < 256
 len : ds.length = os.size ∧ us.length = os.size ∧ gs.length = os.size
theorem iZ {ds0 : List OD} {ord : Nat → Nat → Bool} : ∀ {ds : List OD} {us : List (E → V → E)} {gs : List (Option (Nat × Bool))} {k i : Nat} {d : OD} {u : E → V → E} {g : Option (Nat × Bool)}, ds[i]? = some d → us[i]? = some u → gs[i]? = some g → (eZ ds0 ord k ds us gs)[i]? = some (fS ds0 ord (k + i) d u g)
 | [], us, gs, k, i, d, u, g, h, _, _ => by simp at h
 | _ :: _, [], gs, k, i, d, u, g, _, h, _ => by simp at h
 | _ :: _, _ :: _, [], k, i, d, u, g, _, _, h => by simp at h
 | d0 :: ds, u0 :: us, g0 :: gs, k, 0, d, u, g, h1, h2, h3 => by cases h1; cases h2; cases h3; rfl
 | d0 :: ds, u0 :: us, g0 :: gs, k, i + 1, d, u, g, h1, h2, h3 => by
   have := iZ (ds0 := ds0) (ord := ord) (ds := ds) (us := us) (gs := gs) (k := k + 1) (i := i) (by simpa using h1) (by simpa using h2) (by simpa using h3)
   rw [show k + (i + 1) = k + 1 + i by omega]
   simpa [eZ] using this
theorem rE {ds0 : List OD} {ord : Nat → Nat → Bool} : ∀ {ds : List OD} {us : List (E → V → E)} {gs : List (Option (Nat × Bool))} {k : Nat}, us.length = ds.length → gs.length = ds.length → (eZ ds0 ord k ds us gs).length = ds.length
 | [], us, gs, k, _, _ => by unfold eZ; rfl
 | d :: ds, [], gs, k, h, _ => by simp at h
 | d :: ds, _ :: _, [], k, _, h => by simp at h
 | d :: ds, u :: us, g :: gs, k, h1, h2 => by
   simp only [eZ, List.length_cons]; rw [rE (by simpa using h1) (by simpa using h2)]
def gi (os : Array Oper) (vals : Nat → V) (L : Nat → Bool) (e : E) : Nat → Nat → V
 | 0, t => Gt t e
 | n + 1, t => if L n = true ∧ (os[n]?).bind (·.dst) = some t then vals n else gi os vals L e n t
section
variable {os : Array Oper} {sl : List (List Nat)} (hst : jJ os sl = true)
include hst
theorem pN {j : Nat} {oj : Oper} (hj : os[j]? = some oj) {e : Edge} (he : e ∈ oj.after) (hb : Region.binds .any e = true) : e.on < j := by
 have h1 := List.all_eq_true.1 hst j (List.mem_range.2 (Array.getElem?_eq_some_iff.1 hj).1)
 rw [hj] at h1
 have h2 := Array.all_eq_true_iff_forall_mem.1 (Bool.and_eq_true_iff.1 h1).1 e he
 rw [hb] at h2
 simpa using h2
theorem oU {i j : Nat} {oi oj : Oper} {si sj : List Nat} (hi : os[i]? = some oi) (hj : os[j]? = some oj) (hsi : sl[i]? = some si) (hsj : sl[j]? = some sj) (hij : i < j) :
 (∃ e ∈ oj.after, Region.binds .any e = true ∧ e.on = i) ∨ ((∀ d, oi.dst = some d → d ∉ sj ∧ oj.dst ≠ some d) ∧ ∀ d, oj.dst = some d → d ∉ si) := by
 have h1 := List.all_eq_true.1 hst j (List.mem_range.2 (Array.getElem?_eq_some_iff.1 hj).1)
 rw [hj] at h1
 have h2 := List.all_eq_true.1 (Bool.and_eq_true_iff.1 h1).2 i (List.mem_range.2 hij)
 rw [hi] at h2
 simp only at h2
 rcases Bool.or_eq_true_iff.1 h2 with h3 | h3
 · obtain ⟨e, he, hb⟩ := Array.any_eq_true'.1 h3
   exact .inl ⟨e, he, (Bool.and_eq_true_iff.1 hb).1, by simpa using (Bool.and_eq_true_iff.1 hb).2⟩
 · right
   rw [Bool.and_eq_true] at h3
   obtain ⟨h3, h4⟩ := h3
   rw [hsj] at h3; rw [hsi] at h4
   refine ⟨fun d hd => ?_, fun d hd => ?_⟩
   · rw [hd] at h3; simpa using h3
   · rw [hd] at h4; simpa using h4
theorem qf {vals : Nat → V} {L : Nat → Bool} {e : E} (hall : ∀ (i : Nat) (o : Oper), os[i]? = some o → ∃ s, sl[i]? = some s) (hc : cS os L) {i : Nat} {oi : Oper} {si : List Nat} (hi : os[i]? = some oi) (hsi : sl[i]? = some si) (hiL : L i = false)
 (hw : ∀ e ∈ oi.after, Region.binds .any e = true → L e.on = true) {t : Nat} (ht : t ∈ si) : ∀ n, gi os vals L e n t = gi os vals (fun _ => true) e (min n i) t
 | 0 => by simp [gi]
 | n + 1 => by
   have ih := qf hall hc hi hsi hiL hw (vals := vals) (e := e) ht n
   rcases Nat.lt_trichotomy n i with hn | hn | hn
   · rw [Nat.min_eq_left (by omega)] at ih
     rw [Nat.min_eq_left (show n + 1 ≤ i by omega)]
     simp only [gi, true_and]
     by_cases hL : L n = true
     · simp only [hL, true_and, ih]
     · rw [if_neg (fun h => hL h.1), ih, if_neg]
       intro hd
       cases ho : os[n]? with
       | none => rw [ho] at hd; cases hd
       | some on_ =>
         rw [ho] at hd
         obtain ⟨sn, hsn⟩ := hall n on_ ho
         rcases oU hst ho hi hsn hsi hn with ⟨e', h1, h2, h3⟩ | ⟨h1, _⟩
         · exact hL (h3 ▸ hw e' h1 h2)
         · exact (h1 t (by simpa using hd)).1 ht
   · subst hn
     simp only [gi, hiL, Bool.false_eq_true, false_and, if_false]
     rw [ih, Nat.min_self, Nat.min_eq_right (by omega)]
   · rw [Nat.min_eq_right (by omega)] at ih
     rw [Nat.min_eq_right (show i ≤ n + 1 by omega)]
     simp only [gi]
     rw [if_neg, ih]
     rintro ⟨hL, hd⟩
     cases ho : os[n]? with
     | none => rw [ho] at hd; cases hd
     | some on_ =>
       rw [ho] at hd
       obtain ⟨sn, hsn⟩ := hall n on_ ho
       rcases oU hst hi ho hsi hsn hn with ⟨e', h1, h2, h3⟩ | ⟨_, h1⟩
       · have := hc n on_ ho hL e' h1 h2
         rw [h3, hiL] at this; cases this
       · exact h1 t (by simpa using hd) ht
theorem su {vals : Nat → V} {L : Nat → Bool} {e : E} (hall : ∀ (i : Nat) (o : Oper), os[i]? = some o → ∃ s, sl[i]? = some s) (hc : cS os L) {i : Nat} {oi : Oper} {si : List Nat} (hi : os[i]? = some oi) (hsi : sl[i]? = some si) (hiL : L i = false) {t : Nat} : ∀ n, i < n →
 gi os vals (fun j => L j || j == i) e n t = if oi.dst = some t then vals i else gi os vals L e n t
 | 0, h => by omega
 | n + 1, h => by
   have below : ∀ m, m ≤ i → gi os vals (fun j => L j || j == i) e m t = gi os vals L e m t := by
    intro m
    induction m with
    | zero => intro _; rfl
    | succ m ihm =>
      intro hm
      have : (m == i) = false := beq_eq_false_iff_ne.2 (by omega)
      simp only [gi, this, Bool.or_false, ihm (by omega)]
   by_cases hn : n = i
   · subst hn
     simp only [gi, hiL, BEq.rfl, Bool.or_true, Bool.false_eq_true, false_and, if_false, below n (Nat.le_refl _), hi, Option.bind_some, true_and]
   · have ih := su hall hc hi hsi hiL (vals := vals) (e := e) (t := t) n (by omega)
     have hne : (n == i) = false := beq_eq_false_iff_ne.2 hn
     simp only [gi, hne, Bool.or_false]
     by_cases hL : L n = true ∧ (os[n]?).bind (·.dst) = some t
     · rw [if_pos hL, if_pos hL, if_neg]
       intro hd
       cases ho : os[n]? with
       | none => rw [ho] at hL; cases hL.2
       | some on_ =>
         rw [ho] at hL
         obtain ⟨sn, hsn⟩ := hall n on_ ho
         rcases oU hst hi ho hsi hsn (by omega) with ⟨e', h1, h2, h3⟩ | ⟨h1, _⟩
         · have := hc n on_ ho hL.1 e' h1 h2
           rw [h3, hiL] at this; cases this
         · exact (h1 t hd).2 (by simpa using hL.2)
     · rw [if_neg hL, if_neg hL, ih]
end
theorem jh {p q : Nat → Bool} : ∀ {n : Nat}, (∀ i, i < n → p i = true → q i = true) → aR p n ≤ aR q n
 | 0, _ => Nat.le_refl _
 | n + 1, h => by
   have ih := jh (n := n) (fun i hi => h i (by omega))
   simp only [aR]
   by_cases hp : p n = true
   · rw [if_pos hp, if_pos (h n (by omega) hp)]; omega
   · rw [if_neg hp]; omega
theorem lG {p : Nat → Bool} {m : Nat} : ∀ {n : Nat}, m ≤ n → aR p m = aR (fun i => p i && decide (i < m)) n
 | 0, h => by have : m = 0 := by omega
              subst this; rfl
 | n + 1, h => by
   by_cases hm : m = n + 1
   · subst hm
     have : ∀ k, k ≤ n + 1 → aR p k = aR (fun i => p i && decide (i < n + 1)) k := by
      intro k
      induction k with
      | zero => intro _; rfl
      | succ k ih =>
        intro hk
        have hd : decide (k < n + 1) = true := decide_eq_true (by omega)
        simp only [aR, ih (by omega), hd, Bool.and_true]
     exact this _ (Nat.le_refl _)
   · have hd : decide (n < m) = false := decide_eq_false (by omega)
     rw [aR, ← lG (n := n) (by omega), hd]; simp
section
variable {P : Program} {nt : Nat} {gl : List Nat} {os : Array Oper} {ds : List OD} {us : List (E → V → E)} {gs : List (Option (Nat × Bool))} {sl : List (List Nat)}
structure Run (k : KC) (l : List DT) (e0 : E) (s0 : St) (r : List (V × E × St)) : Prop where
 run : cr k l e0 s0 = some r
 yW : gZ (snaps s0 l r) l e0 r = true
def xu (ds : List OD) (l : List DT) (e0 : E) (r : List (V × E × St)) (i : Nat) : Prop := cF ds i = true ∧ ∃ t, l[i]? = some t ∧ iT t (ny e0 r i) = some false
def hid (ds : List OD) (l : List DT) (e0 : E) (s0 : St) (r : List (V × E × St)) (L : Nat → Bool) (p b : Nat) : Prop := ∃ i, i < p ∧ xu ds l e0 r i ∧ L i = false ∧ (d_ s0 r i).next = b
open Classical in
noncomputable def view (ds : List OD) (l : List DT) (e0 : E) (s0 : St) (r : List (V × E × St)) (L : Nat → Bool) (p b : Nat) : Option Ob := if hid ds l e0 s0 r L p b then none else (d_ s0 r p).heap.get b
variable {k : KC} {e0 : E} {s0 : St} {r : List (V × E × St)}
abbrev dc (ds : List OD) (os : Array Oper) (us : List (E → V → E)) (gs : List (Option (Nat × Bool))) : List DT := eZ ds (bq os) 0 ds us gs
theorem MH (hreg : kS P nt gl os ds us gs sl) (hrun : cr k (dc ds os us gs) e0 s0 = some r) {i : Nat} (hi : i < os.size) (hE : bu ds i = false) :
 (d_ s0 r (i + 1) = d_ s0 r i ∧ ¬ xu ds (dc ds os us gs) e0 r i) ∨ (xu ds (dc ds os us gs) e0 r i ∧ ∃ f v o, ds[i]? = some (.a f) ∧ f (ny e0 r i) (d_ s0 r i).next = some (v, o) ∧ (∃ e' s', r[i]? = some (v, e', s')) ∧ d_ s0 r (i + 1) = (d_ s0 r i).new o) := by
 obtain ⟨d, u, g, s, h1, h2, h3, _⟩ := hreg.all i os[i] (by simp [hi])
 have ht := iZ (ds0 := ds) (ord := bq os) (k := 0) h1 h2 h3
 rw [Nat.zero_add] at ht
 obtain ⟨v, s', hst, hr⟩ := (fY hrun).2 i _ ht
 have hs1 : d_ s0 r (i + 1) = s' := by simp only [d_, hr]
 have hE' : d.kH = false := by unfold bu at hE; rw [h1] at hE; exact hE
 unfold cA at hst
 cases ho : iT (fS ds (bq os) i d u g) (ny e0 r i) with
 | none => rw [ho] at hst; cases hst
 | some b =>
   rw [ho] at hst
   cases b with
   | true =>
     cases hst
     refine .inl ⟨hs1, fun ⟨_, t, a1, a2⟩ => ?_⟩
     rw [ht] at a1; cases a1; rw [ho] at a2; cases a2
   | false =>
     have hA : ∀ {f}, d = .a f → xu ds (dc ds os us gs) e0 r i := fun hd => ⟨by unfold cF; rw [h1, hd]; rfl, _, ht, ho⟩
     have hnA : (∀ f, d ≠ .a f) → ¬ xu ds (dc ds os us gs) e0 r i := by
      rintro hd ⟨a1, _⟩
      unfold cF at a1; rw [h1] at a1
      cases d <;> first | exact hd _ rfl | cases a1
     cases d with
     | p f =>
       simp only [fS] at hst
       split at hst <;> cases hst
       exact .inl ⟨hs1, hnA (by simp)⟩
     | d f =>
       simp only [fS] at hst
       split at hst <;> cases hst
       exact .inl ⟨hs1, hnA (by simp)⟩
     | a f =>
       simp only [fS] at hst
       split at hst
       · rename_i v' o' hf
         cases hst
         exact .inr ⟨hA rfl, f, v, o', h1, hf, ⟨_, _, hr⟩, hs1⟩
       · cases hst
     | e f => cases hE'
theorem chain (hreg : kS P nt gl os ds us gs sl) (hrun : cr k (dc ds os us gs) e0 s0 = some r) {q : Nat} : ∀ {p : Nat}, q ≤ p → p ≤ os.size → (∀ j, q ≤ j → j < p → bu ds j = false) → (∀ b, (d_ s0 r q).next ≤ b → (d_ s0 r q).heap.get b = none) →
 (d_ s0 r q).next ≤ (d_ s0 r p).next ∧ (∀ b, (d_ s0 r p).next ≤ b → (d_ s0 r p).heap.get b = none) ∧ (∀ b o, (d_ s0 r q).heap.get b = some o → (d_ s0 r p).heap.get b = some o) ∧
 (∀ b o, (d_ s0 r p).heap.get b = some o → (d_ s0 r q).heap.get b = some o ∨ ∃ i, q ≤ i ∧ i < p ∧ xu ds (dc ds os us gs) e0 r i ∧ (d_ s0 r i).next = b ∧ ∃ f v, ds[i]? = some (.a f) ∧ f (ny e0 r i) b = some (v, o)) ∧
 (∀ i, q ≤ i → i < p → xu ds (dc ds os us gs) e0 r i → (d_ s0 r q).next ≤ (d_ s0 r i).next ∧ (d_ s0 r i).next < (d_ s0 r p).next) ∧
 (∀ i j, q ≤ i → i < j → j < p → xu ds (dc ds os us gs) e0 r i → xu ds (dc ds os us gs) e0 r j → (d_ s0 r i).next < (d_ s0 r j).next)
 | 0, hq, _, _, hf => by
   have : q = 0 := by omega
   subst this
   exact ⟨Nat.le_refl _, hf, fun _ _ h => h, fun _ _ h => .inl h, fun i _ h => by omega, fun i j _ _ h => by omega⟩
 | p + 1, hq, hp, hE, hf => by
   by_cases hqp : q = p + 1
   · subst hqp
     exact ⟨Nat.le_refl _, hf, fun _ _ h => h, fun _ _ h => .inl h, fun i _ h => by omega, fun i j _ _ h => by omega⟩
   · obtain ⟨c1, c2, c3, c4, c5, c6⟩ := chain hreg hrun (p := p) (by omega) (by omega) (fun j h1 h2 => hE j h1 (by omega)) hf
     rcases MH hreg hrun (i := p) (by omega) (hE p (by omega) (by omega)) with ⟨h1, h2⟩ | ⟨h1, f, v, o, h3, h4, _, h5⟩
     · rw [h1]
       refine ⟨c1, c2, c3, fun b o hb => ?_, fun i hi hi2 ha => ?_, fun i j hi hij hj ha hb => ?_⟩
       · rcases c4 b o hb with h | ⟨i, a1, a2, a3⟩
         · exact .inl h
         · exact .inr ⟨i, a1, by omega, a3⟩
       · by_cases hip : i = p
         · subst hip; exact absurd ha h2
         · exact c5 i hi (by omega) ha
       · by_cases hjp : j = p
         · subst hjp; exact absurd hb h2
         · exact c6 i j hi hij (by omega) ha hb
     · rw [h5]
       have hnx : ((d_ s0 r p).new o).next = (d_ s0 r p).next + 1 := rfl
       refine ⟨by rw [hnx]; omega, fun b hb => ?_, fun b o' hb => ?_, fun b o' hb => ?_, fun i hi hi2 ha => ?_, fun i j hi hij hj ha hb => ?_⟩
       · rw [hnx] at hb
         cases hq' : ((d_ s0 r p).new o).heap.get b with
         | none => rfl
         | some y =>
           rcases T.jK hq' with ⟨e, _⟩ | ⟨_, e⟩
           · omega
           · rw [c2 b (by omega)] at e; cases e
       · have hb' := c3 b o' hb
         refine T.iW hb' (fun e => ?_)
         rw [← e] at hb'
         rw [c2 _ (Nat.le_refl _)] at hb'; cases hb'
       · rcases T.jK hb with ⟨e, e2⟩ | ⟨_, e⟩
         · right
           exact ⟨p, by omega, by omega, h1, e, f, v, h3, by rw [← e, e2]; exact h4⟩
         · rcases c4 b o' e with h | ⟨i, a1, a2, a3⟩
           · exact .inl h
           · exact .inr ⟨i, a1, by omega, a3⟩
       · rw [hnx]
         by_cases hip : i = p
         · subst hip; exact ⟨c1, by omega⟩
         · have := c5 i hi (by omega) ha; omega
       · by_cases hjp : j = p
         · subst hjp; exact (c5 i hi hij ha).2
         · exact c6 i j hi hij (by omega) ha hb
theorem aaR (ds : List OD) (n : Nat) : ∀ q, q ≤ n → ∃ p, q ≤ p ∧ p ≤ n ∧ (∀ j, q ≤ j → j < p → bu ds j = false) ∧ (p < n → bu ds p = true) := by
 intro q hq
 generalize hd : n - q = d
 induction d generalizing q with
 | zero => exact ⟨q, Nat.le_refl _, hq, fun j h1 h2 => by omega, fun h => by omega⟩
 | succ d ih =>
   cases he : bu ds q with
   | true => exact ⟨q, Nat.le_refl _, hq, fun j h1 h2 => by omega, fun _ => he⟩
   | false =>
     obtain ⟨p, h1, h2, h3, h4⟩ := ih (q + 1) (by omega) (by omega)
     refine ⟨p, by omega, h2, fun j hj1 hj2 => ?_, h4⟩
     by_cases hjq : j = q
     · subst hjq; exact he
     · exact h3 j (by omega) hj2
end
end
end Go.Proofs.YtcgdlgbomjnnnaaLab
