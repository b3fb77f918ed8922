/- The lab: a region in the text's order whose values are named, and its frame turned once at its end. No condition on the program. -/
import Derived.Test.YtjipdnfaokdkbaaLabQ
namespace Go.Proofs.YtjipdnfaokdkbaaLab
open Go
set_option linter.unusedVariables false
noncomputable section

/-! ### Operands whose values are known -/
def sbV (n : Nat) : List (Nat × V) → Option V
  | [] => none
  | p :: l => Bool.casesOn (motive := fun _ => Option V) (Nat.beq p.1 n) (sbV n l) (some p.2)
def OO.sub (ρ : List (Nat × V)) : OO → OO
  | .t n => match sbV n ρ with | some v => .c v | none => .t n
  | .c v => .c v
def subP (ρ : List (Nat × V)) (p : Nat × Nat × OO) : Nat × Nat × OO := (p.1, p.2.1, p.2.2.sub ρ)
def LO.sub (ρ : List (Nat × V)) : LO → LO
  | .move zx => .move (zx.sub ρ)
  | .pick zc za zb => .pick (zc.sub ρ) (za.sub ρ) (zb.sub ρ)
  | .int zop zk zx zy => .int zop zk (zx.sub ρ) (zy.sub ρ)
  | .div zop zk zx zy => .div zop zk (zx.sub ρ) (zy.sub ρ)
  | .sh zop zk zx zy => .sh zop zk (zx.sub ρ) (zy.sub ρ)
  | .str zop zx zy => .str zop (zx.sub ρ) (zy.sub ρ)
  | .beq zneg zx zy => .beq zneg (zx.sub ρ) (zy.sub ρ)
  | .nil zneg zd zx zy => .nil zneg zd (zx.sub ρ) (zy.sub ρ)
  | .not zx => .not (zx.sub ρ)
  | .neg zx => .neg (zx.sub ρ)
  | .xor zx => .xor (zx.sub ρ)
  | .cInt zk zx => .cInt zk (zx.sub ρ)
  | .cStr zx => .cStr (zx.sub ρ)
  | .ifc zt zx => .ifc zt (zx.sub ρ)
  | .ass zt zok zz zx => .ass zt zok zz (zx.sub ρ)
  | .fn zf za zb => .fn zf (za.map (OO.sub ρ)) (zb.map (OO.sub ρ))
  | .fld zoff zx => .fld zoff (zx.sub ρ)
  | .idx zes zx zy => .idx zes (zx.sub ρ) (zy.sub ρ)
  | .idxA zlen zes zx zy => .idxA zlen zes (zx.sub ρ) (zy.sub ρ)
  | .part zag zoff zn zx => .part zag zoff zn (zx.sub ρ)
  | .partI zag zlen zn zx zy => .partI zag zlen zn (zx.sub ρ) (zy.sub ρ)
  | .byte zx zy => .byte (zx.sub ρ) (zy.sub ρ)
  | .ext zi zx => .ext zi (zx.sub ρ)
  | .chk zx => .chk (zx.sub ρ)
  | .sl zes zx zlo zhi zmx => .sl zes (zx.sub ρ) (zlo.map (OO.sub ρ)) (zhi.map (OO.sub ρ)) (zmx.map (OO.sub ρ))
  | .slS zx zlo zhi => .slS (zx.sub ρ) (zlo.map (OO.sub ρ)) (zhi.map (OO.sub ρ))
  | .lenS zx => .lenS (zx.sub ρ)
  | .lenT zx => .lenT (zx.sub ρ)
  | .lenA zn zx => .lenA zn (zx.sub ρ)
  | .cap zx => .cap (zx.sub ρ)
  | .mn zk zx zy => .mn zk (zx.sub ρ) (zy.sub ρ)
  | .mx zk zx zy => .mx zk (zx.sub ρ) (zy.sub ρ)
  | .build zz zps => .build zz (zps.map (subP ρ))
  | .ld zx => .ld (zx.sub ρ)
  | .ldN zn zx => .ldN zn (zx.sub ρ)
  | .lk zd zz zok zx zy => .lk zd zz zok (zx.sub ρ) (zy.sub ρ)
  | .lenM zx => .lenM (zx.sub ρ)
  | .al zl => .al zl
  | .box zx => .box (zx.sub ρ)
  | .bSl zlen zsize zz zps => .bSl zlen zsize zz (zps.map (subP ρ))
  | .mk => .mk
  | .mkN zx => .mkN (zx.sub ρ)
  | .st zm zx zy => .st zm (zx.sub ρ) (zy.sub ρ)
  | .ap zes zx zy => .ap zes (zx.sub ρ) (zy.sub ρ)
  | .mu zd zx zy zz => .mu zd (zx.sub ρ) (zy.sub ρ) (zz.sub ρ)
  | .call zf za => .call zf (za.map (OO.sub ρ))
  | .callV zx za => .callV (zx.sub ρ) (za.map (OO.sub ρ))
  | .stuck => .stuck
  | .mkS zes zbytes zz zx zy => .mkS zes zbytes zz (zx.sub ρ) (zy.sub ρ)
  | .apZ zes zbytes zz zx zy => .apZ zes zbytes zz (zx.sub ρ) (zy.sub ρ)
  | .clr zz zx => .clr zz (zx.sub ρ)
  | .cpy zes zx zy => .cpy zes (zx.sub ρ) (zy.sub ρ)
  | .rng zx => .rng (zx.sub ρ)
  | .nx zx => .nx (zx.sub ρ)
  | .ent zx => .ent (zx.sub ρ)
  | .bstr zx => .bstr (zx.sub ρ)
  | .inv zms zx za => .inv zms (zx.sub ρ) (za.map (OO.sub ρ))
  | .mE zd zz zx zy => .mE zd zz (zx.sub ρ) (zy.sub ρ)
  | .eS zx zy zz => .eS (zx.sub ρ) (zy.sub ρ) (zz.sub ρ)
  | .strE zng zks zx zy => .strE zng zks (zx.sub ρ) (zy.sub ρ)
  | .lkS zks zz zok zx zy => .lkS zks zz zok (zx.sub ρ) (zy.sub ρ)
  | .muS zks zx zy zz => .muS zks (zx.sub ρ) (zy.sub ρ) (zz.sub ρ)
  | .slA zn zes zx zlo zhi => .slA zn zes (zx.sub ρ) (zlo.map (OO.sub ρ)) (zhi.map (OO.sub ρ))
/-- The frame with these values in their slots. -/
def flush (ρ : List (Nat × V)) (e : E) : E := ρ.foldr (fun p e => Ut p.1 e p.2) e
def okR (ρ : List (Nat × V)) : Prop := ∀ p, p ∈ ρ → p.1 < 256
theorem Gt_flush {ρ : List (Nat × V)} (h : okR ρ) (e : E) {n : Nat} (hn : n < 256) : Gt n (flush ρ e) = (sbV n ρ).getD (Gt n e) := by
  induction ρ with
  | nil => rfl
  | cons p ρ ih =>
    show Gt n (Ut p.1 (flush ρ e) p.2) = _
    rw [Gt_Ut n p.1 hn (h p List.mem_cons_self), ih (fun q hq => h q (List.mem_cons_of_mem _ hq))]
    by_cases hp : n = p.1
    · subst hp; simp [sbV]
    · rw [if_neg hp]; simp only [sbV, nbeq_false (Ne.symm hp)]
theorem E_ext {e e' : E} (h : ∀ t, t < 256 → Gt t e = Gt t e') : e = e' := by
  have h1 : ∀ (x y : N16 V), (∀ j, j < 16 → N16.get j x = N16.get j y) → x = y := by
    intro x y hxy
    obtain ⟨x0, x1, x2, x3, x4, x5, x6, x7, x8, x9, x10, x11, x12, x13, x14, x15⟩ := x
    obtain ⟨y0, y1, y2, y3, y4, y5, y6, y7, y8, y9, y10, y11, y12, y13, y14, y15⟩ := y
    have p := fun j hj => hxy j hj
    have p0 := p 0 (by omega); have p1 := p 1 (by omega); have p2 := p 2 (by omega); have p3 := p 3 (by omega); have p4 := p 4 (by omega); have p5 := p 5 (by omega); have p6 := p 6 (by omega); have p7 := p 7 (by omega)
    have p8 := p 8 (by omega); have p9 := p 9 (by omega); have p10 := p 10 (by omega); have p11 := p 11 (by omega); have p12 := p 12 (by omega); have p13 := p 13 (by omega); have p14 := p 14 (by omega); have p15 := p 15 (by omega)
    simp only [N16.get] at p0 p1 p2 p3 p4 p5 p6 p7 p8 p9 p10 p11 p12 p13 p14 p15
    subst p0 p1 p2 p3 p4 p5 p6 p7 p8 p9 p10 p11 p12 p13 p14 p15
    rfl
  have h2 : ∀ (x y : E), (∀ i, i < 16 → N16.get i x = N16.get i y) → x = y := by
    intro x y hxy
    obtain ⟨x0, x1, x2, x3, x4, x5, x6, x7, x8, x9, x10, x11, x12, x13, x14, x15⟩ := x
    obtain ⟨y0, y1, y2, y3, y4, y5, y6, y7, y8, y9, y10, y11, y12, y13, y14, y15⟩ := y
    have p := fun j hj => hxy j hj
    have p0 := p 0 (by omega); have p1 := p 1 (by omega); have p2 := p 2 (by omega); have p3 := p 3 (by omega); have p4 := p 4 (by omega); have p5 := p 5 (by omega); have p6 := p 6 (by omega); have p7 := p 7 (by omega)
    have p8 := p 8 (by omega); have p9 := p 9 (by omega); have p10 := p 10 (by omega); have p11 := p 11 (by omega); have p12 := p 12 (by omega); have p13 := p 13 (by omega); have p14 := p 14 (by omega); have p15 := p 15 (by omega)
    simp only [N16.get] at p0 p1 p2 p3 p4 p5 p6 p7 p8 p9 p10 p11 p12 p13 p14 p15
    subst p0 p1 p2 p3 p4 p5 p6 p7 p8 p9 p10 p11 p12 p13 p14 p15
    rfl
  refine h2 e e' fun i hi => h1 _ _ fun j hj => ?_
  have := h (16 * i + j) (by omega)
  unfold Gt at this
  rwa [show (16 * i + j) % 16 = j by omega, show (16 * i + j) / 16 = i by omega] at this

/-! ### What an operation reads -/
def OO.sl : OO → List Nat | .t n => [n] | .c _ => []
def slO : Option OO → List Nat | none => [] | some x => x.sl
def slP (l : List (Nat × Nat × OO)) : List Nat := l.flatMap fun p => p.2.2.sl
def slL (l : List OO) : List Nat := l.flatMap OO.sl
def slots : LO → List Nat
  | .move x | .not x | .neg x | .xor x | .cInt _ x | .cStr x | .ifc _ x | .ass _ _ _ x | .fld _ x | .part _ _ _ x | .ext _ x | .chk x | .lenS x | .lenT x | .lenA _ x | .cap x | .ld x | .ldN _ x | .lenM x | .box x | .mkN x => x.sl
  | .pick c a b => c.sl ++ a.sl ++ b.sl
  | .int _ _ x y | .div _ _ x y | .sh _ _ x y | .str _ x y | .beq _ x y | .nil _ _ x y | .idx _ x y | .idxA _ _ x y | .partI _ _ _ x y | .byte x y | .mn _ x y | .mx _ x y | .lk _ _ _ x y | .st _ x y | .ap _ x y => x.sl ++ y.sl
  | .fn _ a b => slL a ++ slL b
  | .sl _ x lo hi mx => x.sl ++ slO lo ++ slO hi ++ slO mx
  | .slS x lo hi => x.sl ++ slO lo ++ slO hi
  | .build _ ps | .bSl _ _ _ ps => slP ps
  | .al _ | .mk => []
  | .mu _ x y z => x.sl ++ y.sl ++ z.sl
  | .call _ a => slL a
  | .callV x a => x.sl ++ slL a
  | .stuck => []
  | .mkS _ _ _ x y | .apZ _ _ _ x y | .cpy _ x y => x.sl ++ y.sl
  | .clr _ x | .rng x | .nx x | .ent x | .bstr x => x.sl
  | .inv _ x a => x.sl ++ slL a
  | .mE _ _ x y => x.sl ++ y.sl
  | .eS x y z => x.sl ++ y.sl ++ z.sl
  | .strE _ _ x y | .lkS _ _ _ x y => x.sl ++ y.sl
  | .muS _ x y z => x.sl ++ y.sl ++ z.sl
  | .slA _ _ x lo hi => x.sl ++ slO lo ++ slO hi

def OD.same2 (e e' : E) : OD → OD → Prop
  | .p f, .p g => f e = g e'
  | .d f, .d g => ∀ s, f e s = g e' s
  | .a f, .a g => ∀ n, f e n = g e' n
  | .e f, .e g => ∀ k s, f k e s = g k e' s
  | _, _ => False
section
variable {ρ : List (Nat × V)} (hρ : okR ρ) (e : E)
include hρ
theorem sub_den {x : OO} (hx : ∀ n, n ∈ x.sl → n < 256) : (x.sub ρ).den e = x.den (flush ρ e) := by
  cases x with
  | c v => rfl
  | t n =>
    have hn := hx n (by simp [OO.sl])
    show _ = Gt n (flush ρ e)
    rw [Gt_flush hρ e hn]
    show OO.den (match sbV n ρ with | some v => .c v | none => .t n) e = _
    cases sbV n ρ <;> rfl
theorem sub_l : ∀ {l : List OO}, (∀ n, n ∈ slL l → n < 256) → evs ((l.map (OO.sub ρ)).map OO.den) e = evs (l.map OO.den) (flush ρ e)
  | [], _ => rfl
  | x :: l, h => by
    simp only [List.map_cons, evs]
    rw [sub_den hρ e (fun t ht => h t (by simp [slL, ht])), sub_l (fun t ht => h t (by simp only [slL, List.flatMap_cons, List.mem_append]; exact .inr ht))]
theorem sub_p : ∀ {l : List (Nat × Nat × OO)}, (∀ n, n ∈ slP l → n < 256) → evP ((l.map (subP ρ)).map denPart) e = evP (l.map denPart) (flush ρ e)
  | [], _ => rfl
  | (a, b, x) :: l, h => by
    simp only [List.map_cons, subP, denPart, evP]
    rw [sub_den hρ e (fun t ht => h t (by simp [slP, ht])), sub_p (fun t ht => h t (by simp only [slP, List.flatMap_cons, List.mem_append]; exact .inr ht))]
theorem sub_o {x : Option OO} (h : ∀ n, n ∈ slO x → n < 256) : evO ((x.map (OO.sub ρ)).map OO.den) e = evO (x.map OO.den) (flush ρ e) := by
  cases x with
  | none => rfl
  | some x => simp only [Option.map_some, evO]; rw [sub_den hρ e h]
theorem sub_lo {fok : T Bool} {l : LO} {od : OD} (hd : denLO fok l = some od) (h : ∀ n, n ∈ slots l → n < 256) : ∃ od', denLO fok (l.sub ρ) = some od' ∧ OD.same2 e (flush ρ e) od' od := by
  have s1 : ∀ {x : OO}, (∀ t, t ∈ x.sl → t ∈ slots l) → (x.sub ρ).den e = x.den (flush ρ e) := fun hx => sub_den hρ e fun t ht => h t (hx t ht)
  have s2 : ∀ {x : List OO}, (∀ t, t ∈ slL x → t ∈ slots l) → evs ((x.map (OO.sub ρ)).map OO.den) e = evs (x.map OO.den) (flush ρ e) := fun hx => sub_l hρ e fun t ht => h t (hx t ht)
  have s3 : ∀ {x : List (Nat × Nat × OO)}, (∀ t, t ∈ slP x → t ∈ slots l) → evP ((x.map (subP ρ)).map denPart) e = evP (x.map denPart) (flush ρ e) := fun hx => sub_p hρ e fun t ht => h t (hx t ht)
  have s4 : ∀ {x : Option OO}, (∀ t, t ∈ slO x → t ∈ slots l) → evO ((x.map (OO.sub ρ)).map OO.den) e = evO (x.map OO.den) (flush ρ e) := fun hx => sub_o hρ e fun t ht => h t (hx t ht)
  cases l <;> simp only [denLO] at hd
  case move x => cases hd; refine ⟨_, rfl, ?_⟩; show OD.same2 _ _ _ _; simp only [OD.same2, pMove]; rw [s1 (by simp [slots])]
  case pick c a b => cases hd; refine ⟨_, rfl, ?_⟩; show OD.same2 _ _ _ _; simp only [OD.same2, pPick]; rw [s1 (x := c) (by simp +contextual [slots]), s1 (x := a) (by simp +contextual [slots]), s1 (x := b) (by simp +contextual [slots])]
  case int op k x y => split at hd <;> cases hd; rename_i hq; refine ⟨_, by simp only [LO.sub, denLO, hq]; rfl, ?_⟩; show OD.same2 _ _ _ _; simp only [OD.same2, pBin]; rw [s1 (x := x) (by simp +contextual [slots]), s1 (x := y) (by simp +contextual [slots])]
  case div op k x y => split at hd <;> cases hd; rename_i hq; refine ⟨_, by simp only [LO.sub, denLO, hq]; rfl, ?_⟩; show OD.same2 _ _ _ _; simp only [OD.same2, pBin]; rw [s1 (x := x) (by simp +contextual [slots]), s1 (x := y) (by simp +contextual [slots])]
  case sh op k x y => cases hd; refine ⟨_, rfl, ?_⟩; show OD.same2 _ _ _ _; simp only [OD.same2, pBin]; rw [s1 (x := x) (by simp +contextual [slots]), s1 (x := y) (by simp +contextual [slots])]
  case str op x y => split at hd <;> cases hd; rename_i hq; refine ⟨_, by simp only [LO.sub, denLO, hq]; rfl, ?_⟩; show OD.same2 _ _ _ _; simp only [OD.same2, pBin]; rw [s1 (x := x) (by simp +contextual [slots]), s1 (x := y) (by simp +contextual [slots])]
  case beq ng x y => cases hd; refine ⟨_, rfl, ?_⟩; show OD.same2 _ _ _ _; simp only [OD.same2, pBin]; rw [s1 (x := x) (by simp +contextual [slots]), s1 (x := y) (by simp +contextual [slots])]
  case nil ng d x y => split at hd <;> cases hd; rename_i hq; refine ⟨_, by simp only [LO.sub, denLO, hq]; rfl, ?_⟩; show OD.same2 _ _ _ _; simp only [OD.same2, pBin]; rw [s1 (x := x) (by simp +contextual [slots]), s1 (x := y) (by simp +contextual [slots])]
  case not x => cases hd; refine ⟨_, rfl, ?_⟩; show OD.same2 _ _ _ _; simp only [OD.same2, pUn]; rw [s1 (by simp [slots])]
  case neg x => cases hd; refine ⟨_, rfl, ?_⟩; show OD.same2 _ _ _ _; simp only [OD.same2, pUn]; rw [s1 (by simp [slots])]
  case xor x => cases hd; refine ⟨_, rfl, ?_⟩; show OD.same2 _ _ _ _; simp only [OD.same2, pUn]; rw [s1 (by simp [slots])]
  case cInt k x => cases hd; refine ⟨_, rfl, ?_⟩; show OD.same2 _ _ _ _; simp only [OD.same2, pUn]; rw [s1 (by simp [slots])]
  case cStr x => cases hd; refine ⟨_, rfl, ?_⟩; show OD.same2 _ _ _ _; simp only [OD.same2, pUn]; rw [s1 (by simp [slots])]
  case ifc t x => cases hd; refine ⟨_, rfl, ?_⟩; show OD.same2 _ _ _ _; simp only [OD.same2, pUn]; rw [s1 (by simp [slots])]
  case ass t ok z x => cases hd; refine ⟨_, rfl, ?_⟩; show OD.same2 _ _ _ _; simp only [OD.same2, pUn]; rw [s1 (by simp [slots])]
  case fn f a b => cases hd; refine ⟨_, rfl, ?_⟩; show OD.same2 _ _ _ _; simp only [OD.same2, pFun]; rw [s2 (x := a) (by simp +contextual [slots]), s2 (x := b) (by simp +contextual [slots])]
  case fld off x => cases hd; refine ⟨_, rfl, ?_⟩; show OD.same2 _ _ _ _; simp only [OD.same2, pUn]; rw [s1 (by simp [slots])]
  case idx es x y => cases hd; refine ⟨_, rfl, ?_⟩; show OD.same2 _ _ _ _; simp only [OD.same2, pBin]; rw [s1 (x := x) (by simp +contextual [slots]), s1 (x := y) (by simp +contextual [slots])]
  case idxA len es x y => cases hd; refine ⟨_, rfl, ?_⟩; show OD.same2 _ _ _ _; simp only [OD.same2, pBin]; rw [s1 (x := x) (by simp +contextual [slots]), s1 (x := y) (by simp +contextual [slots])]
  case part ag off n x => cases hd; refine ⟨_, rfl, ?_⟩; show OD.same2 _ _ _ _; simp only [OD.same2, pUn]; rw [s1 (by simp [slots])]
  case partI ag len n x y => cases hd; refine ⟨_, rfl, ?_⟩; show OD.same2 _ _ _ _; simp only [OD.same2, pBin]; rw [s1 (x := x) (by simp +contextual [slots]), s1 (x := y) (by simp +contextual [slots])]
  case byte x y => cases hd; refine ⟨_, rfl, ?_⟩; show OD.same2 _ _ _ _; simp only [OD.same2, pBin]; rw [s1 (x := x) (by simp +contextual [slots]), s1 (x := y) (by simp +contextual [slots])]
  case ext i x => cases hd; refine ⟨_, rfl, ?_⟩; show OD.same2 _ _ _ _; simp only [OD.same2, pUn]; rw [s1 (by simp [slots])]
  case chk x => cases hd; refine ⟨_, rfl, ?_⟩; show OD.same2 _ _ _ _; simp only [OD.same2, pUn]; rw [s1 (by simp [slots])]
  case sl es x lo hi mx => cases hd; refine ⟨_, rfl, ?_⟩; show OD.same2 _ _ _ _; simp only [OD.same2, pSl]; rw [s1 (x := x) (by simp +contextual [slots]), s4 (x := lo) (by simp +contextual [slots]), s4 (x := hi) (by simp +contextual [slots]), s4 (x := mx) (by simp +contextual [slots])]
  case slS x lo hi => cases hd; refine ⟨_, rfl, ?_⟩; show OD.same2 _ _ _ _; simp only [OD.same2, pSlS]; rw [s1 (x := x) (by simp +contextual [slots]), s4 (x := lo) (by simp +contextual [slots]), s4 (x := hi) (by simp +contextual [slots])]
  case lenS x => cases hd; refine ⟨_, rfl, ?_⟩; show OD.same2 _ _ _ _; simp only [OD.same2, pUn]; rw [s1 (by simp [slots])]
  case lenT x => cases hd; refine ⟨_, rfl, ?_⟩; show OD.same2 _ _ _ _; simp only [OD.same2, pUn]; rw [s1 (by simp [slots])]
  case lenA n x => cases hd; refine ⟨_, rfl, ?_⟩; show OD.same2 _ _ _ _; simp only [OD.same2, pUn]; rw [s1 (by simp [slots])]
  case cap x => cases hd; refine ⟨_, rfl, ?_⟩; show OD.same2 _ _ _ _; simp only [OD.same2, pUn]; rw [s1 (by simp [slots])]
  case mn k x y => cases hd; refine ⟨_, rfl, ?_⟩; show OD.same2 _ _ _ _; simp only [OD.same2, pBin]; rw [s1 (x := x) (by simp +contextual [slots]), s1 (x := y) (by simp +contextual [slots])]
  case mx k x y => cases hd; refine ⟨_, rfl, ?_⟩; show OD.same2 _ _ _ _; simp only [OD.same2, pBin]; rw [s1 (x := x) (by simp +contextual [slots]), s1 (x := y) (by simp +contextual [slots])]
  case build z ps => cases hd; refine ⟨_, rfl, ?_⟩; show OD.same2 _ _ _ _; simp only [OD.same2, pBuild]; rw [s3 (by simp [slots])]
  case ld x => cases hd; refine ⟨_, rfl, ?_⟩; show OD.same2 _ _ _ _; intro s; simp only [dLd]; rw [s1 (by simp [slots])]
  case ldN n x => cases hd; refine ⟨_, rfl, ?_⟩; show OD.same2 _ _ _ _; intro s; simp only [dLdN]; rw [s1 (by simp [slots])]
  case lk d z ok x y => split at hd <;> cases hd; rename_i hq; refine ⟨_, by simp only [LO.sub, denLO, hq]; rfl, ?_⟩; show OD.same2 _ _ _ _; intro s; simp only [dLk]; rw [s1 (x := x) (by simp +contextual [slots]), s1 (x := y) (by simp +contextual [slots])]
  case lenM x => cases hd; refine ⟨_, rfl, ?_⟩; show OD.same2 _ _ _ _; intro s; simp only [dLenM]; rw [s1 (by simp [slots])]
  case al l => cases hd; refine ⟨_, rfl, ?_⟩; show OD.same2 _ _ _ _; intro n; rfl
  case box x => cases hd; refine ⟨_, rfl, ?_⟩; show OD.same2 _ _ _ _; intro n; simp only [aBox]; rw [s1 (by simp [slots])]
  case bSl len size z ps => cases hd; refine ⟨_, rfl, ?_⟩; show OD.same2 _ _ _ _; intro n; simp only [aBSl]; rw [s3 (by simp [slots])]
  case mk => cases hd; refine ⟨_, rfl, ?_⟩; show OD.same2 _ _ _ _; intro n; rfl
  case mkN x => cases hd; refine ⟨_, rfl, ?_⟩; show OD.same2 _ _ _ _; intro n; simp only [aMkN]; rw [s1 (by simp [slots])]
  case st m x y => cases hd; refine ⟨_, rfl, ?_⟩; show OD.same2 _ _ _ _; intro k s; simp only [eSt]; rw [s1 (x := x) (by simp +contextual [slots]), s1 (x := y) (by simp +contextual [slots])]
  case ap es x y => cases hd; refine ⟨_, rfl, ?_⟩; show OD.same2 _ _ _ _; intro k s; simp only [eAp]; rw [s1 (x := x) (by simp +contextual [slots]), s1 (x := y) (by simp +contextual [slots])]
  case mu d x y z => split at hd <;> cases hd; rename_i hq; refine ⟨_, by simp only [LO.sub, denLO, hq]; rfl, ?_⟩; show OD.same2 _ _ _ _; intro k s; simp only [eMu]; rw [s1 (x := x) (by simp +contextual [slots]), s1 (x := y) (by simp +contextual [slots]), s1 (x := z) (by simp +contextual [slots])]
  case call f a => cases hd; refine ⟨_, rfl, ?_⟩; show OD.same2 _ _ _ _; intro k s; simp only [eCall]; rw [s2 (by simp [slots])]
  case callV x a => cases hd; refine ⟨_, rfl, ?_⟩; show OD.same2 _ _ _ _; intro k s; simp only [eCallV]; rw [s1 (x := x) (by simp +contextual [slots]), s2 (x := a) (by simp +contextual [slots])]
  case stuck => cases hd; refine ⟨_, rfl, ?_⟩; show OD.same2 _ _ _ _; rfl
  case mkS es bytes z x y => cases hd; refine ⟨_, rfl, ?_⟩; show OD.same2 _ _ _ _; intro n; simp only [aMkS]; rw [s1 (x := x) (by simp +contextual [slots]), s1 (x := y) (by simp +contextual [slots])]
  case apZ es bytes z x y => cases hd; refine ⟨_, rfl, ?_⟩; show OD.same2 _ _ _ _; intro n; simp only [aApZ]; rw [s1 (x := x) (by simp +contextual [slots]), s1 (x := y) (by simp +contextual [slots])]
  case clr z x => cases hd; refine ⟨_, rfl, ?_⟩; show OD.same2 _ _ _ _; intro k s; simp only [eClr]; rw [s1 (by simp [slots])]
  case cpy es x y => cases hd; refine ⟨_, rfl, ?_⟩; show OD.same2 _ _ _ _; intro k s; simp only [eCp]; rw [s1 (x := x) (by simp +contextual [slots]), s1 (x := y) (by simp +contextual [slots])]
  case rng x => cases hd; refine ⟨_, rfl, ?_⟩; show OD.same2 _ _ _ _; intro k s; simp only [eRng]; rw [s1 (by simp [slots])]
  case nx x => cases hd; refine ⟨_, rfl, ?_⟩; show OD.same2 _ _ _ _; intro k s; simp only [eNx]; rw [s1 (by simp [slots])]
  case ent x => cases hd; refine ⟨_, rfl, ?_⟩; show OD.same2 _ _ _ _; intro s; simp only [dEnt]; rw [s1 (by simp [slots])]
  case bstr x => cases hd; refine ⟨_, rfl, ?_⟩; show OD.same2 _ _ _ _; intro s; simp only [dBStr]; rw [s1 (by simp [slots])]
  case inv ms x a => cases hd; refine ⟨_, rfl, ?_⟩; show OD.same2 _ _ _ _; intro k s; simp only [eInv]; rw [s1 (x := x) (by simp +contextual [slots]), s2 (x := a) (by simp +contextual [slots])]
  case mE d z x y => split at hd <;> cases hd; rename_i hq; refine ⟨_, by simp only [LO.sub, denLO, hq]; rfl, ?_⟩; show OD.same2 _ _ _ _; intro k s; unfold eME; rw [s1 (x := x) (by simp +contextual [slots]), s1 (x := y) (by simp +contextual [slots])]
  case eS x y z => cases hd; refine ⟨_, rfl, ?_⟩; show OD.same2 _ _ _ _; intro k s; unfold eES; rw [s1 (x := x) (by simp +contextual [slots]), s1 (x := y) (by simp +contextual [slots]), s1 (x := z) (by simp +contextual [slots])]
  case strE ng ks x y => cases hd; refine ⟨_, rfl, ?_⟩; show OD.same2 _ _ _ _; simp only [OD.same2, pBin]; rw [s1 (x := x) (by simp +contextual [slots]), s1 (x := y) (by simp +contextual [slots])]
  case lkS ks z ok x y => cases hd; refine ⟨_, rfl, ?_⟩; show OD.same2 _ _ _ _; intro s; simp only [dLkS, dLk]; rw [s1 (x := x) (by simp +contextual [slots]), s1 (x := y) (by simp +contextual [slots])]
  case muS ks x y z => cases hd; refine ⟨_, rfl, ?_⟩; show OD.same2 _ _ _ _; intro k s; simp only [eMuS, eMu]; rw [s1 (x := x) (by simp +contextual [slots]), s1 (x := y) (by simp +contextual [slots]), s1 (x := z) (by simp +contextual [slots])]
  case slA n es x lo hi => cases hd; refine ⟨_, rfl, ?_⟩; show OD.same2 _ _ _ _; intro s; simp only [dSlA]; rw [s1 (x := x) (by simp +contextual [slots]), s4 (x := lo) (by simp +contextual [slots]), s4 (x := hi) (by simp +contextual [slots])]
end

/-! ### The region -/
structure FI where
  lo : LO
  dst : Option Nat
  g : Option (Nat × Bool)
def uOf : Option Nat → E → V → E | none => uNone | some t => Ut t
def itemD (d : OD) (i : FI) : Den := match i.g with | none => d.den (uOf i.dst) | some (t, want) => oG (Gt t) want (d.den (uOf i.dst)) (uOf i.dst)
def putR (d : Option Nat) (v : V) (ρ : List (Nat × V)) : List (Nat × V) := match d with | none => ρ | some t => (t, v) :: ρ.filter fun p => not (Nat.beq p.1 t)
def bP (x : Option V) (k : V → Res) : Res := Option.rec (motive := fun _ => Res) .bad k x
def bE (x : Option (V × St)) (k : V → St → Res) : Res := Option.rec (motive := fun _ => Res) .bad (fun p => k p.1 p.2) x
def aSt (x : Option (V × Ob)) (s : St) : Option (V × St) := Option.rec (motive := fun _ => Option (V × St)) none (fun p => some (p.1, s.new p.2)) x
def gdV (v : V) (w : Bool) (x : Option V) : Option V := match v with
  | .bool b => Bool.casesOn (motive := fun _ => Option V) (Bool.casesOn (motive := fun _ => Bool) w (not b) b) (some (.tup [])) x
  | .tup [] => some (.tup [])
  | _ => none
def gdW (v : V) (w : Bool) (s : St) (x : Option (V × St)) : Option (V × St) := match v with
  | .bool b => Bool.casesOn (motive := fun _ => Option (V × St)) (Bool.casesOn (motive := fun _ => Bool) w (not b) b) (some (.tup [], s)) x
  | .tup [] => some (.tup [], s)
  | _ => none
def gP (g : Option (Nat × Bool)) (ρ : List (Nat × V)) (e : E) (x : Option V) : Option V := match g with | none => x | some (t, w) => gdV ((OO.sub ρ (.t t)).den e) w x
def gW (g : Option (Nat × Bool)) (ρ : List (Nat × V)) (e : E) (s : St) (x : Option (V × St)) : Option (V × St) := match g with | none => x | some (t, w) => gdW ((OO.sub ρ (.t t)).den e) w s x
def fuse (fok : T Bool) : List FI → List (Nat × V) → Den
  | [], ρ, _, e, s => .nrm (flush ρ e) s
  | i :: l, ρ, k, e, s => match i.g, i.lo.sub ρ with
   | none, .move x => fuse fok l (putR i.dst (x.den e) ρ) k e s
   | _, lo => match denLO fok lo with
    | some (.p f) => bP (gP i.g ρ e (f e)) fun v => fuse fok l (putR i.dst v ρ) k e s
    | some (.d f) => bP (gP i.g ρ e (f e s)) fun v => fuse fok l (putR i.dst v ρ) k e s
    | some (.a f) => bE (gW i.g ρ e s (aSt (f e s.next) s)) fun v s => fuse fok l (putR i.dst v ρ) k e s
    | some (.e f) => bE (gW i.g ρ e s (f k e s)) fun v s => fuse fok l (putR i.dst v ρ) k e s
    | none => .bad
/-- Slots that may be named. -/
def FI.ok (i : FI) : Bool := (slots i.lo).all (Nat.blt · 256) && (match i.g with | some (t, _) => Nat.blt t 256 | none => true) && (match i.dst with | some t => Nat.blt t 256 | none => true)
theorem sbV_filter {n t : Nat} (h : n ≠ t) : ∀ (ρ : List (Nat × V)), sbV n (ρ.filter fun p => not (Nat.beq p.1 t)) = sbV n ρ
  | [] => rfl
  | p :: ρ => by
    rw [List.filter_cons]
    by_cases hp : p.1 = t
    · have h1 : Nat.beq p.1 t = true := by rw [hp]; simp
      have h2 : Nat.beq p.1 n = false := nbeq_false (by omega)
      rw [h1]; simp only [Bool.not_true, Bool.false_eq_true, if_false, sbV, h2]
      exact sbV_filter h ρ
    · have h1 : Nat.beq p.1 t = false := nbeq_false hp
      rw [h1]; simp only [Bool.not_false, if_true, sbV]
      rw [sbV_filter h ρ]
theorem okR_put {ρ : List (Nat × V)} (h : okR ρ) {d : Option Nat} (hd : ∀ t, d = some t → t < 256) (v : V) : okR (putR d v ρ) := by
  cases d with
  | none => exact h
  | some t =>
    intro p hp
    rcases List.mem_cons.1 hp with rfl | hp
    · exact hd t rfl
    · exact h p (List.mem_filter.1 hp).1
theorem flush_put {ρ : List (Nat × V)} (h : okR ρ) {d : Option Nat} (hd : ∀ t, d = some t → t < 256) (v : V) (e : E) : flush (putR d v ρ) e = uOf d (flush ρ e) v := by
  cases d with
  | none => rfl
  | some t =>
    have ht := hd t rfl
    have ho := okR_put h hd v
    refine E_ext fun n hn => ?_
    rw [Gt_flush ho e hn]
    show _ = Gt n (Ut t (flush ρ e) v)
    rw [Gt_Ut n t hn ht, Gt_flush h e hn]
    by_cases hnt : n = t
    · subst hnt; simp [putR, sbV]
    · rw [if_neg hnt]
      simp only [putR, sbV, nbeq_false (Ne.symm hnt)]
      rw [sbV_filter hnt]
def gV (g : Option (Nat × Bool)) (e : E) (x : Option V) : Option V := match g with | none => x | some (t, w) => gdV (Gt t e) w x
def gVW (g : Option (Nat × Bool)) (e : E) (s : St) (x : Option (V × St)) : Option (V × St) := match g with | none => x | some (t, w) => gdW (Gt t e) w s x
theorem gP_eq {g : Option (Nat × Bool)} {ρ : List (Nat × V)} (h : okR ρ) (e : E) (hg : ∀ t w, g = some (t, w) → t < 256) (x : Option V) : gP g ρ e x = gV g (flush ρ e) x := by
  cases g with
  | none => rfl
  | some p =>
    obtain ⟨t, w⟩ := p
    simp only [gP, gV]
    rw [sub_den h e (x := .t t) (fun n hn => by simp [OO.sl] at hn; rw [hn]; exact hg t w rfl)]
    rfl
theorem gW_eq {g : Option (Nat × Bool)} {ρ : List (Nat × V)} (h : okR ρ) (e : E) (s : St) (hg : ∀ t w, g = some (t, w) → t < 256) (x : Option (V × St)) : gW g ρ e s x = gVW g (flush ρ e) s x := by
  cases g with
  | none => rfl
  | some p =>
    obtain ⟨t, w⟩ := p
    simp only [gW, gVW]
    rw [sub_den h e (x := .t t) (fun n hn => by simp [OO.sl] at hn; rw [hn]; exact hg t w rfl)]
    rfl
/-- What one item comes to, of its value. -/
theorem item_p {g : Option (Nat × Bool)} {u : E → V → E} {d : Den} {k : KC} {e : E} {s : St} {x : Option V} (hx : d k e s = match x with | some v => .nrm (u e v) s | none => .bad) :
    (match g with | none => d | some (t, want) => oG (Gt t) want d u) k e s = match gV g e x with | some v => .nrm (u e v) s | none => .bad := by
  cases g with
  | none => exact hx
  | some p =>
    obtain ⟨t, w⟩ := p
    simp only [oG, gV, gdV]
    generalize Gt t e = q
    cases q with
    | bool b => cases b <;> cases w <;> first | exact hx | rfl
    | tup l => cases l <;> rfl
    | _ => rfl
theorem item_w {g : Option (Nat × Bool)} {u : E → V → E} {d : Den} {k : KC} {e : E} {s : St} {x : Option (V × St)} (hx : d k e s = match x with | some (v, s') => .nrm (u e v) s' | none => .bad) :
    (match g with | none => d | some (t, want) => oG (Gt t) want d u) k e s = match gVW g e s x with | some (v, s') => .nrm (u e v) s' | none => .bad := by
  cases g with
  | none => exact hx
  | some p =>
    obtain ⟨t, w⟩ := p
    simp only [oG, gVW, gdW]
    generalize Gt t e = q
    cases q with
    | bool b => cases b <;> cases w <;> first | exact hx | rfl
    | tup l => cases l <;> rfl
    | _ => rfl
theorem fuse_eq {fok : T Bool} (k : KC) (e : E) : ∀ (l : List FI) (ds : List OD) (ρ : List (Nat × V)) (s : St), l.all FI.ok = true → ds.length = l.length → (∀ (i : Nat) (x : FI), l[i]? = some x → ∃ d, ds[i]? = some d ∧ denLO fok x.lo = some d) → okR ρ →
    fuse fok l ρ k e s = ops (List.zipWith itemD ds l) k (flush ρ e) s
  | [], [], ρ, s, _, _, _, _ => rfl
  | i :: l, d :: ds, ρ, s, hok, hlen, hd, hρ => by
    obtain ⟨d', e1, hden⟩ := hd 0 i rfl
    cases e1
    simp only [List.all_cons, Bool.and_eq_true, FI.ok] at hok
    obtain ⟨⟨⟨o1, o2⟩, o3⟩, hok⟩ := hok
    have h1 : ∀ n, n ∈ slots i.lo → n < 256 := fun n hn => by
      have := List.all_eq_true.1 o1 n hn
      rw [nblt_eq] at this; simpa using this
    have h2 : ∀ t w, i.g = some (t, w) → t < 256 := fun t w h => by rw [h] at o2; simp only [nblt_eq] at o2; simpa using o2
    have h3 : ∀ t, i.dst = some t → t < 256 := fun t h => by rw [h] at o3; simp only [nblt_eq] at o3; simpa using o3
    have hlen' : ds.length = l.length := by simpa using hlen
    have hd' : ∀ (j : Nat) (x : FI), l[j]? = some x → ∃ d, ds[j]? = some d ∧ denLO fok x.lo = some d := fun j x hx => by simpa using hd (j + 1) x (by simpa using hx)
    obtain ⟨od, q1, q2⟩ := sub_lo hρ e hden h1
    have ih : ∀ v s, fuse fok l (putR i.dst v ρ) k e s = ops (List.zipWith itemD ds l) k (uOf i.dst (flush ρ e) v) s := fun v s => by
      rw [fuse_eq k e l ds _ s hok hlen' hd' (okR_put hρ h3 v), flush_put hρ h3]
    have hP : ∀ (x : Option V), d.den (uOf i.dst) k (flush ρ e) s = (match x with | some v => .nrm (uOf i.dst (flush ρ e) v) s | none => .bad) → bP (gP i.g ρ e x) (fun v => fuse fok l (putR i.dst v ρ) k e s) = ops (List.zipWith itemD (d :: ds) (i :: l)) k (flush ρ e) s := by
      intro x hx
      rw [gP_eq hρ e h2]
      simp only [List.zipWith_cons_cons, ops, dSeq, itemD]
      rw [item_p (g := i.g) hx]
      generalize gV i.g (flush ρ e) x = y
      cases y with
      | none => rfl
      | some v => exact ih v s
    have hW : ∀ (x : Option (V × St)), d.den (uOf i.dst) k (flush ρ e) s = (match x with | some (v, s') => .nrm (uOf i.dst (flush ρ e) v) s' | none => .bad) → bE (gW i.g ρ e s x) (fun v s => fuse fok l (putR i.dst v ρ) k e s) = ops (List.zipWith itemD (d :: ds) (i :: l)) k (flush ρ e) s := by
      intro x hx
      rw [gW_eq hρ e s h2]
      simp only [List.zipWith_cons_cons, ops, dSeq, itemD]
      rw [item_w (g := i.g) hx]
      generalize gVW i.g (flush ρ e) s x = y
      cases y with
      | none => rfl
      | some p => exact ih p.1 p.2
    unfold fuse
    split
    · rename_i x hg hlo
      rw [hlo] at q1
      cases q1
      cases d with
      | p g =>
        have hq : some (x.den e) = g (flush ρ e) := q2
        rw [ih]
        simp only [List.zipWith_cons_cons, ops, dSeq, itemD, hg, OD.den, oP, ← hq]
      | d g => exact q2.elim
      | a g => exact q2.elim
      | e g => exact q2.elim
    rw [q1]
    cases od with
    | p f =>
      cases d with
      | p g => exact hP (f e) (by rw [show f e = g (flush ρ e) from q2]; rfl)
      | d g => exact q2.elim
      | a g => exact q2.elim
      | e g => exact q2.elim
    | d f =>
      cases d with
      | d g => exact hP (f e s) (by rw [show f e s = g (flush ρ e) s from q2 s]; rfl)
      | p g => exact q2.elim
      | a g => exact q2.elim
      | e g => exact q2.elim
    | a f =>
      cases d with
      | a g => exact hW (aSt (f e s.next) s) (by
          rw [show f e s.next = g (flush ρ e) s.next from q2 s.next]
          show oA g (uOf i.dst) k (flush ρ e) s = _
          unfold oA
          cases g (flush ρ e) s.next with
          | none => rfl
          | some p => rfl)
      | p g => exact q2.elim
      | d g => exact q2.elim
      | e g => exact q2.elim
    | e f =>
      cases d with
      | e g => exact hW (f k e s) (by rw [show f k e s = g k (flush ρ e) s from q2 k s]; rfl)
      | p g => exact q2.elim
      | d g => exact q2.elim
      | a g => exact q2.elim
/-! ### A row of the frame, made anew -/
noncomputable def rw0 (e : E) (k : V → V → V → V → V → V → V → V → V → V → V → V → V → V → V → V → N16 V) : E := N16.rec (motive := fun _ => E) (fun x0 x1 x2 x3 x4 x5 x6 x7 x8 x9 x10 x11 x12 x13 x14 x15 => N16.rec (motive := fun _ => E) (fun y0 y1 y2 y3 y4 y5 y6 y7 y8 y9 y10 y11 y12 y13 y14 y15 => ⟨k y0 y1 y2 y3 y4 y5 y6 y7 y8 y9 y10 y11 y12 y13 y14 y15, x1, x2, x3, x4, x5, x6, x7, x8, x9, x10, x11, x12, x13, x14, x15⟩) x0) e
noncomputable def rw1 (e : E) (k : V → V → V → V → V → V → V → V → V → V → V → V → V → V → V → V → N16 V) : E := N16.rec (motive := fun _ => E) (fun x0 x1 x2 x3 x4 x5 x6 x7 x8 x9 x10 x11 x12 x13 x14 x15 => N16.rec (motive := fun _ => E) (fun y0 y1 y2 y3 y4 y5 y6 y7 y8 y9 y10 y11 y12 y13 y14 y15 => ⟨x0, k y0 y1 y2 y3 y4 y5 y6 y7 y8 y9 y10 y11 y12 y13 y14 y15, x2, x3, x4, x5, x6, x7, x8, x9, x10, x11, x12, x13, x14, x15⟩) x1) e
noncomputable def rw2 (e : E) (k : V → V → V → V → V → V → V → V → V → V → V → V → V → V → V → V → N16 V) : E := N16.rec (motive := fun _ => E) (fun x0 x1 x2 x3 x4 x5 x6 x7 x8 x9 x10 x11 x12 x13 x14 x15 => N16.rec (motive := fun _ => E) (fun y0 y1 y2 y3 y4 y5 y6 y7 y8 y9 y10 y11 y12 y13 y14 y15 => ⟨x0, x1, k y0 y1 y2 y3 y4 y5 y6 y7 y8 y9 y10 y11 y12 y13 y14 y15, x3, x4, x5, x6, x7, x8, x9, x10, x11, x12, x13, x14, x15⟩) x2) e
noncomputable def rw3 (e : E) (k : V → V → V → V → V → V → V → V → V → V → V → V → V → V → V → V → N16 V) : E := N16.rec (motive := fun _ => E) (fun x0 x1 x2 x3 x4 x5 x6 x7 x8 x9 x10 x11 x12 x13 x14 x15 => N16.rec (motive := fun _ => E) (fun y0 y1 y2 y3 y4 y5 y6 y7 y8 y9 y10 y11 y12 y13 y14 y15 => ⟨x0, x1, x2, k y0 y1 y2 y3 y4 y5 y6 y7 y8 y9 y10 y11 y12 y13 y14 y15, x4, x5, x6, x7, x8, x9, x10, x11, x12, x13, x14, x15⟩) x3) e
noncomputable def rw4 (e : E) (k : V → V → V → V → V → V → V → V → V → V → V → V → V → V → V → V → N16 V) : E := N16.rec (motive := fun _ => E) (fun x0 x1 x2 x3 x4 x5 x6 x7 x8 x9 x10 x11 x12 x13 x14 x15 => N16.rec (motive := fun _ => E) (fun y0 y1 y2 y3 y4 y5 y6 y7 y8 y9 y10 y11 y12 y13 y14 y15 => ⟨x0, x1, x2, x3, k y0 y1 y2 y3 y4 y5 y6 y7 y8 y9 y10 y11 y12 y13 y14 y15, x5, x6, x7, x8, x9, x10, x11, x12, x13, x14, x15⟩) x4) e
noncomputable def rw5 (e : E) (k : V → V → V → V → V → V → V → V → V → V → V → V → V → V → V → V → N16 V) : E := N16.rec (motive := fun _ => E) (fun x0 x1 x2 x3 x4 x5 x6 x7 x8 x9 x10 x11 x12 x13 x14 x15 => N16.rec (motive := fun _ => E) (fun y0 y1 y2 y3 y4 y5 y6 y7 y8 y9 y10 y11 y12 y13 y14 y15 => ⟨x0, x1, x2, x3, x4, k y0 y1 y2 y3 y4 y5 y6 y7 y8 y9 y10 y11 y12 y13 y14 y15, x6, x7, x8, x9, x10, x11, x12, x13, x14, x15⟩) x5) e
noncomputable def rw6 (e : E) (k : V → V → V → V → V → V → V → V → V → V → V → V → V → V → V → V → N16 V) : E := N16.rec (motive := fun _ => E) (fun x0 x1 x2 x3 x4 x5 x6 x7 x8 x9 x10 x11 x12 x13 x14 x15 => N16.rec (motive := fun _ => E) (fun y0 y1 y2 y3 y4 y5 y6 y7 y8 y9 y10 y11 y12 y13 y14 y15 => ⟨x0, x1, x2, x3, x4, x5, k y0 y1 y2 y3 y4 y5 y6 y7 y8 y9 y10 y11 y12 y13 y14 y15, x7, x8, x9, x10, x11, x12, x13, x14, x15⟩) x6) e
noncomputable def rw7 (e : E) (k : V → V → V → V → V → V → V → V → V → V → V → V → V → V → V → V → N16 V) : E := N16.rec (motive := fun _ => E) (fun x0 x1 x2 x3 x4 x5 x6 x7 x8 x9 x10 x11 x12 x13 x14 x15 => N16.rec (motive := fun _ => E) (fun y0 y1 y2 y3 y4 y5 y6 y7 y8 y9 y10 y11 y12 y13 y14 y15 => ⟨x0, x1, x2, x3, x4, x5, x6, k y0 y1 y2 y3 y4 y5 y6 y7 y8 y9 y10 y11 y12 y13 y14 y15, x8, x9, x10, x11, x12, x13, x14, x15⟩) x7) e
noncomputable def rw8 (e : E) (k : V → V → V → V → V → V → V → V → V → V → V → V → V → V → V → V → N16 V) : E := N16.rec (motive := fun _ => E) (fun x0 x1 x2 x3 x4 x5 x6 x7 x8 x9 x10 x11 x12 x13 x14 x15 => N16.rec (motive := fun _ => E) (fun y0 y1 y2 y3 y4 y5 y6 y7 y8 y9 y10 y11 y12 y13 y14 y15 => ⟨x0, x1, x2, x3, x4, x5, x6, x7, k y0 y1 y2 y3 y4 y5 y6 y7 y8 y9 y10 y11 y12 y13 y14 y15, x9, x10, x11, x12, x13, x14, x15⟩) x8) e
noncomputable def rw9 (e : E) (k : V → V → V → V → V → V → V → V → V → V → V → V → V → V → V → V → N16 V) : E := N16.rec (motive := fun _ => E) (fun x0 x1 x2 x3 x4 x5 x6 x7 x8 x9 x10 x11 x12 x13 x14 x15 => N16.rec (motive := fun _ => E) (fun y0 y1 y2 y3 y4 y5 y6 y7 y8 y9 y10 y11 y12 y13 y14 y15 => ⟨x0, x1, x2, x3, x4, x5, x6, x7, x8, k y0 y1 y2 y3 y4 y5 y6 y7 y8 y9 y10 y11 y12 y13 y14 y15, x10, x11, x12, x13, x14, x15⟩) x9) e
noncomputable def rw10 (e : E) (k : V → V → V → V → V → V → V → V → V → V → V → V → V → V → V → V → N16 V) : E := N16.rec (motive := fun _ => E) (fun x0 x1 x2 x3 x4 x5 x6 x7 x8 x9 x10 x11 x12 x13 x14 x15 => N16.rec (motive := fun _ => E) (fun y0 y1 y2 y3 y4 y5 y6 y7 y8 y9 y10 y11 y12 y13 y14 y15 => ⟨x0, x1, x2, x3, x4, x5, x6, x7, x8, x9, k y0 y1 y2 y3 y4 y5 y6 y7 y8 y9 y10 y11 y12 y13 y14 y15, x11, x12, x13, x14, x15⟩) x10) e
noncomputable def rw11 (e : E) (k : V → V → V → V → V → V → V → V → V → V → V → V → V → V → V → V → N16 V) : E := N16.rec (motive := fun _ => E) (fun x0 x1 x2 x3 x4 x5 x6 x7 x8 x9 x10 x11 x12 x13 x14 x15 => N16.rec (motive := fun _ => E) (fun y0 y1 y2 y3 y4 y5 y6 y7 y8 y9 y10 y11 y12 y13 y14 y15 => ⟨x0, x1, x2, x3, x4, x5, x6, x7, x8, x9, x10, k y0 y1 y2 y3 y4 y5 y6 y7 y8 y9 y10 y11 y12 y13 y14 y15, x12, x13, x14, x15⟩) x11) e
noncomputable def rw12 (e : E) (k : V → V → V → V → V → V → V → V → V → V → V → V → V → V → V → V → N16 V) : E := N16.rec (motive := fun _ => E) (fun x0 x1 x2 x3 x4 x5 x6 x7 x8 x9 x10 x11 x12 x13 x14 x15 => N16.rec (motive := fun _ => E) (fun y0 y1 y2 y3 y4 y5 y6 y7 y8 y9 y10 y11 y12 y13 y14 y15 => ⟨x0, x1, x2, x3, x4, x5, x6, x7, x8, x9, x10, x11, k y0 y1 y2 y3 y4 y5 y6 y7 y8 y9 y10 y11 y12 y13 y14 y15, x13, x14, x15⟩) x12) e
noncomputable def rw13 (e : E) (k : V → V → V → V → V → V → V → V → V → V → V → V → V → V → V → V → N16 V) : E := N16.rec (motive := fun _ => E) (fun x0 x1 x2 x3 x4 x5 x6 x7 x8 x9 x10 x11 x12 x13 x14 x15 => N16.rec (motive := fun _ => E) (fun y0 y1 y2 y3 y4 y5 y6 y7 y8 y9 y10 y11 y12 y13 y14 y15 => ⟨x0, x1, x2, x3, x4, x5, x6, x7, x8, x9, x10, x11, x12, k y0 y1 y2 y3 y4 y5 y6 y7 y8 y9 y10 y11 y12 y13 y14 y15, x14, x15⟩) x13) e
noncomputable def rw14 (e : E) (k : V → V → V → V → V → V → V → V → V → V → V → V → V → V → V → V → N16 V) : E := N16.rec (motive := fun _ => E) (fun x0 x1 x2 x3 x4 x5 x6 x7 x8 x9 x10 x11 x12 x13 x14 x15 => N16.rec (motive := fun _ => E) (fun y0 y1 y2 y3 y4 y5 y6 y7 y8 y9 y10 y11 y12 y13 y14 y15 => ⟨x0, x1, x2, x3, x4, x5, x6, x7, x8, x9, x10, x11, x12, x13, k y0 y1 y2 y3 y4 y5 y6 y7 y8 y9 y10 y11 y12 y13 y14 y15, x15⟩) x14) e
noncomputable def rw15 (e : E) (k : V → V → V → V → V → V → V → V → V → V → V → V → V → V → V → V → N16 V) : E := N16.rec (motive := fun _ => E) (fun x0 x1 x2 x3 x4 x5 x6 x7 x8 x9 x10 x11 x12 x13 x14 x15 => N16.rec (motive := fun _ => E) (fun y0 y1 y2 y3 y4 y5 y6 y7 y8 y9 y10 y11 y12 y13 y14 y15 => ⟨x0, x1, x2, x3, x4, x5, x6, x7, x8, x9, x10, x11, x12, x13, x14, k y0 y1 y2 y3 y4 y5 y6 y7 y8 y9 y10 y11 y12 y13 y14 y15⟩) x15) e
end
end Go.Proofs.YtjipdnfaokdkbaaLab
