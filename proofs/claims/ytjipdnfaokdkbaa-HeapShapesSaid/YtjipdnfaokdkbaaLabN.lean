/- The lab: loops through maps, whatever comes next: every way is gone; what they agree on is kept. No condition on the program. -/
import Derived.Test.YtjipdnfaokdkbaaLabD
namespace Go.Proofs.YtjipdnfaokdkbaaLab
open Go
set_option linter.unusedVariables false
noncomputable section

/-! ### Are two values the same? -/
mutual
def sameV : Nat → V → V → Bool
  | _, .bool a, .bool b => a == b
  | _, .i a, .i b => eqI a b
  | _, .int k a, .int k' b => and (Nat.beq (kn k) (kn k')) (eqI a b)
  | _, .str a, .str b => eqL a b
  | _, .nilp, .nilp | _, .nils, .nils | _, .nilm, .nilm | _, .nilf, .nilf | _, .nili, .nili => true
  | _, .ptr a b, .ptr c d => and (Nat.beq a c) (Nat.beq b d)
  | _, .slice a b c x y, .slice a' b' c' x' y' => and (and (Nat.beq a a') (Nat.beq b b')) (and (and (Nat.beq c c') (Nat.beq y y')) (x == x'))
  | _, .map a, .map b => Nat.beq a b
  | n + 1, .iface t v, .iface t' v' => and (Nat.beq t t') (sameV n v v')
  | n + 1, .agg l, .agg l' => sameL n l l'
  | n + 1, .tup l, .tup l' => sameL n l l'
  | _, _, _ => false
def sameL : Nat → List V → List V → Bool
  | _, [], [] => true
  | n + 1, a :: l, b :: r => and (sameV n a b) (sameL n l r)
  | _, _, _ => false
end

mutual
theorem sameV_eq : ∀ {n : Nat} {a b : V}, sameV n a b = true → a = b := by
  intro n a b h
  unfold sameV at h
  split at h
  · rw [eq_of_beq h]
  · rw [eqI_eq] at h; rw [eq_of_beq h]
  · rw [Bool.and_eq_true] at h; obtain ⟨h1, h2⟩ := h
    rw [eqI_eq] at h2; rw [kn_inj (Nat.eq_of_beq_eq_true h1), eq_of_beq h2]
  · rw [eqL_eq] at h; rw [eq_of_beq h]
  · rfl
  · rfl
  · rfl
  · rfl
  · rfl
  · rw [Bool.and_eq_true] at h; obtain ⟨h1, h2⟩ := h
    rw [Nat.eq_of_beq_eq_true h1, Nat.eq_of_beq_eq_true h2]
  · simp only [Bool.and_eq_true] at h; obtain ⟨⟨h1, h2⟩, ⟨h3, h4⟩, h5⟩ := h
    rw [Nat.eq_of_beq_eq_true h1, Nat.eq_of_beq_eq_true h2, Nat.eq_of_beq_eq_true h3, Nat.eq_of_beq_eq_true h4, eq_of_beq h5]
  · rw [Nat.eq_of_beq_eq_true h]
  · rw [Bool.and_eq_true] at h; obtain ⟨h1, h2⟩ := h
    rw [Nat.eq_of_beq_eq_true h1, sameV_eq h2]
  · rw [sameL_eq h]
  · rw [sameL_eq h]
  · cases h
theorem sameL_eq : ∀ {n : Nat} {a b : List V}, sameL n a b = true → a = b := by
  intro n a b h
  unfold sameL at h
  split at h
  · rfl
  · rw [Bool.and_eq_true] at h; obtain ⟨h1, h2⟩ := h
    rw [sameV_eq h1, sameL_eq h2]
  · cases h
end


theorem T.set_set {α : Type} : ∀ (t : T α) (i : Nat) (x y : α), (t.set i x).set i y = t.set i y
  | .nil, 0, x, y => rfl
  | .nil, i + 1, x, y => rfl
  | .node v l r, 0, x, y => rfl
  | .node v l r, i + 1, x, y => by
    rw [T.set_node, T.set_node]
    by_cases h : i % 2 = 0
    · rw [if_pos h, if_pos h, T.set_node, if_pos h, T.set_set l]
    · rw [if_neg h, if_neg h, T.set_node, if_neg h, T.set_set r]

/-! ### Which comes next -/
/-- The walk's state, so that one of those that may come is preferred. -/
def prefI (s : St) (it i : Nat) : St := match s.heap.get it with
  | some (.iter m since seen last _) => s.put it (.iter m since seen last i)
  | _ => s
theorem nxAt_iter {s : St} {v : V} {it : Nat} {m : Option Nat} {since : Nat} {seen : List Nat} {cl pref : Nat} {cs : List (Option Tr)} (h : nxAt s v = some (it, m, since, seen, cl, pref, cs)) :
    v = .ptr it 0 ∧ ∃ last, s.heap.get it = some (.iter m since seen last pref) ∧ ∀ i, nxAt (s.put it (.iter m since seen last i)) v = some (it, m, since, seen, cl, i, cs) := by
  unfold nxAt at h
  split at h
  · rename_i it'
    split at h
    · rename_i since' seen' last' pref' hb
      cases h
      refine ⟨rfl, _, hb, fun i => ?_⟩
      have : (s.put it (.iter none since seen last' i)).heap.get it = some (.iter none since seen last' i) := T.get_set_same hb
      simp only [nxAt, this]
    · rename_i mb since' seen' last' pref' hb
      split at h
      · rename_i es bs cl' hmb
        cases hg : gone (trip es bs) seen' last' with
        | true => rw [hg] at h; cases h
        | false =>
          rw [hg] at h; cases h
          refine ⟨rfl, _, hb, fun i => ?_⟩
          have h1 : (s.put it (.iter (some mb) since seen last' i)).heap.get it = some (.iter (some mb) since seen last' i) := T.get_set_same hb
          have hne : it ≠ mb := fun e => by rw [e, hmb] at hb; cases hb
          have h2 : (s.put it (.iter (some mb) since seen last' i)).heap.get mb = some (.map es bs cl) := T.get_set_other hmb hne
          simp only [nxAt, h1, h2, hg]
      · cases h
    · cases h
  · cases h
theorem Touch.refl (k : Nat) (w : World) : Touch k w w := ⟨rfl, rfl, rfl, rfl, fun _ _ => rfl, Rows.refl w⟩
theorem ObR.pref {G : Pl} {w : World} {b : Nat} {m : Option Nat} {since : Nat} {seen : List Nat} {last p p' : Nat} (h : ObR G w b (.iter m since seen last p)) : ObR G w b (.iter m since seen last p') := h

/-! ### What two ways agree on -/
def jV (a b : V) : V := Bool.casesOn (motive := fun _ => V) (sameV 100 a b) .undef a
theorem jV_l {G : Pl} {a b : V} {x : Value} (h : VR G a x) : VR G (jV a b) x := by
  unfold jV
  cases sameV 100 a b with
  | true => exact h
  | false => exact .undef x
theorem jV_r {G : Pl} {a b : V} {x : Value} (h : VR G b x) : VR G (jV a b) x := by
  unfold jV
  cases e : sameV 100 a b with
  | true => have := sameV_eq e; subst this; exact h
  | false => exact .undef x
def N16.zip {α : Type} (f : α → α → α) (e e' : N16 α) : N16 α := ⟨f e.a0 e'.a0, f e.a1 e'.a1, f e.a2 e'.a2, f e.a3 e'.a3, f e.a4 e'.a4, f e.a5 e'.a5, f e.a6 e'.a6, f e.a7 e'.a7, f e.a8 e'.a8, f e.a9 e'.a9, f e.a10 e'.a10, f e.a11 e'.a11, f e.a12 e'.a12, f e.a13 e'.a13, f e.a14 e'.a14, f e.a15 e'.a15⟩
theorem N16.get_zip {α : Type} (f : α → α → α) (e e' : N16 α) (i : Nat) : (N16.zip f e e').get i = f (e.get i) (e'.get i) := by
  match i with
  | 0 | 1 | 2 | 3 | 4 | 5 | 6 | 7 | 8 | 9 | 10 | 11 | 12 | 13 | 14 | _ + 15 => rfl
def jE (e e' : E) : E := N16.zip (N16.zip jV) e e'
theorem Gt_jE (e e' : E) (t : Nat) : Gt t (jE e e') = jV (Gt t e) (Gt t e') := by
  unfold Gt jE
  rw [N16.get_zip, N16.get_zip]
def jT : T V → T V → T V | .node v l r, .node v' l' r' => .node (jV v v') (jT l l') (jT r r') | _, _ => .nil
theorem jT_get : ∀ {a b : T V} {i : Nat} {x : V}, (jT a b).get i = some x → ∃ y z, a.get i = some y ∧ b.get i = some z ∧ x = jV y z
  | .nil, _, i, x, h => by cases h
  | .node _ _ _, .nil, i, x, h => by cases h
  | .node v l r, .node v' l' r', 0, x, h => by cases h; exact ⟨v, v', rfl, rfl, rfl⟩
  | .node v l r, .node v' l' r', i + 1, x, h => by
    simp only [jT] at h
    rw [T.get_node] at h
    by_cases hi : i % 2 = 0
    · rw [if_pos hi] at h
      obtain ⟨y, z, a1, a2, a3⟩ := jT_get h
      exact ⟨y, z, by rw [T.get_node, if_pos hi]; exact a1, by rw [T.get_node, if_pos hi]; exact a2, a3⟩
    · rw [if_neg hi] at h
      obtain ⟨y, z, a1, a2, a3⟩ := jT_get h
      exact ⟨y, z, by rw [T.get_node, if_neg hi]; exact a1, by rw [T.get_node, if_neg hi]; exact a2, a3⟩
def sameN : List Nat → List Nat → Bool | [], [] => true | a :: l, b :: r => Bool.casesOn (motive := fun _ => Bool) (Nat.beq a b) false (sameN l r) | _, _ => false
theorem sameN_eq : ∀ {a b : List Nat}, sameN a b = true → a = b
  | [], [], _ => rfl
  | a :: l, b :: r, h => by
    unfold sameN at h
    cases e : Nat.beq a b with
    | false => rw [e] at h; cases h
    | true => rw [e] at h; rw [Nat.eq_of_beq_eq_true e, sameN_eq h]
  | [], _ :: _, h => by cases h
  | _ :: _, [], h => by cases h
def sameP (a b : List (V × V)) : Bool := and (sameL 100 (a.map (·.1)) (b.map (·.1))) (sameL 100 (a.map (·.2)) (b.map (·.2)))
theorem sameP_eq {a b : List (V × V)} (h : sameP a b = true) : a = b := by
  unfold sameP at h
  rw [Bool.and_eq_true] at h
  have h1 := sameL_eq h.1
  have h2 := sameL_eq h.2
  clear h
  induction a generalizing b with
  | nil => cases b with | nil => rfl | cons => cases h1
  | cons x a ih =>
    cases b with
    | nil => cases h1
    | cons y b =>
      simp only [List.map_cons, List.cons.injEq] at h1 h2
      rw [ih h1.2 h2.2, Prod.ext h1.1 h2.1]
def sameM (a b : Option Nat) : Bool := match a, b with | none, none => true | some x, some y => Nat.beq x y | _, _ => false
def jO : Ob → Ob → Ob
  | .cells n xs, .cells m ys => Bool.casesOn (motive := fun _ => Ob) (Nat.beq n m) .dead (.cells n (jT xs ys))
  | .map es bs cl, .map es' bs' cl' => Bool.casesOn (motive := fun _ => Ob) (and (sameP es es') (and (sameN bs bs') (Nat.beq cl cl'))) .dead (.map es bs cl)
  | .iter m si se la p, .iter m' si' se' la' p' => Bool.casesOn (motive := fun _ => Ob) (and (and (sameM m m') (Nat.beq si si')) (and (sameN se se') (Nat.beq la la'))) .dead (.iter m si se la p)
  | _, _ => .dead
/-- One says no more than another. -/
def Wk (o o' : Ob) : Prop := (∀ G w b, ObR G w b o → ObR G w b o') ∧ (∀ m, o'.lv m = true → o.lv m = true)
theorem Wk.dead (o : Ob) : Wk o .dead := ⟨fun _ _ _ _ => trivial, fun m h => (Ob.lv_dead h).elim⟩
theorem jO_l (o p : Ob) : Wk o (jO o p) := by
  unfold jO
  split
  · rename_i n xs m ys
    cases Nat.beq n m with
    | false => exact Wk.dead _
    | true =>
      refine ⟨fun G w b h => ?_, fun _ _ => Ob.lv_of rfl⟩
      obtain ⟨l, c, el, fz, h1, h2, h3, h4, h5, h6⟩ := h
      refine ⟨l, c, el, fz, h1, h2, h3, h4, h5, fun i x hi hx => ?_⟩
      obtain ⟨y, z, a1, a2, rfl⟩ := jT_get hx
      obtain ⟨x', b1, b2, b3⟩ := h6 i y hi a1
      exact ⟨x', b1, jV_l b2, b3⟩
  · cases and (sameP _ _) (and (sameN _ _) (Nat.beq _ _)) <;> first | exact Wk.dead _ | exact ⟨fun _ _ _ h => h, fun _ h => h⟩
  · cases and (and (sameM _ _) (Nat.beq _ _)) (and (sameN _ _) (Nat.beq _ _)) <;> first | exact Wk.dead _ | exact ⟨fun _ _ _ h => h, fun _ h => h⟩
  · exact Wk.dead _
theorem jO_r (o p : Ob) : Wk p (jO o p) := by
  unfold jO
  split
  · rename_i n xs m ys
    cases e : Nat.beq n m with
    | false => exact Wk.dead _
    | true =>
      have := Nat.eq_of_beq_eq_true e
      subst this
      refine ⟨fun G w b h => ?_, fun _ _ => Ob.lv_of rfl⟩
      obtain ⟨l, c, el, fz, h1, h2, h3, h4, h5, h6⟩ := h
      refine ⟨l, c, el, fz, h1, h2, h3, h4, h5, fun i x hi hx => ?_⟩
      obtain ⟨y, z, a1, a2, rfl⟩ := jT_get hx
      obtain ⟨x', b1, b2, b3⟩ := h6 i z hi a2
      exact ⟨x', b1, jV_r b2, b3⟩
  · rename_i es bs cl es' bs' cl'
    cases e : and (sameP es es') (and (sameN bs bs') (Nat.beq cl cl')) with
    | false => exact Wk.dead _
    | true =>
      rw [Bool.and_eq_true, Bool.and_eq_true] at e
      rw [sameP_eq e.1, sameN_eq e.2.1, Nat.eq_of_beq_eq_true e.2.2]
      exact ⟨fun _ _ _ h => h, fun _ h => h⟩
  · rename_i m si se la p m' si' se' la' p'
    cases e : and (and (sameM m m') (Nat.beq si si')) (and (sameN se se') (Nat.beq la la')) with
    | false => exact Wk.dead _
    | true =>
      rw [Bool.and_eq_true, Bool.and_eq_true, Bool.and_eq_true] at e
      have hm : m = m' := by
        have := e.1.1
        cases m <;> cases m' <;> simp only [sameM] at this <;> first | rfl | cases this | rw [Nat.eq_of_beq_eq_true this]
      rw [hm, Nat.eq_of_beq_eq_true e.1.2, sameN_eq e.2.1, Nat.eq_of_beq_eq_true e.2.2]
      exact ⟨fun _ _ _ h => h, fun _ h => h⟩
  · exact Wk.dead _
def jH : T Ob → T Ob → T Ob | .node v l r, .node v' l' r' => .node (jO v v') (jH l l') (jH r r') | _, _ => .nil
theorem jH_get : ∀ {a b : T Ob} {i : Nat} {x : Ob}, (jH a b).get i = some x → ∃ y z, a.get i = some y ∧ b.get i = some z ∧ x = jO y z
  | .nil, _, i, x, h => by cases h
  | .node _ _ _, .nil, i, x, h => by cases h
  | .node v l r, .node v' l' r', 0, x, h => by cases h; exact ⟨v, v', rfl, rfl, rfl⟩
  | .node v l r, .node v' l' r', i + 1, x, h => by
    simp only [jH] at h
    rw [T.get_node] at h
    by_cases hi : i % 2 = 0
    · rw [if_pos hi] at h
      obtain ⟨y, z, a1, a2, a3⟩ := jH_get h
      exact ⟨y, z, by rw [T.get_node, if_pos hi]; exact a1, by rw [T.get_node, if_pos hi]; exact a2, a3⟩
    · rw [if_neg hi] at h
      obtain ⟨y, z, a1, a2, a3⟩ := jH_get h
      exact ⟨y, z, by rw [T.get_node, if_neg hi]; exact a1, by rw [T.get_node, if_neg hi]; exact a2, a3⟩
theorem SR.weak {G G0 : Pl} {s s' s0 : St} {w w0 : World} (hs : SR G s w) (hg : GoS G0 s0 w0 G s w) (hn : s'.next = s.next) (hh : ∀ b o', s'.heap.get b = some o' → ∃ o, s.heap.get b = some o ∧ Wk o o') : SR G s' w ∧ GoS G0 s0 w0 G s' w := by
  refine ⟨⟨⟨fun b o' hb => ?_, fun b b' o o' l l' hb hb' lp lp' hl hl' he => ?_⟩, fun b hb => ?_, fun b l hb => by rw [hn]; exact hs.dom b l hb⟩, ⟨⟨hg.go.le, hg.go.os, hg.go.tape, hg.go.output, hg.go.size, fun mm k hk => ?_, hg.go.same, hg.go.row⟩, by rw [hn]; exact hg.nx, hg.kp⟩⟩
  · obtain ⟨o, h1, h2⟩ := hh b o' hb
    exact h2.1 _ _ _ (hs.r.ob b o h1)
  · obtain ⟨p, h1, h2⟩ := hh b o hb
    obtain ⟨p', h1', h2'⟩ := hh b' o' hb'
    exact hs.r.inj b b' p p' l l' h1 h1' (h2.2 false lp) (h2'.2 false lp') hl hl' he
  · cases hq : s'.heap.get b with
    | none => rfl
    | some o' =>
      obtain ⟨o, h1, _⟩ := hh b o' hq
      rw [hs.fresh b (by omega)] at h1; cases h1
  · obtain ⟨b, o', l, h1, h2, h3, h4⟩ := hk
    obtain ⟨o, a1, a2⟩ := hh b o' h1
    exact hg.go.new mm k ⟨b, o, l, a1, a2.2 mm h2, h3, h4⟩
def jS (s s' : St) : St := ⟨jH s.heap s'.heap, s.next⟩
def jR (r r' : Res) : Res := match r, r' with
  | .nrm e s, .nrm e' s' => Bool.casesOn (motive := fun _ => Res) (Nat.beq s.next s'.next) .bad (.nrm (jE e e') (jS s s'))
  | .exit i e s, .exit i' e' s' => Bool.casesOn (motive := fun _ => Res) (and (Nat.beq i i') (Nat.beq s.next s'.next)) .bad (.exit i (jE e e') (jS s s'))
  | .ret e s, .ret e' s' => Bool.casesOn (motive := fun _ => Res) (Nat.beq s.next s'.next) .bad (.ret (jE e e') (jS s s'))
  | _, _ => .bad
theorem EnvR.jl {nt : Nat} {gl : List Nat} {G : Pl} {e e' : E} {a : Act} (h : EnvR nt gl G e a) : EnvR nt gl G (jE e e') a := ⟨fun t ht => by rw [Gt_jE]; exact jV_l (h.tm t ht), h.sz, h.df, h.gl⟩
theorem EnvR.jr {nt : Nat} {gl : List Nat} {G : Pl} {e e' : E} {a : Act} (h : EnvR nt gl G e' a) : EnvR nt gl G (jE e e') a := ⟨fun t ht => by rw [Gt_jE]; exact jV_r (h.tm t ht), h.sz, h.df, h.gl⟩
theorem jR_ok {r r' : Res} (h : jR r r' ≠ .bad) : r ≠ .bad ∧ r' ≠ .bad ∧ ∀ {nt : Nat} {gl : List Nat} {G : Pl} {s : St} {w : World} {x : Exit} {a' : Act} {w' : World}, (Ends r nt gl G s w x a' w' ∨ Ends r' nt gl G s w x a' w') → Ends (jR r r') nt gl G s w x a' w' := by
  have wl : ∀ {s1 s2 : St} b o', (jS s1 s2).heap.get b = some o' → ∃ o, s1.heap.get b = some o ∧ Wk o o' := fun b o' hb => by
    obtain ⟨y, z, a1, a2, rfl⟩ := jH_get hb; exact ⟨y, a1, jO_l y z⟩
  have wr : ∀ {s1 s2 : St} b o', (jS s1 s2).heap.get b = some o' → ∃ o, s2.heap.get b = some o ∧ Wk o o' := fun b o' hb => by
    obtain ⟨y, z, a1, a2, rfl⟩ := jH_get hb; exact ⟨z, a2, jO_r y z⟩
  unfold jR at h ⊢
  split at h
  · rename_i e1 s1 e2 s2
    cases hb : Nat.beq s1.next s2.next with
    | false => rw [hb] at h; exact absurd rfl h
    | true =>
      have hn := Nat.eq_of_beq_eq_true hb
      refine ⟨by simp, by simp, fun {nt gl G s w x a' w'} he => ?_⟩
      rcases he with ⟨q, G', a1, a2, a3⟩ | ⟨q, G', a1, a2, a3⟩
      · obtain ⟨b1, b2⟩ := a2.weak (s' := jS s1 s2) a3 rfl wl
        exact ⟨q, G', a1.jl, b1, b2⟩
      · obtain ⟨b1, b2⟩ := a2.weak (s' := jS s1 s2) a3 hn wr
        exact ⟨q, G', a1.jr, b1, b2⟩
  · rename_i i1 e1 s1 i2 e2 s2
    cases hb : and (Nat.beq i1 i2) (Nat.beq s1.next s2.next) with
    | false => rw [hb] at h; exact absurd rfl h
    | true =>
      have hb' := hb
      rw [Bool.and_eq_true] at hb'
      have hn := Nat.eq_of_beq_eq_true hb'.2
      have hi := Nat.eq_of_beq_eq_true hb'.1
      subst hi
      refine ⟨by simp, by simp, fun {nt gl G s w x a' w'} he => ?_⟩
      rcases he with ⟨q, G', a1, a2, a3⟩ | ⟨q, G', a1, a2, a3⟩
      · obtain ⟨b1, b2⟩ := a2.weak (s' := jS s1 s2) a3 rfl wl
        exact ⟨q, G', a1.jl, b1, b2⟩
      · obtain ⟨b1, b2⟩ := a2.weak (s' := jS s1 s2) a3 hn wr
        exact ⟨q, G', a1.jr, b1, b2⟩
  · rename_i e1 s1 e2 s2
    cases hb : Nat.beq s1.next s2.next with
    | false => rw [hb] at h; exact absurd rfl h
    | true =>
      have hn := Nat.eq_of_beq_eq_true hb
      refine ⟨by simp, by simp, fun {nt gl G s w x a' w'} he => ?_⟩
      rcases he with ⟨q, G', a1, a2, a3⟩ | ⟨q, G', a1, a2, a3⟩
      · obtain ⟨b1, b2⟩ := a2.weak (s' := jS s1 s2) a3 rfl wl
        exact ⟨q, G', a1.jl, b1, b2⟩
      · obtain ⟨b1, b2⟩ := a2.weak (s' := jS s1 s2) a3 hn wr
        exact ⟨q, G', a1.jr, b1, b2⟩
  · exact absurd rfl h
def jAll : List Res → Res | [] => .bad | r :: l => match l with | [] => r | _ :: _ => jR r (jAll l)
theorem jAll_ok : ∀ {l : List Res} {r : Res}, jAll l ≠ .bad → r ∈ l → r ≠ .bad ∧ ∀ {nt : Nat} {gl : List Nat} {G : Pl} {s : St} {w : World} {x : Exit} {a' : Act} {w' : World}, Ends r nt gl G s w x a' w' → Ends (jAll l) nt gl G s w x a' w'
  | [], r, _, hr => by cases hr
  | [r0], r, h, hr => by
    have : r = r0 := by simpa using hr
    subst this
    exact ⟨h, fun he => he⟩
  | r0 :: r1 :: l, r, h, hr => by
    have h : jR r0 (jAll (r1 :: l)) ≠ .bad := h
    obtain ⟨h1, h2, h3⟩ := jR_ok h
    rcases List.mem_cons.1 hr with rfl | hr
    · exact ⟨h1, fun he => h3 (.inl he)⟩
    · obtain ⟨a1, a2⟩ := jAll_ok h2 hr
      exact ⟨a1, fun he => h3 (.inr (a2 he))⟩

/-! ### Loops -/
def upTo (n : Nat) : List Nat := Nat.rec (motive := fun _ => List Nat) [] (fun i ih => i :: ih) n
theorem upTo_mem {i : Nat} : ∀ {n : Nat}, i < n → i ∈ upTo n
  | n + 1, h => by
    show i ∈ n :: upTo n
    by_cases e : i = n
    · subst e; simp
    · exact List.mem_cons_of_mem _ (upTo_mem (by omega))
def loopM (g : E → V) (a : E → St → Res) (n : Nat) : E → St → Res := Nat.rec (motive := fun _ => E → St → Res) (fun _ _ => .bad) (fun _ ih e s => match nxAt s (g e) with
  | some (it, _, _, _, _, _, cs) => jAll ((upTo cs.length).map fun i => Res.casesOn (motive := fun _ => Res) (a e (prefI s it i)) (fun e s => ih e s) (fun id e s => .exit id e s) (fun e s => .ret e s) .bad)
  | none => .bad) n
def dLoopM (g : E → V) (a : Den) : Den := fun k e s => loopM g (a k) k.fuel e s
theorem loopM_succ (g : E → V) (a : E → St → Res) (n : Nat) (e : E) (s : St) : loopM g a (n + 1) e s = match nxAt s (g e) with
  | some (it, _, _, _, _, _, cs) => jAll ((upTo cs.length).map fun i => Res.casesOn (motive := fun _ => Res) (a e (prefI s it i)) (fun e s => loopM g a n e s) (fun id e s => .exit id e s) (fun e s => .ret e s) .bad)
  | none => .bad := rfl

section
variable {P : Program} {nt : Nat} {gl : List Nat}
/-- Code that begins with 'next': it comes to what ours comes to for one of those that may come. -/
def SndN (P : Program) (nt : Nat) (gl : List Nat) (c : Code) (d : Den) (g : E → V) : Prop :=
  ∀ k, KOk P gl k → ∀ G e a s w it m since seen cl pref cs, nxAt s (g e) = some (it, m, since, seen, cl, pref, cs) → (∀ i, i < cs.length → d k e (prefI s it i) ≠ .bad) → EnvR nt gl G e a → SR G s w →
    c.wp P (fun x a' w' => ∃ i, i < cs.length ∧ Ends (d k e (prefI s it i)) nt gl G s w x a' w') a w
theorem SndN.seq {x y : Code} {a b : Den} {g : E → V} (ha : SndN P nt gl x a g) (hb : Snd P nt gl y b) : SndN P nt gl (.seq x y) (dSeq a b) g := by
  intro k hk G e ac s w it m since seen cl pref cs hn hne he hs
  refine wp_seq (wp_mono (ha k hk G e ac s w it m since seen cl pref cs hn (fun i hi h => hne i hi (by unfold dSeq; rw [h])) he hs) ?_)
  rintro q a' w' ⟨i, hi, h⟩
  have hne := hne i hi
  unfold dSeq at hne
  cases hr : a k e (prefI s it i) with
  | nrm e' s' =>
    rw [hr] at h hne
    obtain ⟨rfl, G', h2, h3, h4⟩ := h
    exact wp_mono (hb k hk G' e' a' s' w' hne h2 h3) (fun _ _ _ hq => ⟨i, hi, by unfold dSeq; rw [hr]; exact Ends.from h4 hq⟩)
  | exit id e' s' => rw [hr] at h; obtain ⟨rfl, h⟩ := h; exact ⟨i, hi, by unfold dSeq; rw [hr]; exact ⟨rfl, h⟩⟩
  | ret e' s' => rw [hr] at h; obtain ⟨rfl, h⟩ := h; exact ⟨i, hi, by unfold dSeq; rw [hr]; exact ⟨rfl, h⟩⟩
  | bad => rw [hr] at h; exact h.elim
theorem SndN.region {id : Nat} {os : Array Oper} {o : Oper} {l : List Oper} {ds : List Den} {x : Operand} {g : E → V} {u : E → V → E} (hl : os.toList = o :: l) (ho : o.op = .next x false) (hg : opd gl x = some g) (hgd : o.guard = none) (hd : DstOk nt o.dst u) (h : OpsSnd P nt gl os l ds) :
    SndN P nt gl (.region id os false) (ops (oE (eNxP g) u :: ds)) g := by
  intro k hk G e a s w it m since seen cl pref cs hn hne he hs
  refine wp_region ?_
  have hsz : os.size = l.length + 1 := by have := congrArg List.length hl; simpa using this
  have h0 : os[0]? = some o := by rw [← Array.getElem?_toList, hl]; rfl
  rw [List.range_eq_range', hsz, List.range'_succ]
  simp only [wpOps, h0]
  rw [if_pos (by simp [Region.wanted, hgd])]
  refine .inl ((next_ok (P := P) ho hg he hs hn).wp ?_)
  rintro v' w' ⟨c, hc, hp⟩
  obtain ⟨i, hi⟩ := List.mem_iff_getElem?.1 hc
  have hlt := (List.getElem?_eq_some_iff.1 hi).1
  obtain ⟨hge, last, hit, hset⟩ := nxAt_iter hn
  have hpf : prefI s it i = s.put it (.iter m since seen last i) := by unfold prefI; rw [hit]
  obtain ⟨G', g1, g2, g3⟩ := hp i
  have hval : (nxC it m since seen cl i (prefI s it i) c).1 = (nxC it m since seen cl i s c).1 := by
    cases c with
    | none => rfl
    | some t => rfl
  -- the state of ours behind it
  have hstep : ops (oE (eNxP g) u :: ds) k e (prefI s it i) = ops ds k (u e (nxC it m since seen cl i s c).1) (nxC it m since seen cl i (prefI s it i) c).2 := by
    simp only [ops]
    unfold dSeq oE eNxP
    rw [hpf, hset i]
    simp only [nthC_eq, hi]
    rw [← hpf, hval]
  have hne := hne i hlt
  rw [hstep] at hne
  have hst : SR G' (nxC it m since seen cl i (prefI s it i) c).2 w' ∧ GoS G s w G' (nxC it m since seen cl i (prefI s it i) c).2 w' := by
    cases c with
    | none =>
      have g1 : GoS G s w G' s w' := g1
      have g2 : SR G' s w' := g2
      show SR G' (prefI s it i) w' ∧ GoS G s w G' (prefI s it i) w'
      rw [hpf]
      obtain ⟨l', mo, c1, _⟩ := g2.r.ob _ _ hit
      obtain ⟨b1, b2⟩ := g2.turn hit rfl c1 (Touch.refl _ _) ((g2.r.ob _ _ hit).pref (p' := i))
      exact ⟨b1, g1.trans b2⟩
    | some t =>
      have : (nxC it m since seen cl i (prefI s it i) (some t)).2 = (nxC it m since seen cl i s (some t)).2 := by
        rw [hpf]
        unfold nxC St.put
        simp only [T.set_set]
      rw [this]
      exact ⟨g2, g1⟩
  have hop := ops_wp hk (os := os) 1 (fun j => by
    have : os.toList[j + 1]? = l[j]? := by rw [hl]; rfl
    rw [← this, Array.getElem?_toList, Nat.add_comm]) h hne ((he.mono g1.le).dst hd g3) hst.1
  exact wpOps_mono (fun _ _ _ hq => ⟨i, hlt, by rw [hstep]; exact Ends.from hst.2 hq⟩) hop
theorem Snd.loopAll {x : Code} {a : Den} {g : E → V} (ha : SndN P nt gl x a g) : Snd P nt gl (.loop x) (dLoopM g a) := by
  intro k hk G e ac s w hne he hs
  refine wp_loop_rounds k.fuel ?_
  unfold dLoopM at hne ⊢
  generalize k.fuel = n at hne ⊢
  induction n generalizing G e ac s w with
  | zero => exact absurd rfl hne
  | succ n ih =>
    rw [loopM_succ] at hne ⊢
    show x.wp P (Exit.then (Code.rounds P x _ n) _) ac w
    split at hne
    · rename_i it m since seen cl pref cs hn
      have hmem : ∀ i, i < cs.length → (Res.casesOn (motive := fun _ => Res) (a k e (prefI s it i)) (fun e s => loopM g (a k) n e s) (fun id e s => .exit id e s) (fun e s => .ret e s) .bad) ∈ (upTo cs.length).map fun i => Res.casesOn (motive := fun _ => Res) (a k e (prefI s it i)) (fun e s => loopM g (a k) n e s) (fun id e s => .exit id e s) (fun e s => .ret e s) .bad := fun i hi => List.mem_map.2 ⟨i, upTo_mem hi, rfl⟩
      refine wp_mono (ha k hk G e ac s w it m since seen cl pref cs hn (fun i hi h => ?_) he hs) ?_
      · have := (jAll_ok hne (hmem i hi)).1
        rw [h] at this; exact this rfl
      · rintro q a' w' ⟨i, hi, h⟩
        obtain ⟨j1, j2⟩ := jAll_ok hne (hmem i hi)
        cases hr : a k e (prefI s it i) with
        | nrm e' s' =>
          rw [hr] at h j1 j2
          obtain ⟨rfl, G', h2, h3, h4⟩ := h
          have := ih G' e' a' s' w' h2 h3 j1
          exact rounds_mono (fun _ _ _ hq => j2 (Ends.from h4 hq)) this
        | exit id e' s' => rw [hr] at h j2; obtain ⟨rfl, h⟩ := h; exact j2 ⟨rfl, h⟩
        | ret e' s' => rw [hr] at h j2; obtain ⟨rfl, h⟩ := h; exact j2 ⟨rfl, h⟩
        | bad => rw [hr] at h; exact h.elim
    · exact absurd rfl hne
end
end
end Go.Proofs.YtjipdnfaokdkbaaLab
