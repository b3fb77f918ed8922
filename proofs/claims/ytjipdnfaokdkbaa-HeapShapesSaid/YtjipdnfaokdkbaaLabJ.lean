/- The lab: what is lowered stands for the code. On the program: that it follows mixed orders. -/
import Derived.Test.YtjipdnfaokdkbaaLabX
import Derived.Scope
namespace Go.Proofs.YtjipdnfaokdkbaaLab
open Go
set_option linter.unusedVariables false
noncomputable section

section
variable {P : Program} {tt : TT} (H : TOk P tt) {nt : Nat} {gl : List Nat} {fok : T Bool} (hfok : ∀ f, fok.get f = some true → FOk P f)

theorem lowOps_at : ∀ {l : List Oper} {ds : List OD}, lowOps tt gl fok l = some ds → ds.length = l.length ∧ ∀ (i : Nat) (o : Oper), l[i]? = some o → ∃ d, denLO fok (lowOpS tt gl fok o) = some d ∧ ds[i]? = some d
  | [], ds, h => by cases h; exact ⟨rfl, fun i o hi => by simp at hi⟩
  | x :: l, ds, h => by
    unfold lowOps at h
    split at h
    · rename_i d r h1 h2
      cases h
      obtain ⟨a1, a2⟩ := lowOps_at h2
      refine ⟨by simp [a1], fun i o hi => ?_⟩
      cases i with
      | zero => cases hi; exact ⟨d, h1, rfl⟩
      | succ i =>
        obtain ⟨d', b1, b2⟩ := a2 i o (by simpa using hi)
        exact ⟨d', b1, by simpa using b2⟩
    · cases h
theorem lowUs_at : ∀ {l : List Oper} {us : List (E → V → E)}, lowUs nt l = some us → us.length = l.length ∧ ∀ (i : Nat) (o : Oper), l[i]? = some o → ∃ u, us[i]? = some u ∧ DstOk nt o.dst u
  | [], us, h => by cases h; exact ⟨rfl, fun i o hi => by simp at hi⟩
  | x :: l, us, h => by
    unfold lowUs at h
    split at h
    · rename_i u r h1 h2
      cases h
      obtain ⟨a1, a2⟩ := lowUs_at h2
      refine ⟨by simp [a1], fun i o hi => ?_⟩
      cases i with
      | zero => cases hi; exact ⟨u, rfl, dstG_ok h1⟩
      | succ i =>
        obtain ⟨u', b1, b2⟩ := a2 i o (by simpa using hi)
        exact ⟨u', by simpa using b1, b2⟩
    · cases h
theorem lowGs_at {os : Array Oper} : ∀ {l : List Oper} {gs : List (Option (Nat × Bool))}, lowGs os l = some gs → gs.length = l.length ∧ ∀ (i : Nat) (o : Oper), l[i]? = some o → ∃ g, gs[i]? = some g ∧ lowGuard os o = some g
  | [], gs, h => by cases h; exact ⟨rfl, fun i o hi => by simp at hi⟩
  | x :: l, gs, h => by
    unfold lowGs at h
    split at h
    · rename_i g r h1 h2
      cases h
      obtain ⟨a1, a2⟩ := lowGs_at h2
      refine ⟨by simp [a1], fun i o hi => ?_⟩
      cases i with
      | zero => cases hi; exact ⟨g, rfl, h1⟩
      | succ i =>
        obtain ⟨u', b1, b2⟩ := a2 i o (by simpa using hi)
        exact ⟨u', by simpa using b1, b2⟩
    · cases h
theorem lowSl_at : ∀ {l : List Oper} {gs : List (Option (Nat × Bool))} {i : Nat} {o : Oper} {g : Option (Nat × Bool)}, l[i]? = some o → gs[i]? = some g → (lowSl tt gl fok l gs)[i]? = some (slots (lowOpS tt gl fok o) ++ slG g)
  | [], gs, i, o, g, h, _ => by simp at h
  | _ :: _, [], i, o, g, _, h => by simp at h
  | x :: l, y :: gs, 0, o, g, h1, h2 => by cases h1; cases h2; simp [lowSl]
  | x :: l, y :: gs, i + 1, o, g, h1, h2 => by
    have := lowSl_at (l := l) (gs := gs) (i := i) (by simpa using h1) (by simpa using h2)
    simpa [lowSl] using this

theorem dstG_u {d : Option Nat} {u : E → V → E} (h : dstG nt d = some u) : u = uOf d := by
  cases d with
  | none => cases h; rfl
  | some t => simp only [dstG] at h; split at h <;> cases h; rfl
theorem seq_fi {os : Array Oper} : ∀ {l : List Oper} {ds : List OD} {us : List (E → V → E)} {gs : List (Option (Nat × Bool))}, lowOps tt gl fok l = some ds → lowUs nt l = some us → lowGs os l = some gs →
    seqItems ds us gs = List.zipWith itemD ds (mkFIs tt gl fok l gs) ∧ (∀ (i : Nat) (x : FI), (mkFIs tt gl fok l gs)[i]? = some x → ∃ d, ds[i]? = some d ∧ denLO fok x.lo = some d) ∧ ds.length = (mkFIs tt gl fok l gs).length
  | [], ds, us, gs, h1, h2, h3 => by cases h1; cases h2; cases h3; exact ⟨rfl, fun i x h => by simp [mkFIs] at h, rfl⟩
  | o :: l, ds, us, gs, h1, h2, h3 => by
    unfold lowOps at h1
    unfold lowUs at h2
    unfold lowGs at h3
    split at h1
    · rename_i d r e1 e2
      cases h1
      split at h2
      · rename_i u ru e3 e4
        cases h2
        split at h3
        · rename_i g rg e5 e6
          cases h3
          obtain ⟨a1, a2, a3⟩ := seq_fi e2 e4 e6
          refine ⟨?_, fun i x hx => ?_, by simp [mkFIs, a3]⟩
          · simp only [seqItems, mkFIs, List.zipWith_cons_cons, a1, dstG_u e3]
            congr 1
          · cases i with
            | zero => cases hx; exact ⟨d, rfl, e1⟩
            | succ i => simpa using a2 i x (by simpa [mkFIs] using hx)
        · cases h3
      · cases h2
    · cases h1
theorem OpDo.den {o : Oper} {d : OD} {u : E → V → E} (h : OdOk P nt gl o d) (hd : DstOk nt o.dst u) : OpDo P nt gl o (d.den u) := by
  cases d with
  | p f => exact OpDo.p h hd
  | d f => exact OpDo.d h hd
  | a f => exact OpDo.a h hd
  | e f => exact OpDo.e h hd
include H hfok in
theorem items_ok {os : Array Oper} : ∀ (l : List Oper) (ds : List OD) (us : List (E → V → E)) (gs : List (Option (Nat × Bool))), ds.length = l.length → us.length = l.length → gs.length = l.length → (∀ (i : Nat) (o : Oper), l[i]? = some o → ∃ d, denLO fok (lowOpS tt gl fok o) = some d ∧ ds[i]? = some d) → (∀ (i : Nat) (o : Oper), l[i]? = some o → ∃ u, us[i]? = some u ∧ DstOk nt o.dst u) → (∀ (i : Nat) (o : Oper), l[i]? = some o → ∃ g, gs[i]? = some g ∧ lowGuard os o = some g) →
    OpsSnd P nt gl os l (seqItems ds us gs) := by
  intro l
  induction l with
  | nil => intro ds us gs l1 l2 l3 _ _ _; cases ds with | nil => exact .nil | cons => cases l1
  | cons o l ih =>
    intro ds us gs l1 l2 l3 p1 p2 p3
    cases ds with
    | nil => cases l1
    | cons d ds =>
      cases us with
      | nil => cases l2
      | cons u us =>
        cases gs with
        | nil => cases l3
        | cons g gs =>
          obtain ⟨d', x2, x3⟩ := p1 0 o rfl
          cases x3
          obtain ⟨u', y1, y2⟩ := p2 0 o rfl
          cases y1
          obtain ⟨g', z1, z2⟩ := p3 0 o rfl
          cases z1
          refine .cons ?_ (ih ds us gs (by simpa using l1) (by simpa using l2) (by simpa using l3) (fun i o hi => by simpa using p1 (i + 1) o (by simpa using hi)) (fun i o hi => by simpa using p2 (i + 1) o (by simpa using hi)) (fun i o hi => by simpa using p3 (i + 1) o (by simpa using hi)))
          have hdo := OpDo.den (lowOpS_ok H hfok x2) y2
          unfold lowGuard at z2
          cases hg : o.guard with
          | none =>
            rw [hg] at z2; cases z2
            exact OpSnd.plain hdo hg
          | some p =>
            obtain ⟨j, want⟩ := p
            rw [hg] at z2
            simp only at z2
            split at z2
            · rename_i t ht
              split at z2
              · rename_i ht2
                cases z2
                exact OpSnd.guard hdo hg ht ht2 y2
              · cases z2
            · cases z2
/-- A region that draws, in which all that look at memory are quick, is the text's order. -/
theorem chks_quick {sn : List St} : ∀ {l : List DT} {e : E} {r : List (V × E × St)}, (∀ t, t ∈ l → match t.k with | .d lo hi _ => hi + 1 - lo = 0 | _ => True) → chks sn l e r = true
  | [], e, r, _ => by cases r <;> rfl
  | t :: l, e, [], _ => rfl
  | t :: l, e, (v, e', s') :: r, h => by
    have h1 : chk1 sn t e v = true := by
      have := h t List.mem_cons_self
      unfold chk1
      split
      · rename_i lo hi f hk
        rw [hk] at this
        simp only at this
        rw [this]; rfl
      · rfl
    unfold chks
    rw [h1]
    exact chks_quick fun t ht => h t (List.mem_cons_of_mem _ ht)
theorem run_ops {ds0 : List OD} {ord : Nat → Nat → Bool} {k : KC} : ∀ (ds : List OD) (us : List (E → V → E)) (gs : List (Option (Nat × Bool))) (i : Nat) (e : E) (s : St), us.length = ds.length → gs.length = ds.length →
    (match drawRun k (mkDTs ds0 ord i ds us gs) e s with | none => Res.bad | some r => lastOf e s r) = ops (seqItems ds us gs) k e s
  | [], us, gs, i, e, s, _, _ => by cases us <;> cases gs <;> rfl
  | d :: ds, [], gs, i, e, s, h, _ => by cases h
  | d :: ds, u :: us, [], i, e, s, _, h => by cases h
  | d :: ds, u :: us, g :: gs, i, e, s, h1, h2 => by
    have ih : ∀ e s, (match drawRun k (mkDTs ds0 ord (i + 1) ds us gs) e s with | none => Res.bad | some r => lastOf e s r) = ops (seqItems ds us gs) k e s := fun e s => run_ops ds us gs (i + 1) e s (by simpa using h1) (by simpa using h2)
    have step : ∀ x : Option (V × St), (match (match x with | none => (none : Option (List (V × E × St))) | some (v, s') => match drawRun k (mkDTs ds0 ord (i + 1) ds us gs) (u e v) s' with | none => none | some r => some ((v, u e v, s') :: r)) with | none => Res.bad | some r => lastOf e s r) = (match x with | none => Res.bad | some (v, s') => ops (seqItems ds us gs) k (u e v) s') := by
      intro x
      cases x with
      | none => rfl
      | some p =>
        obtain ⟨v, s'⟩ := p
        simp only
        rw [← ih]
        cases drawRun k (mkDTs ds0 ord (i + 1) ds us gs) (u e v) s' <;> rfl
    have hd : ∀ g : Option (Nat × Bool), (match drawStep k (mkDT ds0 ord i d u g) e s with | none => Res.bad | some (v, s') => Res.nrm (u e v) s') = (match g with | none => d.den u | some (t, want) => oG (Gt t) want (d.den u) u) k e s := by
      intro g
      have base : ∀ x : Option (V × St), x = (match (mkDT ds0 ord i d u g).k with
          | .p f => (match f e with | some v => some (v, s) | none => none)
          | .d _ _ f => (match f e s with | some v => some (v, s) | none => none)
          | .a f => (match f e s.next with | some (v, o) => some (v, s.new o) | none => none)
          | .e f => f k e s) → (match x with | none => Res.bad | some (v, s') => Res.nrm (u e v) s') = d.den u k e s := by
        intro x hx
        subst hx
        cases d with
        | p f => simp only [mkDT, OD.den, oP]; cases f e <;> rfl
        | d f => simp only [mkDT, OD.den, oD]; cases f e s <;> rfl
        | a f => simp only [mkDT, OD.den, oA]; cases f e s.next <;> rfl
        | e f => simp only [mkDT, OD.den, oE]; cases f k e s <;> rfl
      unfold drawStep offB
      cases g with
      | none => exact base _ rfl
      | some p =>
        obtain ⟨t, w⟩ := p
        simp only [mkDT, oG]
        generalize Gt t e = q
        cases q with
        | bool b => cases b <;> cases w <;> first | exact base _ rfl | rfl
        | tup l => cases l <;> rfl
        | _ => rfl
    show (match (match drawStep k (mkDT ds0 ord i d u g) e s with | none => (none : Option (List (V × E × St))) | some (v, s') => match drawRun k (mkDTs ds0 ord (i + 1) ds us gs) (u e v) s' with | none => none | some r => some ((v, u e v, s') :: r)) with | none => Res.bad | some r => lastOf e s r) = dSeq _ (ops (seqItems ds us gs)) k e s
    rw [step]
    unfold dSeq
    have hd := hd g
    cases hx : drawStep k (mkDT ds0 ord i d u g) e s with
    | none => rw [hx] at hd; exact congrArg (fun r => Res.casesOn (motive := fun _ => Res) r (fun e s => ops (seqItems ds us gs) k e s) (fun id e s => .exit id e s) (fun e s => .ret e s) .bad) hd
    | some p => rw [hx] at hd; exact congrArg (fun r => Res.casesOn (motive := fun _ => Res) r (fun e s => ops (seqItems ds us gs) k e s) (fun id e s => .exit id e s) (fun e s => .ret e s) .bad) hd
theorem mkDTs_mem {ds0 : List OD} {ord : Nat → Nat → Bool} {t : DT} : ∀ (ds : List OD) (us : List (E → V → E)) (gs : List (Option (Nat × Bool))) (i : Nat), t ∈ mkDTs ds0 ord i ds us gs → ∃ j d u g, ds[j]? = some d ∧ t = mkDT ds0 ord (i + j) d u g
  | [], us, gs, i, h => by cases us <;> cases gs <;> simp [mkDTs] at h
  | d :: ds, [], gs, i, h => by simp [mkDTs] at h
  | d :: ds, u :: us, [], i, h => by simp [mkDTs] at h
  | d :: ds, u :: us, g :: gs, i, h => by
    simp only [mkDTs, List.mem_cons] at h
    rcases h with rfl | h
    · exact ⟨0, d, u, g, rfl, rfl⟩
    · obtain ⟨j, d', u', g', h1, h2⟩ := mkDTs_mem ds us gs (i + 1) h
      exact ⟨j + 1, d', u', g', by simpa using h1, by rw [h2, Nat.add_assoc, Nat.add_comm 1 j]⟩
theorem dDraw_ops {ord : Nat → Nat → Bool} {ds : List OD} {us : List (E → V → E)} {gs : List (Option (Nat × Bool))} (h1 : us.length = ds.length) (h2 : gs.length = ds.length) (hq : allQuick ds ord = true) : dDraw (mkDTs ds ord 0 ds us gs) = ops (seqItems ds us gs) := by
  funext k e s
  rw [← run_ops (ds0 := ds) (ord := ord) ds us gs 0 e s h1 h2]
  unfold dDraw
  cases drawRun k (mkDTs ds ord 0 ds us gs) e s with
  | none => rfl
  | some r =>
    simp only
    rw [chks_quick]
    intro t ht
    obtain ⟨j, d, u, g, e1, e2⟩ := mkDTs_mem ds us gs 0 ht
    rw [Nat.zero_add] at e2
    subst e2
    cases d with
    | d f =>
      have hj : j < ds.length := (List.getElem?_eq_some_iff.1 e1).1
      have := List.all_eq_true.1 hq j (List.mem_range.2 hj)
      rw [e1] at this
      simp only at this
      simp only [mkDT, this, if_true]
    | p f => trivial
    | a f => trivial
    | e f => trivial
include H hfok in
theorem lowRegion_ok {id : Nat} {os : Array Oper} {draw : Bool} {d : Den} (hm : P.follows .mixedOrders = true) (h : lowRegion tt gl fok nt os draw = some d) : Snd P nt gl (.region id os draw) d := by
  unfold lowRegion at h
  split at h
  · rename_i ds us gs h1 h2 h3
    obtain ⟨a1, a2⟩ := lowOps_at h1
    obtain ⟨b1, b2⟩ := lowUs_at h2
    obtain ⟨c1, c2⟩ := lowGs_at h3
    cases draw with
    | true =>
      simp only [if_true] at h
      split at h
      · rename_i hh
        rw [Bool.and_eq_true] at hh
        obtain ⟨e2, e3⟩ := hh
        have hreg : RegOk P nt gl os ds us gs (lowSl tt gl fok os.toList gs) := by
          refine ⟨fun i o hi => ?_, by simpa using a1, by simpa using b1, by simpa using c1⟩
          have hi' : os.toList[i]? = some o := by simpa using hi
          obtain ⟨d, f2, f3⟩ := a2 i o hi'
          obtain ⟨u, g1, g2⟩ := b2 i o hi'
          obtain ⟨g, q1, q2⟩ := c2 i o hi'
          have hsl := lowSl_at (tt := tt) (gl := gl) (fok := fok) hi' q1
          refine ⟨d, u, g, _, f3, g1, q1, hsl, lowOpS_ok H hfok f2, g2, q2, fun e e' hee => den_same f2 (fun t ht => hee t (by simp [ht])), fun t ht => by simp [ht], fun t ht => ?_⟩
          have := List.all_eq_true.1 (List.all_eq_true.1 e3 _ (List.mem_of_getElem? hsl)) t ht
          rw [nblt_eq] at this
          simpa using this
        unfold lowDraw at h
        split at h
        · rename_i e1
          have hs : Snd P nt gl (.region id os true) (dDraw (mkDTs ds (ordOf os) 0 ds us gs)) := Snd.draw hm hreg e2 e1
          split at h
          · rename_i q hq
            cases h
            split at hq
            · rename_i hq2
              rw [Bool.and_eq_true] at hq2
              cases hq
              obtain ⟨q1, q2, q3⟩ := seq_fi h1 h2 h3
              have : fuse fok (mkFIs tt gl fok os.toList gs) [] = ops (seqItems ds us gs) := by
                funext k e s
                rw [fuse_eq k e _ ds [] s hq2.2 q3 q2 (fun p hp => by cases hp), q1]; rfl
              rw [this, ← dDraw_ops (ord := ordOf os) (b1.trans a1.symm) (c1.trans a1.symm) hq2.1]; exact hs
            · cases hq
          · cases h; exact hs
        · split at h
          · rename_i e1
            cases h
            exact Snd.drawR hm hreg e2 e1
          · cases h
      · cases h
    | false =>
      simp only [Bool.false_eq_true, if_false] at h
      have hs : Snd P nt gl (.region id os false) (ops (seqItems ds us gs)) := Snd.region (items_ok H hfok os.toList ds us gs a1 b1 c1 a2 b2 c2)
      split at h
      · rename_i hok
        cases h
        obtain ⟨q1, q2, q3⟩ := seq_fi h1 h2 h3
        have : fuse fok (mkFIs tt gl fok os.toList gs) [] = ops (seqItems ds us gs) := by
          funext k e s
          rw [fuse_eq k e _ ds [] s hok q3 q2 (fun p hp => by cases hp), q1]; rfl
        rw [this]; exact hs
      · cases h; exact hs
  · cases h
theorem Snd.label {l : Nat} : Snd P nt gl (.label l) dSkip := fun _ _ G e a s w _ he hs => wp_label ⟨rfl, G, he, hs, GoS.refl _ _ _⟩
theorem Snd.bad {c : Code} : Snd P nt gl c dBad := fun _ _ _ _ _ _ _ h => absurd rfl h
theorem Snd.scope {x : Code} {a : Den} (ha : Snd P nt gl x a) : Snd P nt gl (.scope x) a := by
  intro k hk G e ac s w hne he hs
  refine wp_scope_straight (wp_mono (ha k hk G e ac s w hne he hs) ?_)
  intro q a' w' h
  cases hr : a k e s with
  | nrm e' s' => rw [hr] at h; obtain ⟨rfl, h⟩ := h; exact ⟨rfl, h⟩
  | exit id e' s' => rw [hr] at h; obtain ⟨rfl, h⟩ := h; exact ⟨rfl, h⟩
  | ret e' s' => rw [hr] at h; obtain ⟨rfl, h⟩ := h; exact ⟨rfl, h⟩
  | bad => rw [hr] at h; exact h.elim
include H hfok in
theorem lowNext_ok {id : Nat} {os : Array Oper} {draw : Bool} {p : (E → V) × Den} (h : lowNext tt gl fok nt os draw = some p) : SndN P nt gl (.region id os draw) p.2 p.1 := by
  unfold lowNext at h
  split at h
  · rename_i o l hl
    split at h
    · rename_i x ho hgd
      split at h
      · rename_i g u ds us gs h1 h2 h3 h4 h5
        cases h
        obtain ⟨a1, a2⟩ := lowOps_at h3
        obtain ⟨b1, b2⟩ := lowUs_at h4
        obtain ⟨c1, c2⟩ := lowGs_at h5
        exact SndN.region hl ho h1 hgd (dstG_ok h2) (items_ok H hfok l ds us gs a1 b1 c1 a2 b2 c2)
      · cases h
    · cases h
  · cases h
include H hfok in
theorem lowC_ok (hm : P.follows .mixedOrders = true) : ∀ (c : Code), (∀ d, (lowC tt gl fok nt c).1 = some d → Snd P nt gl c d) ∧ ∀ p, (lowC tt gl fok nt c).2 = some p → SndN P nt gl c p.2 p.1 := by
  intro c
  induction c
  case skip => exact ⟨fun d h => by cases h; exact Snd.skip, fun p h => by cases h⟩
  case region id os draw =>
    refine ⟨fun d h => ?_, fun p h => lowNext_ok H hfok h⟩
    have h : some ((lowRegion tt gl fok nt os draw).getD dBad) = some d := h
    cases hq : lowRegion tt gl fok nt os draw with
    | none => rw [hq] at h; cases h; exact Snd.bad
    | some r => rw [hq] at h; cases h; exact lowRegion_ok H hfok hm hq
  case seq a b iha ihb =>
    refine ⟨fun d h => ?_, fun p h => ?_⟩
    · unfold lowC at h
      simp only at h
      split at h
      · rename_i h1 h2; cases h; exact Snd.seq (iha.1 _ h1) (ihb.1 _ h2)
      · cases h
    · unfold lowC at h
      simp only at h
      split at h
      · rename_i h1 h2; cases h; exact SndN.seq (iha.2 _ h1) (ihb.1 _ h2)
      · cases h
  case cond c a b iha ihb =>
    refine ⟨fun d h => ?_, fun p h => by cases h⟩
    unfold lowC at h
    simp only at h
    split at h
    · rename_i h0 h1 h2; cases h; exact Snd.cond h0 (iha.1 _ h1) (ihb.1 _ h2)
    · cases h; exact Snd.bad
  case block id a iha =>
    refine ⟨fun d h => ?_, fun p h => by cases h⟩
    unfold lowC at h
    simp only [Option.map_eq_some_iff] at h
    obtain ⟨q, hq, rfl⟩ := h
    exact Snd.block (iha.1 _ hq)
  case loop a iha =>
    refine ⟨fun d h => ?_, fun p h => by cases h⟩
    unfold lowC at h
    simp only at h
    split at h
    · rename_i p hp; cases h; exact Snd.loopAll (iha.2 _ hp)
    · rw [Option.map_eq_some_iff] at h
      obtain ⟨q, hq, rfl⟩ := h
      exact Snd.loop (iha.1 _ hq)
  case scope a iha => exact ⟨fun d h => Snd.scope (iha.1 _ h), fun p h => by cases h⟩
  case exit id => exact ⟨fun d h => by cases h; exact Snd.exit id, fun p h => by cases h⟩
  case ret => exact ⟨fun d h => by cases h; exact Snd.ret, fun p h => by cases h⟩
  case label l => exact ⟨fun d h => by cases h; exact Snd.label, fun p h => by cases h⟩
  all_goals exact ⟨fun d h => by cases h; exact Snd.bad, fun p h => by cases h⟩
include H hfok in
theorem lowCode_ok (hm : P.follows .mixedOrders = true) {c : Code} {d : Den} (h : lowCode tt gl fok nt c = some d) : Snd P nt gl c d := (lowC_ok H hfok hm c).1 d h
include H hfok in
theorem lowFunc_ok (hm : P.follows .mixedOrders = true) {f : Nat} {fn : Func} {F : FDen} (hf : P.funcs[f]? = some fn) (h : lowFunc tt gl fok fn = some F) : FSnd P gl f F := by
  unfold lowFunc at h
  split at h
  · rename_i c hc
    split at h
    · rename_i b gs h1 h2
      split at h
      · rename_i hh
        cases h
        exact ⟨tt, fn, c, _, gs, H, hf, hc, lowCode_ok H hfok hm h1, rfl, hh.2, hh.1, h2, rfl⟩
      · cases h
    · cases h
  · cases h
end
end
end Go.Proofs.YtjipdnfaokdkbaaLab
