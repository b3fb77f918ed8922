/- The lab: what is lowered stands for the code. On the program: that it follows mixed orders. -/
import Derived.Test.YtgfghbhcifkmgaaLabI
import Derived.Scope
namespace Go.Proofs.YtgfghbhcifkmgaaLab
open Go
set_option linter.unusedVariables false
noncomputable section

section
variable {P : Program} {tt : TT} (H : TOk P tt) {nt : Nat} {gl : List Nat} {fok : T Bool} (hfok : ∀ f, fok.get f = some true → FOk P f)

theorem lowOps_at : ∀ {l : List Oper} {ds : List OD}, lowOps tt gl fok l = some ds → ds.length = l.length ∧ ∀ (i : Nat) (o : Oper), l[i]? = some o → ∃ d, denLO fok (lowOpS tt gl fok o) = some d ∧ ds[i]? = some d
  | [], ds, h => by cases h; exact ⟨rfl, fun i o hi => by simp at hi⟩
  | x :: l, ds, h => by
    unfold lowOps at h
    split at h
    · rename_i d r h1 h2
      cases h
      obtain ⟨a1, a2⟩ := lowOps_at h2
      refine ⟨by simp [a1], fun i o hi => ?_⟩
      cases i with
      | zero => cases hi; exact ⟨d, h1, rfl⟩
      | succ i =>
        obtain ⟨d', b1, b2⟩ := a2 i o (by simpa using hi)
        exact ⟨d', b1, by simpa using b2⟩
    · cases h
theorem lowUs_at : ∀ {l : List Oper} {us : List (E → V → E)}, lowUs nt l = some us → us.length = l.length ∧ ∀ (i : Nat) (o : Oper), l[i]? = some o → ∃ u, us[i]? = some u ∧ DstOk nt o.dst u
  | [], us, h => by cases h; exact ⟨rfl, fun i o hi => by simp at hi⟩
  | x :: l, us, h => by
    unfold lowUs at h
    split at h
    · rename_i u r h1 h2
      cases h
      obtain ⟨a1, a2⟩ := lowUs_at h2
      refine ⟨by simp [a1], fun i o hi => ?_⟩
      cases i with
      | zero => cases hi; exact ⟨u, rfl, dstG_ok h1⟩
      | succ i =>
        obtain ⟨u', b1, b2⟩ := a2 i o (by simpa using hi)
        exact ⟨u', by simpa using b1, b2⟩
    · cases h
theorem lowGs_at {os : Array Oper} : ∀ {l : List Oper} {gs : List (Option (Nat × Bool))}, lowGs os l = some gs → gs.length = l.length ∧ ∀ (i : Nat) (o : Oper), l[i]? = some o → ∃ g, gs[i]? = some g ∧ lowGuard os o = some g
  | [], gs, h => by cases h; exact ⟨rfl, fun i o hi => by simp at hi⟩
  | x :: l, gs, h => by
    unfold lowGs at h
    split at h
    · rename_i g r h1 h2
      cases h
      obtain ⟨a1, a2⟩ := lowGs_at h2
      refine ⟨by simp [a1], fun i o hi => ?_⟩
      cases i with
      | zero => cases hi; exact ⟨g, rfl, h1⟩
      | succ i =>
        obtain ⟨u', b1, b2⟩ := a2 i o (by simpa using hi)
        exact ⟨u', by simpa using b1, b2⟩
    · cases h
theorem lowSl_at : ∀ {l : List Oper} {gs : List (Option (Nat × Bool))} {i : Nat} {o : Oper} {g : Option (Nat × Bool)}, l[i]? = some o → gs[i]? = some g → (lowSl tt gl fok l gs)[i]? = some (slots (lowOpS tt gl fok o) ++ slG g)
  | [], gs, i, o, g, h, _ => by simp at h
  | _ :: _, [], i, o, g, _, h => by simp at h
  | x :: l, y :: gs, 0, o, g, h1, h2 => by cases h1; cases h2; simp [lowSl]
  | x :: l, y :: gs, i + 1, o, g, h1, h2 => by
    have := lowSl_at (l := l) (gs := gs) (i := i) (by simpa using h1) (by simpa using h2)
    simpa [lowSl] using this

theorem OpDo.den {o : Oper} {d : OD} {u : E → V → E} (h : OdOk P nt gl o d) (hd : DstOk nt o.dst u) : OpDo P nt gl o (d.den u) := by
  cases d with
  | p f => exact OpDo.p h hd
  | d f => exact OpDo.d h hd
  | a f => exact OpDo.a h hd
  | e f => exact OpDo.e h hd
include H hfok in
theorem items_ok {os : Array Oper} : ∀ (l : List Oper) (ds : List OD) (us : List (E → V → E)) (gs : List (Option (Nat × Bool))), ds.length = l.length → us.length = l.length → gs.length = l.length → (∀ (i : Nat) (o : Oper), l[i]? = some o → ∃ d, denLO fok (lowOpS tt gl fok o) = some d ∧ ds[i]? = some d) → (∀ (i : Nat) (o : Oper), l[i]? = some o → ∃ u, us[i]? = some u ∧ DstOk nt o.dst u) → (∀ (i : Nat) (o : Oper), l[i]? = some o → ∃ g, gs[i]? = some g ∧ lowGuard os o = some g) →
    OpsSnd P nt gl os l (seqItems ds us gs) := by
  intro l
  induction l with
  | nil => intro ds us gs l1 l2 l3 _ _ _; cases ds with | nil => exact .nil | cons => cases l1
  | cons o l ih =>
    intro ds us gs l1 l2 l3 p1 p2 p3
    cases ds with
    | nil => cases l1
    | cons d ds =>
      cases us with
      | nil => cases l2
      | cons u us =>
        cases gs with
        | nil => cases l3
        | cons g gs =>
          obtain ⟨d', x2, x3⟩ := p1 0 o rfl
          cases x3
          obtain ⟨u', y1, y2⟩ := p2 0 o rfl
          cases y1
          obtain ⟨g', z1, z2⟩ := p3 0 o rfl
          cases z1
          refine .cons ?_ (ih ds us gs (by simpa using l1) (by simpa using l2) (by simpa using l3) (fun i o hi => by simpa using p1 (i + 1) o (by simpa using hi)) (fun i o hi => by simpa using p2 (i + 1) o (by simpa using hi)) (fun i o hi => by simpa using p3 (i + 1) o (by simpa using hi)))
          have hdo := OpDo.den (lowOpS_ok H hfok x2) y2
          unfold lowGuard at z2
          cases hg : o.guard with
          | none =>
            rw [hg] at z2; cases z2
            exact OpSnd.plain hdo hg
          | some p =>
            obtain ⟨j, want⟩ := p
            rw [hg] at z2
            simp only at z2
            split at z2
            · rename_i t ht
              split at z2
              · rename_i ht2
                cases z2
                exact OpSnd.guard hdo hg ht ht2 y2
              · cases z2
            · cases z2
include H hfok in
theorem lowRegion_ok {id : Nat} {os : Array Oper} {draw : Bool} {d : Den} (hm : P.follows .mixedOrders = true) (h : lowRegion tt gl fok nt os draw = some d) : Snd P nt gl (.region id os draw) d := by
  unfold lowRegion at h
  split at h
  · rename_i ds us gs h1 h2 h3
    obtain ⟨a1, a2⟩ := lowOps_at h1
    obtain ⟨b1, b2⟩ := lowUs_at h2
    obtain ⟨c1, c2⟩ := lowGs_at h3
    cases draw with
    | true =>
      simp only [if_true] at h
      split at h
      · rename_i hh
        cases h
        simp only [Bool.and_eq_true] at hh
        obtain ⟨⟨e1, e2⟩, e3⟩ := hh
        refine Snd.draw hm ⟨fun i o hi => ?_, by simpa using a1, by simpa using b1, by simpa using c1⟩ e2 e1
        have hi' : os.toList[i]? = some o := by simpa using hi
        obtain ⟨d, f2, f3⟩ := a2 i o hi'
        obtain ⟨u, g1, g2⟩ := b2 i o hi'
        obtain ⟨g, q1, q2⟩ := c2 i o hi'
        have hsl := lowSl_at (tt := tt) (gl := gl) (fok := fok) hi' q1
        refine ⟨d, u, g, _, f3, g1, q1, hsl, lowOpS_ok H hfok f2, g2, q2, fun e e' hee => den_same f2 (fun t ht => hee t (by simp [ht])), fun t ht => by simp [ht], fun t ht => ?_⟩
        have := List.all_eq_true.1 (List.all_eq_true.1 e3 _ (List.mem_of_getElem? hsl)) t ht
        rw [nblt_eq] at this
        simpa using this
      · cases h
    | false =>
      simp only [Bool.false_eq_true, if_false] at h
      cases h
      refine Snd.region ?_
      exact items_ok H hfok os.toList ds us gs a1 b1 c1 a2 b2 c2
  · cases h
theorem Snd.label {l : Nat} : Snd P nt gl (.label l) dSkip := fun _ _ G e a s w _ he hs => wp_label ⟨rfl, G, he, hs, Go_.refl _ _ _⟩
theorem Snd.bad {c : Code} : Snd P nt gl c dBad := fun _ _ _ _ _ _ _ h => absurd rfl h
theorem Snd.scope {x : Code} {a : Den} (ha : Snd P nt gl x a) : Snd P nt gl (.scope x) a := by
  intro k hk G e ac s w hne he hs
  refine wp_scope_straight (wp_mono (ha k hk G e ac s w hne he hs) ?_)
  intro q a' w' h
  cases hr : a k e s with
  | nrm e' s' => rw [hr] at h; obtain ⟨rfl, h⟩ := h; exact ⟨rfl, h⟩
  | exit id e' s' => rw [hr] at h; obtain ⟨rfl, h⟩ := h; exact ⟨rfl, h⟩
  | ret e' s' => rw [hr] at h; obtain ⟨rfl, h⟩ := h; exact ⟨rfl, h⟩
  | bad => rw [hr] at h; exact h.elim
include H hfok in
theorem lowNext_ok {id : Nat} {os : Array Oper} {draw : Bool} {p : (E → V) × Den} (h : lowNext tt gl fok nt os draw = some p) : SndN P nt gl (.region id os draw) p.2 p.1 := by
  unfold lowNext at h
  split at h
  · rename_i o l hl
    split at h
    · rename_i x ho hgd
      split at h
      · rename_i g u ds us gs h1 h2 h3 h4 h5
        cases h
        obtain ⟨a1, a2⟩ := lowOps_at h3
        obtain ⟨b1, b2⟩ := lowUs_at h4
        obtain ⟨c1, c2⟩ := lowGs_at h5
        exact SndN.region hl ho h1 hgd (dstG_ok h2) (items_ok H hfok l ds us gs a1 b1 c1 a2 b2 c2)
      · cases h
    · cases h
  · cases h
include H hfok in
theorem lowC_ok (hm : P.follows .mixedOrders = true) : ∀ (c : Code), (∀ d, (lowC tt gl fok nt c).1 = some d → Snd P nt gl c d) ∧ ∀ p, (lowC tt gl fok nt c).2 = some p → SndN P nt gl c p.2 p.1 := by
  intro c
  induction c
  case skip => exact ⟨fun d h => by cases h; exact Snd.skip, fun p h => by cases h⟩
  case region id os draw =>
    refine ⟨fun d h => ?_, fun p h => lowNext_ok H hfok h⟩
    have h : some ((lowRegion tt gl fok nt os draw).getD dBad) = some d := h
    cases hq : lowRegion tt gl fok nt os draw with
    | none => rw [hq] at h; cases h; exact Snd.bad
    | some r => rw [hq] at h; cases h; exact lowRegion_ok H hfok hm hq
  case seq a b iha ihb =>
    refine ⟨fun d h => ?_, fun p h => ?_⟩
    · unfold lowC at h
      simp only at h
      split at h
      · rename_i h1 h2; cases h; exact Snd.seq (iha.1 _ h1) (ihb.1 _ h2)
      · cases h
    · unfold lowC at h
      simp only at h
      split at h
      · rename_i h1 h2; cases h; exact SndN.seq (iha.2 _ h1) (ihb.1 _ h2)
      · cases h
  case cond c a b iha ihb =>
    refine ⟨fun d h => ?_, fun p h => by cases h⟩
    unfold lowC at h
    simp only at h
    split at h
    · rename_i h0 h1 h2; cases h; exact Snd.cond h0 (iha.1 _ h1) (ihb.1 _ h2)
    · cases h; exact Snd.bad
  case block id a iha =>
    refine ⟨fun d h => ?_, fun p h => by cases h⟩
    unfold lowC at h
    simp only [Option.map_eq_some_iff] at h
    obtain ⟨q, hq, rfl⟩ := h
    exact Snd.block (iha.1 _ hq)
  case loop a iha =>
    refine ⟨fun d h => ?_, fun p h => by cases h⟩
    unfold lowC at h
    simp only at h
    split at h
    · rename_i p hp; cases h; exact Snd.loopAll (iha.2 _ hp)
    · rw [Option.map_eq_some_iff] at h
      obtain ⟨q, hq, rfl⟩ := h
      exact Snd.loop (iha.1 _ hq)
  case scope a iha => exact ⟨fun d h => Snd.scope (iha.1 _ h), fun p h => by cases h⟩
  case exit id => exact ⟨fun d h => by cases h; exact Snd.exit id, fun p h => by cases h⟩
  case ret => exact ⟨fun d h => by cases h; exact Snd.ret, fun p h => by cases h⟩
  case label l => exact ⟨fun d h => by cases h; exact Snd.label, fun p h => by cases h⟩
  all_goals exact ⟨fun d h => by cases h; exact Snd.bad, fun p h => by cases h⟩
include H hfok in
theorem lowCode_ok (hm : P.follows .mixedOrders = true) {c : Code} {d : Den} (h : lowCode tt gl fok nt c = some d) : Snd P nt gl c d := (lowC_ok H hfok hm c).1 d h
include H hfok in
theorem lowFunc_ok (hm : P.follows .mixedOrders = true) {f : Nat} {fn : Func} {F : FDen} (hf : P.funcs[f]? = some fn) (h : lowFunc tt gl fok fn = some F) : FSnd P gl f F := by
  unfold lowFunc at h
  split at h
  · rename_i c hc
    split at h
    · rename_i b gs h1 h2
      split at h
      · rename_i hh
        cases h
        exact ⟨tt, fn, c, _, gs, H, hf, hc, lowCode_ok H hfok hm h1, rfl, hh.2, hh.1, h2, rfl⟩
      · cases h
    · cases h
  · cases h
end
end
end Go.Proofs.YtgfghbhcifkmgaaLab
