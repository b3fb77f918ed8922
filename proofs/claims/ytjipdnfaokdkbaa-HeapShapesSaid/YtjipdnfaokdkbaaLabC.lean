/- The lab: code: sequences, tests, loops, regions in the text's order; calls. No condition on the program. -/
import Derived.Test.YtjipdnfaokdkbaaLabM
import Derived.LoopN
namespace Go.Proofs.YtjipdnfaokdkbaaLab
open Go
set_option linter.unusedVariables false
noncomputable section

/-- What a piece of code comes to. -/
inductive Res where
  | nrm (e : E) (s : St)
  | exit (id : Nat) (e : E) (s : St)
  | ret (e : E) (s : St)
  | bad
abbrev Den := KC → E → St → Res
def tick (r : Res) : Res := r

def dSkip : Den := fun _ e s => .nrm e s
def dRet : Den := fun _ e s => .ret e s
def dExit (id : Nat) : Den := fun _ e s => .exit id e s
def dSeq (a b : Den) : Den := fun k e s => Res.casesOn (motive := fun _ => Res) (a k e s) (fun e s => b k e s) (fun id e s => .exit id e s) (fun e s => .ret e s) .bad
def dCond (g : E → V) (a b : Den) : Den := fun k e s => match g e with
  | .bool t => Bool.casesOn (motive := fun _ => Res) t (b k e s) (a k e s)
  | _ => .bad
def dBlock (id : Nat) (a : Den) : Den := fun k e s => Res.casesOn (motive := fun _ => Res) (a k e s) (fun e s => .nrm e s) (fun id' e s => Bool.casesOn (motive := fun _ => Res) (Nat.beq id' id) (.exit id' e s) (.nrm e s)) (fun e s => .ret e s) .bad
def loopN (a : E → St → Res) (n : Nat) : E → St → Res := Nat.rec (motive := fun _ => E → St → Res) (fun _ _ => .bad) (fun _ ih e s => Res.casesOn (motive := fun _ => Res) (a e s) (fun e s => tick (ih e s)) (fun id e s => .exit id e s) (fun e s => .ret e s) .bad) n
def dLoop (a : Den) : Den := fun k e s => loopN (a k) k.fuel e s
/-- Operations. -/
def oP (f : E → Option V) (u : E → V → E) : Den := fun _ e s => match f e with | some v => .nrm (u e v) s | none => .bad
def oD (f : E → St → Option V) (u : E → V → E) : Den := fun _ e s => match f e s with | some v => .nrm (u e v) s | none => .bad
def oA (f : E → Nat → Option (V × Ob)) (u : E → V → E) : Den := fun _ e s => match f e s.next with | some (v, o) => .nrm (u e v) (s.new o) | none => .bad
def oE (f : KC → E → St → Option (V × St)) (u : E → V → E) : Den := fun k e s => match f k e s with | some (v, s') => .nrm (u e v) s' | none => .bad
def oG (g : E → V) (want : Bool) (a : Den) (u : E → V → E) : Den := fun k e s => match g e with
  | .bool b => Bool.casesOn (motive := fun _ => Res) (Bool.casesOn (motive := fun _ => Bool) want (not b) b) (.nrm (u e (.tup [])) s) (a k e s)
  | .tup [] => .nrm (u e (.tup [])) s
  | _ => .bad
def uNone (e : E) (_ : V) : E := e
def ops : List Den → Den | [] => dSkip | a :: l => dSeq a (ops l)

/-- How a piece of code of the model ends, by what ours comes to. -/
def Ends (r : Res) (nt : Nat) (gl : List Nat) (G : Pl) (s : St) (w : World) (x : Exit) (a' : Act) (w' : World) : Prop :=
  match r with
  | .nrm e' s' => x = .normal ∧ ∃ G', EnvR nt gl G' e' a' ∧ SR G' s' w' ∧ GoS G s w G' s' w'
  | .exit id e' s' => x = .exit id ∧ ∃ G', EnvR nt gl G' e' a' ∧ SR G' s' w' ∧ GoS G s w G' s' w'
  | .ret e' s' => x = .ret ∧ ∃ G', EnvR nt gl G' e' a' ∧ SR G' s' w' ∧ GoS G s w G' s' w'
  | .bad => False
theorem Ends.from {r : Res} {nt : Nat} {gl : List Nat} {G G1 : Pl} {s s1 : St} {w w1 : World} {x : Exit} {a' : Act} {w' : World} (hg : GoS G s w G1 s1 w1) (h : Ends r nt gl G1 s1 w1 x a' w') : Ends r nt gl G s w x a' w' := by
  cases r with
  | nrm e' s' => obtain ⟨h1, G', h2, h3, h4⟩ := h; exact ⟨h1, G', h2, h3, hg.trans h4⟩
  | exit id e' s' => obtain ⟨h1, G', h2, h3, h4⟩ := h; exact ⟨h1, G', h2, h3, hg.trans h4⟩
  | ret e' s' => obtain ⟨h1, G', h2, h3, h4⟩ := h; exact ⟨h1, G', h2, h3, hg.trans h4⟩
  | bad => exact h

def Snd (P : Program) (nt : Nat) (gl : List Nat) (c : Code) (d : Den) : Prop :=
  ∀ k, KOk P gl k → ∀ G e a s w, d k e s ≠ .bad → EnvR nt gl G e a → SR G s w → c.wp P (Ends (d k e s) nt gl G s w) a w

theorem then_mono {K K' : Act → World → Prop} {Q Q' : Exit → Act → World → Prop} (hK : ∀ a w, K a w → K' a w) (hQ : ∀ x a w, Q x a w → Q' x a w) : ∀ x a w, Exit.then K Q x a w → Exit.then K' Q' x a w := by
  intro x a w h
  cases x <;> first | exact hK _ _ h | exact hQ _ _ _ h
theorem rounds_mono {P : Program} {c : Code} {Q Q' : Exit → Act → World → Prop} (hQ : ∀ x a w, Q x a w → Q' x a w) : ∀ {n : Nat} {a : Act} {w : World}, Code.rounds P c Q n a w → Code.rounds P c Q' n a w
  | 0, _, _, h => h
  | _ + 1, _, _, h => wp_mono h (then_mono (fun _ _ h => rounds_mono hQ h) hQ)
theorem upon_mono {P : Program} {o : Oper} {a : Act} {K K' : Act → World → Prop} {Q Q' : Exit → Act → World → Prop} (hK : ∀ a w, K a w → K' a w) (hQ : ∀ x a w, Q x a w → Q' x a w) {r : Result Next} (h : o.upon P a K Q r) : o.upon P a K' Q' r := by
  cases r with
  | ok n w' =>
    cases n <;> simp only [Oper.upon] at h ⊢ <;>
      first
        | exact hK _ _ h
        | exact Calls.mono h (fun e w'' he => by
            cases e with
            | returned v => exact hK _ _ he
            | panicked ch => exact hQ _ _ _ he
            | outgrown => obtain ⟨a0, w0, he⟩ := he; exact ⟨a0, w0, hQ _ _ _ he⟩)
        | exact Rows.mono h (fun _ _ he => hK _ _ he)
  | halt x w' => cases x <;> simp only [Oper.upon] at h ⊢ <;> first | exact hQ _ _ _ h | exact h
theorem wpOps_mono {P : Program} {os : Array Oper} {Q Q' : Exit → Act → World → Prop} (hQ : ∀ x a w, Q x a w → Q' x a w) : ∀ {l : List Nat} {a : Act} {w : World}, wpOps P os Q l a w → wpOps P os Q' l a w
  | [], _, _, h => hQ _ _ _ h
  | i :: l, a, w, h => by
    simp only [wpOps] at h ⊢
    cases ho : os[i]? with
    | none => rw [ho] at h; exact wpOps_mono hQ h
    | some o =>
      rw [ho] at h
      simp only at h ⊢
      by_cases hw : Region.wanted o (yielded os a.tmps) = true
      · rw [if_pos hw] at h ⊢
        rcases h with h | ⟨h1, a0, w0, h2⟩
        · exact .inl (upon_mono (fun _ _ h => wpOps_mono hQ h) hQ h)
        · exact .inr ⟨h1, a0, w0, hQ _ _ _ h2⟩
      · rw [if_neg hw] at h ⊢; exact wpOps_mono hQ h

section
variable {P : Program} {nt : Nat} {gl : List Nat}
theorem Snd.skip : Snd P nt gl .skip dSkip := fun _ _ G e a s w _ he hs => wp_skip ⟨rfl, G, he, hs, GoS.refl _ _ _⟩
theorem Snd.ret : Snd P nt gl .ret dRet := fun _ _ G e a s w _ he hs => wp_ret ⟨rfl, G, he, hs, GoS.refl _ _ _⟩
theorem Snd.exit (id : Nat) : Snd P nt gl (.exit id) (dExit id) := fun _ _ G e a s w _ he hs => wp_exit ⟨rfl, G, he, hs, GoS.refl _ _ _⟩
theorem Snd.seq {x y : Code} {a b : Den} (ha : Snd P nt gl x a) (hb : Snd P nt gl y b) : Snd P nt gl (.seq x y) (dSeq a b) := by
  intro k hk G e ac s w hne he hs
  refine wp_seq (wp_mono (ha k hk G e ac s w (fun h => hne (by unfold dSeq; rw [h])) he hs) ?_)
  intro q a' w' h
  unfold dSeq at hne ⊢
  cases hr : a k e s with
  | nrm e' s' =>
    rw [hr] at h hne
    obtain ⟨rfl, G', h2, h3, h4⟩ := h
    exact wp_mono (hb k hk G' e' a' s' w' hne h2 h3) (fun _ _ _ hq => Ends.from h4 hq)
  | exit id e' s' => rw [hr] at h; obtain ⟨rfl, h⟩ := h; exact ⟨rfl, h⟩
  | ret e' s' => rw [hr] at h; obtain ⟨rfl, h⟩ := h; exact ⟨rfl, h⟩
  | bad => rw [hr] at h; exact h.elim
theorem Snd.cond {c : Operand} {g : E → V} {x y : Code} {a b : Den} (hc : opd gl c = some g) (ha : Snd P nt gl x a) (hb : Snd P nt gl y b) : Snd P nt gl (.cond c x y) (dCond g a b) := by
  intro k hk G e ac s w hne he hs
  unfold dCond at hne ⊢
  split at hne
  · rename_i t ht
    have h1 := opd_ok hc he
    rw [ht] at h1
    have h1 := h1.bool_inv
    cases t
    · exact wp_cond_false h1 (hb k hk G e ac s w hne he hs)
    · exact wp_cond_true h1 (ha k hk G e ac s w hne he hs)
  · exact absurd rfl hne
theorem Snd.block {id : Nat} {x : Code} {a : Den} (ha : Snd P nt gl x a) : Snd P nt gl (.block id x) (dBlock id a) := by
  intro k hk G e ac s w hne he hs
  refine wp_block (wp_mono (ha k hk G e ac s w (fun h => hne (by unfold dBlock; rw [h])) he hs) ?_)
  intro q a' w' h
  unfold dBlock at hne ⊢
  cases hr : a k e s with
  | nrm e' s' => rw [hr] at h; obtain ⟨rfl, h⟩ := h; exact ⟨rfl, h⟩
  | exit id' e' s' =>
    rw [hr] at h
    obtain ⟨rfl, h⟩ := h
    simp only [Exit.inBlock]
    cases hb : Nat.beq id' id with
    | true => have := Nat.eq_of_beq_eq_true hb; rw [if_pos this]; exact ⟨rfl, h⟩
    | false => rw [if_neg (fun e => by subst e; simp at hb)]; exact ⟨rfl, h⟩
  | ret e' s' => rw [hr] at h; obtain ⟨rfl, h⟩ := h; exact ⟨rfl, h⟩
  | bad => rw [hr] at h; exact h.elim
theorem loopN_succ (a : E → St → Res) (n : Nat) (e : E) (s : St) : loopN a (n + 1) e s = Res.casesOn (motive := fun _ => Res) (a e s) (fun e s => loopN a n e s) (fun id e s => .exit id e s) (fun e s => .ret e s) .bad := rfl
theorem Snd.loop {x : Code} {a : Den} (ha : Snd P nt gl x a) : Snd P nt gl (.loop x) (dLoop a) := by
  intro k hk G e ac s w hne he hs
  refine wp_loop_rounds k.fuel ?_
  unfold dLoop at hne ⊢
  generalize k.fuel = n at hne ⊢
  induction n generalizing G e ac s w with
  | zero => exact absurd rfl hne
  | succ n ih =>
    rw [loopN_succ] at hne ⊢
    show x.wp P (Exit.then (Code.rounds P x _ n) _) ac w
    refine wp_mono (ha k hk G e ac s w (fun h => hne (by rw [h])) he hs) ?_
    intro q a' w' h
    cases hr : a k e s with
    | nrm e' s' =>
      rw [hr] at h hne
      obtain ⟨rfl, G', h2, h3, h4⟩ := h
      have := ih G' e' a' s' w' h2 h3 hne
      exact rounds_mono (fun _ _ _ hq => Ends.from h4 hq) this
    | exit id e' s' => rw [hr] at h; obtain ⟨rfl, h⟩ := h; exact ⟨rfl, h⟩
    | ret e' s' => rw [hr] at h; obtain ⟨rfl, h⟩ := h; exact ⟨rfl, h⟩
    | bad => rw [hr] at h; exact h.elim

/-! ### Regions in the text's order -/
def OpSnd (P : Program) (nt : Nat) (gl : List Nat) (os : Array Oper) (o : Oper) (d : Den) : Prop :=
  ∀ k, KOk P gl k → ∀ G e a s w, d k e s ≠ .bad → EnvR nt gl G e a → SR G s w → ∃ e' s', d k e s = .nrm e' s' ∧
    ((Region.wanted o (yielded os a.tmps) = true ∧ Did P o a w (fun v' w' => ∃ G', EnvR nt gl G' e' (a.put o.dst v') ∧ SR G' s' w' ∧ GoS G s w G' s' w')) ∨
     (Region.wanted o (yielded os a.tmps) = false ∧ s' = s ∧ EnvR nt gl G e' (a.put o.dst undef)))
inductive OpsSnd (P : Program) (nt : Nat) (gl : List Nat) (os : Array Oper) : List Oper → List Den → Prop where
  | nil : OpsSnd P nt gl os [] []
  | cons {o : Oper} {d : Den} {l : List Oper} {ds : List Den} : OpSnd P nt gl os o d → OpsSnd P nt gl os l ds → OpsSnd P nt gl os (o :: l) (d :: ds)
theorem ops_wp {os : Array Oper} {k : KC} (hk : KOk P gl k) : ∀ {l : List Oper} {ds : List Den} (i : Nat), (∀ j, l[j]? = os[i + j]?) → OpsSnd P nt gl os l ds → ∀ {G e a s w}, ops ds k e s ≠ .bad → EnvR nt gl G e a → SR G s w →
    wpOps P os (Ends (ops ds k e s) nt gl G s w) (List.range' i l.length) a w
  | [], _, i, _, .nil, G, e, a, s, w, _, he, hs => ⟨rfl, G, he, hs, GoS.refl _ _ _⟩
  | o :: l, d :: ds, i, hi, .cons h hl, G, e, a, s, w, hne, he, hs => by
    have h0 : os[i]? = some o := by have := hi 0; simpa using this.symm
    obtain ⟨e', s', hd, hcase⟩ := h k hk G e a s w (fun h => hne (by simp only [ops]; unfold dSeq; rw [h])) he hs
    have hstep : ops (d :: ds) k e s = ops ds k e' s' := by simp only [ops]; unfold dSeq; rw [hd]
    rw [hstep] at hne ⊢
    have hi' : ∀ j, l[j]? = os[i + 1 + j]? := fun j => by have := hi (j + 1); simpa [Nat.add_assoc, Nat.add_comm 1 j] using this
    simp only [List.length_cons, List.range'_succ, wpOps, h0]
    rcases hcase with ⟨hw, hdid⟩ | ⟨hw, rfl, he'⟩
    · rw [if_pos hw]
      refine .inl (hdid.wp ?_)
      intro v' w' ⟨G', a1, a2, a3⟩
      have := ops_wp hk (i + 1) hi' hl hne a1 a2
      exact wpOps_mono (fun _ _ _ hq => Ends.from a3 hq) this
    · rw [if_neg (by rw [hw]; simp)]
      exact ops_wp hk (i + 1) hi' hl hne he' hs
theorem Snd.region {id : Nat} {os : Array Oper} {ds : List Den} (h : OpsSnd P nt gl os os.toList ds) : Snd P nt gl (.region id os false) (ops ds) := by
  intro k hk G e a s w hne he hs
  refine wp_region ?_
  have := ops_wp hk (os := os) 0 (fun j => by simp) h hne he hs
  rw [List.range_eq_range']
  simpa using this
end
end
end Go.Proofs.YtjipdnfaokdkbaaLab
