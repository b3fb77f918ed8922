/- A region that draws its order: ONE walk in the text's order serves every order, if each operation yields one value whatever has come up beside it, and the world hangs on WHICH operations have come up alone. No condition on the program. -/
import Derived.Orders
import Derived.Deep.Draws
import Derived.Laws.NewBlocks
namespace Go.Proofs.YtcjhhlbhfkcboaaLex
open Go
section
variable {P : Program} {ops : Array Oper} {md : Region.Mode}

/-- 'o' from the world w: it puts v, and leaves a world of the class. -/
def does (P : Program) (o : Oper) (a : Act) (w : World) (v : Value) (C : World → Prop) : Prop :=
  match (execOp a.eval o).run P w with
  | .ok (.value u) w' => u = v ∧ C w'
  | .ok .skip w' => v = undef ∧ C w'
  | .ok (.enter f args) w' => Calls P f args w' (fun e w'' => e = .returned v ∧ C w'')
  | _ => False

theorem does_value {o : Oper} {a : Act} {w w' : World} {v : Value} {C : World → Prop} (h : (execOp a.eval o).run P w = .ok (.value v) w') (hC : C w') : does P o a w v C := by
  unfold does; rw [h]; exact ⟨rfl, hC⟩
theorem does_skip {o : Oper} {a : Act} {w w' : World} {C : World → Prop} (h : (execOp a.eval o).run P w = .ok .skip w') (hC : C w') : does P o a w undef C := by
  unfold does; rw [h]; exact ⟨rfl, hC⟩
theorem does_enter {o : Oper} {a : Act} {w w' : World} {f : FuncId} {args : Array Value} {v : Value} {C : World → Prop} (h : (execOp a.eval o).run P w = .ok (.enter f args) w') (hC : Calls P f args w' (fun e w'' => e = .returned v ∧ C w'')) : does P o a w v C := by
  unfold does; rw [h]; exact hC

theorem does_wp {o : Oper} {a : Act} {w : World} {v : Value} {C : World → Prop} {K : Act → World → Prop} {Q : Exit → Act → World → Prop} (h : does P o a w v C) (hK : ∀ w', C w' → K (a.put o.dst v) w') : o.wp P a w K Q := by
  unfold does at h
  unfold Oper.wp
  generalize (execOp a.eval o).run P w = r at *
  match r, h with
  | .ok (.value u) w', ⟨h1, h2⟩ => subst h1; exact hK _ h2
  | .ok .skip w', ⟨h1, h2⟩ => subst h1; exact hK _ h2
  | .ok (.enter f args) w', h => exact Calls.mono h fun e w'' ⟨he, hc⟩ => by subst he; exact hK _ hc

/-- The walk in the text's order. C s w: w is one of the worlds behind the operations s. -/
def lex (P : Program) (ops : Array Oper) (C : (Nat → Bool) → World → Prop) (Q : Act → Prop) : Nat → List Oper → Act → Prop
  | _, [], a => Q a
  | i, o :: rest, a =>
    (Region.wanted o (yielded ops a.tmps) = true ∧ ∃ v, (∀ s w, C s w → s i = false → does P o a w v (C (fun j => s j || j == i))) ∧ lex P ops C Q (i + 1) rest (a.put o.dst v)) ∨
    (Region.wanted o (yielded ops a.tmps) = false ∧ (∀ s w, C s w → s i = false → C (fun j => s j || j == i) w) ∧ lex P ops C Q (i + 1) rest (a.put o.dst undef))

/-- What the walk shows of operation i: its value at its own state. -/
def shown (P : Program) (ops : Array Oper) (C : (Nat → Bool) → World → Prop) (i : Nat) (o : Oper) (v : Value) (a : Act) : Prop :=
  (Region.wanted o (yielded ops a.tmps) = true ∧ ∀ s w, C s w → s i = false → does P o a w v (C (fun j => s j || j == i))) ∨
  (Region.wanted o (yielded ops a.tmps) = false ∧ v = undef ∧ ∀ s w, C s w → s i = false → C (fun j => s j || j == i) w)

/-- The state behind those of the first n operations that are in L. -/
def stateOf (ops : Array Oper) (vals : Nat → Value) (L : Nat → Bool) (a : Act) : Nat → Act
  | 0 => a
  | n + 1 => if L n then (stateOf ops vals L a n).put ((ops[n]?).bind (·.dst)) (vals n) else stateOf ops vals L a n

/-- Two operations, the one of the lesser number first: the later waits for the earlier by an edge of its own, or they are apart. -/
def steady (md : Region.Mode) (ops : Array Oper) : Bool :=
  (List.range ops.size).all fun j => match ops[j]? with
    | none => true
    | some oj =>
      oj.after.all (fun e => !Region.binds md e || decide (e.on < j)) &&
      (List.range j).all fun i => match ops[i]? with
        | none => true
        | some oi => oj.after.any (fun e => Region.binds md e && e.on == i) || oi.apart ops oj

theorem steady_edges (h : steady md ops = true) {j : Nat} {oj : Oper} (hj : ops[j]? = some oj) {e : Edge} (he : e ∈ oj.after) (hb : Region.binds md e = true) : e.on < j := by
  have h1 := List.all_eq_true.1 h j (List.mem_range.2 (Array.getElem?_eq_some_iff.1 hj).1)
  rw [hj] at h1
  have h2 := Array.all_eq_true_iff_forall_mem.1 (Bool.and_eq_true_iff.1 h1).1 e he
  rw [hb] at h2
  simpa using h2

theorem steady_apart (h : steady md ops = true) {i j : Nat} {oi oj : Oper} (hi : ops[i]? = some oi) (hj : ops[j]? = some oj) (hij : i < j) :
    (∃ e ∈ oj.after, Region.binds md e = true ∧ e.on = i) ∨ oi.apart ops oj = true := by
  have h1 := List.all_eq_true.1 h j (List.mem_range.2 (Array.getElem?_eq_some_iff.1 hj).1)
  rw [hj] at h1
  have h2 := List.all_eq_true.1 (Bool.and_eq_true_iff.1 h1).2 i (List.mem_range.2 hij)
  rw [hi] at h2
  rcases Bool.or_eq_true_iff.1 h2 with h3 | h3
  · obtain ⟨e, he, hb⟩ := Array.any_eq_true'.1 h3
    exact .inl ⟨e, he, (Bool.and_eq_true_iff.1 hb).1, by simpa using (Bool.and_eq_true_iff.1 hb).2⟩
  · exact .inr h3

/-- What has come up holds all that it waited for. -/
def closed (md : Region.Mode) (ops : Array Oper) (L : Nat → Bool) : Prop :=
  ∀ j oj, ops[j]? = some oj → L j = true → ∀ e ∈ oj.after, Region.binds md e = true → L e.on = true

theorem put_at {a : Act} {d : Option Tmp} {v : Value} {t : Tmp} (h : d ≠ some t) : (a.put d v).tmps[t]? = a.tmps[t]? := by
  cases d with
  | none => rfl
  | some d =>
    have hne : d ≠ t := fun e => h (e ▸ rfl)
    simp [Act.put, Array.getElem?_setIfInBounds_ne hne]

theorem put_size {a : Act} {d : Option Tmp} {v : Value} : (a.put d v).tmps.size = a.tmps.size := by
  cases d <;> simp [Act.put]
theorem put_defers {a : Act} {d : Option Tmp} {v : Value} : (a.put d v).defers = a.defers := by
  cases d <;> rfl
theorem stateOf_size {vals : Nat → Value} {L : Nat → Bool} {a : Act} : ∀ n, (stateOf ops vals L a n).tmps.size = a.tmps.size
  | 0 => rfl
  | n + 1 => by unfold stateOf; split; exact put_size.trans (stateOf_size n); exact stateOf_size n

theorem put_same {a b : Act} {d : Option Tmp} {v : Value} {t : Tmp} (hs : a.tmps.size = b.tmps.size) (h : a.tmps[t]? = b.tmps[t]?) : (a.put d v).tmps[t]? = (b.put d v).tmps[t]? := by
  by_cases hd : d = some t
  · subst hd
    simp only [Act.put]
    rw [Array.getElem?_setIfInBounds, Array.getElem?_setIfInBounds]
    simp [hs]
  · rw [put_at hd, put_at hd]; exact h

/-- At what operation i looks at, the state behind L is the text's own, if all that i waits for is in L, and i is not. -/
theorem looks_same (hst : steady md ops = true) {vals : Nat → Value} {L : Nat → Bool} {a : Act} (hcl : closed md ops L) {i : Nat} {oi : Oper} (hi : ops[i]? = some oi) (hiL : L i = false)
    (hw : ∀ e ∈ oi.after, Region.binds md e = true → L e.on = true) {t : Tmp} (ht : t ∈ oi.looksAt ops) : ∀ n,
    (stateOf ops vals L a n).tmps[t]? = (stateOf ops vals (fun _ => true) a (min n i)).tmps[t]?
  | 0 => by simp [stateOf]
  | n + 1 => by
    have ih := looks_same hst (vals := vals) (a := a) hcl hi hiL hw ht n
    rcases Nat.lt_trichotomy n i with hn | hn | hn
    · rw [Nat.min_eq_left (by omega)] at ih
      rw [Nat.min_eq_left (show n + 1 ≤ i by omega)]
      simp only [stateOf, if_true]
      by_cases hL : L n = true
      · rw [if_pos hL]; exact put_same ((stateOf_size n).trans (stateOf_size n).symm) ih
      · rw [if_neg hL, ih]
        cases ho : ops[n]? with
        | none => rfl
        | some on_ =>
          have hap : on_.apart ops oi = true := (steady_apart hst ho hi hn).resolve_left (fun ⟨e, he, hb, hon⟩ => hL (hon ▸ hw e he hb))
          symm
          exact put_at (fun hd => (Oper.apart_spec hap).1 t (by simpa using hd) ht)
    · subst hn
      simp only [stateOf, hiL, Bool.false_eq_true, if_false]
      rw [ih, Nat.min_self, Nat.min_eq_right (by omega)]
    · rw [Nat.min_eq_right (by omega)] at ih
      rw [Nat.min_eq_right (show i ≤ n + 1 by omega)]
      simp only [stateOf]
      by_cases hL : L n = true
      · rw [if_pos hL, ← ih]
        cases ho : ops[n]? with
        | none => rfl
        | some on_ =>
          have hap : oi.apart ops on_ = true := (steady_apart hst hi ho hn).resolve_left (fun ⟨e, he, hb, hon⟩ => by
            have := hcl n on_ ho hL e he hb
            rw [hon, hiL] at this; cases this)
          exact put_at (fun hd => (Oper.apart_spec hap).2.2 t (by simpa using hd) ht)
      · rw [if_neg hL]; exact ih

theorem eval_same {a b : Act} {o : Oper} (hs : ∀ cs b, o.op ≠ .select cs b) (h : ∀ t ∈ o.looksAt ops, a.tmps[t]? = b.tmps[t]?) : execOp a.eval o = execOp b.eval o :=
  execOp_congr o hs fun x hx => by
    cases x with
    | tmp t =>
      have := h t (List.mem_append_left _ (List.mem_filterMap.2 ⟨.tmp t, by simpa using hx, rfl⟩))
      simp [Act.eval, Array.getD_eq_getD_getElem?, this]
    | _ => rfl
theorem wanted_same {a b : Act} {o : Oper} (h : ∀ t ∈ o.looksAt ops, a.tmps[t]? = b.tmps[t]?) : Region.wanted o (yielded ops a.tmps) = Region.wanted o (yielded ops b.tmps) := by
  unfold Region.wanted
  cases hg : o.guard with
  | none => rfl
  | some gw =>
    obtain ⟨g, want⟩ := gw
    have hy : yielded ops a.tmps g = yielded ops b.tmps g := by
      unfold yielded
      cases ht : (ops[g]?).bind (·.dst) with
      | none => rfl
      | some t =>
        have := h t (by simp [Oper.looksAt, hg, ht])
        simp [this]
    simp only [hy]

/-- One more has come up: its value is put, wherever the text has it. -/
theorem state_put (hst : steady md ops = true) {vals : Nat → Value} {L : Nat → Bool} {a : Act} (hcl : closed md ops L) {i : Nat} {oi : Oper} (hi : ops[i]? = some oi) (hiL : L i = false) : ∀ n,
    i < n → stateOf ops vals (fun j => L j || j == i) a n = (stateOf ops vals L a n).put oi.dst (vals i)
  | 0, h => by omega
  | n + 1, h => by
    have below : ∀ m, m ≤ i → stateOf ops vals (fun j => L j || j == i) a m = stateOf ops vals L a m := by
      intro m
      induction m with
      | zero => intro _; rfl
      | succ m ihm =>
        intro hm
        have : (m == i) = false := beq_eq_false_iff_ne.2 (by omega)
        simp only [stateOf, this, Bool.or_false, ihm (by omega)]
    by_cases hn : n = i
    · subst hn
      simp only [stateOf, hiL, BEq.rfl, Bool.or_true, if_true, Bool.false_eq_true, if_false, below n (Nat.le_refl _), hi, Option.bind_some]
    · have ih := state_put hst (vals := vals) (a := a) hcl hi hiL n (by omega)
      have hne : (n == i) = false := beq_eq_false_iff_ne.2 hn
      simp only [stateOf, hne, Bool.or_false]
      by_cases hL : L n = true
      · rw [if_pos hL, if_pos hL, ih]
        cases ho : ops[n]? with
        | none => rfl
        | some on_ =>
          have hap : oi.apart ops on_ = true := (steady_apart hst hi ho (by omega)).resolve_left (fun ⟨e, he, hb, hon⟩ => by
            have := hcl n on_ ho hL e he hb
            rw [hon, hiL] at this; cases this)
          simp only [Option.bind_some]
          exact Act.put_comm _ _ _ (fun d hd => (Oper.apart_spec hap).2.1 d hd)
      · rw [if_neg hL, if_neg hL]; exact ih

/-- The walk's values. -/
theorem lex_vals {C : (Nat → Bool) → World → Prop} {Q : Act → Prop} : ∀ (rest : List Oper) (i : Nat) (a : Act), (∀ k, rest[k]? = ops[i + k]?) → lex P ops C Q i rest a →
    ∃ vals : Nat → Value, Q (stateOf (ops.extract i ops.size) (fun k => vals (i + k)) (fun _ => true) a rest.length) ∧
      ∀ k o, rest[k]? = some o → shown P ops C (i + k) o (vals (i + k)) (stateOf (ops.extract i ops.size) (fun k => vals (i + k)) (fun _ => true) a k)
  | [], i, a, _, h => ⟨fun _ => undef, h, fun k o hk => by simp at hk⟩
  | o :: rest, i, a, hr, h => by
    have h0 : ops[i]? = some o := by have := hr 0; simpa using this.symm
    have hlt := (Array.getElem?_eq_some_iff.1 h0).1
    have hr' : ∀ k, rest[k]? = ops[i + 1 + k]? := fun k => by have := hr (k + 1); simpa [Nat.add_assoc, Nat.add_comm 1 k] using this
    obtain ⟨v, hv, hn⟩ : ∃ v, shown P ops C i o v a ∧ lex P ops C Q (i + 1) rest (a.put o.dst v) := by
      rcases h with ⟨h1, v, h2, h3⟩ | ⟨h1, h2, h3⟩
      · exact ⟨v, .inl ⟨h1, h2⟩, h3⟩
      · exact ⟨undef, .inr ⟨h1, rfl, h2⟩, h3⟩
    obtain ⟨vals, hq, hs⟩ := lex_vals rest (i + 1) (a.put o.dst v) hr' hn
    have shift : ∀ n, stateOf (ops.extract i ops.size) (fun k => (fun j => if j = i then v else vals j) (i + k)) (fun _ => true) a (n + 1) = stateOf (ops.extract (i + 1) ops.size) (fun k => vals (i + 1 + k)) (fun _ => true) (a.put o.dst v) n := by
      intro n
      induction n with
      | zero =>
        have : (ops.extract i ops.size)[0]? = some o := by
          rw [Array.getElem?_extract, if_pos (by simp; omega)]; simpa using h0
        simp [stateOf, this]
      | succ n ihn =>
        rw [stateOf, if_pos rfl, ihn]
        conv => rhs; rw [stateOf, if_pos rfl]
        have e1 : (ops.extract i ops.size)[n + 1]? = (ops.extract (i + 1) ops.size)[n]? := by
          rw [Array.getElem?_extract, Array.getElem?_extract]
          have : i + (n + 1) = i + 1 + n := by omega
          rw [this]
          by_cases hb : n < min ops.size ops.size - (i + 1)
          · rw [if_pos hb, if_pos (by omega)]
          · rw [if_neg hb, if_neg (by omega)]
        have e2 : ¬ (i + 1 + n = i) := by omega
        have e3 : i + (n + 1) = i + 1 + n := by omega
        simp only [e1, e3]
        rw [if_neg e2]
    refine ⟨fun j => if j = i then v else vals j, ?_, ?_⟩
    · rw [List.length_cons, shift]; exact hq
    · intro k o' hk
      cases k with
      | zero =>
        have : o' = o := by simpa using hk.symm
        subst this
        simpa [stateOf] using hv
      | succ k =>
        rw [shift]
        have e2 : ¬ (i + 1 + k = i) := by omega
        have e3 : i + (k + 1) = i + 1 + k := by omega
        simp only [e3]
        rw [if_neg e2]
        exact hs k o' (by simpa using hk)

theorem any_of_lex {C : (Nat → Bool) → World → Prop} {Q : Exit → Act → World → Prop} (hsel : Region.noSelect ops = true) (hst : steady md ops = true) {vals : Nat → Value} {a : Act}
    (hs : ∀ k o, ops[k]? = some o → shown P ops C k o (vals k) (stateOf ops vals (fun _ => true) a k))
    (hQ : ∀ s w, (∀ i, i < ops.size → s i = true) → C s w → Q .normal (stateOf ops vals (fun _ => true) a ops.size) w) :
    ∀ (fuel : Nat) (listed : Array Bool) (w : World), listed.size = ops.size → closed md ops (fun j => listed.getD j false) → (listed.toList.filter (· == false)).length ≤ fuel → C (fun j => listed.getD j false) w →
      wpAny P md ops Q fuel listed (stateOf ops vals (fun j => listed.getD j false) a ops.size) w := by
  have done : ∀ (listed : Array Bool) (w : World), listed.size = ops.size → Region.ready md ops listed = [] → C (fun j => listed.getD j false) w → Q .normal (stateOf ops vals (fun j => listed.getD j false) a ops.size) w := by
    intro listed w hsz hr hC
    have hall : ∀ i, i < ops.size → listed.getD i false = true := by
      intro i
      induction i using Nat.strongRecOn with
      | ind i ih =>
        intro hlt
        by_cases hb : listed.getD i false = true
        · exact hb
        · exfalso
          have : i ∈ Region.ready md ops listed := mem_ready.2 ⟨by
              have hlt' : i < listed.size := by omega
              simp [hlt'] at hb ⊢; exact hb, ops[i], by simp [hlt], fun e he hbd => by
              have hlt2 := steady_edges hst (j := i) (oj := ops[i]) (by simp [hlt]) he hbd
              exact ih e.on hlt2 (by omega)⟩
          rw [hr] at this; cases this
    have heq : ∀ n, n ≤ ops.size → stateOf ops vals (fun j => listed.getD j false) a n = stateOf ops vals (fun _ => true) a n := by
      intro n
      induction n with
      | zero => intro _; rfl
      | succ n ih => intro hn; rw [stateOf, stateOf, hall n (by omega), ih (by omega)]
    rw [heq ops.size (Nat.le_refl _)]
    exact hQ _ w hall hC
  intro fuel
  induction fuel with
  | zero =>
    intro listed w hsz hcl hf hC
    have hr : Region.ready md ops listed = [] := by
      by_cases he : Region.ready md ops listed = []
      · exact he
      · exfalso
        obtain ⟨j, hj⟩ := List.exists_mem_of_ne_nil _ he
        have h0 := (mem_ready.1 hj).1
        have hlt : j < listed.size := by
          rcases Nat.lt_or_ge j listed.size with h | h
          · exact h
          · simp [Array.getElem?_eq_none h] at h0
        have hm : listed[j] ∈ listed.toList.filter (· == false) := List.mem_filter.2 ⟨by simp, by simp [hlt] at h0; simp [h0]⟩
        have : 0 < (listed.toList.filter (· == false)).length := List.length_pos_of_mem hm
        omega
    exact ⟨hr, done listed w hsz hr hC⟩
  | succ fuel ih =>
    intro listed w hsz hcl hf hC
    refine ⟨fun hr => done listed w hsz hr hC, fun i hi => ?_⟩
    obtain ⟨h0, o, ho, hall⟩ := mem_ready.1 hi
    have hlt : i < listed.size := by rw [hsz]; exact (Array.getElem?_eq_some_iff.1 ho).1
    have hiL : listed.getD i false = false := by simp [hlt] at h0 ⊢; exact h0
    have hset : (fun j => (listed.setIfInBounds i true).getD j false) = (fun j => listed.getD j false || j == i) := by
      funext j
      by_cases hij : i = j
      · subst hij; simp [hlt]
      · rw [getD_set_ne false hij]
        have : (j == i) = false := beq_eq_false_iff_ne.2 (Ne.symm hij)
        simp [this]
    have hsame : ∀ t ∈ o.looksAt ops, (stateOf ops vals (fun j => listed.getD j false) a ops.size).tmps[t]? = (stateOf ops vals (fun _ => true) a i).tmps[t]? := by
      intro t ht
      have := looks_same hst (vals := vals) (a := a) hcl ho hiL hall ht ops.size
      rwa [Nat.min_eq_right (Nat.le_of_lt (by rw [← hsz]; exact hlt))] at this
    have hex : execOp (stateOf ops vals (fun j => listed.getD j false) a ops.size).eval o = execOp (stateOf ops vals (fun _ => true) a i).eval o := eval_same (Region.noSelect_spec hsel i o · · ho) hsame
    have hwn := wanted_same (ops := ops) hsame
    have hnext : ∀ w', C (fun j => listed.getD j false || j == i) w' → wpAny P md ops Q fuel (listed.setIfInBounds i true) ((stateOf ops vals (fun j => listed.getD j false) a ops.size).put o.dst (vals i)) w' := by
      intro w' hC'
      have hcl' : closed md ops (fun j => (listed.setIfInBounds i true).getD j false) := by
        intro j oj hj hL e he hb
        rw [hset] at hL ⊢
        simp only [Bool.or_eq_true] at hL ⊢
        rcases hL with hL | hL
        · exact .inl (hcl j oj hj hL e he hb)
        · have : j = i := by simpa using hL
          subst this
          rw [ho] at hj; cases hj
          exact .inl (hall e he hb)
      have hcount : ((listed.setIfInBounds i true).toList.filter (· == false)).length ≤ fuel := by
        have hL : listed.toList = listed.toList.take i ++ listed[i] :: listed.toList.drop (i + 1) := by
          have hl : i < listed.toList.length := by rw [Array.length_toList]; exact hlt
          have h := List.getElem_cons_drop (h := hl)
          rw [show listed[i] = listed.toList[i] from by simp, h, List.take_append_drop]
        have hb : listed[i] = false := by simp [hlt] at hiL; exact hiL
        have h1 : (listed.toList.filter (· == false)).length = ((listed.toList.take i).filter (· == false)).length + 1 + ((listed.toList.drop (i + 1)).filter (· == false)).length := by
          conv => lhs; rw [hL, List.filter_append, List.filter_cons, hb]
          simp only [BEq.rfl, if_true, List.length_append, List.length_cons]; omega
        have h2 : ((listed.setIfInBounds i true).toList.filter (· == false)).length = ((listed.toList.take i).filter (· == false)).length + ((listed.toList.drop (i + 1)).filter (· == false)).length := by
          rw [Array.toList_setIfInBounds, List.set_eq_take_append_cons_drop, if_pos (by rw [Array.length_toList]; exact hlt), List.filter_append, List.filter_cons]; simp
        omega
      have := ih (listed.setIfInBounds i true) w' (by simpa using hsz) hcl' hcount (by rw [hset]; exact hC')
      rw [hset, state_put hst hcl ho hiL ops.size (by omega)] at this
      exact this
    unfold wpOp
    rw [ho]
    simp only []
    rw [hwn]
    rcases hs i o ho with ⟨h1, h2⟩ | ⟨h1, h2, h3⟩
    · rw [if_pos h1]
      refine .inl (does_wp (C := C (fun j => listed.getD j false || j == i)) (v := vals i) ?_ hnext)
      have := h2 _ w hC hiL
      unfold does at this ⊢
      rw [hex]; exact this
    · rw [if_neg (by simp [h1])]
      have := hnext w (h3 _ w hC hiL)
      rwa [h2] at this

/-- THE LAW. -/
theorem wp_region_lex {id : Nat} {a : Act} {w : World} {Q : Exit → Act → World → Prop} (C : (Nat → Bool) → World → Prop) (hm : P.follows .mixedOrders = true) (hsel : Region.noSelect ops = true) (hst : steady .any ops = true)
    (hC : C (fun _ => false) w.drew) (h : lex P ops C (fun a' => ∀ s w', (∀ i, i < ops.size → s i = true) → C s w' → Q .normal a' w') 0 ops.toList a) : (Code.region id ops true).wp P Q a w := by
  obtain ⟨vals, hq, hs⟩ := lex_vals ops.toList 0 a (fun k => by simp) h
  simp only [Nat.zero_add, Array.extract_size, Array.length_toList] at hq hs
  refine wp_region_any hm ?_
  have e0 : (fun j => (Array.replicate ops.size false).getD j false) = fun _ => false := by
    funext j
    rcases Nat.lt_or_ge j ops.size with hj | hj
    · simp [hj]
    · have : (Array.replicate ops.size false)[j]? = none := Array.getElem?_eq_none (by simpa using hj)
      simp [this]
  have e1 : ∀ n, stateOf ops vals (fun _ => false) a n = a := by
    intro n; induction n with
    | zero => rfl
    | succ n ih => simp [stateOf, ih]
  have := any_of_lex (P := P) (Q := Q) (C := C) hsel hst (vals := vals) (a := a) (fun k o hk => hs k o (by simpa using hk)) hq ops.size (Array.replicate ops.size false) { w with drawn := w.drawn + 1 } (by simp)
    (by rw [e0]; intro j oj _ hL; cases hL) (by simp) (by rw [e0]; exact hC)
  rw [e0, e1] at this
  exact this

/-- The same, of operations written out. -/
theorem wp_region_lex_lit {l : List Oper} {id : Nat} {a : Act} {w : World} {Q : Exit → Act → World → Prop} (C : (Nat → Bool) → World → Prop) (hm : P.follows .mixedOrders = true) (hsel : Region.noSelect l.toArray = true) (hst : steady .any l.toArray = true)
    (hC : C (fun _ => false) w.drew) (h : lex P l.toArray C (fun a' => ∀ s w', (∀ i, i < l.length → s i = true) → C s w' → Q .normal a' w') 0 l a) : (Code.region id l.toArray true).wp P Q a w :=
  wp_region_lex C hm hsel hst hC (by simpa using h)
theorem lex_nil {C : (Nat → Bool) → World → Prop} {Q : Act → Prop} {i : Nat} {a : Act} (h : Q a) : lex P ops C Q i [] a := h
theorem lex_yes {C : (Nat → Bool) → World → Prop} {Q : Act → Prop} {i : Nat} {o : Oper} {rest : List Oper} {a : Act} {v : Value} (hw : Region.wanted o (yielded ops a.tmps) = true)
    (h : ∀ s w, C s w → s i = false → does P o a w v (C (fun j => s j || j == i))) (hn : lex P ops C Q (i + 1) rest (a.put o.dst v)) : lex P ops C Q i (o :: rest) a := .inl ⟨hw, v, h, hn⟩
theorem lex_no {C : (Nat → Bool) → World → Prop} {Q : Act → Prop} {i : Nat} {o : Oper} {rest : List Oper} {a : Act} (hw : Region.wanted o (yielded ops a.tmps) = false)
    (h : ∀ s w, C s w → s i = false → C (fun j => s j || j == i) w) (hn : lex P ops C Q (i + 1) rest (a.put o.dst undef)) : lex P ops C Q i (o :: rest) a := .inr ⟨hw, h, hn⟩

/-- A store into the block that was made last. -/
theorem set_new (w : World) (cs : Array Value) (T : TypeId) (n j : Nat) (v : Value) : ((w.alloc (.cells cs T)).drewN n).setCell ⟨w.heap.size, j, none⟩ v = (w.alloc (.cells (cs.setIfInBounds j v) T)).drewN n := by
  exact congrArg (fun W => World.drewN W n) (World.setCell_alloc_at cs T w.heap.size j v rfl)
/-- The class: some draws behind the world F s. -/
def cls (F : (Nat → Bool) → World) (s : Nat → Bool) (w : World) : Prop := ∃ n, w = (F s).drewN n
theorem cls_drew {F : (Nat → Bool) → World} {w : World} (h : F (fun _ => false) = w) : cls F (fun _ => false) w.drew := ⟨1, by rw [h]; rfl⟩
theorem cls_drewN {F : (Nat → Bool) → World} {w : World} {k : Nat} (h : F (fun _ => false) = w) : cls F (fun _ => false) (w.drewN k).drew := ⟨k + 1, by rw [h]; simp only [World.drewN, World.drew, Nat.add_assoc]⟩
theorem cls_end {F : (Nat → Bool) → World} {Q : World → Prop} {n : Nat} (e : List Nat) (he : e.all (· < n) = true) {w : World} (hF : ∀ s, (∀ i ∈ e, s i = true) → F s = w) (h : ∀ m, Q (w.drewN m)) :
    ∀ s w', (∀ i, i < n → s i = true) → cls F s w' → Q w' := by
  rintro s w' hs ⟨m, rfl⟩
  rw [hF s (fun i hi => hs i (by simpa using List.all_eq_true.1 he i hi))]
  exact h m
/-- A quiet operation that puts a value. -/
theorem quiet_v {F : (Nat → Bool) → World} {i : Nat} {o : Oper} {a : Act} {v : Value} (hF : ∀ s, F (fun j => s j || j == i) = F s) (h : ∀ s n, (execOp a.eval o).run P ((F s).drewN n) = .ok (.value v) ((F s).drewN n)) :
    ∀ s w, cls F s w → s i = false → does P o a w v (cls F (fun j => s j || j == i)) := by
  rintro s w ⟨n, rfl⟩ _
  exact does_value (h s n) ⟨n, by rw [hF]⟩
theorem quiet_no {F : (Nat → Bool) → World} {i : Nat} (hF : ∀ s, F (fun j => s j || j == i) = F s) : ∀ s w, cls F s w → s i = false → cls F (fun j => s j || j == i) w := by
  rintro s w ⟨n, rfl⟩ _
  exact ⟨n, by rw [hF]⟩
/-- A call that only draws. -/
theorem quiet_c {F : (Nat → Bool) → World} {i : Nat} {o : Oper} {a : Act} {v : Value} {f : FuncId} {args : Array Value} (hF : ∀ s, F (fun j => s j || j == i) = F s)
    (h : ∀ s n, (execOp a.eval o).run P ((F s).drewN n) = .ok (.enter f args) ((F s).drewN n)) (hc : ∀ s n, Calls P f args ((F s).drewN n) fun e w' => e = .returned v ∧ ∃ m, w' = ((F s).drewN n).drewN m) :
    ∀ s w, cls F s w → s i = false → does P o a w v (cls F (fun j => s j || j == i)) := by
  rintro s w ⟨n, rfl⟩ _
  refine does_enter (h s n) ((hc s n).mono ?_)
  rintro e w' ⟨rfl, m, rfl⟩
  exact ⟨rfl, n + m, by rw [World.drewN_drewN, hF]⟩
/-- An operation that turns the world. -/
theorem turns_v {F : (Nat → Bool) → World} {i : Nat} {o : Oper} {a : Act} {v : Value} (h : ∀ s n, s i = false → (execOp a.eval o).run P ((F s).drewN n) = .ok (.value v) ((F (fun j => s j || j == i)).drewN n)) :
    ∀ s w, cls F s w → s i = false → does P o a w v (cls F (fun j => s j || j == i)) := by
  rintro s w ⟨n, rfl⟩ hs
  exact does_value (h s n hs) ⟨n, rfl⟩
theorem turns_s {F : (Nat → Bool) → World} {i : Nat} {o : Oper} {a : Act} (h : ∀ s n, s i = false → (execOp a.eval o).run P ((F s).drewN n) = .ok .skip ((F (fun j => s j || j == i)).drewN n)) :
    ∀ s w, cls F s w → s i = false → does P o a w undef (cls F (fun j => s j || j == i)) := by
  rintro s w ⟨n, rfl⟩ hs
  exact does_skip (h s n hs) ⟨n, rfl⟩
end
end Go.Proofs.YtcjhhlbhfkcboaaLex
