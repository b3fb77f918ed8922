/- The lab: operations in a region; guards; calls; functions. No condition on the program. -/
import Derived.Test.YtjipdnfaokdkbaaLabC
namespace Go.Proofs.YtjipdnfaokdkbaaLab
open Go
set_option linter.unusedVariables false
noncomputable section

section
variable {P : Program} {nt : Nat} {gl : List Nat} {os : Array Oper} {o : Oper}
/-- Where the value goes. -/
def DstOk (nt : Nat) (d : Option Tmp) (u : E → V → E) : Prop := (d = none ∧ u = uNone) ∨ ∃ t, d = some t ∧ t < nt ∧ t < 256 ∧ u = Ut t
def dstG (nt : Nat) : Option Tmp → Option (E → V → E)
  | none => some uNone
  | some t => if t < nt ∧ t < 256 then some (Ut t) else none
theorem dstG_ok {nt : Nat} {d : Option Tmp} {u : E → V → E} (h : dstG nt d = some u) : DstOk nt d u := by
  cases d with
  | none => cases h; exact .inl ⟨rfl, rfl⟩
  | some t =>
    simp only [dstG] at h
    split at h
    · rename_i ht; cases h; exact .inr ⟨t, rfl, ht.1, ht.2, rfl⟩
    · cases h
theorem EnvR.dst {G : Pl} {e : E} {a : Act} (he : EnvR nt gl G e a) {d : Option Tmp} {u : E → V → E} (hd : DstOk nt d u) {v : V} {v' : Value} (hv : VR G v v') : EnvR nt gl G (u e v) (a.put d v') := by
  rcases hd with ⟨rfl, rfl⟩ | ⟨t, rfl, h1, h2, rfl⟩
  · exact he
  · exact he.put h1 h2 hv

def OpDo (P : Program) (nt : Nat) (gl : List Nat) (o : Oper) (d : Den) : Prop :=
  ∀ k, KOk P gl k → ∀ G e a s w, d k e s ≠ .bad → EnvR nt gl G e a → SR G s w → ∃ e' s', d k e s = .nrm e' s' ∧
    Did P o a w (fun v' w' => ∃ G', EnvR nt gl G' e' (a.put o.dst v') ∧ SR G' s' w' ∧ GoS G s w G' s' w')
theorem OpDo.p {f : E → Option V} {u : E → V → E} (h : OPs P o nt gl f) (hd : DstOk nt o.dst u) : OpDo P nt gl o (oP f u) := by
  intro k hk G e a s w hne he hs
  unfold oP at hne ⊢
  cases hf : f e with
  | none => rw [hf] at hne; exact absurd rfl hne
  | some v =>
    obtain ⟨v', h1, h2⟩ := h G e a w v hf he
    exact ⟨_, _, rfl, Did.value h1 ⟨G, he.dst hd h2, hs, GoS.refl _ _ _⟩⟩
theorem OpDo.d {f : E → St → Option V} {u : E → V → E} (h : ODs P o nt gl f) (hd : DstOk nt o.dst u) : OpDo P nt gl o (oD f u) := by
  intro k hk G e a s w hne he hs
  unfold oD at hne ⊢
  cases hf : f e s with
  | none => rw [hf] at hne; exact absurd rfl hne
  | some v =>
    obtain ⟨v', h1, h2⟩ := h G e a s w v hf he hs.r
    exact ⟨_, _, rfl, Did.value h1 ⟨G, he.dst hd h2, hs, GoS.refl _ _ _⟩⟩
theorem OpDo.a {f : E → Nat → Option (V × Ob)} {u : E → V → E} (h : OAs P o nt gl f) (hd : DstOk nt o.dst u) : OpDo P nt gl o (oA f u) := by
  intro k hk G e a s w hne he hs
  unfold oA at hne ⊢
  cases hf : f e s.next with
  | none => rw [hf] at hne; exact absurd rfl hne
  | some p =>
    obtain ⟨v, ob⟩ := p
    have hid : G s.next = none := by
      cases hq : G s.next with
      | none => rfl
      | some l => exact absurd (hs.dom _ _ hq).1 (Nat.lt_irrefl _)
    obtain ⟨v', obj, tot, w', h1, h2, h3, h4⟩ := h G e a s.next w v ob hf he hid
    obtain ⟨r1, r2⟩ := hs.grew h2 h4
    exact ⟨_, _, rfl, Did.value h1 ⟨_, (he.mono (Pl.le_add hid)).dst hd h3, r1, r2⟩⟩
theorem OpDo.e {f : KC → E → St → Option (V × St)} {u : E → V → E} (h : OEs P o nt gl f) (hd : DstOk nt o.dst u) : OpDo P nt gl o (oE f u) := by
  intro k hk G e a s w hne he hs
  unfold oE at hne ⊢
  cases hf : f k e s with
  | none => rw [hf] at hne; exact absurd rfl hne
  | some p =>
    obtain ⟨v, s'⟩ := p
    have hdid := h k hk G e a s w v s' hf he hs
    refine ⟨_, _, rfl, ?_⟩
    have key : ∀ v' w', Post G s w v s' v' w' → ∃ G', EnvR nt gl G' (u e v) (a.put o.dst v') ∧ SR G' s' w' ∧ GoS G s w G' s' w' := by
      intro v' w' ⟨G', h1, h2, h3⟩
      exact ⟨G', (he.mono h1.le).dst hd h3, h2, h1⟩
    exact hdid.mono key

theorem OpSnd.plain {d : Den} (h : OpDo P nt gl o d) (hg : o.guard = none) : OpSnd P nt gl os o d := by
  intro k hk G e a s w hne he hs
  obtain ⟨e', s', h1, h2⟩ := h k hk G e a s w hne he hs
  exact ⟨e', s', h1, .inl ⟨by simp [Region.wanted, hg], h2⟩⟩
theorem OpSnd.guard {d : Den} {u : E → V → E} {j t : Nat} {want : Bool} (h : OpDo P nt gl o d) (hg : o.guard = some (j, want)) (ht : (os[j]?).bind (·.dst) = some t) (ht2 : t < 256) (hd : DstOk nt o.dst u) : OpSnd P nt gl os o (oG (Gt t) want d u) := by
  intro k hk G e a s w hne he hs
  have hx := he.tm t ht2
  have hy : ∀ b, a.tmps.getD t undef = .bool b → yielded os a.tmps j = some b := by
    intro b hb
    unfold yielded
    rw [ht]
    simp only [Option.bind_some]
    rw [Array.getD_eq_getD_getElem?] at hb
    cases hq : a.tmps[t]? with
    | none => rw [hq] at hb; cases hb
    | some q => rw [hq] at hb; simp only [Option.getD_some] at hb; rw [hb]
  have hy2 : a.tmps.getD t undef = .tuple #[] → yielded os a.tmps j = none := by
    intro hb
    unfold yielded
    rw [ht]
    simp only [Option.bind_some]
    rw [Array.getD_eq_getD_getElem?] at hb
    cases hq : a.tmps[t]? with
    | none => rfl
    | some q => rw [hq] at hb; simp only [Option.getD_some] at hb; rw [hb]
  unfold oG at hne ⊢
  split at hne
  · rename_i b hb
    rw [hb] at hx
    have hyb := hy b hx.bool_inv
    have hw : Region.wanted o (yielded os a.tmps) = (b == want) := by
      simp only [Region.wanted, hg, hyb]; cases b <;> cases want <;> rfl
    cases b <;> cases want
    · obtain ⟨e', s', h1, h2⟩ := h k hk G e a s w hne he hs
      exact ⟨e', s', h1, .inl ⟨hw, h2⟩⟩
    · exact ⟨_, _, rfl, .inr ⟨hw, rfl, he.dst hd (.tup _ _ .nil)⟩⟩
    · exact ⟨_, _, rfl, .inr ⟨hw, rfl, he.dst hd (.tup _ _ .nil)⟩⟩
    · obtain ⟨e', s', h1, h2⟩ := h k hk G e a s w hne he hs
      exact ⟨e', s', h1, .inl ⟨hw, h2⟩⟩
  · rename_i hb
    rw [hb] at hx
    obtain ⟨l', hl, hvs⟩ := hx.tup_inv
    cases hvs
    have hyb := hy2 hl
    exact ⟨_, _, rfl, .inr ⟨by simp [Region.wanted, hg, hyb], rfl, he.dst hd (.tup _ _ .nil)⟩⟩
  · exact absurd rfl hne

/-! ### Calls -/
/-- Functions that a call enters. -/
def FOk (P : Program) (f : Nat) : Prop := ∀ (args : Array Value) (w : World), (callFunc f args).run P w = .ok (.enter f args) w
theorem callFunc_run {f : Nat} (h : FOk P f) (args : Array Value) (w : World) : (callFunc f args).run P w = .ok (.enter f args) w := h args w
def eCall (f : Nat) (gs : List (E → V)) (k : KC) (e : E) (s : St) : Option (V × St) := k.call f (evs gs e) s
theorem eCall_ok {f : Nat} {args : Array Operand} {ats : Array Nat} {gs : List (E → V)} (ho : o.op = .call { callee := .value (.func f), args := args, argTypes := ats }) (hf : FOk P f) (hg : opds gl args.toList = some gs) : OEs P o nt gl (eCall f gs) := by
  intro k hk G e a s w v s' hv he hs
  have hargs := opds_ok he hg
  refine Did.enter (f := f) (args := ⟨args.toList.map a.eval⟩) (w' := w) ?_ (hk f _ s v s' hv G w _ he.gl hargs hs)
  have h1 : args.map a.eval = ⟨args.toList.map a.eval⟩ := by cases args; simp
  simp [execOp, ho, resolve, Act.eval, Deferred.ofValue, invoke, h1, callFunc_run hf]
/-- A call of a function value. -/
def eCallV (fok : T Bool) (g : E → V) (gs : List (E → V)) (k : KC) (e : E) (s : St) : Option (V × St) := match g e with
  | .func f a b => (match fok.get f with | some true => k.call f (a ++ (evs gs e) ++ b) s | _ => none)
  | _ => none
theorem eCallV_ok {fok : T Bool} (hfok : ∀ f, fok.get f = some true → FOk P f) {x : Operand} {g : E → V} {args : Array Operand} {ats : Array Nat} {gs : List (E → V)} (ho : o.op = .call { callee := .value x, args := args, argTypes := ats }) (hx : opd gl x = some g) (hg : opds gl args.toList = some gs) : OEs P o nt gl (eCallV fok g gs) := by
  intro k hk G e a s w v s' hv he hs
  have hargs := opds_ok he hg
  have hxv := opd_ok hx he
  unfold eCallV at hv
  split at hv
  · rename_i f p q hge
    rw [hge] at hxv
    split at hv
    · rename_i hf
      generalize hax : a.eval x = x' at hxv
      cases hxv with
      | func _ _ _ p' q' hp hq =>
        refine Did.enter (f := f) (args := ⟨p' ++ args.toList.map a.eval ++ q'⟩) (w' := w) ?_ (hk f _ s v s' hv G w _ he.gl ((hp.append hargs).append hq) hs)
        have h1 : args.map a.eval = ⟨args.toList.map a.eval⟩ := by cases args; simp
        simp [execOp, ho, resolve, hax, Deferred.ofValue, invoke, h1, callFunc_run (hfok f hf)]
    · cases hv
  · cases hv
end

/-! ### Functions -/
structure FDen where
  us : List (E → V → E)
  body : Den
  res : E → St → Option V
def e16 : N16 V := ⟨.tup [], .tup [], .tup [], .tup [], .tup [], .tup [], .tup [], .tup [], .tup [], .tup [], .tup [], .tup [], .tup [], .tup [], .tup [], .tup []⟩
def e0 : E := ⟨e16, e16, e16, e16, e16, e16, e16, e16, e16, e16, e16, e16, e16, e16, e16, e16⟩
/-! ### A variable's value -/
def ldV (ag : Bool) (m : Nat) (v : V) (s : St) : Option V := Bool.casesOn (motive := fun _ => Option V) ag (dLd (fun _ => v) e0 s) (dLdN m (fun _ => v) e0 s)
theorem ldV_run {P : Program} {tt : TT} (H : TOk P tt) {G : Pl} {s : St} {w : World} (hr : R G s.heap.get w) {t m : Nat} {d : TypeDesc} (hd : tt.ud t = some d) (hz : tt.sz t = some m) {v u : V} {v' : Value} (h : ldV (aggB d) m v s = some u) (hv : VR G v v') :
    ∃ l b o', v = .ptr b o' ∧ v' = .pointer (some ⟨(l : Loc).blk, l.base + o', none⟩) ∧ ∃ u', (loadVar t ⟨l.blk, l.base + o', none⟩).run P w = .ok u' w ∧ VR G u u' := by
  unfold ldV at h
  cases hb : aggB d with
  | false =>
    rw [hb] at h
    simp only [dLd] at h
    split at h
    · rename_i b o'
      obtain ⟨l, rfl, hl⟩ := hv.ptr_inv
      refine ⟨l, b, o', rfl, rfl, ?_⟩
      split at h
      · rename_i n xs hbk
        rw [nblt_eq] at h
        by_cases hlt : o' < n
        · simp only [hlt, decide_true] at h
          obtain ⟨l2, c, el, fz, h1, h2, h4, h5, h6⟩ := rd_held hbk hr
          rw [hl] at h1; cases h1
          obtain ⟨v', c1, c2, c3⟩ := h6 o' u hlt h
          exact ⟨v', by simp [loadVar, isAgg_run H w hd, hb, World.cell?, h2, c1], c2⟩
        · simp only [hlt, decide_false] at h; cases h
      · cases h
    · cases h
  | true =>
    rw [hb] at h
    simp only [dLdN] at h
    split at h
    · rename_i b o'
      obtain ⟨l, rfl, hl⟩ := hv.ptr_inv
      refine ⟨l, b, o', rfl, rfl, ?_⟩
      split at h
      · rename_i n xs hbk
        rw [nble_eq] at h
        by_cases hlt : o' + m ≤ n
        · simp only [Nat.add_eq, hlt, decide_true] at h
          split at h
          · rename_i vs hvs
            cases h
            obtain ⟨vs', a1, a2, _⟩ := ldc_run (P := P) hr hbk hl hvs hlt
            exact ⟨.agg ⟨vs'⟩, by simp [loadVar, isAgg_run H w hd, hb, sz_run H w hz, a1 w rfl], .agg _ _ a2⟩
          · cases h
        · simp only [Nat.add_eq, hlt, decide_false] at h; cases h
      · cases h
    · cases h

def setAll : List (E → V → E) → List V → E → Option E
  | [], [], e => some e
  | u :: us, v :: vs, e => setAll us vs (u e v)
  | _, _, _ => none
def runF (F : FDen) (k : KC) (args : List V) (s : St) : Option (V × St) := match setAll F.us args e0 with
  | some e => (match F.body k e s with | .nrm e' s' => (match F.res e' s' with | some v => some (v, s') | none => none) | .ret e' s' => (match F.res e' s' with | some v => some (v, s') | none => none) | _ => none)
  | none => none
def kc (tbl : T FDen) (fuel n : Nat) : KC := Nat.rec (motive := fun _ => KC) ⟨fuel, fun _ _ _ => none⟩ (fun _ ih => ⟨fuel, fun f args s => match tbl.get f with | some F => runF F ih args s | none => none⟩) n
/-- What a result is. -/
def rT (g : E → V) (e : E) (_ : St) : Option V := some (g e)
def rC (ag : Bool) (n : Nat) (g : E → V) (e : E) (s : St) : Option V := ldV ag n (g e) s
def resG (tt : TT) : List ResultVar → Option (List (E → St → Option V))
  | [] => some []
  | .tmp t :: l => if t < 256 then (resG tt l).map (rT (Gt t) :: ·) else none
  | .cell a t :: l => if a < 256 then (match tt.ud t, tt.sz t with | some d, some n => (resG tt l).map (rC (aggB d) n (Gt a) :: ·) | _, _ => none) else none
def evR (l : List (E → St → Option V)) (e : E) (s : St) : Option (List V) := match l with
  | [] => some []
  | g :: l => match g e s with | some v => (match evR l e s with | some r => some (v :: r) | none => none) | none => none
def resV (gs : List (E → St → Option V)) (e : E) (s : St) : Option V := match gs with | [g] => g e s | gs => match evR gs e s with | some l => some (.tup l) | none => none
def usFrom : Nat → Nat → List (E → V → E) | _, 0 => [] | i, n + 1 => Ut i :: usFrom (i + 1) n

def FSnd (P : Program) (gl : List Nat) (f : Nat) (F : FDen) : Prop := ∃ tt fn c np gs, TOk P tt ∧ P.funcs[f]? = some fn ∧ fn.body = some c ∧ Snd P fn.ntmps gl c F.body ∧ F.us = usFrom 0 np ∧ np ≤ fn.ntmps ∧ np ≤ 256 ∧ resG tt fn.results.toList = some gs ∧ F.res = resV gs

theorem Gt_e0 (t : Nat) : Gt t e0 = .tup [] := by
  unfold Gt
  have h1 : ∀ i, N16.get i e0 = e16 := by
    intro i
    match i with
    | 0 | 1 | 2 | 3 | 4 | 5 | 6 | 7 | 8 | 9 | 10 | 11 | 12 | 13 | 14 | 15 | _ + 16 => rfl
  have h2 : ∀ i, N16.get i e16 = .tup [] := by
    intro i
    match i with
    | 0 | 1 | 2 | 3 | 4 | 5 | 6 | 7 | 8 | 9 | 10 | 11 | 12 | 13 | 14 | 15 | _ + 16 => rfl
  rw [h1, h2]

theorem setAll_ok {nt : Nat} {gl : List Nat} {G : Pl} (hgl : GOk gl G) : ∀ {np i : Nat} {args : List V} {args' : List Value} {pre : List Value} {e e' : E}, setAll (usFrom i np) args e = some e' → VRs G args args' → pre.length = i → i + np ≤ 256 → pre.length + args'.length ≤ nt →
    (∀ t, t < 256 → VR G (Gt t e) ((pre ++ List.replicate (nt - pre.length) undef).getD t undef)) → (∀ t, t < 256 → VR G (Gt t e') ((pre ++ args' ++ List.replicate (nt - (pre.length + args'.length)) undef).getD t undef))
  | 0, i, args, args', pre, e, e', h, hv, hp, hn, hl, he => by
    cases hv with
    | nil => cases h; simpa using he
    | cons => cases h
  | np + 1, i, args, args', pre, e, e', h, hv, hp, hn, hl, he => by
    cases hv with
    | nil => cases h
    | cons x x' l l' hx hv =>
      simp only [usFrom, setAll] at h
      have hl' : pre.length + (l'.length + 1) ≤ nt := by simpa using hl
      have := setAll_ok (nt := nt) hgl (pre := pre ++ [x']) h hv (by simp [hp]) (by omega) (by simp; omega) (fun t ht => by
        rw [Gt_Ut t i ht (by omega)]
        by_cases hti : t = i
        · subst hti
          rw [if_pos rfl]
          have : (pre ++ [x'] ++ List.replicate (nt - (pre ++ [x']).length) undef).getD t undef = x' := by
            rw [List.getD_eq_getElem?_getD, List.append_assoc, List.getElem?_append_right (by omega)]; simp [hp]
          rw [this]; exact hx
        · rw [if_neg hti]
          have : (pre ++ [x'] ++ List.replicate (nt - (pre ++ [x']).length) undef).getD t undef = (pre ++ List.replicate (nt - pre.length) undef).getD t undef := by
            rw [List.getD_eq_getElem?_getD, List.getD_eq_getElem?_getD]
            by_cases hlt : t < pre.length
            · rw [List.append_assoc, List.getElem?_append_left hlt, List.getElem?_append_left hlt]
            · rw [List.getElem?_append_right (by simp; omega), List.getElem?_append_right (by omega)]
              simp only [List.getElem?_replicate, List.length_append, List.length_cons, List.length_nil]
              split <;> split <;> rfl
          rw [this]; exact he t ht)
      simpa [List.append_assoc, Nat.add_assoc, Nat.add_comm 1] using this

theorem asAddr_ptr (a : Addr) : asAddr (.pointer (some a)) = pure a := rfl
theorem res_run {P : Program} {tt : TT} (H : TOk P tt) {G : Pl} {e : E} {s : St} {tmps : Array Value} (he : ∀ t, t < 256 → VR G (Gt t e) (tmps.getD t undef)) {w : World} (hr : R G s.heap.get w) : ∀ {l : List ResultVar} {gs : List (E → St → Option V)} {us : List V}, resG tt l = some gs → evR gs e s = some us → ∃ vs, (l.mapM (m := Sem) fun | .tmp t => pure (tmps.getD t undef) | .cell a t => do loadVar t (← asAddr (tmps.getD a undef))).run P w = .ok vs w ∧ VRs G us vs
  | [], gs, us, h, hu => by cases h; cases hu; exact ⟨[], by simp, .nil⟩
  | .tmp t :: l, gs, us, h, hu => by
    simp only [resG] at h
    split at h
    · rename_i ht
      cases hq : resG tt l with
      | none => rw [hq] at h; cases h
      | some gs' =>
        rw [hq] at h; cases h
        simp only [evR, rT] at hu
        split at hu
        · rename_i r hr'
          cases hu
          obtain ⟨vs, h1, h2⟩ := res_run H he hr hq hr'
          exact ⟨tmps.getD t undef :: vs, by simp only [List.mapM_cons, Sem.run_bind, Sem.run_pure, Result.andThen_ok, h1], .cons _ _ _ _ (he t ht) h2⟩
        · cases hu
    · cases h
  | .cell a t :: l, gs, us, h, hu => by
    simp only [resG] at h
    split at h
    · rename_i ha
      split at h
      · rename_i d n hd hz
        cases hq : resG tt l with
        | none => rw [hq] at h; cases h
        | some gs' =>
          rw [hq] at h; cases h
          simp only [evR, rC] at hu
          split at hu
          · rename_i v hv
            split at hu
            · rename_i r hr'
              cases hu
              obtain ⟨vs, h1, h2⟩ := res_run H he hr hq hr'
              obtain ⟨lo, b, o', e1, e2, u', hl, hvr⟩ := ldV_run H hr hd hz hv (he a ha)
              exact ⟨u' :: vs, by simp only [List.mapM_cons, Sem.run_bind, Sem.run_pure, Result.andThen_ok, h1, e2, asAddr_ptr, hl], .cons _ _ _ _ hvr h2⟩
            · cases hu
          · cases hu
      · cases h
    · cases h
theorem evR_len {e : E} {s : St} : ∀ {l : List (E → St → Option V)} {r : List V}, evR l e s = some r → r.length = l.length
  | [], r, h => by cases h; rfl
  | g :: l, r, h => by
    simp only [evR] at h
    split at h
    · split at h
      · rename_i r' hr; cases h; simp [evR_len hr]
      · cases h
    · cases h
theorem resV_run {P : Program} {tt : TT} (H : TOk P tt) {G : Pl} {e : E} {s : St} {fn : Func} {tmps : Array Value} (he : ∀ t, t < 256 → VR G (Gt t e) (tmps.getD t undef)) {w : World} (hr : R G s.heap.get w) {gs : List (E → St → Option V)} (h : resG tt fn.results.toList = some gs) {u : V} (hu : resV gs e s = some u) : ∃ v, (results fn tmps).run P w = .ok v w ∧ VR G u v := by
  have key : ∃ us, evR gs e s = some us ∧ (match us with | [x] => u = x | us => u = .tup us) := by
    unfold resV at hu
    split at hu
    · rename_i g; exact ⟨[u], by simp [evR, hu], rfl⟩
    · rename_i hne
      split at hu
      · rename_i l hl
        cases hu
        refine ⟨l, hl, ?_⟩
        have := evR_len hl
        split
        · rename_i x
          exfalso
          match gs, this with
          | [g], _ => exact hne g rfl
        · rfl
      · cases hu
  obtain ⟨us, hus, hform⟩ := key
  obtain ⟨vs, h1, h2⟩ := res_run H he hr h hus
  have h3 : (fn.results.mapM (m := Sem) fun | .tmp t => pure (tmps.getD t undef) | .cell a t => do loadVar t (← asAddr (tmps.getD a undef))).run P w = .ok vs.toArray w := by
    simp only [Array.mapM_eq_mapM_toList, Sem.run_map, h1, Result.andThen_ok]
  have h4 : (results fn tmps).run P w = .ok (if h : vs.toArray.size = 1 then vs.toArray[0] else .tuple vs.toArray) w := by
    unfold results
    rw [Sem.run_bind]
    erw [h3]
    rfl
  rw [h4]
  match us, vs, h2, hform with
  | [], [], _, hform => cases hform; exact ⟨_, rfl, .tup _ _ .nil⟩
  | [x], [v], .cons _ _ _ _ hv _, hform => cases hform; exact ⟨v, rfl, hv⟩
  | x1 :: x2 :: us, v1 :: v2 :: vs, h2, hform => cases hform; exact ⟨.tuple (v1 :: v2 :: vs).toArray, by simp, .tup _ _ h2⟩

theorem runF_ok {P : Program} {gl : List Nat} {f : Nat} {F : FDen} (hF : FSnd P gl f F) {k : KC} (hk : KOk P gl k) {args : List V} {s s' : St} {v : V} (h : runF F k args s = some (v, s')) {G : Pl} {w : World} {args' : List Value} (hgl : GOk gl G) (hargs : VRs G args args') (hs : SR G s w) :
    Calls P f ⟨args'⟩ w (fun e w' => match e with | .returned v' => Post G s w v s' v' w' | _ => False) := by
  obtain ⟨tt, fn, c, np, gs, H, hf, hb, hsnd, hus, hnp, hnp2, hres, hFres⟩ := hF
  unfold runF at h
  split at h
  · rename_i e he
    rw [hus] at he
    have hlen : args.length = np := by
      have : ∀ (np i : Nat) (args : List V) (e e' : E), setAll (usFrom i np) args e = some e' → args.length = np := by
        intro np
        induction np with
        | zero => intro i args e e' h; cases args with | nil => rfl | cons => cases h
        | succ np ih => intro i args e e' h; cases args with | nil => cases h | cons x l => simp only [usFrom, setAll] at h; simp [ih _ _ _ _ h]
      exact this _ _ _ _ _ he
    have hlen2 := hargs.length
    have hE : EnvR fn.ntmps gl G e { tmps := (⟨args'⟩ : Array Value) ++ Array.replicate (fn.ntmps - (⟨args'⟩ : Array Value).size) undef, defers := [] } := by
      refine ⟨fun t ht => ?_, by simp; omega, rfl, hgl⟩
      have := setAll_ok (nt := fn.ntmps) (pre := []) hgl he hargs rfl (by omega) (by simp; omega) (fun t ht => by
        rw [Gt_e0 t]
        have : ([] ++ List.replicate (fn.ntmps - ([] : List Value).length) undef).getD t undef = undef := by
          rw [List.getD_eq_getElem?_getD]; simp only [List.nil_append, List.getElem?_replicate]; split <;> rfl
        rw [this]; exact .tup _ _ .nil) t ht
      simpa [Array.getD_eq_getD_getElem?, List.getD_eq_getElem?_getD, Array.getElem?_append, List.getElem?_append, List.getElem?_replicate, Array.getElem?_replicate] using this
    refine calls_of_wp hf hb (wp_mono (hsnd k hk G e _ s w (fun hbad => by rw [hbad] at h; cases h) hE hs) ?_)
    intro x a' w' hx
    cases hr : F.body k e s with
    | nrm e' s2 =>
      rw [hr] at h hx
      simp only at h
      split at h
      · rename_i u hu
        cases h
        obtain ⟨rfl, G', h2, h3, h4⟩ := hx
        rw [hFres] at hu
        obtain ⟨v', q1, q2⟩ := resV_run H h2.tm h3.r hres hu
        exact ⟨h2.df, v', q1, ⟨G', h4, h3, q2⟩⟩
      · cases h
    | exit id e' s2 => rw [hr] at h; cases h
    | ret e' s2 =>
      rw [hr] at h hx
      simp only at h
      split at h
      · rename_i u hu
        cases h
        obtain ⟨rfl, G', h2, h3, h4⟩ := hx
        rw [hFres] at hu
        obtain ⟨v', q1, q2⟩ := resV_run H h2.tm h3.r hres hu
        exact ⟨h2.df, v', q1, ⟨G', h4, h3, q2⟩⟩
      · cases h
    | bad => rw [hr] at h; cases h
  · cases h

theorem kc_ok {P : Program} {gl : List Nat} {tbl : T FDen} (ht : ∀ f F, tbl.get f = some F → FSnd P gl f F) (fuel : Nat) : ∀ n, KOk P gl (kc tbl fuel n)
  | 0 => fun f args s v s' h => by cases h
  | n + 1 => fun f args s v s' h G w args' hgl hargs hs => by
    have h : (match tbl.get f with | some F => runF F (kc tbl fuel n) args s | none => none) = some (v, s') := h
    split at h
    · rename_i F hF
      exact runF_ok (ht f F hF) (kc_ok ht fuel n) h hgl hargs hs
    · cases h
end
end Go.Proofs.YtjipdnfaokdkbaaLab
