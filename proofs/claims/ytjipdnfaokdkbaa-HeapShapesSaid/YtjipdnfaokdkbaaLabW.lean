/- The lab: structs of plain fields held against one another; maps that have such keys; slices of an array's address. No condition on the program. -/
import Derived.Test.YtjipdnfaokdkbaaLabS
import Derived.Laws.StructEq
namespace Go.Proofs.YtjipdnfaokdkbaaLab
open Go
set_option linter.unusedVariables false
noncomputable section

inductive CK where
  | i
  | s
  | b
def eqC : CK → V → V → Option Bool
  | .i => eqKI
  | .s => eqKS
  | .b => eqKB
def eqCs (ks : List CK) (xs ys : List V) : Option Bool := match ks with
  | [] => (match xs, ys with | [], [] => some true | _, _ => none)
  | k :: ks => (match xs, ys with
    | x :: xs, y :: ys => (match eqC k x y with | some r => (match eqCs ks xs ys with | some t => some (and r t) | none => none) | none => none)
    | _, _ => none)
def eqS (ks : List CK) (x y : V) : Option Bool := match x, y with | .agg a, .agg b => eqCs ks a b | _, _ => none
/-- The kinds of a struct's fields, one cell each. -/
def ckL (tt : TT) : Nat → List Field → Option (List CK)
  | _, [] => some []
  | i, f :: fs => if (f.name != "_") && Nat.beq f.offset i then (match tt.ud f.type, ckL tt (i + 1) fs with
    | some (.int _), some r => some (.i :: r)
    | some .string, some r => some (.s :: r)
    | some .bool, some r => some (.b :: r)
    | _, _ => none) else none
def dOf : CK → TypeDesc → Prop
  | .i, d => ∃ k, d = .int k
  | .s, d => d = .string
  | .b, d => d = .bool
theorem ckL_cons {tt : TT} {i : Nat} {f : Field} {fs : List Field} {ks : List CK} (h : ckL tt i (f :: fs) = some ks) : ∃ k r d, ks = k :: r ∧ f.name ≠ "_" ∧ f.offset = i ∧ tt.ud f.type = some d ∧ dOf k d ∧ ckL tt (i + 1) fs = some r := by
  unfold ckL at h
  split at h
  · rename_i hc
    rw [Bool.and_eq_true] at hc
    have h1 : f.name ≠ "_" := by simpa using hc.1
    have h2 := Nat.eq_of_beq_eq_true hc.2
    split at h <;> cases h
    · rename_i k r h3 h4; exact ⟨_, _, _, rfl, h1, h2, h3, ⟨_, rfl⟩, h4⟩
    · rename_i r h3 h4; exact ⟨_, _, _, rfl, h1, h2, h3, rfl, h4⟩
    · rename_i r h3 h4; exact ⟨_, _, _, rfl, h1, h2, h3, rfl, h4⟩
  · cases h
section
variable {P : Program} {tt : TT} (H : TOk P tt) {nt : Nat} {gl : List Nat} {o : Oper} {x y z : Operand} {g h i : E → V}
include H in
theorem eqC_run {k : CK} {d : TypeDesc} {t : Nat} (hd : tt.ud t = some d) (hk : dOf k d) {G : Pl} {u v : V} {u' v' : Value} {r : Bool} (h : eqC k u v = some r) (hu : VR G u u') (hv : VR G v v') (w : World) (n m : Nat) :
    (Op.equalIn (n + 1) t u' v').run P w = .ok r w ∧ (r = true → Instr.sameBits m u' v' = true ∧ u' = v') := by
  have hP : P.underlying t = some d := by
    unfold TT.ud at hd
    cases hx : T.get tt t with
    | none => rw [hx] at hd; cases hd
    | some x => rw [hx] at hd; cases hd; exact (H t x hx).1
  cases k with
  | i =>
    obtain ⟨kk, rfl⟩ := hk
    simp only [eqC, eqKI] at h
    cases h1 : asI u with
    | none => rw [h1] at h; cases h
    | some p =>
      obtain ⟨k1, a⟩ := p
      cases h2 : asI v with
      | none => rw [h1, h2] at h; cases h
      | some q =>
        obtain ⟨k2, b⟩ := q
        rw [h1, h2] at h
        simp only at h
        cases e1 : Nat.beq (kn k1) (kn k2) with
        | false => rw [e1] at h; cases h
        | true =>
          rw [e1] at h
          have := kn_inj (Nat.eq_of_beq_eq_true e1)
          subst this
          cases asI_ok h1 hu; cases asI_ok h2 hv
          cases h
          rw [eqI_eq]
          refine ⟨(run_equalIn_int w n t k1 kk a b hP).trans (by congr 1), fun hb => ?_⟩
          have : a = b := by simpa using hb
          subst this
          exact ⟨by cases m <;> simp [Instr.sameBits], rfl⟩
  | s =>
    cases hk
    simp only [eqC, eqKS] at h
    split at h
    · cases h
      obtain ⟨a, rfl, rfl⟩ := hu.str_inv
      obtain ⟨b, rfl, rfl⟩ := hv.str_inv
      rw [eqL_str]
      refine ⟨run_equalIn_string w n t a b hP, fun hb => ?_⟩
      have : a = b := by
        rw [ByteArray.toList_eq, ByteArray.toList_eq] at hb
        have := eq_of_beq hb
        cases a; cases b; simp only at this; congr 1; exact Array.toList_inj.1 this
      subst this
      exact ⟨by cases m <;> (simp only [Instr.sameBits]; rw [beq_toListBytes]; exact hb), rfl⟩
    · cases h
  | b =>
    cases hk
    simp only [eqC, eqKB] at h
    split at h
    · cases h; cases hu; cases hv
      refine ⟨run_equalIn_bool' w n t _ _ hP, fun hb => ?_⟩
      have := eq_of_beq hb
      subst this
      exact ⟨by cases m <;> simp [Instr.sameBits], rfl⟩
    · cases h

include H in
theorem eqCs_run (w : World) (n m : Nat) {G : Pl} {X Y : List Value} : ∀ {fs : List Field} {i : Nat} {ks : List CK} {xs ys : List V} {r : Bool}, ckL tt i fs = some ks → eqCs ks xs ys = some r → VRs G xs (X.drop i) → VRs G ys (Y.drop i) →
    (Op.eqFields (n + 1) ⟨X⟩ ⟨Y⟩ fs).run P w = .ok r w ∧ (X.drop i).length = (Y.drop i).length ∧ (r = true → ((X.drop i).zip (Y.drop i)).all (fun (x, y) => Instr.sameBits m x y) = true ∧ X.drop i = Y.drop i)
  | [], i, ks, xs, ys, r, h, he, hx, hy => by
    cases h
    unfold eqCs at he
    split at he
    · cases he
      generalize X.drop i = X0 at hx
      generalize Y.drop i = Y0 at hy
      cases hx; cases hy
      exact ⟨by simp [Op.eqFields], rfl, fun _ => ⟨rfl, rfl⟩⟩
    · cases he
  | f :: fs, i, ks, xs, ys, r, h, he, hx, hy => by
    obtain ⟨k, rk, d, rfl, h1, h2, h3, h4, h5⟩ := ckL_cons h
    unfold eqCs at he
    split at he
    · rename_i x xs y ys
      split at he
      · rename_i a ha
        split at he
        · rename_i t ht
          cases he
          generalize hX : X.drop i = X0 at hx
          generalize hY : Y.drop i = Y0 at hy
          cases hx with
          | cons _ x' _ X1 hxx hx1 =>
            cases hy with
            | cons _ y' _ Y1 hyy hy1 =>
              have gX : X[i]? = some x' := by rw [← List.head?_drop, hX]; rfl
              have gY : Y[i]? = some y' := by rw [← List.head?_drop, hY]; rfl
              have dX : X.drop (i + 1) = X1 := by rw [← List.drop_drop, hX]; rfl
              have dY : Y.drop (i + 1) = Y1 := by rw [← List.drop_drop, hY]; rfl
              obtain ⟨q1, q2⟩ := eqC_run H h3 h4 ha hxx hyy w n m
              obtain ⟨p1, p2, p3⟩ := eqCs_run w n m h5 ht (dX ▸ hx1) (dY ▸ hy1)
              rw [dX, dY] at p2 p3
              have hagg : aggB d = false := by cases k <;> simp only [dOf] at h4 <;> first | (obtain ⟨_, rfl⟩ := h4; rfl) | (subst h4; rfl)
              have pX : (part f.type ⟨X⟩ f.offset).run P w = .ok x' w := by simp [part, isAgg_run H w h3, hagg, h2, gX]
              have pY : (part f.type ⟨Y⟩ f.offset).run P w = .ok y' w := by simp [part, isAgg_run H w h3, hagg, h2, gY]
              refine ⟨?_, by simp [p2], ?_⟩
              · rw [Op.eqFields, if_pos h1]
                simp only [Sem.run_bind, pX, pY, q1, Result.andThen_ok]
                cases a
                · simp
                · simpa using p1
              · intro hr
                rw [Bool.and_eq_true] at hr
                refine ⟨by simp only [List.zip_cons_cons, List.all_cons, (q2 hr.1).1, (p3 hr.2).1, Bool.and_self], ?_⟩
                rw [(q2 hr.1).2, (p3 hr.2).2]
        · cases he
      · cases he
    · cases he
/-- What is known of a struct's type that is held against another. -/
structure SOk (P : Program) (tt : TT) (t : Nat) (ks : List CK) : Prop where
  ex : ∃ fs, tt.ud t = some (.struct fs) ∧ ckL tt 0 fs.toList = some ks
  so : P.stoodInHeld t = false
  eg : P.eqGuardType P.depth t = false
include H in
theorem eqS_run {t : Nat} {ks : List CK} (hs : SOk P tt t ks) {G : Pl} {u v : V} {u' v' : Value} {r : Bool} (h : eqS ks u v = some r) (hu : VR G u u') (hv : VR G v v') (w : World) :
    (∃ a b, u' = .agg a ∧ v' = .agg b) ∧ (Op.equalIn 10000 t u' v').run P w = .ok r w ∧ (r = true → Instr.sameBits 10000 u' v' = true ∧ u' = v') := by
  obtain ⟨⟨fs, h1, h2⟩, h3, h4⟩ := hs
  have hP : P.underlying t = some (.struct fs) := by
    unfold TT.ud at h1
    cases hx : T.get tt t with
    | none => rw [hx] at h1; cases h1
    | some x =>
      rw [hx, Option.map_some, Option.some.injEq] at h1
      rw [← h1]; exact (H t x hx).1
  have hf : P.fieldsOf t = fs := by simp [Program.fieldsOf, hP]
  unfold eqS at h
  split at h
  · cases hu with
    | agg _ X hX =>
      cases hv with
      | agg _ Y hY =>
        obtain ⟨q1, q2, q3⟩ := eqCs_run H w 9998 9999 (X := X) (Y := Y) (i := 0) h2 h (by simpa using hX) (by simpa using hY)
        refine ⟨⟨_, _, rfl, rfl⟩, ?_, fun hr => ?_⟩
        · show (Op.equalIn (9999 + 1) t (.agg ⟨X⟩) (.agg ⟨Y⟩)).run P w = _
          rw [run_equalIn_struct w 9999 t ⟨X⟩ ⟨Y⟩ (by rw [hf]; exact hP) h3, hf]
          exact q1
        · show Instr.sameBits (9999 + 1) (.agg ⟨X⟩) (.agg ⟨Y⟩) = true ∧ _
          obtain ⟨t1, t2⟩ := q3 hr
          simp only [List.drop_zero] at t1 t2 q2
          refine ⟨?_, by rw [t2]⟩
          simp only [Instr.sameBits]
          simp [q2, t1]
  · cases h
def bStr (ng : Bool) (ks : List CK) (x y : V) : Option V := match eqS ks x y with | some r => some (.bool (xor ng r)) | none => none
include H in
theorem bStr_ok {t yt : Nat} {ks : List CK} {ng : Bool} (ho : o.op = .binOp (if ng then .neq else .eql) t x y yt) (hs : SOk P tt t ks) (hg : opd gl x = some g) (hh : opd gl y = some h) : OPs P o nt gl (pBin (bStr ng ks) g h) := by
  intro G e a w v hv he
  have hx := opd_ok hg he
  have hy := opd_ok hh he
  unfold pBin bStr at hv
  split at hv
  · rename_i r hr
    cases hv
    obtain ⟨⟨A, B, e1, e2⟩, q1, _⟩ := eqS_run H hs hr hx hy w
    rw [e1, e2] at q1
    refine ⟨.bool (xor ng r), ?_, .bool _⟩
    cases ng
    · simp only [Bool.false_eq_true, if_false] at ho
      simp only [execOp, ho, e1, e2, Sem.run_bind, run_eqGuard_agg w .eql t x y A B hs.eg, Result.andThen_ok, run_eql_struct, q1, Sem.run_pure, Bool.false_xor]
    · simp only [if_true] at ho
      simp only [execOp, ho, e1, e2, Sem.run_bind, run_eqGuard_agg w .neq t x y A B hs.eg, Result.andThen_ok, run_neq_struct, q1, Sem.run_pure, Bool.true_xor]
  · cases hv

/-! ### Maps that have such keys -/
include H in
theorem chkF_run (w : World) (bb : Bool) {G : Pl} {X : List Value} : ∀ {fs : List Field} {i : Nat} {ks : List CK} {xs ys : List V} {r : Bool}, ckL tt i fs = some ks → eqCs ks xs ys = some r → VRs G xs (X.drop i) →
    (forIn (m := Sem) fs PUnit.unit fun f _ => (if f.name ≠ "_" then do let a ← part f.type ⟨X⟩ f.offset; Instr.checkKey bb 9999 f.type a; pure (ForInStep.yield PUnit.unit) else pure (ForInStep.yield PUnit.unit))).run P w = .ok PUnit.unit w
  | [], i, ks, xs, ys, r, h, he, hx => by simp
  | f :: fs, i, ks, xs, ys, r, h, he, hx => by
    obtain ⟨k, rk, d, rfl, h1, h2, h3, h4, h5⟩ := ckL_cons h
    unfold eqCs at he
    split at he
    · rename_i x xs y ys
      split at he
      · rename_i a ha
        split at he
        · rename_i t ht
          cases he
          generalize hX : X.drop i = X0 at hx
          cases hx with
          | cons _ x' _ X1 hxx hx1 =>
            have gX : X[i]? = some x' := by rw [← List.head?_drop, hX]; rfl
            have dX : X.drop (i + 1) = X1 := by rw [← List.drop_drop, hX]; rfl
            have ih := chkF_run w bb h5 ht (dX ▸ hx1)
            have hagg : aggB d = false := by cases k <;> simp only [dOf] at h4 <;> first | (obtain ⟨_, rfl⟩ := h4; rfl) | (subst h4; rfl)
            have pX : (part f.type ⟨X⟩ f.offset).run P w = .ok x' w := by simp [part, isAgg_run H w h3, hagg, h2, gX]
            have hc : (Instr.checkKey bb 9999 f.type x').run P w = .ok () w := by
              show (Instr.checkKey bb (9998 + 1) f.type x').run P w = _
              rw [Instr.checkKey]
              cases k <;> simp only [dOf] at h4 <;> first | (obtain ⟨_, rfl⟩ := h4; simp [ud_run H w h3]) | (subst h4; simp [ud_run H w h3])
            simp only [List.forIn_cons, Sem.run_bind, if_pos h1, pX, hc, Result.andThen_ok, Sem.run_pure]
            exact ih
        · cases he
      · cases he
    · cases he
include H in
theorem checkS_run (w : World) {kt : Nat} {ks : List CK} (hs : SOk P tt kt ks) {G : Pl} {u : V} {u' : Value} {r : Bool} (h : eqS ks u u = some r) (hu : VR G u u') (bb : Bool) : (Instr.checkKey bb 10000 kt u').run P w = .ok () w := by
  obtain ⟨⟨fs, h1, h2⟩, h3, h4⟩ := hs
  unfold eqS at h
  split at h
  · cases hu with
    | agg _ X hX =>
      show (Instr.checkKey bb (9999 + 1) kt (.agg ⟨X⟩)).run P w = _
      rw [Instr.checkKey]
      simp only [Sem.run_bind, ud_run H w h1, Result.andThen_ok]
      have := chkF_run H w bb (X := X) (i := 0) h2 h (by simpa using hX)
      rw [← Array.forIn_toList]
      exact congrArg (fun r => Result.andThen r fun a w' => Sem.run P (pure ()) w') this
  · cases h
include H in
theorem findAsk_run (w : World) {kt : Nat} {ks : List CK} (hs : SOk P tt kt ks) {G : Pl} {k : V} {k' : Value} (hk : VR G k k') : ∀ {es : List (V × V)} {en : List MapEntry} {i : Nat} {r : Option (Nat × V)}, findV (eqS ks) k es i = some r → VRs G (es.map (·.1)) (en.map (·.key)) → VRs G (es.map (·.2)) (en.map (·.val)) →
    (r = none ∧ (Instr.findAsking kt k' en i).run P w = .ok none w) ∨ ∃ j v v' e, r = some (j, v) ∧ (Instr.findAsking kt k' en i).run P w = .ok (some (j, v')) w ∧ VR G v v' ∧ i ≤ j ∧ en[j - i]? = some e ∧ v' = e.val ∧ Instr.sameBits 10000 e.key k' = true
  | [], en, i, r, h, h1, _ => by
    cases en with
    | nil => cases h; exact .inl ⟨rfl, by simp [Instr.findAsking]⟩
    | cons _ _ => cases h1
  | (x, v) :: es, en, i, r, h, h1, h2 => by
    cases en with
    | nil => cases h1
    | cons e en =>
      simp only [List.map_cons] at h1 h2
      cases h1 with
      | cons _ _ _ _ hx h1 =>
        cases h2 with
        | cons _ _ _ _ hv h2 =>
          unfold findV at h
          split at h
          · rename_i b hb
            obtain ⟨_, s1, s2⟩ := eqS_run H hs hb hk hx w
            have s1' : (Op.equal kt k' e.key).run P w = .ok b w := s1
            cases b with
            | true =>
              cases h
              have hsb : Instr.sameBits 10000 e.key k' = true := by
                obtain ⟨t1, t2⟩ := s2 rfl
                rw [← t2] at t1 ⊢; exact t1
              exact .inr ⟨i, v, e.val, e, rfl, by simp [Instr.findAsking, s1'], hv, Nat.le_refl _, by simp, rfl, hsb⟩
            | false =>
              simp only at h
              rcases findAsk_run w hs hk h h1 h2 with ⟨rfl, a1⟩ | ⟨j, w', w'', e', rfl, a1, a2, a3, a4, a5, a6⟩
              · exact .inl ⟨rfl, by simp only [Instr.findAsking, Sem.run_bind, s1', Result.andThen_ok, Bool.false_eq_true, if_false]; exact a1⟩
              · refine .inr ⟨j, w', w'', e', rfl, by simp only [Instr.findAsking, Sem.run_bind, s1', Result.andThen_ok, Bool.false_eq_true, if_false]; exact a1, a2, by omega, ?_, a5, a6⟩
                have : j - i = (j - (i + 1)) + 1 := by omega
                rw [this]; simpa using a4
          · cases h

theorem findNow_struct {fs : Array Field} {k' : Value} : ∀ {en : List MapEntry}, en ≠ [] → (∃ a, k' = .agg a) → Instr.findNow (.struct fs) k' en 0 = none
  | [], h, _ => absurd rfl h
  | e :: en, _, ⟨a, h⟩ => by subst h; simp [Instr.findNow, Instr.sameNow]
include H in
theorem findKS_run (w : World) {kt : Nat} {ks : List CK} (hs : SOk P tt kt ks) {G : Pl} {k : V} {k' : Value} (hk : VR G k k') {r0 : Bool} (hself : eqS ks k k = some r0) {es : List (V × V)} {en : List MapEntry} {r : Option (Nat × V)} (h : findV (eqS ks) k es 0 = some r) (h1 : VRs G (es.map (·.1)) (en.map (·.key))) (h2 : VRs G (es.map (·.2)) (en.map (·.val))) :
    (r = none ∧ (Instr.findKey kt k' en).run P w = .ok none w) ∨ ∃ j v v' e, r = some (j, v) ∧ (Instr.findKey kt k' en).run P w = .ok (some (j, v')) w ∧ VR G v v' ∧ en[j]? = some e ∧ v' = e.val ∧ Instr.sameBits 10000 e.key k' = true := by
  obtain ⟨⟨a, _, ha, _⟩, _, _⟩ := eqS_run H hs hself hk hk w
  obtain ⟨fs, hu, _⟩ := hs.ex
  by_cases hen : en = []
  · subst hen
    rcases findAsk_run H w hs hk h h1 h2 with ⟨rfl, _⟩ | ⟨j, v, v', e, _, _, _, _, a5, _⟩
    · exact .inl ⟨rfl, by simp [Instr.findKey, ud_run H w hu, Instr.findNow]⟩
    · simp at a5
  · have hn := findNow_struct (fs := fs) (k' := k') hen ⟨a, ha⟩
    have hfk : (Instr.findKey kt k' en).run P w = (Instr.findAsking kt k' en 0).run P w := by simp [Instr.findKey, ud_run H w hu, hn]
    rw [hfk]
    rcases findAsk_run H w hs hk h h1 h2 with ⟨rfl, a1⟩ | ⟨j, v, v', e, e1, a1, a2, a3, a4, a5, a6⟩
    · exact .inl ⟨rfl, a1⟩
    · exact .inr ⟨j, v, v', e, e1, a1, a2, by simpa using a4, a5, a6⟩
def dLkS (ks : List CK) (z : V) (ok : Bool) (g h : E → V) (e : E) (s : St) : Option V := match eqS ks (h e) (h e) with | some _ => dLk (eqS ks) z ok g h e s | none => none
include H in
theorem dLkS_ok {t kt el : Nat} {ok : Bool} {ti : TypeInfo} {zv : Value} {ks : List CK} {zz : V} (ho : o.op = .lookup t x y ok) (ht : tt.ud t = some (.map kt el)) (hs : SOk P tt kt ks) (hti : tt.ti el = some ti) (hz : ti.zero = some zv) (hzz : lowV 300 zv = some zz)
    (hg : opd gl x = some g) (hh : opd gl y = some h) : ODs P o nt gl (dLkS ks zz ok g h) := by
  intro G e a s w v hv he hr
  have hx := opd_ok hg he
  have hy := opd_ok hh he
  unfold dLkS at hv
  split at hv
  · rename_i r0 hself
    unfold dLk at hv
    have hzr := zero_run H w hti hz
    have hck := checkS_run H w hs hself hy
    have key : ∀ (es : List (V × V)) (en : List MapEntry), lkV (eqS ks) zz ok es (h e) = some v → VRs G (es.map (·.1)) (en.map (·.key)) → VRs G (es.map (·.2)) (en.map (·.val)) →
        (∃ j u'', (Instr.findKey kt (a.eval y) en).run P w = .ok (some (j, u'')) w ∧ VR G v (if ok then .tuple #[u'', .bool true] else u'')) ∨
        ((Instr.findKey kt (a.eval y) en).run P w = .ok none w ∧ VR G v (if ok then .tuple #[zv, .bool false] else zv)) := by
      intro es en hlk h1 h2
      unfold lkV at hlk
      split at hlk
      · rename_i j u hf
        rcases findKS_run H w hs hy hself hf h1 h2 with ⟨c, _⟩ | ⟨j', u', u'', e', c, a1, a2, _⟩
        · cases c
        · cases c
          cases hlk
          refine .inl ⟨j, u'', a1, ?_⟩
          cases ok
          · exact a2
          · exact .tup _ _ (.cons _ _ _ _ a2 (.cons _ _ _ _ (.bool _) .nil))
      · rename_i hf
        rcases findKS_run H w hs hy hself hf h1 h2 with ⟨_, a1⟩ | ⟨j', u', u'', e', c, _⟩
        · cases hlk
          refine .inr ⟨a1, ?_⟩
          cases ok
          · exact lowV_ok hzz G
          · exact .tup _ _ (.cons _ _ _ _ (lowV_ok hzz G) (.cons _ _ _ _ (.bool _) .nil))
        · cases c
      · cases hlk
    split at hv
    · rename_i es hes
      unfold mapOf at hes
      split at hes
      · rename_i hge
        cases hes
        rw [hge] at hx
        generalize hax : a.eval x = x' at hx
        cases hx
        rcases key [] [] hv .nil .nil with ⟨j, u'', b1, b2⟩ | ⟨b1, b2⟩
        · refine ⟨_, ?_, b2⟩
          simp [execOp, ho, hax, Instr.lookup, ud_run H w ht, hck, b1]
        · refine ⟨_, ?_, b2⟩
          simp [execOp, ho, hax, Instr.lookup, ud_run H w ht, hck, b1, hzr]
      · rename_i b hge
        rw [hge] at hx
        split at hes
        · rename_i es' bs cl hb
          cases hes
          obtain ⟨l, en, c1, c2, c3, c4, _⟩ := hr.ob b _ hb
          generalize hax : a.eval x = x' at hx
          cases hx with
          | map _ l' hl' =>
            rw [c1] at hl'; cases hl'
            rcases key _ en.toList hv c3 c4 with ⟨j, u'', b1, b2⟩ | ⟨b1, b2⟩
            · refine ⟨_, ?_, b2⟩
              simp [execOp, ho, hax, Instr.lookup, ud_run H w ht, hck, b1, getObj_run c2]
            · refine ⟨_, ?_, b2⟩
              simp [execOp, ho, hax, Instr.lookup, ud_run H w ht, hck, b1, hzr, getObj_run c2]
        · cases hes
      · cases hes
    · cases hv
  · cases hv
def eMuS (ks : List CK) (g h i : E → V) (k : KC) (e : E) (s : St) : Option (V × St) := match eqS ks (h e) (h e) with | some _ => eMu (eqS ks) g h i k e s | none => none
include H in
theorem eMuS_ok {t kt el : Nat} {ks : List CK} (ho : o.op = .mapUpdate t x y z ∨ o.op = .insert t x y z) (ht : tt.ud t = some (.map kt el)) (hs : SOk P tt kt ks)
    (hg : opd gl x = some g) (hh : opd gl y = some h) (hi : opd gl z = some i) : OEs P o nt gl (eMuS ks g h i) := by
  intro k _ G e a s w v s' hv he hS
  have hx := opd_ok hg he
  have hy := opd_ok hh he
  have hz := opd_ok hi he
  have hex : execOp a.eval o = (do Instr.mapUpdate t (a.eval x) (a.eval y) (a.eval z); pure .skip) := by
    rcases ho with ho | ho <;> simp [execOp, ho]
  unfold eMuS at hv
  split at hv
  · rename_i r0 hself
    have hck := checkS_run H w hs hself hy
    unfold eMu at hv
    split at hv
    · rename_i b hge
      rw [hge] at hx
      split at hv
      · rename_i es bs cl hb
        split at hv
        · rename_i ob hes
          cases hv
          obtain ⟨l, en, c1, c2, c3, c4, c5⟩ := hS.r.ob b _ hb
          generalize hax : a.eval x = x' at hx
          cases hx with
          | map _ l' hl' =>
            rw [c1] at hl'; cases hl'
            have fin : ∀ (es' : List (V × V)) (bs' : List Nat) (cl' : Nat) (en' : Array MapEntry), ob = .map es' bs' cl' → VRs G (es'.map (·.1)) (en'.toList.map (·.key)) → VRs G (es'.map (·.2)) (en'.toList.map (·.val)) → en'.toList.map (·.born) = bs' → (Instr.mapUpdate t (.map (some l.blk)) (a.eval y) (a.eval z)).run P w = .ok () { w with heap := w.heap.setIfInBounds l.blk (.map en' cl') } →
                Did P o a w (Post G s w (.tup []) (s.put b ob)) := by
              intro es' bs' cl' en' e0 e1 e2 e3 hrun
              subst e0
              obtain ⟨r1, r2⟩ := hS.turn (w' := { w with heap := w.heap.setIfInBounds l.blk (.map en' cl') }) (o' := .map es' bs' cl') hb rfl c1 (Touch.setObj c2 (fun _ _ _ h => nomatch h)) ⟨l, en', c1, by simp [(Array.getElem?_eq_some_iff.1 c2).1], e1, e2, e3⟩
              exact Did.skip (w' := _) (by rw [hex, hax]; simp only [Sem.run_bind, hrun, Result.andThen_ok, Sem.run_pure]) ⟨G, r2, r1, .tup _ _ .nil⟩
            unfold muV at hes
            split at hes
            · rename_i j u hf
              cases hes
              rcases findKS_run H w hs hy hself hf c3 c4 with ⟨c, _⟩ | ⟨j', u', u'', e', c, a1, a2, a4, _, a5⟩
              · cases c
              · cases c
                obtain ⟨e1, e2⟩ := setAt_ok (j := j) hy hz c3 c4
                refine fin _ _ _ (en.modify j fun e => { e with key := a.eval y, val := a.eval z }) rfl (by simpa using e1) (by simpa using e2) (by rw [Array.toList_modify, modify_born (fun e => { e with key := a.eval y, val := a.eval z }) (fun _ => rfl)]; exact c5) ?_
                have a4' : en[j]? = some e' := by simpa using a4
                simp [Instr.mapUpdate, ud_run H w ht, getObj_run c2, hck, a1, a4', Instr.keyThatStays, a5, setObj_run c2]
            · rename_i hf
              cases hes
              rcases findKS_run H w hs hy hself hf c3 c4 with ⟨_, a1⟩ | ⟨j', u', u'', e', c, _⟩
              · refine fin _ _ _ (en.push { key := a.eval y, val := a.eval z, born := cl }) rfl ?_ ?_ (by simp [c5]) ?_
                · simp only [Array.toList_push, List.map_append, List.map_cons, List.map_nil]
                  exact c3.append (.cons _ _ _ _ hy .nil)
                · simp only [Array.toList_push, List.map_append, List.map_cons, List.map_nil]
                  exact c4.append (.cons _ _ _ _ hz .nil)
                · simp [Instr.mapUpdate, ud_run H w ht, getObj_run c2, hck, a1, setObj_run c2]
              · cases c
            · cases hes
        · cases hv
      · cases hv
    · cases hv
  · cases hv

/-! ### A slice of an array's address -/
def dSlA (n es : Nat) (g : E → V) (lo hi : Option (E → V)) (e : E) (s : St) : Option V := match g e with
  | .ptr b o => (match blkOf s b with
    | some (m, _) => Bool.casesOn (motive := fun _ => Option V) (Nat.ble (Nat.add o (Nat.mul n es)) m) none (match bnds n n (evO lo e) (evO hi e) none with
      | some (l, h, _) => some (.slice b (Nat.add o (Nat.mul l es)) (Nat.sub h l) (some (Nat.sub n l)) es)
      | none => none)
    | none => none)
  | _ => none
include H in
theorem dSlA_ok {t n el es : Nat} {lo hi : Option Operand} {glo ghi : Option (E → V)} (ho : o.op = .slice t x lo hi none) (ht : tt.ud t = some (.array n el)) (hz : tt.sz el = some es)
    (hg : opd gl x = some g) (h1 : opdO gl lo = some glo) (h2 : opdO gl hi = some ghi) : ODs P o nt gl (dSlA n es g glo ghi) := by
  intro G e a s w v hv he hr
  have hx := opd_ok hg he
  have k1 := opdO_pair h1 he
  have k2 := opdO_pair h2 he
  unfold dSlA at hv
  split at hv
  · rename_i b o' hge
    rw [hge] at hx
    obtain ⟨l0, hx', hl⟩ := hx.ptr_inv
    split at hv
    · rename_i m xs hbk
      have hbk := blkOf_inv hbk
      rw [nble_eq] at hv
      by_cases hle : o' + n * es ≤ m
      · simp only [Nat.add_eq, Nat.mul_eq, hle, decide_true] at hv
        split at hv
        · rename_i l h' mm hb
          cases hv
          obtain ⟨cm, hrun, hc1, _⟩ := bnds_run (P := P) (w := w) (G := G) (sl := false) hb (Nat.le_refl n) k1 k2 (.inl ⟨rfl, rfl⟩) (.inl rfl)
          have hcm := hc1 rfl
          subst hcm
          obtain ⟨b1, b2, b3, b4, b5, b6⟩ := bnds_inv hb
          have hmm : mm = cm := by cases b1; rfl
          subst hmm
          obtain ⟨l2, c, el2, fz, q1, q2, q3, q4, q5, q6⟩ := hr.ob b _ hbk
          rw [hl] at q1; cases q1
          refine ⟨Value.slice (some (if mm = l then ⟨l0.blk, l0.base + o', none⟩ else (⟨l0.blk, l0.base + o', none⟩ : Addr).add (l * es))) (h' - l) (mm - l), ?_, ?_⟩
          · simp only [execOp, ho, hx', Instr.sliceAt, Sem.run_bind, ud_run H w ht, Result.andThen_ok, Instr.sureAddr, Sem.run_pure, Option.map_none, hrun, sz_run H w hz]
          · refine .slice _ _ _ _ _ _ l0 _ hl (by simp only [Nat.sub_eq]; omega) (fun k hk => by cases hk; rfl) ?_ ?_
            · by_cases hq : mm - l = 0
              · exact .inl hq
              · right
                rw [if_neg (by omega), add_at]
                simp only [Nat.add_assoc]
            · by_cases hq : mm - l = 0
              · exact .inl hq
              · right
                have h5 : (l + (mm - l)) * es = mm * es := by rw [show l + (mm - l) = mm by omega]
                rw [Nat.add_mul] at h5
                omega
        · cases hv
      · simp only [Nat.add_eq, Nat.mul_eq, hle, decide_false] at hv; cases hv
    · cases hv
  · cases hv

/-- The kinds of a struct's fields, where the struct may be held against another. -/
def ckT (tt : TT) (t : Nat) : Option (List CK) := if tt.so t then (match tt.ud t with | some (.struct fs) => ckL tt 0 fs.toList | _ => none) else none
include H in
theorem ckT_ok {t : Nat} {ks : List CK} (h : ckT tt t = some ks) : SOk P tt t ks := by
  unfold ckT at h
  split at h
  · rename_i hso
    split at h
    · rename_i fs hu
      unfold TT.so at hso
      cases hx : T.get tt t with
      | none => rw [hx] at hso; cases hso
      | some p =>
        rw [hx] at hso
        obtain ⟨_, _, q⟩ := H t p hx
        exact ⟨⟨fs, hu, h⟩, (q hso).1, (q hso).2⟩
    · cases h
  · cases h
end
end
end Go.Proofs.YtjipdnfaokdkbaaLab
