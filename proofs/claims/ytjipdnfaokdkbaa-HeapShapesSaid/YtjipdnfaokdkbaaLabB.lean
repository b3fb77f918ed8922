/- The lab: maps. No condition on the program. -/
import Derived.Test.YtjipdnfaokdkbaaLabA
namespace Go.Proofs.YtjipdnfaokdkbaaLab
open Go
set_option linter.unusedVariables false
noncomputable section

/-! ### Keys -/
def eqKI (x y : V) : Option Bool := match asI x, asI y with
  | some (k, a), some (k', b) => Bool.casesOn (motive := fun _ => Option Bool) (Nat.beq (kn k) (kn k')) none (some (eqI a b))
  | _, _ => none
def eqKS (x y : V) : Option Bool := match x, y with | .str a, .str b => some (eqL a b) | _, _ => none
def eqKB (x y : V) : Option Bool := match x, y with | .bool a, .bool b => some (a == b) | _, _ => none
def eqK : TypeDesc → Option (V → V → Option Bool) | .int _ => some eqKI | .string => some eqKS | .bool => some eqKB | _ => none
theorem eqK_ok {d : TypeDesc} {q : V → V → Option Bool} (hq : eqK d = some q) {G : Pl} {x y : V} {x' y' : Value} {b : Bool} (h : q x y = some b) (hx : VR G x x') (hy : VR G y y') : Instr.sameNow d x' y' = some b ∧ (b = true → Instr.sameBits 10000 y' x' = true) := by
  cases d <;> simp only [eqK, Option.some.injEq, reduceCtorEq] at hq <;> subst hq
  case int kk =>
    unfold eqKI at h
    cases h1 : asI x with
    | none => rw [h1] at h; cases h
    | some p =>
      obtain ⟨k1, m⟩ := p
      cases h2 : asI y with
      | none => rw [h1, h2] at h; cases h
      | some r =>
        obtain ⟨k2, n⟩ := r
        rw [h1, h2] at h
        simp only at h
        cases e1 : Nat.beq (kn k1) (kn k2) with
        | false => rw [e1] at h; cases h
        | true =>
          rw [e1] at h
          have := kn_inj (Nat.eq_of_beq_eq_true e1)
          subst this
          cases asI_ok h1 hx; cases asI_ok h2 hy
          cases h
          rw [eqI_eq]
          refine ⟨by simp [Instr.sameNow], fun hb => ?_⟩
          have : m = n := by simpa using hb
          subst this
          simp [Instr.sameBits]
  case string =>
    unfold eqKS at h
    split at h
    · cases h
      obtain ⟨s, rfl, rfl⟩ := hx.str_inv
      obtain ⟨t, rfl, rfl⟩ := hy.str_inv
      rw [eqL_str, ← beq_toListBytes]
      refine ⟨rfl, fun hb => ?_⟩
      have : s = t := by
        rw [beq_toListBytes, ByteArray.toList_eq, ByteArray.toList_eq] at hb
        have := eq_of_beq hb
        cases s; cases t; simp only at this; congr 1; exact Array.toList_inj.1 this
      subst this
      simp only [Instr.sameBits]; exact hb
    · cases h
  case bool =>
    unfold eqKB at h
    split at h
    · cases h; cases hx; cases hy
      refine ⟨rfl, fun hb => ?_⟩
      have := eq_of_beq hb
      subst this
      simp [Instr.sameBits]
    · cases h

/-- Where a key is, what it has. -/
def findV (q : V → V → Option Bool) (k : V) : List (V × V) → Nat → Option (Option (Nat × V))
  | [], _ => some none
  | (x, v) :: es, i => match q k x with
    | some b => Bool.casesOn (motive := fun _ => Option (Option (Nat × V))) b (findV q k es (Nat.succ i)) (some (some (i, v)))
    | none => none
theorem findV_ok {d : TypeDesc} {q : V → V → Option Bool} (hq : eqK d = some q) {G : Pl} {k : V} {k' : Value} (hk : VR G k k') : ∀ {es : List (V × V)} {en : List MapEntry} {i : Nat} {r : Option (Nat × V)}, findV q k es i = some r → VRs G (es.map (·.1)) (en.map (·.key)) → VRs G (es.map (·.2)) (en.map (·.val)) →
    (r = none ∧ Instr.findNow d k' en i = some none) ∨ ∃ j v v' e, r = some (j, v) ∧ Instr.findNow d k' en i = some (some (j, v')) ∧ VR G v v' ∧ i ≤ j ∧ en[j - i]? = some e ∧ Instr.sameBits 10000 e.key k' = true
  | [], en, i, r, h, h1, _ => by
    cases en with
    | nil => cases h; exact .inl ⟨rfl, rfl⟩
    | cons _ _ => cases h1
  | (x, v) :: es, en, i, r, h, h1, h2 => by
    cases en with
    | nil => cases h1
    | cons e en =>
      simp only [List.map_cons] at h1 h2
      cases h1 with
      | cons _ _ _ _ hx h1 =>
        cases h2 with
        | cons _ _ _ _ hv h2 =>
          unfold findV at h
          split at h
          · rename_i b hb
            obtain ⟨s1, s2⟩ := eqK_ok hq hb hk hx
            cases b with
            | true =>
              cases h
              exact .inr ⟨i, v, e.val, e, rfl, by simp [Instr.findNow, s1], hv, Nat.le_refl _, by simp, s2 rfl⟩
            | false =>
              simp only at h
              rcases findV_ok hq hk h h1 h2 with ⟨rfl, a1⟩ | ⟨j, w, w', e', rfl, a1, a2, a3, a4, a5⟩
              · exact .inl ⟨rfl, by simp only [Instr.findNow, s1]; exact a1⟩
              · refine .inr ⟨j, w, w', e', rfl, by simp only [Instr.findNow, s1]; exact a1, a2, by omega, ?_, a5⟩
                have : j - i = (j - (i + 1)) + 1 := by omega
                rw [this]; simpa using a4
          · cases h

def mapOf (s : St) : V → Option (List (V × V)) | .nilm => some [] | .map b => (match s.heap.get b with | some (.map es _ _) => some es | _ => none) | _ => none
/-- The pair at a place turned. -/
def setAt (k v : V) : List (V × V) → Nat → List (V × V)
  | [], _ => []
  | p :: es, n => Nat.rec (motive := fun _ => List (V × V)) ((k, v) :: es) (fun n _ => p :: setAt k v es n) n

theorem getObj_run {P : Program} {w : World} {r : Nat} {en : Array MapEntry} {cl : Nat} (h : w.heap[r]? = some (.map en cl)) : (getObj r).run P w = .ok (.map en cl) w := by simp [getObj, Sem.run, h]
theorem setObj_run {P : Program} {w : World} {r : Nat} {en : Array MapEntry} {cl : Nat} {o : Obj} (h : w.heap[r]? = some (.map en cl)) : (setObj r o).run P w = .ok () { w with heap := w.heap.setIfInBounds r o } := by simp [setObj, Sem.run, h]

section
variable {P : Program} {tt : TT} (H : TOk P tt) {nt : Nat} {gl : List Nat} {o : Oper} {x y z : Operand} {g h i : E → V}
include H in
theorem checkKey_run (w : World) {kt : Nat} {d : TypeDesc} {q : V → V → Option Bool} (hd : tt.ud kt = some d) (hq : eqK d = some q) (b : Bool) (v : Value) : (Instr.checkKey b 10000 kt v).run P w = .ok () w := by
  show (Instr.checkKey b (9999 + 1) kt v).run P w = _
  rw [Instr.checkKey]
  cases d <;> simp only [eqK, Option.some.injEq, reduceCtorEq] at hq <;> simp [ud_run H w hd]

/-- What a lookup comes to. -/
def lkV (q : V → V → Option Bool) (z : V) (ok : Bool) (es : List (V × V)) (k : V) : Option V := match findV q k es 0 with
  | some (some (_, v)) => some (Bool.casesOn (motive := fun _ => V) ok v (.tup [v, .bool true]))
  | some none => some (Bool.casesOn (motive := fun _ => V) ok z (.tup [z, .bool false]))
  | none => none
def dLk (q : V → V → Option Bool) (z : V) (ok : Bool) (g h : E → V) (e : E) (s : St) : Option V := match mapOf s (g e) with | some es => lkV q z ok es (h e) | none => none
include H in
theorem dLk_ok {t kt el : Nat} {ok : Bool} {d : TypeDesc} {ti : TypeInfo} {zv : Value} {q : V → V → Option Bool} {zz : V} (ho : o.op = .lookup t x y ok) (ht : tt.ud t = some (.map kt el)) (hd : tt.ud kt = some d) (hq : eqK d = some q) (hti : tt.ti el = some ti) (hz : ti.zero = some zv) (hzz : lowV 300 zv = some zz)
    (hg : opd gl x = some g) (hh : opd gl y = some h) : ODs P o nt gl (dLk q zz ok g h) := by
  intro G e a s w v hv he hr
  have hx := opd_ok hg he
  have hy := opd_ok hh he
  unfold dLk at hv
  have hzr := zero_run H w hti hz
  have key : ∀ (es : List (V × V)) (en : List MapEntry), lkV q zz ok es (h e) = some v → VRs G (es.map (·.1)) (en.map (·.key)) → VRs G (es.map (·.2)) (en.map (·.val)) →
      (∃ j u'', (Instr.findKey kt (a.eval y) en).run P w = .ok (some (j, u'')) w ∧ VR G v (if ok then .tuple #[u'', .bool true] else u'')) ∨
      ((Instr.findKey kt (a.eval y) en).run P w = .ok none w ∧ VR G v (if ok then .tuple #[zv, .bool false] else zv)) := by
    intro es en hlk h1 h2
    unfold lkV at hlk
    split at hlk
    · rename_i j u hf
      rcases findV_ok hq hy hf h1 h2 with ⟨c, _⟩ | ⟨j', u', u'', e', c, a1, a2, _⟩
      · cases c
      · cases c
        cases hlk
        refine .inl ⟨j, u'', by simp [Instr.findKey, ud_run H w hd, a1], ?_⟩
        cases ok
        · exact a2
        · exact .tup _ _ (.cons _ _ _ _ a2 (.cons _ _ _ _ (.bool _) .nil))
    · rename_i hf
      rcases findV_ok hq hy hf h1 h2 with ⟨_, a1⟩ | ⟨j', u', u'', e', c, _⟩
      · cases hlk
        refine .inr ⟨by simp [Instr.findKey, ud_run H w hd, a1], ?_⟩
        cases ok
        · exact lowV_ok hzz G
        · exact .tup _ _ (.cons _ _ _ _ (lowV_ok hzz G) (.cons _ _ _ _ (.bool _) .nil))
      · cases c
    · cases hlk
  split at hv
  · rename_i es hes
    unfold mapOf at hes
    split at hes
    · rename_i hge
      cases hes
      rw [hge] at hx
      generalize hax : a.eval x = x' at hx
      cases hx
      rcases key [] [] hv .nil .nil with ⟨j, u'', b1, b2⟩ | ⟨b1, b2⟩
      · refine ⟨_, ?_, b2⟩
        simp [execOp, ho, hax, Instr.lookup, ud_run H w ht, checkKey_run H w hd hq, b1]
      · refine ⟨_, ?_, b2⟩
        simp [execOp, ho, hax, Instr.lookup, ud_run H w ht, checkKey_run H w hd hq, b1, hzr]
    · rename_i b hge
      rw [hge] at hx
      split at hes
      · rename_i es' bs cl hb
        cases hes
        obtain ⟨l, en, c1, c2, c3, c4, _⟩ := hr.ob b _ hb
        generalize hax : a.eval x = x' at hx
        cases hx with
        | map _ l' hl' =>
          rw [c1] at hl'; cases hl'
          rcases key _ en.toList hv c3 c4 with ⟨j, u'', b1, b2⟩ | ⟨b1, b2⟩
          · refine ⟨_, ?_, b2⟩
            simp [execOp, ho, hax, Instr.lookup, ud_run H w ht, checkKey_run H w hd hq, b1, getObj_run c2]
          · refine ⟨_, ?_, b2⟩
            simp [execOp, ho, hax, Instr.lookup, ud_run H w ht, checkKey_run H w hd hq, b1, hzr, getObj_run c2]
      · cases hes
    · cases hes
  · cases hv

/-- A pair put into a map. -/
def muV (q : V → V → Option Bool) (es : List (V × V)) (bs : List Nat) (cl : Nat) (k v : V) : Option Ob := match findV q k es 0 with
  | some (some (j, _)) => some (.map (setAt k v es j) bs cl)
  | some none => some (.map (es ++ [(k, v)]) (bs ++ [cl]) (Nat.succ cl))
  | none => none
def eMu (q : V → V → Option Bool) (g h i : E → V) (_ : KC) (e : E) (s : St) : Option (V × St) := match g e with
  | .map b => (match s.heap.get b with
    | some (.map es bs cl) => (match muV q es bs cl (h e) (i e) with | some o => some (.tup [], s.put b o) | none => none)
    | _ => none)
  | _ => none
theorem modify_born (f : MapEntry → MapEntry) (hf : ∀ e, (f e).born = e.born) : ∀ (en : List MapEntry) (j : Nat), (en.modify j f).map (·.born) = en.map (·.born)
  | [], j => by cases j <;> rfl
  | e :: en, 0 => by simp [hf]
  | e :: en, j + 1 => by simp [modify_born f hf en j]
theorem setAt_ok {G : Pl} {k v : V} {k' v' : Value} (hk : VR G k k') (hv : VR G v v') : ∀ {es : List (V × V)} {en : List MapEntry} {j : Nat}, VRs G (es.map (·.1)) (en.map (·.key)) → VRs G (es.map (·.2)) (en.map (·.val)) →
    VRs G ((setAt k v es j).map (·.1)) ((en.modify j fun e => { e with key := k', val := v' }).map (·.key)) ∧ VRs G ((setAt k v es j).map (·.2)) ((en.modify j fun e => { e with key := k', val := v' }).map (·.val))
  | [], en, j, h1, h2 => by
    cases en with
    | nil => cases j <;> exact ⟨.nil, .nil⟩
    | cons _ _ => cases h1
  | p :: es, en, j, h1, h2 => by
    cases en with
    | nil => cases h1
    | cons e en =>
      simp only [List.map_cons] at h1 h2
      cases h1 with
      | cons _ _ _ _ hx h1 =>
        cases h2 with
        | cons _ _ _ _ hy h2 =>
          cases j with
          | zero => exact ⟨.cons _ _ _ _ hk h1, .cons _ _ _ _ hv h2⟩
          | succ j =>
            obtain ⟨a1, a2⟩ := setAt_ok hk hv (j := j) h1 h2
            exact ⟨.cons _ _ _ _ hx a1, .cons _ _ _ _ hy a2⟩
include H in
theorem eMu_ok {t kt el : Nat} {d : TypeDesc} {q : V → V → Option Bool} (ho : o.op = .mapUpdate t x y z ∨ o.op = .insert t x y z) (ht : tt.ud t = some (.map kt el)) (hd : tt.ud kt = some d) (hq : eqK d = some q)
    (hg : opd gl x = some g) (hh : opd gl y = some h) (hi : opd gl z = some i) : OEs P o nt gl (eMu q g h i) := by
  intro k _ G e a s w v s' hv he hs
  have hx := opd_ok hg he
  have hy := opd_ok hh he
  have hz := opd_ok hi he
  have hex : execOp a.eval o = (do Instr.mapUpdate t (a.eval x) (a.eval y) (a.eval z); pure .skip) := by
    rcases ho with ho | ho <;> simp [execOp, ho]
  unfold eMu at hv
  split at hv
  · rename_i b hge
    rw [hge] at hx
    split at hv
    · rename_i es bs cl hb
      split at hv
      · rename_i ob hes
        cases hv
        obtain ⟨l, en, c1, c2, c3, c4, c5⟩ := hs.r.ob b _ hb
        generalize hax : a.eval x = x' at hx
        cases hx with
        | map _ l' hl' =>
          rw [c1] at hl'; cases hl'
          have fin : ∀ (es' : List (V × V)) (bs' : List Nat) (cl' : Nat) (en' : Array MapEntry), ob = .map es' bs' cl' → VRs G (es'.map (·.1)) (en'.toList.map (·.key)) → VRs G (es'.map (·.2)) (en'.toList.map (·.val)) → en'.toList.map (·.born) = bs' → (Instr.mapUpdate t (.map (some l.blk)) (a.eval y) (a.eval z)).run P w = .ok () { w with heap := w.heap.setIfInBounds l.blk (.map en' cl') } →
              Did P o a w (Post G s w (.tup []) (s.put b ob)) := by
            intro es' bs' cl' en' e0 e1 e2 e3 hrun
            subst e0
            obtain ⟨r1, r2⟩ := hs.turn (w' := { w with heap := w.heap.setIfInBounds l.blk (.map en' cl') }) (o' := .map es' bs' cl') hb rfl c1 (Touch.setObj c2 (fun _ _ _ h => nomatch h)) ⟨l, en', c1, by simp [(Array.getElem?_eq_some_iff.1 c2).1], e1, e2, e3⟩
            exact Did.skip (w' := _) (by rw [hex, hax]; simp only [Sem.run_bind, hrun, Result.andThen_ok, Sem.run_pure]) ⟨G, r2, r1, .tup _ _ .nil⟩
          unfold muV at hes
          split at hes
          · rename_i j u hf
            cases hes
            rcases findV_ok hq hy hf c3 c4 with ⟨c, _⟩ | ⟨j', u', u'', e', c, a1, a2, a3, a4, a5⟩
            · cases c
            · cases c
              obtain ⟨e1, e2⟩ := setAt_ok (j := j) hy hz c3 c4
              refine fin _ _ _ (en.modify j fun e => { e with key := a.eval y, val := a.eval z }) rfl (by simpa using e1) (by simpa using e2) (by rw [Array.toList_modify, modify_born (fun e => { e with key := a.eval y, val := a.eval z }) (fun _ => rfl)]; exact c5) ?_
              have a4' : en[j]? = some e' := by simpa using a4
              simp [Instr.mapUpdate, ud_run H w ht, getObj_run c2, checkKey_run H w hd hq, Instr.findKey, ud_run H w hd, a1, a4', Instr.keyThatStays, a5, setObj_run c2]
          · rename_i hf
            cases hes
            rcases findV_ok hq hy hf c3 c4 with ⟨_, a1⟩ | ⟨j', u', u'', e', c, _⟩
            · refine fin _ _ _ (en.push { key := a.eval y, val := a.eval z, born := cl }) rfl ?_ ?_ (by simp [c5]) ?_
              · simp only [Array.toList_push, List.map_append, List.map_cons, List.map_nil]
                exact c3.append (.cons _ _ _ _ hy .nil)
              · simp only [Array.toList_push, List.map_append, List.map_cons, List.map_nil]
                exact c4.append (.cons _ _ _ _ hz .nil)
              · simp [Instr.mapUpdate, ud_run H w ht, getObj_run c2, checkKey_run H w hd hq, Instr.findKey, ud_run H w hd, a1, setObj_run c2]
            · cases c
          · cases hes
      · cases hv
    · cases hv
  · cases hv

/-- A new map. -/
def aMk (_ : E) (id : Nat) : Option (V × Ob) := some (.map id, .map [] [] 0)
theorem aMk_ok {t : Nat} (ho : o.op = .makeMap t none) : OAs P o nt gl aMk := by
  intro G e a id w v ob hv he hid
  cases hv
  refine ⟨.map (some w.heap.size), .map #[] 0, 0, w.alloc (.map #[] 0), by simp [execOp, ho, Instr.makeMap], Grew.alloc _ _, .map id _ (Pl.add_at _ _ _), ⟨_, #[], Pl.add_at _ _ _, (Grew.alloc _ _).new, .nil, .nil, rfl⟩⟩
def aMkN (g : E → V) (e : E) (id : Nat) : Option (V × Ob) := match asN (g e) with | some _ => some (.map id, .map [] [] 0) | none => none
include H in
theorem aMkN_ok {t kt el : Nat} (ho : o.op = .makeMap t (some x)) (ht : tt.ud t = some (.map kt el)) (hg : opd gl x = some g) : OAs P o nt gl (aMkN g) := by
  intro G e a id w v ob hv he hid
  unfold aMkN at hv
  split at hv
  · rename_i n hn
    cases hv
    obtain ⟨k, hk⟩ := asN_ok hn (opd_ok hg he)
    refine ⟨.map (some w.heap.size), .map #[] 0, 0, w.alloc (.map #[] 0), by simp [execOp, ho, Instr.makeMap, ud_run H w ht, hk, asInt, asIntOf], Grew.alloc _ _, .map id _ (Pl.add_at _ _ _), ⟨_, #[], Pl.add_at _ _ _, (Grew.alloc _ _).new, .nil, .nil, rfl⟩⟩
  · cases hv
def dLenM (g : E → V) (e : E) (s : St) : Option V := match mapOf s (g e) with | some es => some (.i (Int.ofNat es.length)) | none => none
include H in
theorem dLenM_ok {t kt el : Nat} (ho : isB1 o .len t x) (ht : tt.ud t = some (.map kt el)) (hg : opd gl x = some g) : ODs P o nt gl (dLenM g) := by
  intro G e a s w v hv he hr
  have hx := opd_ok hg he
  have hex : execOp a.eval o = (do pure (.value (← Builtin.len_ #[t] o.type #[a.eval x]))) := by
    simp [execOp, isB1] at *; simp [ho, resolve, invoke, builtin]
  unfold dLenM at hv
  split at hv
  · rename_i es hes
    cases hv
    unfold mapOf at hes
    split at hes
    · rename_i hge
      cases hes
      rw [hge] at hx
      generalize hax : a.eval x = x' at hx
      cases hx
      exact ⟨.int .i64 0, by rw [hex, hax]; simp [Builtin.len_, ud_run H w ht, goInt], .i _⟩
    · rename_i b hge
      rw [hge] at hx
      split at hes
      · rename_i es' bs cl hb
        cases hes
        obtain ⟨l, en, c1, c2, c3, c4, _⟩ := hr.ob b _ hb
        generalize hax : a.eval x = x' at hx
        cases hx with
        | map _ l' hl' =>
          rw [c1] at hl'; cases hl'
          refine ⟨.int .i64 en.size, by rw [hex, hax]; simp [Builtin.len_, ud_run H w ht, goInt, getObj_run c2], ?_⟩
          have := c3.length
          simp only [List.length_map, Array.length_toList] at this
          rw [this]; exact .i _
      · cases hes
    · cases hes
  · cases hv
end
end
end Go.Proofs.YtjipdnfaokdkbaaLab
