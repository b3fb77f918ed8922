/- The lab: walks through maps. No condition on the program. -/
import Derived.Test.YtjipdnfaokdkbaaLabL
namespace Go.Proofs.YtjipdnfaokdkbaaLab
open Go
set_option linter.unusedVariables false
noncomputable section

/-- When it was born, its key, its value. -/
abbrev Tr := Nat × V × V
def trip : List (V × V) → List Nat → List Tr | (k, v) :: es, b :: bs => (b, k, v) :: trip es bs | _, _ => []
inductive R3 (G : Pl) : List Tr → List MapEntry → Prop where
  | nil : R3 G [] []
  | cons {b : Nat} {k v : V} {e : MapEntry} {l : List Tr} {r : List MapEntry} : e.born = b → VR G k e.key → VR G v e.val → R3 G l r → R3 G ((b, k, v) :: l) (e :: r)
theorem R3.mk {G : Pl} : ∀ {es : List (V × V)} {bs : List Nat} {en : List MapEntry}, VRs G (es.map (·.1)) (en.map (·.key)) → VRs G (es.map (·.2)) (en.map (·.val)) → en.map (·.born) = bs → R3 G (trip es bs) en
  | [], bs, [], _, _, h => by subst h; exact .nil
  | (k, v) :: es, bs, e :: en, h1, h2, h3 => by
    subst h3
    simp only [List.map_cons] at h1 h2
    cases h1 with
    | cons _ _ _ _ a1 a2 =>
      cases h2 with
      | cons _ _ _ _ b1 b2 => exact .cons rfl a1 b1 (R3.mk a2 b2 rfl)
  | [], _, _ :: _, h, _, _ => by cases h
  | _ :: _, _, [], h, _, _ => by cases h
def keepT (p : Nat → Bool) : List Tr → List Tr | [] => [] | t :: l => Bool.casesOn (motive := fun _ => List Tr) (p t.1) (keepT p l) (t ::  keepT p l)
theorem R3.keep {G : Pl} (p : Nat → Bool) : ∀ {l : List Tr} {r : List MapEntry}, R3 G l r → R3 G (keepT p l) (r.filter fun e => p e.born)
  | _, _, .nil => .nil
  | _, _, .cons (b := b) h1 h2 h3 h4 => by
    subst h1
    have ih := R3.keep p h4
    unfold keepT
    simp only [List.filter_cons]
    cases p _ with
    | true => simpa using R3.cons rfl h2 h3 ih
    | false => simpa using ih
theorem R3.append {G : Pl} : ∀ {l l2 : List Tr} {r r2 : List MapEntry}, R3 G l r → R3 G l2 r2 → R3 G (l ++ l2) (r ++ r2)
  | _, _, _, _, .nil, h => h
  | _, _, _, _, .cons h1 h2 h3 h4, h => .cons h1 h2 h3 (h4.append h)
theorem R3.len {G : Pl} : ∀ {l : List Tr} {r : List MapEntry}, R3 G l r → l.length = r.length
  | _, _, .nil => rfl
  | _, _, .cons _ _ _ h => congrArg (· + 1) h.len
theorem R3.get {G : Pl} : ∀ {l : List Tr} {r : List MapEntry} {i : Nat} {e : MapEntry}, R3 G l r → r[i]? = some e → ∃ k v, l[i]? = some (e.born, k, v) ∧ VR G k e.key ∧ VR G v e.val
  | _, _, _, _, .nil, h => by simp at h
  | _, _, 0, _, .cons h1 h2 h3 h4, h => by cases h; subst h1; exact ⟨_, _, rfl, h2, h3⟩
  | _, _, i + 1, _, .cons h1 h2 h3 h4, h => h4.get (i := i) (by simpa using h)
def allT (p : Nat → Bool) : List Tr → Bool | [] => true | t :: l => Bool.casesOn (motive := fun _ => Bool) (p t.1) false (allT p l)
theorem R3.allB {G : Pl} (p : Nat → Bool) : ∀ {l : List Tr} {r : List MapEntry}, R3 G l r → allT p l = r.all fun e => p e.born
  | _, _, .nil => rfl
  | _, _, .cons h1 h2 h3 h4 => by
    subst h1
    unfold allT
    simp only [List.all_cons, h4.allB p]
    cases p _ <;> rfl
def memN (n : Nat) : List Nat → Bool | [] => false | x :: l => Bool.casesOn (motive := fun _ => Bool) (Nat.beq n x) (memN n l) true
theorem memN_eq (n : Nat) : ∀ l : List Nat, memN n l = l.contains n
  | [] => rfl
  | x :: l => by
    unfold memN
    rw [List.contains_cons, memN_eq n l, nbeq_eq]
    by_cases h : n = x
    · subst h; simp
    · have : (n == x) = false := beq_eq_false_iff_ne.2 h
      simp [h]
/-- Who may come next. -/
def isNil {α : Type} : List α → Bool | [] => true | _ => false
def cands (tr : List Tr) (since : Nat) (seen : List Nat) : List (Option Tr) :=
  let left := keepT (fun b => not (memN b seen)) tr
  let old := keepT (fun b => Nat.blt b since) left
  let new := keepT (fun b => Nat.ble since b) left
  (Bool.casesOn (motive := fun _ => List (Option Tr)) (isNil old) [] [none]) ++ (old ++ new).map some
def gone (tr : List Tr) (seen : List Nat) (last : Nat) : Bool := and (not (isNil seen)) (and (not (isNil tr)) (allT (fun b => Nat.ble last b) tr))
def candsM (en : List MapEntry) (since : Nat) (seen : List Nat) : List (Option MapEntry) :=
  let left := en.filter fun e => !seen.contains e.born
  let old := left.filter (·.born < since)
  let new := left.filter (·.born ≥ since)
  (if old.isEmpty then [none] else []) ++ (old ++ new).map some
theorem cands_ok {G : Pl} {tr : List Tr} {en : List MapEntry} (h : R3 G tr en) (since : Nat) (seen : List Nat) : (cands tr since seen).length = (candsM en since seen).length ∧
    ∀ (i : Nat) (c : Option MapEntry), (candsM en since seen)[i]? = some c → (c = none ∧ none ∈ cands tr since seen) ∨ ∃ e k v, c = some e ∧ some (e.born, k, v) ∈ cands tr since seen ∧ VR G k e.key ∧ VR G v e.val := by
  have h1 : R3 G (keepT (fun b => not (memN b seen)) tr) (en.filter fun e => !seen.contains e.born) := by
    have := h.keep (fun b => not (memN b seen))
    simpa only [memN_eq] using this
  have h2 : R3 G (keepT (fun b => Nat.blt b since) (keepT (fun b => not (memN b seen)) tr)) ((en.filter fun e => !seen.contains e.born).filter (·.born < since)) := by
    have := h1.keep (fun b => Nat.blt b since)
    simpa only [nblt_eq] using this
  have h3 : R3 G (keepT (fun b => Nat.ble since b) (keepT (fun b => not (memN b seen)) tr)) ((en.filter fun e => !seen.contains e.born).filter (·.born ≥ since)) := by
    have := h1.keep (fun b => Nat.ble since b)
    simpa only [nble_eq] using this
  have h4 := h2.append h3
  unfold cands candsM
  simp only
  generalize keepT (fun b => Nat.blt b since) (keepT (fun b => not (memN b seen)) tr) = old at *
  generalize keepT (fun b => Nat.ble since b) (keepT (fun b => not (memN b seen)) tr) = new at *
  generalize (en.filter fun e => !seen.contains e.born).filter (·.born < since) = oldM at *
  generalize (en.filter fun e => !seen.contains e.born).filter (·.born ≥ since) = newM at *
  have hn : isNil old = oldM.isEmpty := by
    have := h2.len
    cases old <;> cases oldM <;> first | rfl | simp at this
  rw [hn]
  have hm : ∀ (i : Nat) (c : Option MapEntry), ((oldM ++ newM).map some)[i]? = some c → ∃ e k v, c = some e ∧ some (e.born, k, v) ∈ (old ++ new).map some ∧ VR G k e.key ∧ VR G v e.val := by
    intro i c hi
    rw [List.getElem?_map, Option.map_eq_some_iff] at hi
    obtain ⟨e, he, rfl⟩ := hi
    obtain ⟨k, v, a1, a2, a3⟩ := h4.get he
    exact ⟨e, k, v, rfl, List.mem_map.2 ⟨_, List.mem_of_getElem? a1, rfl⟩, a2, a3⟩
  have hl := h4.len
  cases oldM.isEmpty with
  | true =>
    refine ⟨by simpa using hl, fun i c hi => ?_⟩
    cases i with
    | zero => cases hi; exact .inl ⟨rfl, by simp⟩
    | succ i =>
      obtain ⟨e, k, v, a1, a2, a3⟩ := hm i c (by simpa using hi)
      exact .inr ⟨e, k, v, a1, List.mem_append_right _ a2, a3⟩
  | false =>
    refine ⟨by simpa using hl, fun i c hi => ?_⟩
    obtain ⟨e, k, v, a1, a2, a3⟩ := hm i c (by simpa using hi)
    exact .inr ⟨e, k, v, a1, by simpa using a2, a3⟩
theorem cands_ne (tr : List Tr) (since : Nat) (seen : List Nat) : cands tr since seen ≠ [] := by
  unfold cands
  simp only
  generalize keepT (fun b => Nat.blt b since) (keepT (fun b => not (memN b seen)) tr) = old
  cases old <;> simp [isNil]

section
variable {P : Program} {tt : TT} (H : TOk P tt) {nt : Nat} {gl : List Nat} {o : Oper} {x y : Operand} {g h : E → V}

/-- A walk begun. -/
def eRng (g : E → V) (_ : KC) (e : E) (s : St) : Option (V × St) := match g e with
  | .nilm => some (.ptr s.next 0, s.new (.iter none 0 [] 0 0))
  | .map b => (match s.heap.get b with | some (.map _ _ cl) => some (.ptr s.next 0, s.new (.iter (some b) cl [] cl 0)) | _ => none)
  | _ => none
include H in
theorem eRng_ok {t kt el : Nat} (ho : o.op = .range t x) (ht : tt.ud t = some (.map kt el)) (hg : opd gl x = some g) : OEs P o nt gl (eRng g) := by
  intro k _ G e a s w v s' hv he hs
  have hx := opd_ok hg he
  have hid : G s.next = none := by
    cases hq : G s.next with
    | none => rfl
    | some l => exact absurd (hs.dom _ _ hq).1 (Nat.lt_irrefl _)
  unfold eRng at hv
  split at hv
  · rename_i hge
    rw [hge] at hx
    generalize hax : a.eval x = x' at hx
    cases hx; cases hv
    obtain ⟨r1, r2⟩ := hs.grew (tot := 0) (o := .iter none 0 [] 0 0) (Grew.alloc w (.mapIter none 0 #[] 0)) ⟨_, _, Pl.add_at _ _ _, rfl, (Grew.alloc _ _).new, rfl⟩
    refine Did.value (v := .pointer (some ⟨w.heap.size, 0, none⟩)) (w' := w.alloc (.mapIter none 0 #[] 0)) (by simp [execOp, ho, hax, Instr.range, ud_run H w ht]) ⟨_, r2, r1, .ptr s.next 0 _ (Pl.add_at _ _ _)⟩
  · rename_i b hge
    rw [hge] at hx
    split at hv
    · rename_i es bs cl hb
      cases hv
      obtain ⟨l, en, c1, c2, c3, c4, c5⟩ := hs.r.ob b _ hb
      generalize hax : a.eval x = x' at hx
      cases hx with
      | map _ l' hl' =>
        rw [c1] at hl'; cases hl'
        obtain ⟨r1, r2⟩ := hs.grew (tot := 0) (o := .iter (some b) cl [] cl 0) (Grew.alloc w (.mapIter (some l.blk) cl #[] cl)) ⟨_, _, Pl.add_at _ _ _, rfl, (Grew.alloc _ _).new, l, Pl.le_add hid b l c1, rfl⟩
        refine Did.value (v := .pointer (some ⟨w.heap.size, 0, none⟩)) (w' := w.alloc (.mapIter (some l.blk) cl #[] cl)) (by simp [execOp, ho, hax, Instr.range, ud_run H w ht, getObj_run c2]) ⟨_, r2, r1, .ptr s.next 0 _ (Pl.add_at _ _ _)⟩
    · cases hv
  · cases hv

/-- What comes of one that comes next. -/
def nxC (it : Nat) (m : Option Nat) (since : Nat) (seen : List Nat) (cl pref : Nat) (s : St) : Option Tr → V × St
  | none => (.tup [.bool false], s)
  | some (b, k, v) => (.tup [.bool true, k, v], s.put it (.iter m since (seen ++ [b]) cl pref))
/-- A walk's state, and who may come next. -/
def nxAt (s : St) : V → Option (Nat × Option Nat × Nat × List Nat × Nat × Nat × List (Option Tr))
  | .ptr it 0 => (match s.heap.get it with
    | some (.iter none since seen last pref) => some (it, none, since, seen, 0, pref, [none])
    | some (.iter (some mb) since seen last pref) => (match s.heap.get mb with
      | some (.map es bs cl) => Bool.casesOn (motive := fun _ => Option (Nat × Option Nat × Nat × List Nat × Nat × Nat × List (Option Tr))) (gone (trip es bs) seen last) (some (it, some mb, since, seen, cl, pref, cands (trip es bs) since seen)) none
      | _ => none)
    | _ => none)
  | _ => none
theorem iter_run {P : Program} {w : World} {r : Nat} {mo : Option Nat} {since last : Nat} {seen : Array Nat} (h : w.heap[r]? = some (.mapIter mo since seen last)) : (getObj r).run P w = .ok (.mapIter mo since seen last) w := by simp [getObj, Sem.run, h]
theorem iterSet_run {P : Program} {w : World} {r : Nat} {mo : Option Nat} {since last : Nat} {seen : Array Nat} {o : Obj} (h : w.heap[r]? = some (.mapIter mo since seen last)) : (setObj r o).run P w = .ok () { w with heap := w.heap.setIfInBounds r o } := by simp [setObj, Sem.run, h]
theorem choose_run {P : Program} {w : World} {n : Nat} (hn : 0 < n) : ∃ i k, i < n ∧ (choose (.mapNext n)).run P w = .ok i { w with drawn := k } := by
  by_cases h : (Question.mapNext n).forced = true
  · refine ⟨0, w.drawn, hn, ?_⟩
    simp [choose, Sem.run, h]
  · refine ⟨(Question.mapNext n).cut (w.tape w.drawn (.mapNext n)), w.drawn + 1, Nat.mod_lt _ hn, ?_⟩
    simp [choose, Sem.run, h]
theorem next_ok {G : Pl} {e : E} {a : Act} {s : St} {w : World} {it : Nat} {m : Option Nat} {since : Nat} {seen : List Nat} {cl pref : Nat} {cs : List (Option Tr)} (ho : o.op = .next x false) (hg : opd gl x = some g) (he : EnvR nt gl G e a) (hs : SR G s w) (hn : nxAt s (g e) = some (it, m, since, seen, cl, pref, cs)) :
    Did P o a w (fun v' w' => ∃ c, c ∈ cs ∧ ∀ pref', Post G s w (nxC it m since seen cl pref' s c).1 (nxC it m since seen cl pref' s c).2 v' w') := by
  have hx := opd_ok hg he
  unfold nxAt at hn
  split at hn
  · rename_i it' hge
    rw [hge] at hx
    obtain ⟨l, hax, hl⟩ := hx.ptr_inv
    split at hn
    · rename_i since' seen' last' pref' hb
      cases hn
      obtain ⟨l2, mo, c1, c0, c2, c3⟩ := hs.r.ob _ _ hb
      rw [hl] at c1; cases c1
      subst c3
      rw [c0] at hax
      refine Did.value (v := .tuple #[.bool false]) (w' := w) (by simp [execOp, ho, hax, Instr.next, iter_run c2]) ⟨none, by simp, fun _ => ⟨G, GoS.refl _ _ _, hs, .tup _ _ (.cons _ _ _ _ (.bool _) .nil)⟩⟩
    · rename_i mb since' seen' last' pref' hb
      split at hn
      · rename_i es bs cl' hmb
        cases hgn : gone (trip es bs) seen' last' with
        | true => rw [hgn] at hn; cases hn
        | false =>
          rw [hgn] at hn; cases hn
          obtain ⟨l2, mo, c1, c0, c2, lm, c4, c5⟩ := hs.r.ob _ _ hb
          rw [hl] at c1; cases c1
          subst c5
          rw [c0] at hax
          obtain ⟨l3, en, d1, d2, d3, d4, d5⟩ := hs.r.ob _ _ hmb
          rw [c4] at d1; cases d1
          have hR := R3.mk d3 d4 d5
          obtain ⟨k1, k2⟩ := cands_ok hR since seen
          have hpos : 0 < (candsM en.toList since seen).length := by
            rw [← k1]
            exact List.length_pos_iff.2 (cands_ne _ _ _)
          obtain ⟨i, dr, hi, hch⟩ := choose_run (P := P) (w := w) hpos
          have hg1 : (seen.isEmpty = false ∧ en.isEmpty = false ∧ en.all (fun e => decide (e.born ≥ last')) = true) = False := by
            refine eq_false fun hh => ?_
            obtain ⟨e1, e2, e3⟩ := hh
            unfold gone at hgn
            rw [hR.allB] at hgn
            have n1 : isNil seen = false := by cases seen with | nil => cases e1 | cons => rfl
            have n2 : isNil (trip es bs) = false := by
              have := hR.len
              cases hq : trip es bs with
              | nil =>
                rw [hq] at this
                have : en.size = 0 := by simpa using this.symm
                have : en = #[] := Array.eq_empty_of_size_eq_zero this
                rw [this] at e2; cases e2
              | cons => rfl
            rw [n1, n2] at hgn
            simp only [Bool.not_false, Bool.true_and, nble_eq] at hgn
            rw [Array.all_toList] at hgn
            simp only [ge_iff_le] at e3
            rw [e3] at hgn; cases hgn
          have hcand : ((if ((en.filter fun e => !(⟨seen⟩ : Array Nat).contains e.born).filter (·.born < since)).isEmpty then (#[none] : Array (Option MapEntry)) else #[]) ++ (((en.filter fun e => !(⟨seen⟩ : Array Nat).contains e.born).filter (·.born < since)) ++ ((en.filter fun e => !(⟨seen⟩ : Array Nat).contains e.born).filter (·.born ≥ since))).map some) = (candsM en.toList since seen).toArray := by
            apply Array.ext'
            unfold candsM
            simp only [Array.toList_append, Array.toList_map, Array.toList_filter, List.contains_toArray]
            congr 1
            rw [← Array.isEmpty_toList]
            simp only [Array.toList_filter]
            split <;> rfl
          have hrun : ∀ c, (candsM en.toList since seen)[i]? = some c → (execOp a.eval o).run P w = (match c with
              | none => .ok (.value (.tuple #[.bool false])) { w with drawn := dr }
              | some e => .ok (.value (.tuple #[.bool true, e.key, e.val])) { w with drawn := dr, heap := w.heap.setIfInBounds l.blk (.mapIter (some lm.blk) since ((⟨seen⟩ : Array Nat).push e.born) cl) }) := by
            intro c hc
            have hun : (!(⟨seen⟩ : Array Nat).isEmpty && !en.isEmpty && en.all (fun e => decide (e.born ≥ last'))) = false := by
              cases q1 : (⟨seen⟩ : Array Nat).isEmpty <;> cases q2 : en.isEmpty <;> cases q3 : en.all (fun e => decide (e.born ≥ last')) <;> first | rfl | skip
              exfalso
              rw [← hg1]
              exact ⟨by rw [← q1]; simp, q2, q3⟩
            simp only [execOp, ho, hax, Instr.next, Sem.run_bind, Nat.add_zero, iter_run c2, getObj_run d2, Result.andThen_ok, hun, Bool.false_eq_true, if_false, Sem.run_pure]
            rw [hcand]
            simp only [List.size_toArray, hch, Result.andThen_ok, List.getElem?_toArray, hc]
            cases c with
            | none => rfl
            | some e1 =>
              have : (setObj l.blk (Obj.mapIter (some lm.blk) since ((⟨seen⟩ : Array Nat).push e1.born) cl)).run P { w with drawn := dr } = .ok () { w with drawn := dr, heap := w.heap.setIfInBounds l.blk (.mapIter (some lm.blk) since ((⟨seen⟩ : Array Nat).push e1.born) cl) } := iterSet_run (w := { w with drawn := dr }) c2
              simp only [Sem.run_bind, this, Result.andThen_ok, Sem.run_pure]
          obtain ⟨c, hc⟩ : ∃ c, (candsM en.toList since seen)[i]? = some c := ⟨_, List.getElem?_eq_getElem hi⟩
          have hrun := hrun c hc
          rcases k2 i c hc with ⟨rfl, a1⟩ | ⟨e', k, v, rfl, a1, a2, a3⟩
          · exact Did.value hrun ⟨none, a1, fun _ => ⟨G, GoS.drawn _ _ _ _, hs.drew, .tup _ _ (.cons _ _ _ _ (.bool _) .nil)⟩⟩
          · refine Did.value hrun ⟨_, a1, fun pref' => ?_⟩
            obtain ⟨r1, r2⟩ := (hs.drew (n := dr)).turn (w' := { w with drawn := dr, heap := w.heap.setIfInBounds l.blk (.mapIter (some lm.blk) since ((⟨seen⟩ : Array Nat).push e'.born) cl) }) (o' := .iter (some mb) since (seen ++ [e'.born]) cl pref') hb rfl hl (Touch.setObj c2 (fun _ _ _ h => nomatch h)) ⟨l, _, hl, c0, by simp [(Array.getElem?_eq_some_iff.1 c2).1], lm, c4, rfl⟩
            exact ⟨G, (GoS.drawn _ _ _ dr).trans r2, r1, .tup _ _ (.cons _ _ _ _ (.bool _) (.cons _ _ _ _ a2 (.cons _ _ _ _ a3 .nil)))⟩
      · cases hn
    · cases hn
  · cases hn

/-- The next, where one alone may come. -/
def eNx (g : E → V) (_ : KC) (e : E) (s : St) : Option (V × St) := match nxAt s (g e) with
  | some (it, m, since, seen, cl, pref, [c]) => some (nxC it m since seen cl pref s c)
  | _ => none
theorem eNx_ok (ho : o.op = .next x false) (hg : opd gl x = some g) : OEs P o nt gl (eNx g) := by
  intro k _ G e a s w v s' hv he hs
  unfold eNx at hv
  split at hv
  · rename_i it m since seen cl pref c hn
    have h := next_ok (P := P) ho hg he hs hn
    have hv : nxC it m since seen cl pref s c = (v, s') := Option.some.inj hv
    have hv1 : v = (nxC it m since seen cl pref s c).1 := by rw [hv]
    have hv2 : s' = (nxC it m since seen cl pref s c).2 := by rw [hv]
    subst hv1; subst hv2
    refine h.mono ?_
    rintro v' w' ⟨c', hc, hp⟩
    have : c' = c := by simpa using hc
    subst this
    exact hp pref
  · cases hv
/-- The next, as the state tells: of those that may come the one that is preferred. -/
def nthC : List (Option Tr) → Nat → Option (Option Tr) | [], _ => none | c :: l, n => Nat.rec (motive := fun _ => Option (Option Tr)) (some c) (fun n _ => nthC l n) n
theorem nthC_eq : ∀ (l : List (Option Tr)) (n : Nat), nthC l n = l[n]?
  | [], n => by simp [nthC]
  | c :: l, 0 => rfl
  | c :: l, n + 1 => by show nthC l n = _; rw [nthC_eq l n]; simp
def eNxP (g : E → V) (_ : KC) (e : E) (s : St) : Option (V × St) := match nxAt s (g e) with
  | some (it, m, since, seen, cl, pref, cs) => (match nthC cs pref with | some c => some (nxC it m since seen cl pref s c) | none => none)
  | _ => none

/-- What the walk had last, as it is now. -/
def lastB : List Nat → Option Nat | [] => none | [b] => some b | _ :: l => lastB l
def findB (b : Nat) : List Tr → Option Tr | [] => none | t :: l => Bool.casesOn (motive := fun _ => Option Tr) (Nat.beq t.1 b) (findB b l) (some t)
theorem lastB_eq : ∀ l : List Nat, lastB l = l.getLast?
  | [] => rfl
  | [b] => rfl
  | a :: b :: l => by
    show lastB (b :: l) = _
    rw [lastB_eq (b :: l), List.getLast?_cons_cons]
theorem R3.find {G : Pl} (b : Nat) : ∀ {l : List Tr} {r : List MapEntry} {t : Tr}, R3 G l r → findB b l = some t → ∃ e, r.find? (fun e => e.born == b) = some e ∧ VR G t.2.1 e.key ∧ VR G t.2.2 e.val
  | _, _, _, .nil, h => by cases h
  | _, _, _, .cons (b := b') h1 h2 h3 h4, h => by
    subst h1
    unfold findB at h
    cases hb : Nat.beq _ b with
    | true =>
      rw [hb] at h; cases h
      have := Nat.eq_of_beq_eq_true hb
      exact ⟨_, by rw [List.find?_cons_of_pos]; simpa using this, h2, h3⟩
    | false =>
      rw [hb] at h
      obtain ⟨e, a1, a2, a3⟩ := h4.find b h
      refine ⟨e, ?_, a2, a3⟩
      rw [List.find?_cons_of_neg]
      · exact a1
      · rw [nbeq_eq] at hb
        simpa using hb
def dEnt (g : E → V) (e : E) (s : St) : Option V := match g e with
  | .ptr it 0 => (match s.heap.get it with
    | some (.iter (some mb) since seen last pref) => (match s.heap.get mb with
      | some (.map es bs cl) => Bool.casesOn (motive := fun _ => Option V) (Nat.beq cl last) none (match lastB seen with | some b => (match findB b (trip es bs) with | some t => some (.tup [t.2.1, t.2.2]) | none => none) | none => none)
      | _ => none)
    | _ => none)
  | _ => none
theorem dEnt_ok (ho : o.op = .entry x) (hg : opd gl x = some g) : ODs P o nt gl (dEnt g) := by
  intro G e a s w v hv he hr
  have hx := opd_ok hg he
  unfold dEnt at hv
  split at hv
  · rename_i it hge
    rw [hge] at hx
    obtain ⟨l, hax, hl⟩ := hx.ptr_inv
    split at hv
    · rename_i mb since seen last pref hb
      split at hv
      · rename_i es bs cl hmb
        cases hcl : Nat.beq cl last with
        | false => rw [hcl] at hv; cases hv
        | true =>
          rw [hcl] at hv
          have := Nat.eq_of_beq_eq_true hcl
          subst this
          simp only at hv
          split at hv
          · rename_i b hlb
            split at hv
            · rename_i t ht
              cases hv
              obtain ⟨l2, mo, c1, c0, c2, lm, c4, c5⟩ := hr.ob _ _ hb
              rw [hl] at c1; cases c1
              subst c5
              rw [c0] at hax
              obtain ⟨l3, en, d1, d2, d3, d4, d5⟩ := hr.ob _ _ hmb
              rw [c4] at d1; cases d1
              obtain ⟨e', f1, f2, f3⟩ := (R3.mk d3 d4 d5).find b ht
              refine ⟨.tuple #[e'.key, e'.val], ?_, .tup _ _ (.cons _ _ _ _ f2 (.cons _ _ _ _ f3 .nil))⟩
              rw [lastB_eq] at hlb
              have hbk : (⟨seen⟩ : Array Nat).back? = some b := by rw [Array.back?_eq_getElem?, ← hlb, List.getLast?_eq_getElem?]; simp
              have hfd : en.find? (fun e => e.born == b) = some e' := by rw [← Array.find?_toList]; exact f1
              simp [execOp, ho, hax, Instr.entry, iter_run c2, getObj_run d2, hbk, hfd]
            · cases hv
          · cases hv
      · cases hv
    · cases hv
  · cases hv
end
end
end Go.Proofs.YtjipdnfaokdkbaaLab
