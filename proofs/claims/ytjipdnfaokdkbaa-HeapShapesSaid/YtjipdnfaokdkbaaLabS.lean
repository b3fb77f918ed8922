/- The lab: strings of bytes, bytes of strings; structs held against one another; slices of an array's address; calls through interfaces; entries of maps; deletions. No condition on the program. -/
import Derived.Test.YtjipdnfaokdkbaaLabN
namespace Go.Proofs.YtjipdnfaokdkbaaLab
open Go
set_option linter.unusedVariables false
noncomputable section

/-! ### Strings of bytes -/
def byts (l : List V) : Option (List Nat) := match l with
  | [] => some []
  | v :: l => match v with
    | .int .u8 n => (match byts l with | some r => some (Nat.mod n.toNat (nat_lit 256) :: r) | none => none)
    | _ => none
/-- The bytes of some cells, one by one. -/
theorem byts_run {P : Program} {G : Pl} (w : World) : ∀ {l : List V} {l' : List Value} {r : List Nat} (s : ByteArray), byts l = some r → VRs G l l' →
    ∃ t : ByteArray, (forIn (m := Sem) l' s fun c s => (match c with | .int .u8 n => (pure (.yield (s.push (UInt8.ofNat n.toNat))) : Sem (ForInStep ByteArray)) | _ => do let _ ← (stuck "bytesToString: byte expected" : Sem PUnit); pure (.yield s))).run P w = .ok t w ∧ nats t = nats s ++ r
  | [], l', r, s, h, hv => by cases hv; cases h; exact ⟨s, by simp, by simp⟩
  | v :: l, l', r, s, h, hv => by
    cases hv with
    | cons _ x' _ l2 hx hl =>
      unfold byts at h
      split at h
      · rename_i n
        split at h
        · rename_i r' hr
          cases h
          cases hx
          obtain ⟨t, h1, h2⟩ := byts_run w (s.push (UInt8.ofNat n.toNat)) hr hl
          refine ⟨t, by simpa using h1, ?_⟩
          rw [h2]
          have : nats (s.push (UInt8.ofNat n.toNat)) = nats s ++ [n.toNat % 256] := by
            simp [nats, ByteArray.push]
          rw [this]; simp; rfl
        · cases h
      · cases h

section
variable {P : Program} {tt : TT} (H : TOk P tt) {nt : Nat} {gl : List Nat} {o : Oper} {x y z : Operand} {g h i : E → V}
def dBStr (g : E → V) (e : E) (s : St) : Option V := match g e with
  | .nils => some (.str [])
  | .slice b o len _ _ => Nat.rec (motive := fun _ => Option V) (some (.str [])) (fun _ _ => match rdOf s b with
    | some (n, xs) => Bool.casesOn (motive := fun _ => Option V) (Nat.ble (Nat.add o len) n) none (match ldc xs len o with
      | some l => (match byts l with | some r => some (.str r) | none => none)
      | none => none)
    | none => none) len
  | _ => none
theorem bStr_go {w : World} {t d : Nat} {ad : Addr} {len c : Nat} {vs : List Value} {G : Pl} {l : List V} {r : List Nat} (hrun : (loadCells ad len).run P w = .ok ⟨vs⟩ w) (hv : VRs G l vs) (hb : byts l = some r) :
    ∃ v', (Conv.bytesToString (.slice (some ad) len c)).run P w = .ok v' w ∧ VR G (.str r) v' := by
  obtain ⟨u, h1, h2⟩ := byts_run (P := P) w ByteArray.empty hb hv
  refine ⟨.string u, ?_, ?_⟩
  · unfold Conv.bytesToString
    simp only [Sem.run_bind, hrun, Result.andThen_ok, Sem.run_pure, ← Array.forIn_toList]
    exact congrArg (fun r => Result.andThen r fun a w' => Result.ok (Value.string a) w') h1
  · have : nats u = r := by rw [h2]; simp [nats]
    rw [← this]; exact .str u
include H in
theorem dBStr_ok {t d el : Nat} (ho : o.op = .convert t d x) (ht : tt.ud t = some (.slice el)) (hd : tt.ud d = some .string) (hk : tt.ud el = some (.int .u8)) (hg : opd gl x = some g) : ODs P o nt gl (dBStr g) := by
  intro G e a s w v hv he hr
  have hx := opd_ok hg he
  have hex : execOp a.eval o = (do pure (.value (← convert t d (a.eval x)))) := by simp [execOp, ho]
  unfold dBStr at hv
  split at hv
  · rename_i hge
    cases hv
    rw [hge] at hx
    generalize hax : a.eval x = x' at hx
    cases hx
    have : VR G (.str []) (.string .empty) := .str ByteArray.empty
    exact ⟨.string .empty, by rw [hex, hax]; simp [convert, ud_run H w ht, ud_run H w hd, ud_run H w hk, Conv.bytesToString], this⟩
  · rename_i b o' len cap es hge
    rw [hge] at hx
    generalize hax : a.eval x = x' at hx
    obtain ⟨l0, ad, c, rfl, hl, hc, _, ha, _⟩ := hx.slice_inv
    have fin : ∀ (vs : List Value) (l : List V) (r : List Nat), (loadCells ad len).run P w = .ok ⟨vs⟩ w → VRs G l vs → byts l = some r → ∃ v', (execOp a.eval o).run P w = .ok (.value v') w ∧ VR G (.str r) v' := by
      intro vs l r h1 h2 h3
      obtain ⟨v', q1, q2⟩ := bStr_go (t := t) (d := d) (c := c) h1 h2 h3
      refine ⟨v', ?_, q2⟩
      rw [hex, hax]; simp [convert, ud_run H w ht, ud_run H w hd, ud_run H w hk, q1]
    cases len with
    | zero => cases hv; exact fin [] [] [] (by simp [loadCells, loadCellsFrom]) .nil rfl
    | succ k =>
      simp only at hv
      split at hv
      · rename_i n xs hbk
        rw [nble_eq] at hv
        by_cases hle : o' + (k + 1) ≤ n
        · simp only [Nat.add_eq, hle, decide_true] at hv
          split at hv
          · rename_i l hvs
            split at hv
            · rename_i r hb
              cases hv
              have ha : ad = ⟨l0.blk, l0.base + o', none⟩ := ha.resolve_left (by omega)
              subst ha
              obtain ⟨vs', a1, a2, a3⟩ := ldc_run (P := P) hr hbk hl hvs hle
              exact fin vs' l r (a1 w rfl) a2 hb
            · cases hv
          · cases hv
        · simp only [Nat.add_eq, hle, decide_false] at hv; cases hv
      · cases hv
  · cases hv

/-! ### Calls through interfaces -/
/-- What a method's receiver is, of what the interface holds: itself, or what it points to. -/
inductive RM where
  | self
  | ld (ag : Bool) (n : Nat)
def rcv (m : RM) (v : V) (s : St) : Option V := match m with | .self => some v | .ld ag n => ldV ag n v s
/-- Of a type: the function that does the method. -/
def invOf (tt : TT) (fok : T Bool) (name : String) (t : Nat) : Option (Nat × RM) :=
  match tt.ti t, tt.ud t with
  | some ti, some d => (match ti.methods.find? (·.name == name) with
    | some m => if m.path.isEmpty then (match m.func with
      | some (f, p) => (match fok.get f with
        | some true => (match d, p with
          | .pointer el, false => (match tt.ud el, tt.sz el with | some d, some n => some (f, .ld (aggB d) n) | _, _ => none)
          | .pointer _, true => some (f, .self)
          | _, false => some (f, .self)
          | _, _ => none)
        | _ => none)
      | none => none) else none
    | none => none)
  | _, _ => none
def invMs (tt : TT) (fok : T Bool) (name : String) (ts : List Nat) : List (Nat × Nat × RM) := ts.filterMap fun t => (invOf tt fok name t).map fun x => (t, x.1, x.2)
def findM (t : Nat) : List (Nat × Nat × RM) → Option (Nat × RM)
  | [] => none
  | p :: l => Bool.casesOn (motive := fun _ => Option (Nat × RM)) (Nat.beq p.1 t) (findM t l) (some p.2)
def eInv (ms : List (Nat × Nat × RM)) (g : E → V) (gs : List (E → V)) (k : KC) (e : E) (s : St) : Option (V × St) := match g e with
  | .iface t v => (match findM t ms with
    | some (f, m) => (match rcv m v s with | some u => k.call f (u :: evs gs e) s | none => none)
    | none => none)
  | _ => none
theorem findM_mem {t : Nat} {x : Nat × RM} : ∀ {l : List (Nat × Nat × RM)}, findM t l = some x → (t, x.1, x.2) ∈ l
  | [], h => by cases h
  | p :: l, h => by
    unfold findM at h
    cases hb : Nat.beq p.1 t with
    | true =>
      rw [hb] at h; cases h
      have := Nat.eq_of_beq_eq_true hb
      subst this
      exact List.mem_cons_self
    | false => rw [hb] at h; exact List.mem_cons_of_mem _ (findM_mem h)
theorem VR.iface_inv' {G : Pl} {t : Nat} {v : V} {x' : Value} (h : VR G (.iface t v) x') : ∃ v', x' = .iface t v' ∧ VR G v v' := by cases h; exact ⟨_, rfl, by assumption⟩
theorem wrapnil_run (w : World) (t : Nat) (a : Addr) (name : String) : (Builtin.ssaWrapNilChk_ #[t] t #[.pointer (some a), strVal "", strVal name]).run P w = .ok (.pointer (some a)) w := rfl
include H in
theorem inv_run {G : Pl} {s : St} {w : World} (hr : R G s.heap.get w) {fok : T Bool} {name : String} {t f : Nat} {m : RM} (hi : invOf tt fok name t = some (f, m)) {v u : V} {v' : Value} (hv : VR G v v') (hu : rcv m v s = some u) (n : Nat) :
    fok.get f = some true ∧ ∃ u', (method (n + 1) t v' name).run P w = .ok (f, u') w ∧ VR G u u' := by
  unfold invOf at hi
  split at hi
  · rename_i ti d h1 h2
    split at hi
    · rename_i mt hm
      split at hi
      · rename_i hp
        have hp' : mt.path.toList = [] := by simpa using hp
        split at hi
        · rename_i f' p hf
          split at hi
          · rename_i hfk
            have key : ∀ u', (receiverAt t (.val v') p (if mt.path.isEmpty then some ((name.splitOn ".").getLastD name) else none)).run P w = .ok u' w → (method (n + 1) t v' name).run P w = .ok (f', u') w := by
              intro u' hu'
              simp only [method, Sem.run_bind, ti_run H w h1, Result.andThen_ok, hm, hp', follow, Sem.run_pure, hf, hu']
            split at hi
            · rename_i el
              split at hi
              · rename_i d' n' h3 h4
                cases hi
                obtain ⟨l, b, o', rfl, rfl, u', hl, hvr⟩ := ldV_run H hr h3 h4 hu hv
                refine ⟨hfk, u', key u' ?_, hvr⟩
                simp [receiverAt, ud_run H w h2, Place.get, hp, wrapnil_run, hl, asAddr]
              · cases hi
            · cases hi; cases hu
              refine ⟨hfk, v', key v' ?_, hv⟩
              simp [receiverAt, ud_run H w h2, Place.get]
            · rename_i hnp
              cases hi; cases hu
              refine ⟨hfk, v', key v' ?_, hv⟩
              cases d <;> first | (exact absurd rfl (hnp _)) | (simp [receiverAt, ud_run H w h2, Place.get])
            · cases hi
          · cases hi
        · cases hi
      · cases hi
    · cases hi
  · cases hi
include H in
theorem eInv_ok {fok : T Bool} (hfok : ∀ f, fok.get f = some true → FOk P f) {name : String} {ts : List Nat} {args : Array Operand} {ats : Array Nat} {gs : List (E → V)} (ho : o.op = .call { callee := .invoke x name, args := args, argTypes := ats }) (hx : opd gl x = some g) (hg : opds gl args.toList = some gs) : OEs P o nt gl (eInv (invMs tt fok name ts) g gs) := by
  intro k hk G e a s w v s' hv he hs
  have hargs := opds_ok he hg
  have hxv := opd_ok hx he
  unfold eInv at hv
  split at hv
  · rename_i t u hge
    rw [hge] at hxv
    obtain ⟨u', hax, hu⟩ := hxv.iface_inv'
    split at hv
    · rename_i f m hf
      have hmem := findM_mem hf
      obtain ⟨t', _, h2⟩ := List.mem_filterMap.1 hmem
      rw [Option.map_eq_some_iff] at h2
      obtain ⟨y, h3, h4⟩ := h2
      have e1 : t' = t := congrArg (·.1) h4
      have e2 : y = (f, m) := congrArg (·.2) h4
      subst e1; subst e2
      split at hv
      · rename_i r hrc
        obtain ⟨hfk, r', hm, hr⟩ := inv_run H hs.r h3 hu hrc (P.types.size + (Made.depth - 1))
        refine Did.enter (f := f) (args := ⟨r' :: args.toList.map a.eval⟩) (w' := w) ?_ (hk f _ s v s' hv G w _ he.gl (.cons _ _ _ _ hr hargs) hs)
        have h1 : args.map a.eval = ⟨args.toList.map a.eval⟩ := by cases args; simp
        have hd : P.types.size + (Made.depth - 1) + 1 = P.types.size + Made.depth := rfl
        rw [hd] at hm
        have hc := callFunc_run (hfok f hfk) ⟨r' :: args.toList.map a.eval⟩ w
        have ht : List.take args.size (args.toList.map a.eval) = args.toList.map a.eval := List.take_of_length_le (by simp)
        simp [execOp, ho, resolve, hax, invoke, callMethod, h1, hm]
        rw [ht]
        exact hc
      · cases hv
    · cases hv
  · cases hv

/-! ### A map's entry, looked up and stored into ('m[k] += v') -/
def eME (q : V → V → Option Bool) (z : V) (g h : E → V) (_ : KC) (e : E) (s : St) : Option (V × St) := match g e with
  | .map b => (match s.heap.get b with
    | some (.map es bs cl) => (match findV q (h e) es 0 with
      | some (some (j, v)) => (match bs[j]? with | some bn => some (.tup [v, .i (Int.ofNat bn)], s.put b (.map (setAt (h e) v es j) bs cl)) | none => none)
      | some none => some (.tup [z, .i (Int.ofNat cl)], s.put b (.map (es ++ [(h e, z)]) (bs ++ [cl]) (Nat.succ cl)))
      | none => none)
    | _ => none)
  | _ => none
include H in
theorem eME_ok {t kt el : Nat} {d : TypeDesc} {ti : TypeInfo} {zv : Value} {q : V → V → Option Bool} {zz : V} (ho : o.op = .mapEntry t x y) (ht : tt.ud t = some (.map kt el)) (hd : tt.ud kt = some d) (hq : eqK d = some q) (hti : tt.ti el = some ti) (hz : ti.zero = some zv) (hzz : lowV 300 zv = some zz)
    (hg : opd gl x = some g) (hh : opd gl y = some h) : OEs P o nt gl (eME q zz g h) := by
  intro k _ G e a s w v hv s' he hs
  have hx := opd_ok hg he
  have hy := opd_ok hh he
  have hzr := zero_run H w hti hz
  have hex : execOp a.eval o = (do pure (.value (← Instr.mapEntry t (a.eval x) (a.eval y)))) := by simp [execOp, ho]
  rename_i hv0
  revert s'
  intro hv
  unfold eME at hv
  split at hv
  · rename_i b hge
    rw [hge] at hx
    split at hv
    · rename_i es bs cl hb
      obtain ⟨l, en, c1, c2, c3, c4, c5⟩ := hs.r.ob b _ hb
      generalize hax : a.eval x = x' at hx
      cases hx with
      | map _ l' hl' =>
        rw [c1] at hl'; cases hl'
        have fin : ∀ (es' : List (V × V)) (bs' : List Nat) (cl' : Nat) (en' : Array MapEntry) (r : V) (r' : Value), VR G r r' → VRs G (es'.map (·.1)) (en'.toList.map (·.key)) → VRs G (es'.map (·.2)) (en'.toList.map (·.val)) → en'.toList.map (·.born) = bs' → (Instr.mapEntry t (.map (some l.blk)) (a.eval y)).run P w = .ok r' { w with heap := w.heap.setIfInBounds l.blk (.map en' cl') } →
            Did P o a w (Post G s w r (s.put b (.map es' bs' cl'))) := by
          intro es' bs' cl' en' r r' hr e1 e2 e3 hrun
          obtain ⟨r1, r2⟩ := hs.turn (w' := { w with heap := w.heap.setIfInBounds l.blk (.map en' cl') }) (o' := .map es' bs' cl') hb rfl c1 (Touch.setObj c2 (fun _ _ _ h => nomatch h)) ⟨l, en', c1, by simp [(Array.getElem?_eq_some_iff.1 c2).1], e1, e2, e3⟩
          exact Did.value (w' := _) (by rw [hex, hax]; simp only [Sem.run_bind, hrun, Result.andThen_ok, Sem.run_pure]) ⟨G, r2, r1, hr⟩
        split at hv
        · rename_i j u hf
          split at hv
          · rename_i bn hbn
            cases hv
            rcases findV_ok hq hy hf c3 c4 with ⟨c, _⟩ | ⟨j', u', u'', e', c, a1, a2, a3, a4, a5⟩
            · cases c
            · cases c
              have a4' : en[j]? = some e' := by simpa using a4
              have hbn' : e'.born = bn := by
                rw [← c5, List.getElem?_map] at hbn
                have : en.toList[j]? = some e' := by simpa using a4'
                rw [this] at hbn; simpa using hbn
              obtain ⟨e1, e2⟩ := setAt_ok (j := j) hy a2 c3 c4
              have hval : u'' = e'.val := by
                have : ∀ (l : List MapEntry) (i j : Nat) (u : Value), Instr.findNow d (a.eval y) l i = some (some (j, u)) → ∃ e, l[j - i]? = some e ∧ u = e.val ∧ i ≤ j := by
                  intro l
                  induction l with
                  | nil => intro i j u h; cases h
                  | cons e l ih =>
                    intro i j u h
                    simp only [Instr.findNow] at h
                    split at h
                    · cases h; exact ⟨e, by simp, rfl, Nat.le_refl _⟩
                    · obtain ⟨e2, q1, q2, q3⟩ := ih _ _ _ h
                      refine ⟨e2, ?_, q2, by omega⟩
                      have : j - i = (j - (i + 1)) + 1 := by omega
                      rw [this]; simpa using q1
                    · cases h
                obtain ⟨e2, q1, q2, _⟩ := this _ _ _ _ a1
                have : en.toList[j]? = some e' := by simpa using a4'
                rw [Nat.sub_zero, this] at q1; cases q1; exact q2
              subst hval
              refine fin _ _ _ (en.modify j fun e => { e with key := a.eval y }) _ (.tuple #[e'.val, goInt bn]) (.tup _ _ (.cons _ _ _ _ a2 (.cons _ _ _ _ (.i _) .nil))) ?_ ?_ ?_ ?_
              · have : (en.modify j fun e => { e with key := a.eval y }).toList.map (·.key) = (en.modify j fun e => { e with key := a.eval y, val := e'.val }).toList.map (·.key) := by
                  rw [Array.toList_modify, Array.toList_modify]
                  apply List.ext_getElem?; intro i
                  simp only [List.getElem?_map, List.getElem?_modify]
                  split <;> cases en.toList[i]? <;> rfl
                rw [this, Array.toList_modify]; exact e1
              · have : (en.modify j fun e => { e with key := a.eval y }).toList.map (·.val) = (en.modify j fun e => { e with key := a.eval y, val := e'.val }).toList.map (·.val) := by
                  rw [Array.toList_modify, Array.toList_modify]
                  apply List.ext_getElem?; intro i
                  simp only [List.getElem?_map, List.getElem?_modify]
                  by_cases hij : j = i
                  · subst hij
                    have : en.toList[j]? = some e' := by simpa using a4'
                    simp [this]
                  · simp [hij]
                rw [this, Array.toList_modify]; exact e2
              · rw [Array.toList_modify, modify_born (fun e => { e with key := a.eval y }) (fun _ => rfl)]; exact c5
              · simp [Instr.mapEntry, ud_run H w ht, getObj_run c2, checkKey_run H w hd hq, Instr.findKey, ud_run H w hd, a1, a4', Instr.keyThatStays, a5, setObj_run c2, hbn', goInt]
          · cases hv
        · rename_i hf
          cases hv
          rcases findV_ok hq hy hf c3 c4 with ⟨_, a1⟩ | ⟨j', u', u'', e', c, _⟩
          · refine fin _ _ _ (en.push { key := a.eval y, val := zv, born := cl }) _ (.tuple #[zv, goInt cl]) (.tup _ _ (.cons _ _ _ _ (lowV_ok hzz G) (.cons _ _ _ _ (.i _) .nil))) ?_ ?_ (by simp [c5]) ?_
            · simp only [Array.toList_push, List.map_append, List.map_cons, List.map_nil]
              exact c3.append (.cons _ _ _ _ hy .nil)
            · simp only [Array.toList_push, List.map_append, List.map_cons, List.map_nil]
              exact c4.append (.cons _ _ _ _ (lowV_ok hzz G) .nil)
            · simp [Instr.mapEntry, ud_run H w ht, getObj_run c2, checkKey_run H w hd hq, Instr.findKey, ud_run H w hd, a1, hzr, setObj_run c2]
          · cases c
        · cases hv
    · cases hv
  · cases hv

def idxB (n : Nat) : List Nat → Nat → Option Nat
  | [], _ => none
  | b :: l, i => Bool.casesOn (motive := fun _ => Option Nat) (Nat.beq b n) (idxB n l (Nat.succ i)) (some i)
def setW (v : V) : List (V × V) → Nat → List (V × V)
  | [], _ => []
  | p :: es, n => Nat.rec (motive := fun _ => List (V × V)) ((p.1, v) :: es) (fun n _ => p :: setW v es n) n
theorem setW_ok {G : Pl} {v : V} {v' : Value} (hv : VR G v v') : ∀ {es : List (V × V)} {en : List MapEntry} {j : Nat}, VRs G (es.map (·.1)) (en.map (·.key)) → VRs G (es.map (·.2)) (en.map (·.val)) →
    VRs G ((setW v es j).map (·.1)) ((en.modify j fun e => { e with val := v' }).map (·.key)) ∧ VRs G ((setW v es j).map (·.2)) ((en.modify j fun e => { e with val := v' }).map (·.val))
  | [], en, j, h1, h2 => by
    cases en with
    | nil => cases j <;> exact ⟨.nil, .nil⟩
    | cons _ _ => cases h1
  | p :: es, en, j, h1, h2 => by
    cases en with
    | nil => cases h1
    | cons e en =>
      simp only [List.map_cons] at h1 h2
      cases h1 with
      | cons _ _ _ _ hx h1 =>
        cases h2 with
        | cons _ _ _ _ hy h2 =>
          cases j with
          | zero => exact ⟨.cons _ _ _ _ hx h1, .cons _ _ _ _ hv h2⟩
          | succ j =>
            obtain ⟨a1, a2⟩ := setW_ok hv (j := j) h1 h2
            exact ⟨.cons _ _ _ _ hx a1, .cons _ _ _ _ hy a2⟩
theorem idxB_ok (n : Nat) : ∀ (en : List MapEntry) (i j : Nat), idxB n (en.map (·.born)) i = some j → i ≤ j ∧ en.findIdx? (fun e => (e.born : Int) == (n : Int)) = some (j - i)
  | [], i, j, h => by cases h
  | e :: en, i, j, h => by
    simp only [List.map_cons, idxB] at h
    rw [List.findIdx?_cons]
    cases hb : Nat.beq e.born n with
    | true =>
      rw [hb] at h; cases h
      have := Nat.eq_of_beq_eq_true hb
      simp [this]
    | false =>
      rw [hb] at h
      obtain ⟨h1, h2⟩ := idxB_ok n en _ _ h
      have hne : ¬ e.born = n := fun h => by subst h; simp at hb
      have : ((e.born : Int) == (n : Int)) = false := by simp; omega
      rw [this]
      refine ⟨by omega, ?_⟩
      rw [h2]; simp; omega
def eES (g h i : E → V) (_ : KC) (e : E) (s : St) : Option (V × St) := match g e with
  | .map b => (match s.heap.get b, h e with
    | some (.map es bs cl), .i n => (match n with
      | .ofNat n => (match idxB n bs 0 with | some j => some (.tup [], s.put b (.map (setW (i e) es j) bs cl)) | none => none)
      | _ => none)
    | _, _ => none)
  | _ => none
theorem eES_ok {t : Nat} (ho : o.op = .entryStore t x y z) (hg : opd gl x = some g) (hh : opd gl y = some h) (hi : opd gl z = some i) : OEs P o nt gl (eES g h i) := by
  intro k _ G e a s w v s' hv he hs
  have hx := opd_ok hg he
  have hy := opd_ok hh he
  have hz := opd_ok hi he
  have hex : execOp a.eval o = (do Instr.entryStore t (a.eval x) (a.eval y) (a.eval z); pure .skip) := by simp [execOp, ho]
  unfold eES at hv
  split at hv
  · rename_i b hge
    rw [hge] at hx
    split at hv
    · rename_i es bs cl n' hb hhe
      split at hv
      · rename_i n
        split at hv
        · rename_i j hj
          cases hv
          rw [hhe] at hy
          obtain ⟨l, en, c1, c2, c3, c4, c5⟩ := hs.r.ob b _ hb
          generalize hax : a.eval x = x' at hx
          generalize hay : a.eval y = y' at hy
          cases hy
          cases hx with
          | map _ l' hl' =>
            rw [c1] at hl'; cases hl'
            rw [← c5] at hj
            obtain ⟨_, hj⟩ := idxB_ok n _ _ _ hj
            obtain ⟨e1, e2⟩ := setW_ok (j := j) hz c3 c4
            obtain ⟨r1, r2⟩ := hs.turn (w' := { w with heap := w.heap.setIfInBounds l.blk (.map (en.modify j fun e => { e with val := a.eval z }) cl) }) (o' := .map (setW (i e) es j) bs cl) hb rfl c1 (Touch.setObj c2 (fun _ _ _ h => nomatch h)) ⟨l, en.modify j fun e => { e with val := a.eval z }, c1, by simp [(Array.getElem?_eq_some_iff.1 c2).1], by simpa using e1, by simpa using e2, by rw [Array.toList_modify, modify_born (fun e => { e with val := a.eval z }) (fun _ => rfl)]; exact c5⟩
            have hj' : en.findIdx? (fun e => (e.born : Int) == (n : Int)) = some j := by cases en; simpa using hj
            refine Did.skip (w' := _) ?_ ⟨G, r2, r1, .tup _ _ .nil⟩
            rw [hex, hax, hay]
            simp only [Instr.entryStore, Sem.run_bind, getObj_run c2, Result.andThen_ok, asInt, asIntOf, Sem.run_pure]
            rw [show en.findIdx? (fun e => (e.born : Int) == Int.ofNat n) = some j from hj']
            simp only [setObj_run c2, Result.andThen_ok]
        · cases hv
      · cases hv
    · cases hv
  · cases hv
end
end
end Go.Proofs.YtjipdnfaokdkbaaLab
