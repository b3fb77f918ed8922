/- The lab: rules to reckon a run of ours by hand: regions that draw their order; bytes and texts; maps. No condition on the program. -/
import Derived.Test.YtjipdnfaokdkbaaLabRc
namespace Go.Proofs.YtjipdnfaokdkbaaLab
open Go
set_option linter.all false
noncomputable section

/-! ### Regions that draw their order -/
/-- The text's own run, and what is done with it. -/
def dr2 (k : KC) (l : List DT) (e : E) (s : St) (c : List (V × E × St) → Res) : Res := match drawRun k l e s with
  | none => .bad
  | some r => c r
section
variable {k : KC} {e : E} {s : St} {l : List DT} {u : E → V → E} {c : List (V × E × St) → Res}
theorem dDraw_eq : dDraw l k e s = dr2 k l e s fun r => Bool.casesOn (motive := fun _ => Res) (chks (snaps s l r) l e r) .bad (lastOf e s r) := (rfl)
theorem dr2_nil : dr2 k [] e s c = c [] := (rfl)
theorem dr2_p {f : E → Option V} : dr2 k (⟨none, .p f, u⟩ :: l) e s c = bP (f e) fun v => dr2 k l (u e v) s fun r => c ((v, u e v, s) :: r) := by
  simp only [dr2, drawRun, drawStep, offB]
  cases f e with
  | none => rfl
  | some v => simp only [bP]; cases drawRun k l (u e v) s <;> rfl
theorem dr2_d {lo hi : Nat} {f : E → St → Option V} : dr2 k (⟨none, .d lo hi f, u⟩ :: l) e s c = bP (f e s) fun v => dr2 k l (u e v) s fun r => c ((v, u e v, s) :: r) := by
  simp only [dr2, drawRun, drawStep, offB]
  cases f e s with
  | none => rfl
  | some v => simp only [bP]; cases drawRun k l (u e v) s <;> rfl
theorem dr2_a {f : E → Nat → Option (V × Ob)} : dr2 k (⟨none, .a f, u⟩ :: l) e s c = bE (aSt (f e s.next) s) fun v s' => dr2 k l (u e v) s' fun r => c ((v, u e v, s') :: r) := by
  simp only [dr2, drawRun, drawStep, offB]
  cases f e s.next with
  | none => rfl
  | some v => simp only [bE, aSt]; cases drawRun k l (u e v.1) (s.new v.2) <;> rfl
theorem dr2_e {f : KC → E → St → Option (V × St)} : dr2 k (⟨none, .e f, u⟩ :: l) e s c = bE (f k e s) fun v s' => dr2 k l (u e v) s' fun r => c ((v, u e v, s') :: r) := by
  simp only [dr2, drawRun, drawStep, offB]
  cases f k e s with
  | none => rfl
  | some v => simp only [bE]; cases drawRun k l (u e v.1) v.2 <;> rfl
theorem lastOf_nil : lastOf e s [] = .nrm e s := (rfl)
theorem lastOf_cons (v : V) (e' : E) (s' : St) (r : List (V × E × St)) : lastOf e s ((v, e', s') :: r) = lastOf e' s' r := (rfl)
variable {g : Option (Nat × Bool)} {v : V} {e' : E} {s' : St} {r : List (V × E × St)} {sn : List St}
theorem snaps_nil : snaps s [] r = [s] := by unfold snaps; rfl
theorem snaps_p {f : E → Option V} : snaps s (⟨g, .p f, u⟩ :: l) ((v, e', s') :: r) = snaps s l r := (rfl)
theorem snaps_d {lo hi : Nat} {f : E → St → Option V} : snaps s (⟨g, .d lo hi f, u⟩ :: l) ((v, e', s') :: r) = snaps s l r := (rfl)
theorem snaps_a {f : E → Nat → Option (V × Ob)} : snaps s (⟨g, .a f, u⟩ :: l) ((v, e', s') :: r) = snaps s l r := (rfl)
theorem snaps_e {f : KC → E → St → Option (V × St)} : snaps s (⟨g, .e f, u⟩ :: l) ((v, e', s') :: r) = s :: snaps s' l r := (rfl)
theorem chks_nil : chks sn [] e r = true := by unfold chks; rfl
theorem chks_p {f : E → Option V} : chks sn (⟨g, .p f, u⟩ :: l) e ((v, e', s') :: r) = chks sn l e' r := (rfl)
theorem chks_a {f : E → Nat → Option (V × Ob)} : chks sn (⟨g, .a f, u⟩ :: l) e ((v, e', s') :: r) = chks sn l e' r := (rfl)
theorem chks_e {f : KC → E → St → Option (V × St)} : chks sn (⟨g, .e f, u⟩ :: l) e ((v, e', s') :: r) = chks sn l e' r := (rfl)
/-- Does a look see that value? -/
def seesB (x : Option V) (v : V) : Bool := match x with | some v' => sameV 100 v' v | none => false
theorem chks_d {lo hi : Nat} {f : E → St → Option V} : chks sn (⟨none, .d lo hi f, u⟩ :: l) e ((v, e', s') :: r) = (((sn.drop lo).take (hi + 1 - lo)).all (fun t => seesB (f e t) v) && chks sn l e' r) := by
  show (Bool.casesOn (motive := fun _ => Bool) (((sn.drop lo).take (hi + 1 - lo)).all fun t => seesB (f e t) v) false (chks sn l e' r)) = _
  cases ((sn.drop lo).take (hi + 1 - lo)).all fun t => seesB (f e t) v <;> rfl
theorem sees_some (h : sameV 100 v v = true) : seesB (some v) v = true := h
theorem casesR_true (x y : Res) : Bool.casesOn (motive := fun _ => Res) true x y = y := (rfl)
end
theorem eqI_self (n : Int) : eqI n n = true := by rw [eqI_eq]; simp
theorem same_i (n : Int) : sameV 100 (.i n) (.i n) = true := eqI_self n
theorem same_bool (b : Bool) : sameV 100 (.bool b) (.bool b) = true := by cases b <;> rfl
theorem same_nils : sameV 100 .nils .nils = true := (rfl)
theorem same_ptr (b o : Nat) : sameV 100 (.ptr b o) (.ptr b o) = true := by show and (Nat.beq b b) (Nat.beq o o) = true; rw [Nat.beq_refl, Nat.beq_refl]; rfl
theorem same_map (b : Nat) : sameV 100 (.map b) (.map b) = true := Nat.beq_refl b
theorem same_slice (b o n es : Nat) (c : Option Nat) : sameV 100 (.slice b o n c es) (.slice b o n c es) = true := by
  show and (and (Nat.beq b b) (Nat.beq o o)) (and (and (Nat.beq n n) (Nat.beq es es)) (c == c)) = true
  simp

/-! ### Bytes and texts -/
section
variable {s : St} {k : KC} {e : E}
def byteV (n : Nat) : V := .int .u8 (n : Int)
theorem byts_map : ∀ (l : List Nat), (∀ n ∈ l, n < 256) → byts (l.map byteV) = some l
  | [], _ => rfl
  | n :: l, h => by
    show (match byts (l.map byteV) with | some r => some (Nat.mod (n : Int).toNat 256 :: r) | none => none) = _
    rw [byts_map l fun m hm => h m (by simp [hm])]
    have : Nat.mod (n : Int).toNat 256 = n := by rw [Int.toNat_natCast]; exact Nat.mod_eq_of_lt (h n (by simp))
    simp only [this]
theorem dBStr_eq {v : V} {l : List Nat} (hb : ∀ n ∈ l, n < 256) (h : SL s v (l.map byteV)) : bstrP v s = some (.str l) := by
  rcases h with ⟨h0, rfl | ⟨b, o, c, rfl⟩⟩ | ⟨b, o, c, n, f, hv, h2, h3, h4⟩
  · rw [List.map_eq_nil_iff] at h0; subst h0; rfl
  · rw [List.map_eq_nil_iff] at h0; subst h0; rfl
  · subst hv
    rw [List.length_map] at h3 h4 ⊢
    cases hq : l.length with
    | zero =>
      have : l = [] := List.length_eq_zero_iff.1 hq
      subst this; rfl
    | succ m =>
      show (match rdOf s b with
        | some (n, xs) => Bool.casesOn (motive := fun _ => Option V) (Nat.ble (Nat.add o (m + 1)) n) none (match ldc xs (m + 1) o with
          | some l => (match byts l with | some r => some (.str r) | none => none)
          | none => none)
        | none => none) = _
      rw [h2]; simp only
      have e1 : Nat.ble (Nat.add o (m + 1)) n = true := ble_true (show o + (m + 1) ≤ n by omega)
      have e2 : ldc f (m + 1) o = some (l.map byteV) := ldc_list (by simp [hq]) (fun i hi => h4 i (by omega))
      rw [e1, e2]; simp only
      rw [byts_map l hb]

/-! ### Maps from texts to numbers -/
theorem eqKS_eq (a b : List Nat) : eqKS (.str a) (.str b) = some (decide (a = b)) := by
  show some (eqL a b) = _
  rw [eqL_eq]; congr 1; by_cases h : a = b <;> simp [h]
/-- Where a text stands in a list. -/
def idxS (x : List Nat) : List (List Nat) → Option Nat | [] => none | y :: l => if x = y then some 0 else (idxS x l).map (· + 1)
def mkEs : List (List Nat) → Nat → List (V × V) | [], _ => [] | k :: l, i => (.str k, .i (i : Nat)) :: mkEs l (i + 1)
theorem mkEs_append : ∀ (a b : List (List Nat)) (i : Nat), mkEs (a ++ b) i = mkEs a i ++ mkEs b (i + a.length)
  | [], b, i => rfl
  | k :: a, b, i => by simp [mkEs, mkEs_append a b (i + 1), Nat.add_assoc, Nat.add_comm 1]
theorem findV_mkEs (x : List Nat) : ∀ (l : List (List Nat)) (i j : Nat), findV eqKS (.str x) (mkEs l i) j = some ((idxS x l).map fun n => (j + n, .i ((i + n : Nat) : Int)))
  | [], i, j => rfl
  | y :: l, i, j => by
    unfold mkEs findV idxS
    rw [eqKS_eq]; simp only
    by_cases h : x = y
    · rw [decide_eq_true h, if_pos h]; rfl
    · rw [decide_eq_false h, if_neg h]
      show findV eqKS (.str x) (mkEs l (i + 1)) (j + 1) = _
      rw [findV_mkEs x l (i + 1) (j + 1)]
      cases idxS x l with
      | none => rfl
      | some n => simp; omega
theorem mapOf_mp {b : Nat} {es : List (V × V)} {bs : List Nat} {cl : Nat} (h : s.mp b = some (es, bs, cl)) : mapOf s (.map b) = some es := by
  have := mp_inv h
  show (match s.heap.get b with | some (.map es _ _) => some es | _ => none) = _
  rw [this]
/-- 'v, ok := m[k]'. -/
theorem dLk_eq {b : Nat} {es : List (V × V)} {bs : List Nat} {cl : Nat} {q : V → V → Option Bool} {z x : V} {ok : Bool} (h : s.mp b = some (es, bs, cl)) : lkP q z ok (.map b) x s = lkV q z ok es x := by
  show (match mapOf s (.map b) with | some es => lkV q z ok es x | none => none) = _
  rw [mapOf_mp h]
theorem lkV_some {q : V → V → Option Bool} {z x : V} {es : List (V × V)} {n : Nat} {v : V} (h : findV q x es 0 = some (some (n, v))) : lkV q z true es x = some (.tup [v, .bool true]) := by unfold lkV; rw [h]
theorem lkV_none {q : V → V → Option Bool} {z x : V} {es : List (V × V)} (h : findV q x es 0 = some none) : lkV q z true es x = some (.tup [z, .bool false]) := by unfold lkV; rw [h]
theorem lkV1_some {q : V → V → Option Bool} {z x : V} {es : List (V × V)} {n : Nat} {v : V} (h : findV q x es 0 = some (some (n, v))) : lkV q z false es x = some v := by unfold lkV; rw [h]
theorem lkV1_none {q : V → V → Option Bool} {z x : V} {es : List (V × V)} (h : findV q x es 0 = some none) : lkV q z false es x = some z := by unfold lkV; rw [h]
theorem put_mp (hw : Wf s) {b : Nat} {m : List (V × V) × List Nat × Nat} (h : s.mp b = some m) (es : List (V × V)) (bs : List Nat) (cl : Nat) : (s.put b (.map es bs cl)).mp b = some (es, bs, cl) ∧ Fr s (s.put b (.map es bs cl)) [b] ∧ (s.put b (.map es bs cl)).next = s.next := by
  have hb := mp_lt hw h
  refine ⟨?_, ⟨hw.put hb trivial, Nat.le_refl _, fun j hj hn => put_ne (by simpa using hn)⟩, rfl⟩
  unfold St.mp; rw [put_at hw hb]
/-- A pair put into a map: a new key; a known one. -/
theorem eMu_new {b : Nat} {es : List (V × V)} {bs : List Nat} {cl : Nat} {q : V → V → Option Bool} {x y : V} (hw : Wf s) (h : s.mp b = some (es, bs, cl)) (hf : findV q x es 0 = some none) :
    ∃ s', (muP q (.map b) x y s = some (.tup [], s')) ∧ s'.mp b = some (es ++ [(x, y)], bs ++ [cl], cl + 1) ∧ Fr s s' [b] ∧ s'.next = s.next := by
  obtain ⟨h1, h2, h3⟩ := put_mp hw h (es ++ [(x, y)]) (bs ++ [cl]) (cl + 1)
  refine ⟨_, ?_, h1, h2, h3⟩
  show (match s.heap.get b with
    | some (.map es bs cl) => (match muV q es bs cl x y with | some o => some (V.tup [], s.put b o) | none => none)
    | _ => none) = _
  rw [mp_inv h]; simp only
  unfold muV; rw [hf]
theorem eMu_old {b : Nat} {es : List (V × V)} {bs : List Nat} {cl j : Nat} {q : V → V → Option Bool} {x y v : V} (hw : Wf s) (h : s.mp b = some (es, bs, cl)) (hf : findV q x es 0 = some (some (j, v))) :
    ∃ s', (muP q (.map b) x y s = some (.tup [], s')) ∧ s'.mp b = some (setAt x y es j, bs, cl) ∧ Fr s s' [b] ∧ s'.next = s.next := by
  obtain ⟨h1, h2, h3⟩ := put_mp hw h (setAt x y es j) bs cl
  refine ⟨_, ?_, h1, h2, h3⟩
  show (match s.heap.get b with
    | some (.map es bs cl) => (match muV q es bs cl x y with | some o => some (V.tup [], s.put b o) | none => none)
    | _ => none) = _
  rw [mp_inv h]; simp only
  unfold muV; rw [hf]
/-- A row of cells is no map. -/
theorem cl_mp_ne {b b' : Nat} {l : List V} {m : List (V × V) × List Nat × Nat} (hw : Wf s) (h : s.cl b = some l) (h' : s.mp b' = some m) : b ≠ b' := by
  rintro rfl
  obtain ⟨xs, h1, _⟩ := cl_inv hw h
  rw [mp_inv h'] at h1; cases h1
end
end
end Go.Proofs.YtjipdnfaokdkbaaLab
