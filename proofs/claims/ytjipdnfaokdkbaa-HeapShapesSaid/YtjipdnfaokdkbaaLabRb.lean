/- The lab: rules to reckon a run of ours by hand: memory as lists. No condition on the program. -/
import Derived.Test.YtjipdnfaokdkbaaLabRa
namespace Go.Proofs.YtjipdnfaokdkbaaLab
open Go
set_option linter.unusedVariables false
noncomputable section

/-! ### Trees without holes -/
section
variable {α : Type}
def T.Full (t : T α) (n : Nat) : Prop := ∀ i, i < n → (t.get i).isSome = true
theorem T.get_set_ne {t : T α} {i j : Nat} (x : α) (h : i ≠ j) : (t.set i x).get j = t.get j := by
  cases e : t.get j with
  | some y => exact T.get_set_other e h
  | none =>
    cases e' : (t.set i x).get j with
    | none => rfl
    | some y => rcases T.get_set e' with ⟨h', _⟩ | ⟨_, h'⟩
                · exact absurd h' h
                · rw [e] at h'; cases h'
theorem T.set_next : ∀ {t : T α} {n : Nat} (x : α), t.Full n → (t.set n x).get n = some x := by
  intro t
  induction t with
  | nil =>
    intro n x h
    cases n with
    | zero => rfl
    | succ n => have := h 0 (by omega); rw [T.get_nil] at this; cases this
  | node v l r ihl ihr =>
    intro n x h
    cases n with
    | zero => rfl
    | succ i =>
      rw [T.set_node]
      by_cases hi : i % 2 = 0
      · rw [if_pos hi, T.get_node, if_pos hi]
        refine ihl x fun j hj => ?_
        have := h (2 * j + 1) (by omega)
        rw [T.get_node, if_pos (by omega), show 2 * j / 2 = j by omega] at this
        exact this
      · rw [if_neg hi, T.get_node, if_neg hi]
        refine ihr x fun j hj => ?_
        have := h (2 * j + 1 + 1) (by omega)
        rw [T.get_node, if_neg (by omega), show (2 * j + 1) / 2 = j by omega] at this
        exact this
theorem T.set_at {t : T α} {n i : Nat} (x : α) (h : t.Full n) (hi : i ≤ n) : (t.set i x).get i = some x := T.set_next x fun j hj => h j (by omega)
theorem T.Full.set {t : T α} {n i : Nat} (x : α) (h : t.Full n) (hi : i ≤ n) : (t.set i x).Full n := fun j hj => by
  by_cases e : i = j
  · subst e; rw [T.set_at x h hi]; rfl
  · rw [T.get_set_ne x e]; exact h j hj
theorem T.Full.next {t : T α} {n : Nat} (x : α) (h : t.Full n) : (t.set n x).Full (n + 1) := fun j hj => by
  by_cases e : n = j
  · subst e; rw [T.set_next x h]; rfl
  · rw [T.get_set_ne x e]; exact h j (by omega)
end
theorem setL_spec : ∀ (vs : List V) {xs : T V} {o n : Nat}, xs.Full n → o ≤ n → (∀ i, (setL xs o vs).get i = if o ≤ i ∧ i < o + vs.length then vs[i - o]? else xs.get i) ∧ (setL xs o vs).Full (max n (o + vs.length))
  | [], xs, o, n, h, ho => ⟨fun i => by rw [if_neg (by simp)]; rfl, fun j hj => h j (by simp at hj; omega)⟩
  | v :: vs, xs, o, n, h, ho => by
    have hf : (xs.set o v).Full (max n (o + 1)) := fun j hj => by
      by_cases e : o = j
      · subst e; rw [T.set_at v h ho]; rfl
      · rw [T.get_set_ne v e]; exact h j (by omega)
    obtain ⟨h1, h2⟩ := setL_spec vs (xs := xs.set o v) (o := o + 1) (n := max n (o + 1)) hf (by omega)
    refine ⟨fun i => ?_, ?_⟩
    · show (setL (xs.set o v) (o + 1) vs).get i = _
      rw [h1 i]
      by_cases e : o = i
      · subst e
        rw [if_neg (by omega), if_pos (by simp), T.set_at v h ho]; simp
      · by_cases e1 : o + 1 ≤ i ∧ i < o + 1 + vs.length
        · rw [if_pos e1, if_pos (by simp; omega)]
          rw [show i - o = (i - (o + 1)) + 1 by omega]; simp
        · rw [if_neg e1, if_neg (by simp; omega), T.get_set_ne v e]
    · show (setL (xs.set o v) (o + 1) vs).Full _
      refine fun j hj => h2 j ?_
      simp at hj; omega
theorem Full0 {α : Type} (t : T α) : t.Full 0 := fun i hi => absurd hi (by omega)
theorem ofL_full (l : List V) : (∀ i, (ofL l).get i = l[i]?) := fun i => by
  have := (setL_spec l (xs := .nil) (o := 0) (n := 0) (Full0 _) (Nat.le_refl _)).1 i
  show (setL .nil 0 l).get i = _
  rw [this]
  by_cases h : i < l.length
  · rw [if_pos (by omega)]; simp
  · rw [if_neg (by omega), T.get_nil]; simp; omega

/-! ### Memory as lists -/
/-- The cells of a block. -/
def St.cl (s : St) (b : Nat) : Option (List V) := match s.heap.get b with
  | some (.cells n xs) => some ((List.range n).map fun i => (xs.get i).getD .undef)
  | _ => none
/-- A map's pairs, when each was born, its clock. -/
def St.mp (s : St) (b : Nat) : Option (List (V × V) × List Nat × Nat) := match s.heap.get b with
  | some (.map es bs cl) => some (es, bs, cl)
  | _ => none
def Ob.full : Ob → Prop
  | .cells n xs => xs.Full n
  | _ => True
/-- No holes. -/
structure Wf (s : St) : Prop where
  full : s.heap.Full s.next
  none : ∀ b, s.next ≤ b → s.heap.get b = Option.none
  obs : ∀ b o, s.heap.get b = some o → o.full
section
variable {s : St} {b : Nat}
theorem cl_inv {l : List V} (hw : Wf s) (h : s.cl b = some l) : ∃ xs, s.heap.get b = some (.cells l.length xs) ∧ (∀ i, i < l.length → xs.get i = l[i]?) ∧ xs.Full l.length := by
  unfold St.cl at h
  split at h
  · rename_i n xs hx
    have hf := hw.obs b _ hx
    cases h
    refine ⟨xs, by simpa using hx, fun i hi => ?_, fun i hi => hf i (by simpa using hi)⟩
    simp at hi
    have := hf i hi
    obtain ⟨y, hy⟩ := Option.isSome_iff_exists.1 this
    simp [hi, hy]
  · cases h
theorem cl_of {n : Nat} {xs : T V} {l : List V} (h : s.heap.get b = some (.cells n xs)) (hn : n = l.length) (hl : ∀ i, i < l.length → xs.get i = l[i]?) : s.cl b = some l := by
  unfold St.cl; rw [h]; simp only
  congr 1
  refine List.ext_getElem? fun i => ?_
  by_cases hi : i < l.length
  · rw [List.getElem?_map]; simp [hn, hi, hl i hi]
  · rw [List.getElem?_eq_none (by simp [hn]; omega), List.getElem?_eq_none (by omega)]
theorem cl_lt {l : List V} (hw : Wf s) (h : s.cl b = some l) : b < s.next := by
  obtain ⟨xs, hx, _⟩ := cl_inv hw h
  by_cases e : b < s.next
  · exact e
  · rw [hw.none b (by omega)] at hx; cases hx
theorem mp_inv {m : List (V × V) × List Nat × Nat} (h : s.mp b = some m) : s.heap.get b = some (.map m.1 m.2.1 m.2.2) := by
  unfold St.mp at h
  split at h
  · rename_i hx; cases h; exact hx
  · cases h
theorem mp_lt {m : List (V × V) × List Nat × Nat} (hw : Wf s) (h : s.mp b = some m) : b < s.next := by
  have hx := mp_inv h
  by_cases e : b < s.next
  · exact e
  · rw [hw.none b (by omega)] at hx; cases hx
theorem rd_lt {n : Nat} {f : Nat → Option V} (hw : Wf s) (h : rdOf s b = some (n, f)) : b < s.next := by
  by_cases e : b < s.next
  · exact e
  · unfold rdOf at h; rw [hw.none b (by omega)] at h; cases h
theorem rd_same {s' : St} (h : s'.heap.get b = s.heap.get b) : rdOf s' b = rdOf s b := by unfold rdOf; rw [h]
theorem cl_same {s' : St} (h : s'.heap.get b = s.heap.get b) : s'.cl b = s.cl b := by unfold St.cl; rw [h]
theorem mp_same {s' : St} (h : s'.heap.get b = s.heap.get b) : s'.mp b = s.mp b := by unfold St.mp; rw [h]

/-! A block turned, a block made -/
theorem Wf.put (hw : Wf s) {o : Ob} (hb : b < s.next) (ho : o.full) : Wf (s.put b o) where
  full := hw.full.set o (by omega)
  none j hj := by
    show (s.heap.set b o).get j = _
    rw [T.get_set_ne o (by have : s.next ≤ j := hj; omega)]; exact hw.none j hj
  obs j o' hj := by
    have hj : (s.heap.set b o).get j = some o' := hj
    rcases T.get_set hj with ⟨_, rfl⟩ | ⟨_, h⟩
    · exact ho
    · exact hw.obs j o' h
theorem Wf.new (hw : Wf s) {o : Ob} (ho : o.full) : Wf (s.new o) where
  full := hw.full.next o
  none j hj := by
    have hj : s.next + 1 ≤ j := hj
    show (s.heap.set s.next o).get j = _
    rw [T.get_set_ne o (by omega)]; exact hw.none j (by omega)
  obs j o' hj := by
    have hj : (s.heap.set s.next o).get j = some o' := hj
    rcases T.get_set hj with ⟨_, rfl⟩ | ⟨_, h⟩
    · exact ho
    · exact hw.obs j o' h
theorem put_at (hw : Wf s) {o : Ob} (hb : b < s.next) : (s.put b o).heap.get b = some o := T.set_at o hw.full (by omega)
theorem put_ne {o : Ob} {j : Nat} (h : j ≠ b) : (s.put b o).heap.get j = s.heap.get j := T.get_set_ne o (Ne.symm h)
theorem new_at (hw : Wf s) {o : Ob} : (s.new o).heap.get s.next = some o := T.set_next o hw.full
theorem new_ne {o : Ob} {j : Nat} (h : j ≠ s.next) : (s.new o).heap.get j = s.heap.get j := T.get_set_ne o (Ne.symm h)
end

/-- From one state to another: blocks that were there and are not in the list are as they were. -/
structure Fr (s s' : St) (l : List Nat) : Prop where
  wf : Wf s'
  nx : s.next ≤ s'.next
  same : ∀ j, j < s.next → j ∉ l → s'.heap.get j = s.heap.get j
section
variable {s s' s'' : St} {l l' : List Nat} {b : Nat}
theorem Fr.refl (hw : Wf s) (l : List Nat) : Fr s s l := ⟨hw, Nat.le_refl _, fun _ _ _ => rfl⟩
theorem Fr.trans (h : Fr s s' l) (h' : Fr s' s'' l) : Fr s s'' l := ⟨h'.wf, Nat.le_trans h.nx h'.nx, fun j hj hn => (h'.same j (Nat.lt_of_lt_of_le hj h.nx) hn).trans (h.same j hj hn)⟩
/-- Blocks that are new are nobody's. -/
theorem Fr.trans' {l2 : List Nat} (h : Fr s s' l) (h' : Fr s' s'' l2) (hl : ∀ j, j ∈ l2 → j ∈ l ∨ s.next ≤ j) : Fr s s'' l := ⟨h'.wf, Nat.le_trans h.nx h'.nx, fun j hj hn => (h'.same j (Nat.lt_of_lt_of_le hj h.nx) (fun hm => by rcases hl j hm with h | h; exact hn h; omega)).trans (h.same j hj hn)⟩
theorem Fr.mono (h : Fr s s' l) (hl : ∀ j, j ∈ l → j ∈ l' ∨ s.next ≤ j) : Fr s s' l' := ⟨h.wf, h.nx, fun j hj hn => h.same j hj fun hm => by rcases hl j hm with h | h; exact hn h; omega⟩
theorem Fr.cl {x : List V} (hw : Wf s) (h : Fr s s' l) (hb : s.cl b = some x) (hn : b ∉ l) : s'.cl b = some x := (cl_same (h.same b (cl_lt hw hb) hn)).trans hb
theorem Fr.mp {x : List (V × V) × List Nat × Nat} (hw : Wf s) (h : Fr s s' l) (hb : s.mp b = some x) (hn : b ∉ l) : s'.mp b = some x := (mp_same (h.same b (mp_lt hw hb) hn)).trans hb
end


/-! ### Operations by their operands' values -/
def kc0 : KC := ⟨0, fun _ _ _ => none⟩
def ldP (v : V) (s : St) : Option V := dLd (cV v) e0 s
def ldNP (m : Nat) (v : V) (s : St) : Option V := dLdN m (cV v) e0 s
def stP (m : Nat) (x y : V) (s : St) : Option (V × St) := eSt m (cV x) (cV y) kc0 e0 s
def apP (es : Nat) (x y : V) (s : St) : Option (V × St) := eAp es (cV x) (cV y) kc0 e0 s
def clrP (z : List V) (x : V) (s : St) : Option (V × St) := eClr z (cV x) kc0 e0 s
def cpP (es : Nat) (x y : V) (s : St) : Option (V × St) := eCp es (cV x) (cV y) kc0 e0 s
def mksP (es bytes : Nat) (z : List V) (x y : V) (id : Nat) : Option (V × Ob) := aMkS es bytes z (cV x) (cV y) e0 id
def boxP (x : V) (id : Nat) : Option (V × Ob) := aBox (cV x) e0 id
def bslP (len size : Nat) (z : List V) (ps : List (Nat × Nat × V)) (id : Nat) : Option (V × Ob) := match fillV z ps with
  | some l => Bool.casesOn (motive := fun _ => Option (V × Ob)) (allOne l) none (Bool.casesOn (motive := fun _ => Option (V × Ob)) (Nat.beq l.length (Nat.mul len size)) none (some (.slice id 0 len (some len) size, .cells l.length (ofL l))))
  | none => none
def bstrP (x : V) (s : St) : Option V := dBStr (cV x) e0 s
def lkP (q : V → V → Option Bool) (z : V) (ok : Bool) (x y : V) (s : St) : Option V := dLk q z ok (cV x) (cV y) e0 s
def muP (q : V → V → Option Bool) (x y z : V) (s : St) : Option (V × St) := eMu q (cV x) (cV y) (cV z) kc0 e0 s
def lenMP (x : V) (s : St) : Option V := dLenM (cV x) e0 s
section
variable {g h i : E → V} {k : KC} {e : E} {s : St} {id : Nat}
theorem dLd_def : dLd g e s = ldP (g e) s := (rfl)
theorem dLdN_def (m : Nat) : dLdN m g e s = ldNP m (g e) s := (rfl)
theorem eSt_def (m : Nat) : eSt m g h k e s = stP m (g e) (h e) s := (rfl)
theorem eAp_def (es : Nat) : eAp es g h k e s = apP es (g e) (h e) s := (rfl)
theorem eClr_def (z : List V) : eClr z g k e s = clrP z (g e) s := (rfl)
theorem eCp_def (es : Nat) : eCp es g h k e s = cpP es (g e) (h e) s := (rfl)
theorem aMkS_def (es bytes : Nat) (z : List V) : aMkS es bytes z g h e id = mksP es bytes z (g e) (h e) id := (rfl)
theorem aBox_def : aBox g e id = boxP (g e) id := (rfl)
theorem aBSl_def (len size : Nat) (z : List V) (ps : List (Nat × Nat × (E → V))) : aBSl len size z ps e id = bslP len size z (evP ps e) id := (rfl)
theorem dBStr_def : dBStr g e s = bstrP (g e) s := (rfl)
theorem dLk_def (q : V → V → Option Bool) (z : V) (ok : Bool) : dLk q z ok g h e s = lkP q z ok (g e) (h e) s := (rfl)
theorem eMu_def (q : V → V → Option Bool) : eMu q g h i k e s = muP q (g e) (h e) (i e) s := (rfl)
theorem dLenM_def : dLenM g e s = lenMP (g e) s := (rfl)
theorem pSl_def (es : Nat) (lo hi mx : Option (E → V)) : pSl es g lo hi mx e = slV es (g e) (evO lo e) (evO hi e) (evO mx e) := (rfl)
theorem evO_some : evO (some g) e = some (g e) := (rfl)
theorem evO_none : evO none e = none := (rfl)
end

/-! ### Loads and stores -/
section
variable {s : St} {b o : Nat} {l : List V} {v : V} {k : KC} {e : E}
theorem blkOf_cl {xs : T V} (h : s.heap.get b = some (.cells l.length xs)) : blkOf s b = some (l.length, xs) := by unfold blkOf; rw [h]
theorem dLd_eq (hw : Wf s) (h : s.cl b = some l) (hv : l[o]? = some v) : ldP (.ptr b o) s = some v := by
  obtain ⟨xs, h1, h2, _⟩ := cl_inv hw h
  have ho : o < l.length := (List.getElem?_eq_some_iff.1 hv).1
  show (match rdOf s b with | some (n, xs) => Bool.casesOn (motive := fun _ => Option V) (Nat.blt o n) none (xs o) | none => none) = _
  rw [rdOf_cells h1]; simp only
  rw [nblt_eq, decide_eq_true ho, h2 o ho, hv]
/-- A cell that is looked at, whatever block it is in. -/
theorem dLd_rd {n : Nat} {f : Nat → Option V} (h : rdOf s b = some (n, f)) (ho : o < n) : ldP (.ptr b o) s = f o := by
  show (match rdOf s b with | some (n, xs) => Bool.casesOn (motive := fun _ => Option V) (Nat.blt o n) none (xs o) | none => none) = _
  rw [h]; simp only
  rw [nblt_eq, decide_eq_true ho]
theorem dLd_at (hw : Wf s) (h : s.cl b = some l) (ho : o < l.length) : ldP (.ptr b o) s = l[o]? := by
  rw [List.getElem?_eq_getElem ho]; exact dLd_eq hw h (List.getElem?_eq_getElem ho)
theorem ldc_eq {xs : Nat → Option V} (h : ∀ i, i < l.length → xs i = l[i]?) : ∀ (n o : Nat), o + n ≤ l.length → ldc xs n o = some ((l.drop o).take n)
  | 0, o, _ => by rw [ldc_zero]; simp
  | n + 1, o, hn => by
    have ho : o < l.length := by omega
    rw [ldc_succ, h o ho, List.getElem?_eq_getElem ho]
    simp only
    rw [ldc_eq h n (o + 1) (by omega)]
    simp only
    rw [List.drop_eq_getElem_cons ho, List.take_succ_cons]
theorem dLdN_eq {m : Nat} (hw : Wf s) (h : s.cl b = some l) (hm : o + m ≤ l.length) : ldNP m (.ptr b o) s = some (.agg ((l.drop o).take m)) := by
  obtain ⟨xs, h1, h2, _⟩ := cl_inv hw h
  show (match rdOf s b with | some (n, xs) => Bool.casesOn (motive := fun _ => Option V) (Nat.ble (Nat.add o m) n) none (match ldc xs m o with | some l => some (.agg l) | none => none) | none => none) = _
  rw [rdOf_cells h1]; simp only
  have : Nat.ble (Nat.add o m) l.length = true := Nat.ble_eq_true_of_le hm
  rw [this, ldc_eq h2 m o hm]
/-- Cells of a row turned. -/
def St.st (s : St) (b o : Nat) (vs : List V) : St := match s.heap.get b with
  | some (.cells n xs) => s.put b (.cells n (setL xs o vs))
  | _ => s
/-- A list with a piece of it turned. -/
def putL (l : List V) (o : Nat) (vs : List V) : List V := l.take o ++ vs ++ l.drop (o + vs.length)
theorem putL_length {vs : List V} (h : o + vs.length ≤ l.length) : (putL l o vs).length = l.length := by simp [putL]; omega
theorem putL_get {vs : List V} (h : o + vs.length ≤ l.length) (i : Nat) : (putL l o vs)[i]? = if o ≤ i ∧ i < o + vs.length then vs[i - o]? else l[i]? := by
  unfold putL
  by_cases h1 : i < o
  · rw [if_neg (by omega), List.append_assoc, List.getElem?_append_left (by simp; omega)]
    simp [h1]
  · by_cases h2 : i < o + vs.length
    · rw [if_pos (by omega), List.append_assoc, List.getElem?_append_right (by simp; omega), List.getElem?_append_left (by simp; omega)]
      simp; congr 1; omega
    · rw [if_neg (by omega), List.getElem?_append_right (by simp; omega)]
      simp; congr 1; omega
theorem putL_one (h : o < l.length) : putL l o [v] = l.set o v := by
  refine List.ext_getElem? fun i => ?_
  rw [putL_get (show o + 1 ≤ l.length by omega), List.getElem?_set]
  by_cases e : o = i
  · subst e; simp [h]
  · rw [if_neg (by simp; omega), if_neg e]
theorem st_ok {vs : List V} (hw : Wf s) (h : s.cl b = some l) (ho : o + vs.length ≤ l.length) : (s.st b o vs).cl b = some (putL l o vs) ∧ Fr s (s.st b o vs) [b] ∧ (s.st b o vs).next = s.next := by
  obtain ⟨xs, h1, h2, h3⟩ := cl_inv hw h
  have hb := cl_lt hw h
  have e : s.st b o vs = s.put b (.cells l.length (setL xs o vs)) := by unfold St.st; rw [h1]
  obtain ⟨q1, q2⟩ := setL_spec vs h3 (o := o) (by omega)
  rw [e]
  refine ⟨cl_of (put_at hw hb) (putL_length ho).symm fun i hi => ?_, ⟨hw.put hb (fun i hi => q2 i (by omega)), Nat.le_refl _, fun j hj hn => put_ne (by simpa using hn)⟩, rfl⟩
  rw [putL_length ho] at hi
  rw [q1 i, putL_get ho, h2 i hi]
theorem eSt_ok1 (hw : Wf s) (h : s.cl b = some l) (ho : o < l.length) (h1 : v.one = true) : stP 1 (.ptr b o) v s = some (.tup [], s.st b o [v]) := by
  obtain ⟨xs, q1, q2, q3⟩ := cl_inv hw h
  have hc : cellsV v = some [v] := by cases v <;> first | rfl | cases h1
  have ha : allOne [v] = true := by unfold allOne; rw [h1]; rfl
  show (match cellsV v with
    | some l => Bool.casesOn (motive := fun _ => Option (V × St)) (Nat.beq l.length 1) none (Bool.casesOn (motive := fun _ => Option (V × St)) (allOne l) none
        (match blkOf s b with | some (n, xs) => Bool.casesOn (motive := fun _ => Option (V × St)) (Nat.ble (Nat.add o 1) n) none (some (.tup [], s.put b (.cells n (setL xs o l)))) | none => none))
    | none => none) = _
  rw [hc, blkOf_cl q1]; simp only
  rw [ha]
  have : Nat.ble (Nat.add o 1) l.length = true := Nat.ble_eq_true_of_le (show o + 1 ≤ l.length by omega)
  rw [this]
  show some (V.tup [], _) = _
  unfold St.st; rw [q1]
theorem eSt_okN {vs : List V} {m : Nat} (hw : Wf s) (h : s.cl b = some l) (hm : vs.length = m) (ho : o + m ≤ l.length) (h1 : allOne vs = true) : stP m (.ptr b o) (.agg vs) s = some (.tup [], s.st b o vs) := by
  obtain ⟨xs, q1, q2, q3⟩ := cl_inv hw h
  subst hm
  show (Bool.casesOn (motive := fun _ => Option (V × St)) (Nat.beq vs.length vs.length) none (Bool.casesOn (motive := fun _ => Option (V × St)) (allOne vs) none
        (match blkOf s b with | some (n, xs) => Bool.casesOn (motive := fun _ => Option (V × St)) (Nat.ble (Nat.add o vs.length) n) none (some (.tup [], s.put b (.cells n (setL xs o vs)))) | none => none))) = _
  rw [blkOf_cl q1, Nat.beq_refl, h1]; simp only
  have : Nat.ble (Nat.add o vs.length) l.length = true := Nat.ble_eq_true_of_le ho
  rw [this]
  unfold St.st; rw [q1]
/-- A new row. -/
theorem newCells {n : Nat} (hw : Wf s) (hn : n = l.length) : (s.new (.cells n (ofL l))).cl s.next = some l ∧ Fr s (s.new (.cells n (ofL l))) [] ∧ (s.new (.cells n (ofL l))).next = s.next + 1 := by
  subst hn
  refine ⟨cl_of (new_at hw) rfl fun i hi => ofL_full l i, ⟨hw.new fun i hi => ?_, Nat.le_succ _, fun j hj _ => new_ne (by omega)⟩, rfl⟩
  rw [ofL_full]; simpa using hi
end
end
end Go.Proofs.YtjipdnfaokdkbaaLab
