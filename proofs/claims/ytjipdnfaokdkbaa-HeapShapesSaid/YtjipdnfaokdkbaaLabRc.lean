/- The lab: rules to reckon a run of ours by hand: what makes and turns memory. No condition on the program. -/
import Derived.Test.YtjipdnfaokdkbaaLabRb
namespace Go.Proofs.YtjipdnfaokdkbaaLab
open Go
set_option linter.unusedVariables false
noncomputable section
section
variable {s : St} {b o : Nat} {l : List V} {v : V} {k : KC} {e : E}

/-! ### Slices of slices -/
theorem bnd_i {n : Int} (h : 0 ≤ n) : bnd (.i n) = some n.toNat := by
  show (Bool.casesOn (motive := fun _ => Option Nat) (leI 0 n) none (some n.toNat)) = _
  rw [leI_eq, decide_eq_true h]
theorem bnds_of {len top : Nat} {lo hi mx : Option V} {l h m : Nat} (h1 : bndO top mx = some m) (h2 : bndO len hi = some h) (h3 : bndO 0 lo = some l) (a : m ≤ top) (b : h ≤ m) (c : l ≤ h) : bnds len top lo hi mx = some (l, h, m) := by
  unfold bnds
  rw [h1, h2, h3]; simp only
  rw [nble_eq, nble_eq, nble_eq, decide_eq_true a, decide_eq_true b, decide_eq_true c]
theorem slV_of {es b o len l h m : Nat} {cap : Option Nat} {lo hi mx : Option V} (hb : bnds len (topOf len cap) lo hi mx = some (l, h, m)) : slV es (.slice b o len cap es) lo hi mx = some (.slice b (o + l * es) (h - l) (capOf l m cap mx) es) := by
  show (Bool.casesOn (motive := fun _ => Option V) (Nat.beq es es) none _) = _
  rw [Nat.beq_refl, hb]; rfl
/-- x[lo:hi]. -/
theorem pSl_lh {es b o len : Nat} {cap : Option Nat} {lo hi : Int} (h0 : 0 ≤ lo) (h1 : lo ≤ hi) (h2 : hi ≤ topOf len cap) : slV es (.slice b o len cap es) (some (.i lo)) (some (.i hi)) none = some (.slice b (o + lo.toNat * es) (hi.toNat - lo.toNat) (capOf lo.toNat (topOf len cap) cap none) es) :=
  slV_of (bnds_of (m := topOf len cap) rfl (bnd_i (by omega)) (bnd_i h0) (Nat.le_refl _) (by omega) (by omega))
/-- x[lo:]. -/
theorem pSl_l {es b o len : Nat} {cap : Option Nat} {lo : Int} (h0 : 0 ≤ lo) (h1 : lo ≤ len) (h2 : len ≤ topOf len cap) : slV es (.slice b o len cap es) (some (.i lo)) none none = some (.slice b (o + lo.toNat * es) (len - lo.toNat) (capOf lo.toNat (topOf len cap) cap none) es) :=
  slV_of (bnds_of (m := topOf len cap) (h := len) rfl rfl (bnd_i h0) (Nat.le_refl _) (by omega) (by omega))
/-- x[:hi]. -/
theorem pSl_h {es b o len : Nat} {cap : Option Nat} {hi : Int} (h1 : 0 ≤ hi) (h2 : hi ≤ topOf len cap) : slV es (.slice b o len cap es) none (some (.i hi)) none = some (.slice b o hi.toNat (capOf 0 (topOf len cap) cap none) es) := by
  have := slV_of (es := es) (b := b) (o := o) (cap := cap) (bnds_of (len := len) (top := topOf len cap) (m := topOf len cap) (h := hi.toNat) (l := 0) (lo := none) (hi := some (.i hi)) (mx := none) rfl (bnd_i h1) rfl (Nat.le_refl _) (by omega) (by omega))
  rw [show o + 0 * es = o by omega] at this
  exact this
theorem topOf_some (len c : Nat) : topOf len (some c) = c := rfl
theorem topOf_none (len : Nat) : topOf len none = len := rfl
theorem capOf_some (l m c : Nat) : capOf l m (some c) none = some (c - l) := rfl
theorem capOf_none (l m : Nat) : capOf l m none none = none := rfl

theorem pSl_lhS {es b o len c : Nat} {lo hi : Int} (h0 : 0 ≤ lo) (h1 : lo ≤ hi) (h2 : hi ≤ c) : slV es (.slice b o len (some c) es) (some (.i lo)) (some (.i hi)) none = some (.slice b (o + lo.toNat * es) (hi.toNat - lo.toNat) (some (c - lo.toNat)) es) := pSl_lh h0 h1 h2
theorem pSl_lhN {es b o len : Nat} {lo hi : Int} (h0 : 0 ≤ lo) (h1 : lo ≤ hi) (h2 : hi ≤ len) : slV es (.slice b o len none es) (some (.i lo)) (some (.i hi)) none = some (.slice b (o + lo.toNat * es) (hi.toNat - lo.toNat) none es) := pSl_lh h0 h1 h2
theorem pSl_lS {es b o len c : Nat} {lo : Int} (h0 : 0 ≤ lo) (h1 : lo ≤ len) (h2 : len ≤ c) : slV es (.slice b o len (some c) es) (some (.i lo)) none none = some (.slice b (o + lo.toNat * es) (len - lo.toNat) (some (c - lo.toNat)) es) := pSl_l h0 h1 h2
theorem pSl_lN {es b o len : Nat} {lo : Int} (h0 : 0 ≤ lo) (h1 : lo ≤ len) : slV es (.slice b o len none es) (some (.i lo)) none none = some (.slice b (o + lo.toNat * es) (len - lo.toNat) none es) := pSl_l h0 h1 (Nat.le_refl _)
theorem pSl_hS {es b o len c : Nat} {hi : Int} (h1 : 0 ≤ hi) (h2 : hi ≤ c) : slV es (.slice b o len (some c) es) none (some (.i hi)) none = some (.slice b o hi.toNat (some c) es) := pSl_h h1 h2
theorem pSl_hN {es b o len : Nat} {hi : Int} (h1 : 0 ≤ hi) (h2 : hi ≤ len) : slV es (.slice b o len none es) none (some (.i hi)) none = some (.slice b o hi.toNat none es) := pSl_h h1 h2

/-! ### What a slice holds -/
theorem srcOf_of {es b o len : Nat} {c : Option Nat} (hw : Wf s) (h : s.cl b = some l) (ho : o + len * es ≤ l.length) : srcOf es s (.slice b o len c es) = some (len, (l.drop o).take (len * es)) := by
  obtain ⟨xs, h1, h2, _⟩ := cl_inv hw h
  cases len with
  | zero =>
    show (Bool.casesOn (motive := fun _ => Option (Nat × List V)) (Nat.beq es es) none _) = _
    rw [Nat.beq_refl, Nat.zero_mul]; rfl
  | succ len =>
    show (Bool.casesOn (motive := fun _ => Option (Nat × List V)) (Nat.beq es es) none (match rdOf s b with
        | some (n, xs) => Bool.casesOn (motive := fun _ => Option (Nat × List V)) (Nat.ble (Nat.add o (Nat.mul (len + 1) es)) n) none (match ldc xs (Nat.mul (len + 1) es) o with | some l => some (len + 1, l) | none => none)
        | none => none)) = _
    rw [Nat.beq_refl, rdOf_cells h1]; simp only
    have : Nat.ble (Nat.add o (Nat.mul (len + 1) es)) l.length = true := Nat.ble_eq_true_of_le ho
    rw [this]; simp only
    rw [show Nat.mul (len + 1) es = (len + 1) * es from rfl, ldc_eq h2 _ _ ho]
theorem one_of_get {l : List V} (h : allOne l = true) : ∀ v ∈ l, v.one = true := by
  induction l with
  | nil => intro v hv; cases hv
  | cons x l ih =>
    have h : (Bool.casesOn (motive := fun _ => Bool) x.one false (allOne l)) = true := h
    cases hx : x.one with
    | false => rw [hx] at h; cases h
    | true => rw [hx] at h; intro v hv; rcases List.mem_cons.1 hv with rfl | hv; exact hx; exact ih h v hv
theorem allOne_of {l : List V} (h : ∀ v ∈ l, v.one = true) : allOne l = true := by
  induction l with
  | nil => rfl
  | cons x l ih =>
    show (Bool.casesOn (motive := fun _ => Bool) x.one false (allOne l)) = true
    rw [h x (by simp), ih fun v hv => h v (by simp [hv])]

/-! ### Append -/
/-- What append is given. -/
structure Src (s : St) (es : Nat) (y : V) (n : Nat) (new : List V) : Prop where
  src : srcOf es s y = some (n, new)
  one : allOne new = true
  len : new.length = n * es
  le : n ≤ 100000000
theorem Src.of {es b2 o2 n2 : Nat} {c2 : Option Nat} {l2 : List V} (hw : Wf s) (h : s.cl b2 = some l2) (hb : o2 + n2 * es ≤ l2.length) (h1 : ∀ v ∈ (l2.drop o2).take (n2 * es), v.one = true) (hle : n2 ≤ 100000000) : Src s es (.slice b2 o2 n2 c2 es) n2 ((l2.drop o2).take (n2 * es)) :=
  ⟨srcOf_of hw h hb, allOne_of h1, by simp; omega, hle⟩
theorem Src.full {es b2 n2 : Nat} {c2 : Option Nat} {l2 : List V} (hw : Wf s) (h : s.cl b2 = some l2) (hb : n2 * es = l2.length) (h1 : ∀ v ∈ l2, v.one = true) (hle : n2 ≤ 100000000) : Src s es (.slice b2 0 n2 c2 es) n2 l2 := by
  have := Src.of (c2 := c2) hw h (o2 := 0) (n2 := n2) (es := es) (by omega) (by rw [List.drop_zero, hb, List.take_length]; exact h1) hle
  rwa [List.drop_zero, hb, List.take_length] at this
theorem Src.nils {es : Nat} : Src s es .nils 0 [] := ⟨rfl, rfl, by simp, by omega⟩
theorem ble_true {a b : Nat} (h : a ≤ b) : Nat.ble a b = true := Nat.ble_eq_true_of_le h
theorem ble_false {a b : Nat} (h : ¬ a ≤ b) : Nat.ble a b = false := by rw [nble_eq]; exact decide_eq_false h
theorem eAp_slice {es b o len n : Nat} {cap : Option Nat} {y : V} {new : List V} (hy : Src s es y n new) (hl : len ≤ 100000000) : apP es (.slice b o len cap es) y s = apV es (.slice b o len cap es) n new s := by
  show (match srcOf es s y with
  | some (n, new) => Bool.casesOn (motive := fun _ => Option (V × St)) (allOne new) none (Bool.casesOn (motive := fun _ => Option (V × St)) (Nat.ble n 100000000) none
      (Bool.casesOn (motive := fun _ => Option (V × St)) (Nat.ble len 100000000) none (apV es (.slice b o len cap es) n new s)))
  | none => none) = _
  rw [hy.src]; simp only
  rw [hy.one, ble_true hy.le, ble_true hl]
theorem eAp_nilV {es n : Nat} {y : V} {new : List V} (hy : Src s es y n new) : apP es .nils y s = apV es .nils n new s := by
  show (match srcOf es s y with
  | some (n, new) => Bool.casesOn (motive := fun _ => Option (V × St)) (allOne new) none (Bool.casesOn (motive := fun _ => Option (V × St)) (Nat.ble n 100000000) none (apV es .nils n new s))
  | none => none) = _
  rw [hy.src]; simp only
  rw [hy.one, ble_true hy.le]
/-- Onto nothing: a new row. -/
theorem eAp_nil {es n : Nat} {y : V} {new : List V} (hw : Wf s) (hy : Src s es y n new) (hn : 0 < n) :
    ∃ s', (apP es .nils y s = some (.slice s.next 0 n none es, s')) ∧ s'.cl s.next = some new ∧ Fr s s' [] ∧ s'.next = s.next + 1 := by
  obtain ⟨h1, h2, h3⟩ := newCells hw (l := new) (n := n * es) hy.len.symm
  refine ⟨_, ?_, h1, h2, h3⟩
  rw [eAp_nilV hy]
  cases n with
  | zero => omega
  | succ n => rfl
/-- Nothing onto a slice or nothing. -/
theorem eAp_zero {es : Nat} {y : V} (hy : Src s es y 0 []) {b o len : Nat} {cap : Option Nat} (hl : len ≤ 100000000) : apP es (.slice b o len cap es) y s = some (.slice b o len cap es, s) := by
  rw [eAp_slice hy hl]
  show (Bool.casesOn (motive := fun _ => Option (V × St)) (Nat.beq es es) none (some (V.slice b o len cap es, s))) = _
  rw [Nat.beq_refl]
theorem eAp_nil0 {es : Nat} {y : V} (hy : Src s es y 0 []) : apP es .nils y s = some (.nils, s) := by
  rw [eAp_nilV hy]; rfl
/-- Onto a slice whose room isn't known: its row has a new name. -/
theorem eAp_move {es n len : Nat} {y : V} {new : List V} (hw : Wf s) (hy : Src s es y n new) (hn : 0 < n) (hl : len ≤ 100000000) (hx : s.cl b = some l) (ho : o + len * es ≤ l.length) :
    ∃ s', (apP es (.slice b o len none es) y s = some (.slice s.next 0 (len + n) none es, s')) ∧ s'.cl s.next = some ((l.drop o).take (len * es) ++ new) ∧ Fr s s' [b] ∧ s'.next = s.next + 1 := by
  have hb := cl_lt hw hx
  have hwp := hw.put (b := b) (o := .dead) hb trivial
  have hlen : (len + n) * es = ((l.drop o).take (len * es) ++ new).length := by
    have := hy.len
    simp; rw [Nat.add_mul]; omega
  obtain ⟨h1, h2, h3⟩ := newCells hwp (l := (l.drop o).take (len * es) ++ new) (n := (len + n) * es) hlen
  refine ⟨_, ?_, h1, ⟨h2.wf, Nat.le_trans (Nat.le_refl _) h2.nx, fun j hj hn => (h2.same j hj (by simp)).trans (put_ne (by simpa using hn))⟩, h3⟩
  rw [eAp_slice hy hl]
  obtain ⟨xs, q1, _⟩ := cl_inv hw hx
  cases n with
  | zero => omega
  | succ n =>
    show (Bool.casesOn (motive := fun _ => Option (V × St)) (Nat.beq es es) none
      (match blkOf s b with | some _ => (match srcOf es s (.slice b o len none es) with | some (_, old) => apMove es (Nat.add len (n + 1)) b old new s | none => none) | none => none)) = _
    rw [Nat.beq_refl, blkOf_cl q1, srcOf_of hw hx ho]; rfl
/-- Onto a slice that has no room: a new row. -/
theorem eAp_grow {es n len c : Nat} {y : V} {new : List V} (hw : Wf s) (hy : Src s es y n new) (hn : 0 < n) (hl : len ≤ 100000000) (hc : c < len + n) (hx : s.cl b = some l) (ho : o + len * es ≤ l.length) :
    ∃ s', (apP es (.slice b o len (some c) es) y s = some (.slice s.next 0 (len + n) none es, s')) ∧ s'.cl s.next = some ((l.drop o).take (len * es) ++ new) ∧ Fr s s' [] ∧ s'.next = s.next + 1 := by
  have hlen : (len + n) * es = ((l.drop o).take (len * es) ++ new).length := by
    have := hy.len
    simp; rw [Nat.add_mul]; omega
  obtain ⟨h1, h2, h3⟩ := newCells hw (l := (l.drop o).take (len * es) ++ new) (n := (len + n) * es) hlen
  refine ⟨_, ?_, h1, h2, h3⟩
  rw [eAp_slice hy hl]
  cases n with
  | zero => omega
  | succ n =>
    show (Bool.casesOn (motive := fun _ => Option (V × St)) (Nat.beq es es) none
      (Bool.casesOn (motive := fun _ => Option (V × St)) (Nat.ble (Nat.add len (n + 1)) c)
            (match srcOf es s (.slice b o len (some c) es) with | some (_, old) => apNew es (Nat.add len (n + 1)) old new s | none => none) _)) = _
    rw [Nat.beq_refl, ble_false (show ¬ Nat.add len (n + 1) ≤ c by show ¬ len + (n + 1) ≤ c; omega), srcOf_of hw hx ho]; rfl
/-- Onto a slice that has room: in place. -/
theorem eAp_place {es n len c : Nat} {y : V} {new : List V} (hw : Wf s) (hy : Src s es y n new) (hn : 0 < n) (hl : len ≤ 100000000) (hc : len + n ≤ c) (hx : s.cl b = some l) (ho : o + (len + n) * es ≤ l.length) :
    ∃ s', (apP es (.slice b o len (some c) es) y s = some (.slice b o (len + n) (some c) es, s')) ∧ s'.cl b = some (putL l (o + len * es) new) ∧ Fr s s' [b] ∧ s'.next = s.next := by
  have hlen := hy.len
  have hle : o + len * es + new.length ≤ l.length := by rw [hlen]; rw [Nat.add_mul] at ho; omega
  obtain ⟨h1, h2, h3⟩ := st_ok hw hx hle
  refine ⟨_, ?_, h1, h2, h3⟩
  rw [eAp_slice hy hl]
  obtain ⟨xs, q1, _⟩ := cl_inv hw hx
  cases n with
  | zero => omega
  | succ n =>
    show (Bool.casesOn (motive := fun _ => Option (V × St)) (Nat.beq es es) none
      (Bool.casesOn (motive := fun _ => Option (V × St)) (Nat.ble (Nat.add len (n + 1)) c) _
            (match blkOf s b with
             | some (m, xs) => Bool.casesOn (motive := fun _ => Option (V × St)) (Nat.ble (Nat.add (Nat.add o (Nat.mul len es)) (Nat.mul (n + 1) es)) m) none (some (.slice b o (Nat.add len (n + 1)) (some c) es, s.put b (.cells m (setL xs (Nat.add o (Nat.mul len es)) new))))
             | none => none))) = _
    have e1 : Nat.ble (Nat.add len (n + 1)) c = true := ble_true hc
    have e2 : Nat.ble (Nat.add (Nat.add o (Nat.mul len es)) (Nat.mul (n + 1) es)) l.length = true := ble_true (show o + len * es + (n + 1) * es ≤ l.length by rw [← hlen]; exact hle)
    rw [Nat.beq_refl, e1, blkOf_cl q1]; simp only
    rw [e2]
    unfold St.st; rw [q1]; rfl

/-! ### Cells of one value; structs put together -/
theorem one_i (n : Int) : (V.i n).one = true := (rfl)
theorem one_int (k : IntKind) (n : Int) : (V.int k n).one = true := (rfl)
theorem one_bool (t : Bool) : (V.bool t).one = true := (rfl)
theorem one_str (t : List Nat) : (V.str t).one = true := (rfl)
theorem one_ptr (b o : Nat) : (V.ptr b o).one = true := (rfl)
theorem one_nilp : V.nilp.one = true := (rfl)
theorem one_nils : V.nils.one = true := (rfl)
theorem one_slice (b o n es : Nat) (c : Option Nat) : (V.slice b o n c es).one = true := (rfl)
theorem one_map (b : Nat) : (V.map b).one = true := (rfl)
theorem one_nilm : V.nilm.one = true := (rfl)
theorem one_func (f : Nat) (a b : List V) : (V.func f a b).one = true := (rfl)
theorem one_iface (t : Nat) (v : V) : (V.iface t v).one = true := (rfl)
theorem allOne_nil : allOne [] = true := (rfl)
theorem allOne_cons (v : V) (l : List V) : allOne (v :: l) = (v.one && allOne l) := by
  show (Bool.casesOn (motive := fun _ => Bool) v.one false (allOne l)) = _
  cases v.one <;> rfl
theorem pBuild_eq (z : List V) (gs : List (Nat × Nat × (E → V))) : pBuild z gs e = (fillV z (evP gs e)).map .agg := by unfold pBuild; cases fillV z (evP gs e) <;> rfl
theorem fillV_nil (z : List V) : fillV z [] = some z := (rfl)
theorem fillV_one {z : List V} {off : Nat} {r : List (Nat × Nat × V)} (h1 : v.one = true) (ho : off < z.length) : fillV z ((off, 1, v) :: r) = fillV (z.set off v) r := by
  have hc : cellsV v = some [v] := by cases v <;> first | rfl | cases h1
  show (match cellsV v with
    | some vc => Bool.casesOn (motive := fun _ => Option (List V)) (Nat.beq vc.length 1) none (Bool.casesOn (motive := fun _ => Option (List V)) (Nat.ble (Nat.add off 1) z.length) none (fillV (splice z off vc) r))
    | none => none) = _
  rw [hc]
  show (Bool.casesOn (motive := fun _ => Option (List V)) (Nat.ble (Nat.add off 1) z.length) none (fillV (splice z off [v]) r)) = _
  rw [ble_true (show Nat.add off 1 ≤ z.length from ho), show splice z off [v] = putL z off [v] by unfold splice putL; rw [List.append_assoc]; rfl, putL_one ho]
theorem fillV_agg {z vs : List V} {off m : Nat} {r : List (Nat × Nat × V)} (hm : vs.length = m) (ho : off + m ≤ z.length) : fillV z ((off, m, .agg vs) :: r) = fillV (putL z off vs) r := by
  subst hm
  show (Bool.casesOn (motive := fun _ => Option (List V)) (Nat.beq vs.length vs.length) none (Bool.casesOn (motive := fun _ => Option (List V)) (Nat.ble (Nat.add off vs.length) z.length) none (fillV (splice z off vs) r))) = _
  rw [Nat.beq_refl, ble_true (show Nat.add off vs.length ≤ z.length from ho), show splice z off vs = putL z off vs by unfold splice putL; rw [List.append_assoc]; rfl]
theorem new_next (o : Ob) : (s.new o).next = s.next + 1 := (rfl)
theorem uPart_one {l : List V} (off n : Nat) : uPart false off n (.agg l) = l[off]? := (rfl)
theorem bBool_eq (x y : Bool) : bBool false (.bool x) (.bool y) = some (.bool (decide (x = y))) := by cases x <;> cases y <;> rfl
theorem bBool_ne (x y : Bool) : bBool true (.bool x) (.bool y) = some (.bool (!decide (x = y))) := by cases x <;> cases y <;> rfl
theorem bNil_map (ng : Bool) (b : Nat) : bNil ng nilM (.map b) .nilm = some (.bool ng) := by cases ng <;> rfl
theorem bNil_slice (ng : Bool) (b o n es : Nat) (c : Option Nat) : bNil ng nilS (.slice b o n c es) .nils = some (.bool ng) := by cases ng <;> rfl
theorem bNil_nils (ng : Bool) : bNil ng nilS .nils .nils = some (.bool (!ng)) := by cases ng <;> rfl
theorem bNil_nilm (ng : Bool) : bNil ng nilM .nilm .nilm = some (.bool (!ng)) := by cases ng <;> rfl
theorem cInt64_eq {n : Int} (h1 : -9223372036854775808 ≤ n) (h2 : n < 9223372036854775808) : cInt .i64 (.i n) = some (.i n) := by show some (V.i (w64 n)) = _; rw [w64_of ⟨h1, h2⟩]

/-! ### New rows -/
/-- A slice literal of one element. -/
theorem aBSl_one {z : V} {id : Nat} (h1 : v.one = true) : bslP 1 1 [z] [(0, 1, v)] id = some (.slice id 0 1 (some 1) 1, .cells 1 (ofL [v])) := by
  have hc : cellsV v = some [v] := by cases v <;> first | rfl | cases h1
  have ha : allOne [v] = true := allOne_of (by simpa using h1)
  have hf : fillV [z] [(0, 1, v)] = some [v] := by
    show (match cellsV v with
      | some vc => Bool.casesOn (motive := fun _ => Option (List V)) (Nat.beq vc.length 1) none (Bool.casesOn (motive := fun _ => Option (List V)) (Nat.ble (Nat.add 0 1) [z].length) none (fillV (splice [z] 0 vc) []))
      | none => none) = _
    rw [hc]; rfl
  unfold bslP
  rw [hf]; simp only
  rw [ha]; rfl
/-- A slice literal of one struct. -/
theorem aBSl_agg {z vs : List V} {id m : Nat} (hz : z.length = m) (hm : vs.length = m) (h1 : ∀ v ∈ vs, v.one = true) : bslP 1 m z [(0, m, .agg vs)] id = some (.slice id 0 1 (some 1) m, .cells m (ofL vs)) := by
  have ha : allOne vs = true := allOne_of h1
  have hf : fillV z [(0, m, .agg vs)] = some vs := by
    show (Bool.casesOn (motive := fun _ => Option (List V)) (Nat.beq vs.length m) none (Bool.casesOn (motive := fun _ => Option (List V)) (Nat.ble (Nat.add 0 m) z.length) none (fillV (splice z 0 vs) []))) = _
    have e1 : Nat.beq vs.length m = true := by rw [hm]; exact Nat.beq_refl m
    have e2 : Nat.ble (Nat.add 0 m) z.length = true := ble_true (show 0 + m ≤ _ by omega)
    rw [e1, e2]
    show some (splice z 0 vs) = _
    unfold splice
    have : z.drop (Nat.add 0 vs.length) = [] := List.drop_eq_nil_of_le (show _ ≤ 0 + vs.length by omega)
    rw [this]; simp
  unfold bslP
  rw [hf]; simp only
  have e3 : Nat.beq vs.length (Nat.mul 1 m) = true := by rw [hm, show Nat.mul 1 m = m from Nat.one_mul m]; exact Nat.beq_refl m
  rw [ha, e3, hm]
theorem zer_rep (n : Nat) (z : V) : zer n [z] = List.replicate n z := by
  unfold zer
  refine List.ext_getElem? fun i => ?_
  by_cases h : i < n
  · simp [h, Nat.mod_one]
  · simp [h]
/-- make([]T, n) of one cell each. -/
theorem aMkS_one {bytes n c : Nat} {z : V} {id : Nat} (hl : n ≤ c) (hb : c * bytes ≤ 16777216) (hc : c ≤ 16777216) : mksP 1 bytes [z] (.i n) (.i c) id = some (.slice id 0 n (some c) 1, .cells c (ofL (List.replicate c z))) := by
  show (Bool.casesOn (motive := fun _ => Option (V × Ob)) (Nat.ble n c) none (Bool.casesOn (motive := fun _ => Option (V × Ob)) (Nat.ble (Nat.mul c bytes) 16777216) none (Bool.casesOn (motive := fun _ => Option (V × Ob)) (Nat.ble c 16777216) none
      (some (.slice id 0 n (some c) 1, .cells (Nat.mul c 1) (ofL (zer (Nat.mul c 1) [z]))))))) = _
  rw [ble_true hl, ble_true (show Nat.mul c bytes ≤ _ from hb), ble_true hc, show Nat.mul c 1 = c from Nat.mul_one c, zer_rep]
theorem aMkS_i {bytes : Nat} {n : Int} {z : V} {id : Nat} (h0 : 0 ≤ n) (hb : n.toNat * bytes ≤ 16777216) (hc : n ≤ 16777216) : mksP 1 bytes [z] (.i n) (.i n) id = some (.slice id 0 n.toNat (some n.toNat) 1, .cells n.toNat (ofL (List.replicate n.toNat z))) := by
  have := aMkS_one (bytes := bytes) (n := n.toNat) (c := n.toNat) (z := z) (id := id) (Nat.le_refl _) hb (by omega)
  rwa [show ((n.toNat : Nat) : Int) = n by omega] at this
theorem aMk_eq {id : Nat} : aMk e id = some (.map id, .map [] [] 0) := rfl
theorem aBox_agg {vs : List V} {id : Nat} (h1 : allOne vs = true) : boxP (.agg vs) id = some (.ptr id 0, .cells vs.length (ofL vs)) := by
  show (Bool.casesOn (motive := fun _ => Option (V × Ob)) (allOne vs) none (some (.ptr id 0, .cells vs.length (ofL vs)))) = _
  rw [h1]
theorem aBox_one {id : Nat} (h1 : v.one = true) : boxP v id = some (.ptr id 0, .cells 1 (ofL [v])) := by
  have hc : cellsV v = some [v] := by cases v <;> first | rfl | cases h1
  show (match cellsV v with | some l => Bool.casesOn (motive := fun _ => Option (V × Ob)) (allOne l) none (some (.ptr id 0, .cells l.length (ofL l))) | none => none) = _
  rw [hc]; simp only
  rw [allOne_of (l := [v]) (by simpa using h1)]; rfl
theorem aAl_eq {n id : Nat} {t : T V} : aAl n t e id = some (.ptr id 0, .cells n t) := rfl
/-- A new row, by its operation. -/
theorem new_ex {n : Nat} (hw : Wf s) (hn : n = l.length) : ∃ s', s.new (.cells n (ofL l)) = s' ∧ s'.cl s.next = some l ∧ Fr s s' [] ∧ s'.next = s.next + 1 := by
  obtain ⟨h1, h2, h3⟩ := newCells hw hn
  exact ⟨_, rfl, h1, h2, h3⟩
/-- A cell that is turned. -/
theorem eSt_ex (hw : Wf s) (h : s.cl b = some l) (ho : o < l.length) (h1 : v.one = true) : ∃ s', (stP 1 (.ptr b o) v s = some (.tup [], s')) ∧ s'.cl b = some (l.set o v) ∧ Fr s s' [b] ∧ s'.next = s.next := by
  obtain ⟨q1, q2, q3⟩ := st_ok (vs := [v]) hw h (show o + 1 ≤ l.length by omega)
  rw [putL_one ho] at q1
  exact ⟨_, eSt_ok1 hw h ho h1, q1, q2, q3⟩
theorem eSt_exN {vs : List V} {m : Nat} (hw : Wf s) (h : s.cl b = some l) (hm : vs.length = m) (ho : o + m ≤ l.length) (h1 : ∀ v ∈ vs, v.one = true) : ∃ s', (stP m (.ptr b o) (.agg vs) s = some (.tup [], s')) ∧ s'.cl b = some (putL l o vs) ∧ Fr s s' [b] ∧ s'.next = s.next := by
  obtain ⟨q1, q2, q3⟩ := st_ok (o := o) (vs := vs) hw h (by omega)
  exact ⟨_, eSt_okN hw h hm ho (allOne_of h1), q1, q2, q3⟩
/-- clear(x). -/
theorem eClr_ex {z : V} {len : Nat} {c : Option Nat} {es : Nat} (hw : Wf s) (h : s.cl b = some l) (ho : o + len ≤ l.length) : ∃ s', (clrP [z] (.slice b o len c es) s = some (.tup [], s')) ∧ s'.cl b = some (putL l o (List.replicate len z)) ∧ Fr s s' [b] ∧ s'.next = s.next := by
  obtain ⟨xs, p1, _⟩ := cl_inv hw h
  cases len with
  | zero =>
    refine ⟨s, ?_, ?_, Fr.refl hw _, rfl⟩
    · rfl
    · rw [h]; congr 1
      refine List.ext_getElem? fun i => ?_
      rw [putL_get (by simpa using ho)]; simp; intro a b; omega
  | succ len =>
    obtain ⟨q1, q2, q3⟩ := st_ok (vs := List.replicate (len + 1) z) hw h (by simpa using ho)
    refine ⟨_, ?_, q1, q2, q3⟩
    show (Bool.casesOn (motive := fun _ => Option (V × St)) (Nat.beq (len + 1) 0)
      (match blkOf s b with | some (n, xs) => Bool.casesOn (motive := fun _ => Option (V × St)) (Nat.ble (Nat.add o (Nat.mul (len + 1) 1)) n) none (some (.tup [], s.put b (.cells n (setL xs o (zer (Nat.mul (len + 1) 1) [z]))))) | none => none) (some (.tup [], s))) = _
    have e1 : Nat.ble (Nat.add o (Nat.mul (len + 1) 1)) l.length = true := ble_true (show o + (len + 1) * 1 ≤ l.length by omega)
    rw [blkOf_cl p1]; simp only
    rw [e1]
    unfold St.st; rw [p1, show Nat.mul (len + 1) 1 = len + 1 from Nat.mul_one _, zer_rep]; rfl
end

/-! ### Lists that grow -/
/-- The block of a slice. -/
def blkV : V → List Nat | .slice b _ _ _ _ => [b] | _ => []
/-- A slice that the program grows itself. -/
def GL (s : St) (v : V) (l : List V) : Prop := (l = [] ∧ v = .nils) ∨ ∃ b, v = .slice b 0 l.length none 1 ∧ s.cl b = some l
section
variable {s : St} {v x : V} {l : List V}
theorem GL.fr {s' : St} {L : List Nat} (h : GL s v l) (hw : Wf s) (f : Fr s s' L) (hd : ∀ b, b ∈ blkV v → b ∉ L) : GL s' v l := by
  rcases h with h | ⟨b, h1, h2⟩
  · exact .inl h
  · subst h1; exact .inr ⟨b, rfl, f.cl hw h2 (hd b (by simp [blkV]))⟩
theorem GL.len (h : GL s v l) : uLenS v = some (.i (l.length : Nat)) := by
  rcases h with ⟨rfl, rfl⟩ | ⟨b, rfl, h2⟩ <;> rfl
/-- What a slice of one-cell elements holds. -/
def SL (s : St) (v : V) (l : List V) : Prop := (l = [] ∧ (v = .nils ∨ ∃ b o c, v = .slice b o 0 c 1)) ∨ ∃ b o c n f, v = .slice b o l.length c 1 ∧ rdOf s b = some (n, f) ∧ o + l.length ≤ n ∧ ∀ i, i < l.length → f (o + i) = l[i]?
theorem SL.of {b o : Nat} {c : Option Nat} {M : List V} (hw : Wf s) (h : s.cl b = some M) (h2 : o + l.length ≤ M.length) (h3 : ∀ i, i < l.length → M[o + i]? = l[i]?) : SL s (.slice b o l.length c 1) l := by
  obtain ⟨xs, q1, q2, _⟩ := cl_inv hw h
  exact .inr ⟨b, o, c, _, _, rfl, rdOf_cells q1, h2, fun i hi => by rw [q2 _ (by omega)]; exact h3 i hi⟩
theorem GL.sl (hw : Wf s) (h : GL s v l) : SL s v l := by
  rcases h with h | ⟨b, rfl, h2⟩
  · exact .inl ⟨h.1, .inl h.2⟩
  · exact SL.of hw h2 (by omega) (fun i _ => by rw [Nat.zero_add])
theorem SL.fr {s' : St} {L : List Nat} (h : SL s v l) (hw : Wf s) (f : Fr s s' L) (hd : ∀ b, b ∈ blkV v → b ∉ L) : SL s' v l := by
  rcases h with h | ⟨b, o, c, n, g, h1, h2, h3⟩
  · exact .inl h
  · subst h1; exact .inr ⟨b, o, c, n, g, rfl, (rd_same (f.same b (rd_lt hw h2) (hd b (by simp [blkV])))).trans h2, h3⟩
theorem SL.len (h : SL s v l) : uLenS v = some (.i (l.length : Nat)) := by
  rcases h with ⟨rfl, rfl | ⟨b, o, c, rfl⟩⟩ | ⟨b, o, c, n, g, rfl, h2⟩ <;> rfl
/-- An element of it. -/
theorem SL.at (hw : Wf s) (h : SL s v l) {j : Nat} {x : V} (hx : l[j]? = some x) : ∃ q, bIdx 1 v (.i (j : Nat)) = some q ∧ ldP q s = some x := by
  have hj := (List.getElem?_eq_some_iff.1 hx).1
  rcases h with ⟨rfl, _⟩ | ⟨b, o, c, n, g, rfl, h2, h3, h4⟩
  · simp at hx
  · refine ⟨_, bIdx1_eq (by omega) (by omega), ?_⟩
    rw [show ((j : Nat) : Int).toNat = j by omega, dLd_rd h2 (by omega), h4 j hj, hx]
theorem ldc_list {g : Nat → Option V} : ∀ {m o : Nat} {l : List V}, l.length = m → (∀ i, i < m → g (o + i) = l[i]?) → ldc g m o = some l
  | 0, o, l, hl, _ => by rw [ldc_zero, List.length_eq_zero_iff.1 hl]
  | m + 1, o, [], hl, _ => by simp at hl
  | m + 1, o, x :: l, hl, hg => by
    have h0 : g o = some x := hg 0 (by omega)
    rw [ldc_succ, h0]; simp only
    rw [ldc_list (m := m) (o := o + 1) (l := l) (by simpa using hl) (fun i hi => by
      have := hg (i + 1) (by omega)
      rw [show o + 1 + i = o + (i + 1) by omega, this]; simp)]
/-- All of it, for append. -/
theorem SL.src (h : SL s v l) (h1 : ∀ x ∈ l, x.one = true) (hl : l.length ≤ 100000000) : Src s 1 v l.length l := by
  rcases h with ⟨rfl, rfl | ⟨b, o, c, rfl⟩⟩ | ⟨b, o, c, n, g, rfl, h2, h3, h4⟩
  · exact Src.nils
  · exact ⟨rfl, rfl, by simp, by simp⟩
  · refine ⟨?_, allOne_of h1, by simp, hl⟩
    cases hq : l.length with
    | zero =>
      have : l = [] := List.length_eq_zero_iff.1 hq
      subst this; rfl
    | succ k =>
      show (Bool.casesOn (motive := fun _ => Option (Nat × List V)) (Nat.beq 1 1) none (match rdOf s b with
        | some (n, xs) => Bool.casesOn (motive := fun _ => Option (Nat × List V)) (Nat.ble (Nat.add o (Nat.mul (k + 1) 1)) n) none (match ldc xs (Nat.mul (k + 1) 1) o with | some l => some (k + 1, l) | none => none)
        | none => none)) = _
      rw [h2]; simp only
      have e1 : Nat.ble (Nat.add o (Nat.mul (k + 1) 1)) n = true := ble_true (show o + (k + 1) * 1 ≤ n by omega)
      have e2 : ldc g (Nat.mul (k + 1) 1) o = some l := by
        rw [show Nat.mul (k + 1) 1 = k + 1 from Nat.mul_one _]
        exact ldc_list hq (fun i hi => h4 i (by omega))
      rw [Nat.beq_refl, e1, e2]
/-- One more at the end: 'append(v, x)'. -/
theorem GL.push (hw : Wf s) (h : GL s v l) (h1 : x.one = true) (ho : ∀ y ∈ l, y.one = true) (hl : l.length ≤ 100000000) :
    ∃ s1 s2, s.new (.cells 1 (ofL [x])) = s1 ∧ (apP 1 v (.slice s.next 0 1 (some 1) 1) s1 = some (.slice (s.next + 1) 0 (l.length + 1) none 1, s2)) ∧
      GL s2 (.slice (s.next + 1) 0 (l.length + 1) none 1) (l ++ [x]) ∧ Fr s s2 (blkV v) ∧ s2.next = s.next + 2 := by
  obtain ⟨s1, e1, c1, f1, n1⟩ := new_ex (s := s) (l := [x]) (n := 1) hw rfl
  have hy : Src s1 1 (.slice s.next 0 1 (some 1) 1) 1 [x] := Src.full f1.wf c1 rfl (by simpa using h1) (by omega)
  rcases h with ⟨rfl, rfl⟩ | ⟨b, rfl, h2⟩
  · obtain ⟨s2, e2, c2, f2, n2⟩ := eAp_nil f1.wf hy (by omega)
    rw [n1] at e2 c2
    exact ⟨s1, s2, e1, e2, .inr ⟨_, rfl, c2⟩, f1.trans f2, by omega⟩
  · have hb := cl_lt hw h2
    obtain ⟨s2, e2, c2, f2, n2⟩ := eAp_move (s := s1) (es := 1) (len := l.length) (o := 0) (b := b) f1.wf hy (by omega) hl (f1.cl hw h2 (by simp)) (by omega)
    rw [n1] at e2 c2
    refine ⟨s1, s2, e1, e2, .inr ⟨s.next + 1, by simp, ?_⟩, (f1.mono (by simp)).trans f2, by omega⟩
    rw [c2]; simp
end
end
end Go.Proofs.YtjipdnfaokdkbaaLab
