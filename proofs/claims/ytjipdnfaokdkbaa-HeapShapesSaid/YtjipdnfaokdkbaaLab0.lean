/- The lab: a machine of our own that runs the program's code in one fixed way: values, memory, and how they stand for the model's values and worlds. No condition on the program. -/
import GoSem.Step
import Derived.WalkKit
import Derived.Orders
namespace Go.Proofs.YtjipdnfaokdkbaaLab
open Go
set_option linter.unusedVariables false
noncomputable section

/-! ### Trees -/
inductive T (α : Type) where
  | nil
  | node (v : α) (l r : T α)

/-- The element at a place: 0 is the root, odd ones go left, even ones right. -/
def T.get {α : Type} (t : T α) : Nat → Option α :=
  T.rec (fun _ => none) (fun v _ _ gl gr i => Nat.rec (some v) (fun i' _ => Bool.casesOn (motive := fun _ => Option α) (Nat.beq (Nat.mod i' (nat_lit 2)) (nat_lit 0)) (gr (Nat.div i' (nat_lit 2))) (gl (Nat.div i' (nat_lit 2)))) i) t
def T.set {α : Type} (t : T α) : Nat → α → T α :=
  T.rec (fun i x => Nat.rec (.node x .nil .nil) (fun _ _ => .nil) i) (fun v l r sl sr i x => Nat.rec (.node x l r) (fun i' _ => Bool.casesOn (motive := fun _ => T α) (Nat.beq (Nat.mod i' (nat_lit 2)) (nat_lit 0)) (.node v l (sr (Nat.div i' (nat_lit 2)) x)) (.node v (sl (Nat.div i' (nat_lit 2)) x) r)) i) t

theorem nbeq_false {a b : Nat} (h : ¬ a = b) : Nat.beq a b = false := by
  cases e : Nat.beq a b with
  | false => rfl
  | true => exact absurd (Nat.eq_of_beq_eq_true e) h
section
variable {α : Type}
theorem T.get_nil (i : Nat) : (T.nil : T α).get i = none := rfl
theorem T.get_root (v : α) (l r : T α) : (T.node v l r).get 0 = some v := rfl
theorem T.get_node (v : α) (l r : T α) (i : Nat) : (T.node v l r).get (i + 1) = if i % 2 = 0 then l.get (i / 2) else r.get (i / 2) := by
  show Bool.casesOn (motive := fun _ => Option α) (Nat.beq (i % 2) 0) (r.get (i / 2)) (l.get (i / 2)) = _
  by_cases h : i % 2 = 0
  · rw [if_pos h, h]; rfl
  · rw [if_neg h, nbeq_false h]
theorem T.set_nil0 (x : α) : (T.nil : T α).set 0 x = .node x .nil .nil := rfl
theorem T.set_nil (i : Nat) (x : α) : (T.nil : T α).set (i + 1) x = .nil := rfl
theorem T.set_root (v : α) (l r : T α) (x : α) : (T.node v l r).set 0 x = .node x l r := rfl
theorem T.set_node (v : α) (l r : T α) (i : Nat) (x : α) : (T.node v l r).set (i + 1) x = if i % 2 = 0 then .node v (l.set (i / 2) x) r else .node v l (r.set (i / 2) x) := by
  show Bool.casesOn (motive := fun _ => T α) (Nat.beq (i % 2) 0) (T.node v l (r.set (i / 2) x)) (T.node v (l.set (i / 2) x) r) = _
  by_cases h : i % 2 = 0
  · rw [if_pos h, h]; rfl
  · rw [if_neg h, nbeq_false h]

/-- What is found in a tree behind a 'set': the new one at its place, or an old one elsewhere. -/
theorem T.get_set {t : T α} {i j : Nat} {x y : α} (h : (t.set i x).get j = some y) : (i = j ∧ y = x) ∨ (i ≠ j ∧ t.get j = some y) := by
  induction t generalizing i j with
  | nil =>
    cases i with
    | zero =>
      cases j with
      | zero => rw [T.set_nil0, T.get_root] at h; exact .inl ⟨rfl, (Option.some.inj h).symm⟩
      | succ j => rw [T.set_nil0, T.get_node] at h; split at h <;> cases h
    | succ i => rw [T.set_nil] at h; cases h
  | node v l r ihl ihr =>
    cases i with
    | zero =>
      cases j with
      | zero => rw [T.set_root, T.get_root] at h; exact .inl ⟨rfl, (Option.some.inj h).symm⟩
      | succ j => rw [T.set_root, T.get_node] at h; exact .inr ⟨by omega, by rw [T.get_node]; exact h⟩
    | succ i =>
      rw [T.set_node] at h
      cases j with
      | zero =>
        refine .inr ⟨by omega, ?_⟩
        split at h <;> exact h
      | succ j =>
        by_cases hi : i % 2 = 0
        · rw [if_pos hi, T.get_node] at h
          by_cases hj : j % 2 = 0
          · rw [if_pos hj] at h
            rcases ihl h with ⟨e, hy⟩ | ⟨e, hy⟩
            · exact .inl ⟨by omega, hy⟩
            · exact .inr ⟨by omega, by rw [T.get_node, if_pos hj]; exact hy⟩
          · rw [if_neg hj] at h
            exact .inr ⟨by omega, by rw [T.get_node, if_neg hj]; exact h⟩
        · rw [if_neg hi, T.get_node] at h
          by_cases hj : j % 2 = 0
          · rw [if_pos hj] at h
            exact .inr ⟨by omega, by rw [T.get_node, if_pos hj]; exact h⟩
          · rw [if_neg hj] at h
            rcases ihr h with ⟨e, hy⟩ | ⟨e, hy⟩
            · exact .inl ⟨by omega, hy⟩
            · exact .inr ⟨by omega, by rw [T.get_node, if_neg hj]; exact hy⟩

/-- A place that holds something holds the new one behind a 'set'. -/
theorem T.get_set_same {t : T α} {i : Nat} {x y : α} (h : t.get i = some y) : (t.set i x).get i = some x := by
  induction t generalizing i with
  | nil => cases h
  | node v l r ihl ihr =>
    cases i with
    | zero => rfl
    | succ i =>
      rw [T.get_node] at h
      rw [T.set_node]
      by_cases hi : i % 2 = 0
      · rw [if_pos hi] at h ⊢; rw [T.get_node, if_pos hi]; exact ihl h
      · rw [if_neg hi] at h ⊢; rw [T.get_node, if_neg hi]; exact ihr h
/-- Another place holds what it held. -/
theorem T.get_set_other {t : T α} {i j : Nat} {x y : α} (h : t.get j = some y) (hij : i ≠ j) : (t.set i x).get j = some y := by
  induction t generalizing i j with
  | nil => cases h
  | node v l r ihl ihr =>
    cases i with
    | zero =>
      cases j with
      | zero => exact absurd rfl hij
      | succ j => rw [T.set_root, T.get_node]; rw [T.get_node] at h; exact h
    | succ i =>
      rw [T.set_node]
      cases j with
      | zero => rw [T.get_root] at h; split <;> exact h
      | succ j =>
        rw [T.get_node] at h
        by_cases hi : i % 2 = 0
        · rw [if_pos hi, T.get_node]
          by_cases hj : j % 2 = 0
          · rw [if_pos hj] at h ⊢; exact ihl h (by omega)
          · rw [if_neg hj] at h ⊢; exact h
        · rw [if_neg hi, T.get_node]
          by_cases hj : j % 2 = 0
          · rw [if_pos hj] at h ⊢; exact h
          · rw [if_neg hj] at h ⊢; exact ihr h (by omega)
end

/-! ### Values and memory -/
/-- A value. 'undef': nothing is known of it. 'rem m t': an int whose remainder by m is t. An address: a block of our own and a place in it. A slice: block, place, length, capacity (none: it is not known), cells of an element. -/
inductive V where
  | undef
  | bool (b : Bool)
  | i (n : Int)
  | int (k : IntKind) (n : Int)
  | rem (m t : Int)
  | str (s : List Nat)
  | nilp
  | ptr (b o : Nat)
  | nils
  | slice (b o len : Nat) (cap : Option Nat) (es : Nat)
  | nilm
  | map (b : Nat)
  | func (f : Nat) (first captured : List V)
  | nilf
  | iface (t : Nat) (v : V)
  | nili
  | agg (l : List V)
  | tup (l : List V)
  deriving Inhabited

/-- A block: a row of cells; a map: its pairs, when each was born, its clock; a walk through a map: which is had next, of several; one that may not be looked at any more; a row that is only looked at ('ro'). -/
inductive Ob where
  | dead
  | cells (n : Nat) (xs : T V)
  | map (es : List (V × V)) (bs : List Nat) (cl : Nat)
  | iter (m : Option Nat) (since : Nat) (seen : List Nat) (last : Nat) (pref : Nat)
  | ro (n : Nat) (f : Nat → Option V)
  deriving Inhabited

structure St where
  heap : T Ob
  next : Nat

/-- Where a block of ours lies: the model's block, its first cell there, and how many cells that block has. -/
structure Loc where
  blk : Nat
  base : Nat
  tot : Nat

abbrev Pl := Nat → Option Loc

/-- One cell's value: no struct, no tuple. -/
def V.one : V → Bool
  | .agg _ | .tup _ | .undef => false
  | _ => true

mutual
/-- A value of ours stands for one of the model's. -/
inductive VR (G : Pl) : V → Value → Prop where
  | undef (v : Value) : VR G .undef v
  | bool (b : Bool) : VR G (.bool b) (.bool b)
  | i (n : Int) : VR G (.i n) (.int .i64 n)
  | int (k : IntKind) (n : Int) : VR G (.int k n) (.int k n)
  | rem (m t n : Int) : Int.tmod n m = t → VR G (.rem m t) (.int .i64 n)
  | str (s : ByteArray) : VR G (.str (s.data.toList.map UInt8.toNat)) (.string s)
  | nilp : VR G .nilp (.pointer none)
  | ptr (b o : Nat) (l : Loc) : G b = some l → VR G (.ptr b o) (.pointer (some ⟨l.blk, l.base + o, none⟩))
  | nils : VR G .nils (.slice none 0 0)
  | slice (b o len es c : Nat) (cap : Option Nat) (l : Loc) (a : Addr) : G b = some l → len ≤ c → (∀ k, cap = some k → c = k) → (c = 0 ∨ a = ⟨l.blk, l.base + o, none⟩) → (c = 0 ∨ l.base + o + c * es ≤ l.tot) → VR G (.slice b o len cap es) (.slice (some a) len c)
  | nilm : VR G .nilm (.map none)
  | map (b : Nat) (l : Loc) : G b = some l → VR G (.map b) (.map (some l.blk))
  | func (f : Nat) (x y : List V) (x' y' : List Value) : VRs G x x' → VRs G y y' → VR G (.func f x y) (.func (.func f) ⟨x'⟩ ⟨y'⟩)
  | nilf : VR G .nilf .nilFunc
  | iface (t : Nat) (v : V) (v' : Value) : VR G v v' → VR G (.iface t v) (.iface t v')
  | nili : VR G .nili .nilIface
  | agg (l : List V) (l' : List Value) : VRs G l l' → VR G (.agg l) (.agg ⟨l'⟩)
  | tup (l : List V) (l' : List Value) : VRs G l l' → VR G (.tup l) (.tuple ⟨l'⟩)
inductive VRs (G : Pl) : List V → List Value → Prop where
  | nil : VRs G [] []
  | cons (x : V) (x' : Value) (l : List V) (l' : List Value) : VR G x x' → VRs G l l' → VRs G (x :: l) (x' :: l')
end

/-- More places are known. -/
def Pl.le (G G' : Pl) : Prop := ∀ b l, G b = some l → G' b = some l
theorem Pl.le_refl (G : Pl) : G.le G := fun _ _ h => h
theorem Pl.le_trans {G G' G'' : Pl} (h : G.le G') (h' : G'.le G'') : G.le G'' := fun b l hb => h' b l (h b l hb)

mutual
theorem VR.mono {G G' : Pl} (hG : G.le G') {v : V} {v' : Value} (h : VR G v v') : VR G' v v' :=
  match h with
  | .undef v => .undef v
  | .bool b => .bool b
  | .i n => .i n
  | .int k n => .int k n
  | .rem m t n h => .rem m t n h
  | .str s => .str s
  | .nilp => .nilp
  | .ptr b o l hl => .ptr b o l (hG b l hl)
  | .nils => .nils
  | .slice b o len es c cap l a hl h1 h2 h3 h4 => .slice b o len es c cap l a (hG b l hl) h1 h2 h3 h4
  | .nilm => .nilm
  | .map b l hl => .map b l (hG b l hl)
  | .func f x y x' y' hx hy => .func f x y x' y' (VRs.mono hG hx) (VRs.mono hG hy)
  | .nilf => .nilf
  | .iface t v v' hv => .iface t v v' (VR.mono hG hv)
  | .nili => .nili
  | .agg l l' hl => .agg l l' (VRs.mono hG hl)
  | .tup l l' hl => .tup l l' (VRs.mono hG hl)
theorem VRs.mono {G G' : Pl} (hG : G.le G') {v : List V} {v' : List Value} (h : VRs G v v') : VRs G' v v' :=
  match h with
  | .nil => .nil
  | .cons x x' l l' hx hl => .cons x x' l l' (VR.mono hG hx) (VRs.mono hG hl)
end

theorem VRs.length {G : Pl} : ∀ {v : List V} {v' : List Value}, VRs G v v' → v.length = v'.length
  | _, _, .nil => rfl
  | _, _, .cons _ _ _ _ _ hl => congrArg (· + 1) hl.length
theorem VRs.append {G : Pl} : ∀ {v : List V} {v' : List Value} {u : List V} {u' : List Value}, VRs G v v' → VRs G u u' → VRs G (v ++ u) (v' ++ u')
  | _, _, _, _, .nil, h => h
  | _, _, _, _, .cons x x' l l' hx hl, h => .cons x x' _ _ hx (hl.append h)
theorem VRs.get {G : Pl} : ∀ {v : List V} {v' : List Value} {i : Nat} {x : V}, VRs G v v' → v[i]? = some x → ∃ x', v'[i]? = some x' ∧ VR G x x'
  | _, _, 0, _, .cons x x' l l' hx hl, h => ⟨x', rfl, by have := Option.some.inj h; exact this ▸ hx⟩
  | _, _, i + 1, _, .cons x x' l l' hx hl, h => hl.get (i := i) (by simpa using h)

/-- No cell of a row is frozen. -/
def fzOk (fz : Nat × Nat) (n : Nat) : Prop := fz = (0, 0) ∨ n ≤ fz.1
/-- A block of ours stands for one of the world's. -/
def ObR (G : Pl) (w : World) (b : Nat) : Ob → Prop
  | .dead => True
  | .cells n xs => ∃ l c el fz, G b = some l ∧ w.heap[l.blk]? = some (.cells c el fz) ∧ fzOk fz c.size ∧ c.size = l.tot ∧ l.base + n ≤ l.tot ∧
      ∀ i x, i < n → xs.get i = some x → ∃ x', c[l.base + i]? = some x' ∧ VR G x x' ∧ x'.oneCell' = true
  | .map es bs cl => ∃ l en, G b = some l ∧ w.heap[l.blk]? = some (.map en cl) ∧ VRs G (es.map (·.1)) (en.toList.map (·.key)) ∧ VRs G (es.map (·.2)) (en.toList.map (·.val)) ∧ en.toList.map (·.born) = bs
  | .iter m since seen last _ => ∃ l mo, G b = some l ∧ l.base = 0 ∧ w.heap[l.blk]? = some (.mapIter mo since ⟨seen⟩ last) ∧ (match m with | none => mo = none | some mb => ∃ lm, G mb = some lm ∧ mo = some lm.blk)
  | .ro n f => ∃ l c el fz, G b = some l ∧ w.heap[l.blk]? = some (.cells c el fz) ∧ c.size = l.tot ∧ l.base + n ≤ l.tot ∧
      ∀ i x, i < n → f i = some x → ∃ x', c[l.base + i]? = some x' ∧ VR G x x' ∧ x'.oneCell' = true

def Ob.live : Ob → Bool
  | .dead => false
  | _ => true
/-- One that we may turn. -/
def Ob.mine : Ob → Bool
  | .dead | .ro _ _ => false
  | _ => true
theorem Ob.mine_live {o : Ob} (h : o.mine = true) : o.live = true := by cases o <;> first | rfl | cases h
/-- One that lives; or one that we may turn. -/
def Ob.lv (m : Bool) (o : Ob) : Bool := Bool.casesOn (motive := fun _ => Bool) m o.live o.mine
theorem Ob.lv_live {m : Bool} {o : Ob} (h : o.lv m = true) : o.live = true := by cases m; exact h; exact Ob.mine_live h
theorem Ob.lv_of {m : Bool} {o : Ob} (h : o.mine = true) : o.lv m = true := by cases m; exact Ob.mine_live h; exact h
theorem Ob.lv_dead {m : Bool} (h : Ob.dead.lv m = true) : False := by cases m <;> cases h

/-- Memory of ours (a finding of blocks) stands for a world; no two blocks of ours that live share one of the world's. -/
structure R (G : Pl) (h : Nat → Option Ob) (w : World) : Prop where
  ob : ∀ b o, h b = some o → ObR G w b o
  inj : ∀ b b' o o' l l', h b = some o → h b' = some o' → o.live = true → o'.live = true → G b = some l → G b' = some l' → l.blk = l'.blk → b = b'

/-- The world's blocks that are ours; those that we may turn. -/
def own (m : Bool) (G : Pl) (h : Nat → Option Ob) (k : Nat) : Prop := ∃ b o l, h b = some o ∧ o.lv m = true ∧ G b = some l ∧ l.blk = k

/-- A row of cells keeps its type, and what is frozen of it. -/
def Rows (w w' : World) : Prop := ∀ (k : Nat) (c : Array Value) (el : TypeId) (fz : Nat × Nat), w.heap[k]? = some (.cells c el fz) → ∃ c', w'.heap[k]? = some (.cells c' el fz)
theorem Rows.refl (w : World) : Rows w w := fun k c el fz h => ⟨c, h⟩
theorem Rows.trans {w w' w'' : World} (a : Rows w w') (b : Rows w' w'') : Rows w w'' := fun k c el fz h => let ⟨c', h'⟩ := a k c el fz h; b k c' el fz h'
theorem Rows.of {w w' : World} (h : ∀ k, k < w.heap.size → w'.heap[k]? = w.heap[k]?) : Rows w w' := fun k c el fz hc => ⟨c, (h k (Array.getElem?_eq_some_iff.1 hc).1).trans hc⟩
/-- From one memory to another: more places; the world's other blocks are as they were. -/
structure Go_ (G : Pl) (h : Nat → Option Ob) (w : World) (G' : Pl) (h' : Nat → Option Ob) (w' : World) : Prop where
  le : G.le G'
  os : w'.os = w.os
  tape : w'.tape = w.tape
  output : w'.output = w.output
  size : w.heap.size ≤ w'.heap.size
  new : ∀ m k, own m G' h' k → own m G h k ∨ w.heap.size ≤ k
  same : ∀ k, k < w.heap.size → ¬ own true G h k → w'.heap[k]? = w.heap[k]?
  row : Rows w w'

theorem Go_.refl (G : Pl) (h : Nat → Option Ob) (w : World) : Go_ G h w G h w := ⟨Pl.le_refl G, rfl, rfl, rfl, Nat.le_refl _, fun _ _ hk => .inl hk, fun _ _ _ => rfl, Rows.refl w⟩
theorem Go_.trans {G G' G'' : Pl} {h h' h'' : Nat → Option Ob} {w w' w'' : World} (a : Go_ G h w G' h' w') (b : Go_ G' h' w' G'' h'' w'') : Go_ G h w G'' h'' w'' where
  le := Pl.le_trans a.le b.le
  os := b.os.trans a.os
  tape := b.tape.trans a.tape
  output := b.output.trans a.output
  size := Nat.le_trans a.size b.size
  new m k hk := by
    rcases b.new m k hk with hk | hk
    · exact a.new m k hk
    · exact .inr (Nat.le_trans a.size hk)
  same k hk hn := by
    have hn' : ¬ own true G' h' k := fun ho => by
      rcases a.new true k ho with ho | ho
      · exact hn ho
      · omega
    rw [b.same k (Nat.lt_of_lt_of_le hk a.size) hn', a.same k hk hn]
  row := a.row.trans b.row

/-- A state: what its tree holds; nothing from 'next' on; places are known of blocks below 'next' alone. -/
structure SR (G : Pl) (s : St) (w : World) : Prop where
  r : R G s.heap.get w
  fresh : ∀ b, s.next ≤ b → s.heap.get b = none
  dom : ∀ b l, G b = some l → b < s.next ∧ l.blk < w.heap.size

end
end Go.Proofs.YtjipdnfaokdkbaaLab
