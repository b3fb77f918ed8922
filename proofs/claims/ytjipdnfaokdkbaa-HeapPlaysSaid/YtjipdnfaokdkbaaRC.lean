/- The document's heap: its functions that turn it. No condition on the program. -/
import Derived.Test.YtjipdnfaokdkbaaRB
namespace Go.Proofs.YtjipdnfaokdkbaaLab
open Go
set_option linter.all false
set_option maxRecDepth 10000
noncomputable section
theorem flat_append (o : O) (q : Nat × Option Nat) : ∀ (a : Nat) (os : List O) (bs : List (Nat × Option Nat)), bs.length = os.length → flat a (os ++ [o]) (bs ++ [q]) = flat a os bs ++ [.i ((a + (lay os).length : Nat) : Int), .i o.shape, .slice q.1 0 o.f.length q.2 1, .i o.tag]
  | a, [], bs, h => by
    have : bs = [] := List.length_eq_zero_iff.1 h
    subst this
    obtain ⟨b, c⟩ := q
    simp [flat, lay]
  | a, x :: os, [], h => by simp at h
  | a, x :: os, (b, c) :: bs, h => by
    have := flat_append o q (a + x.n) os bs (by simpa using h)
    simp only [List.cons_append, flat, this, lay, List.length_append, O.ws_len, Nat.add_assoc]
theorem flat_one : ∀ (a : Nat) (os : List O) (bs : List (Nat × Option Nat)), ∀ v ∈ flat a os bs, v.one = true
  | a, [], bs, v, h => by simp [flat] at h
  | a, x :: os, [], v, h => by simp [flat] at h
  | a, x :: os, (b, c) :: bs, v, h => by
    simp only [flat, List.mem_cons] at h
    rcases h with rfl | rfl | rfl | rfl | h
    · rfl
    · rfl
    · rfl
    · rfl
    · exact flat_one _ _ _ v h
theorem flat_set {o o' : O} (h1 : o'.shape = o.shape) (h2 : o'.f.length = o.f.length) : ∀ (a : Nat) (os : List O) (bs : List (Nat × Option Nat)) (i : Nat), os[i]? = some o → bs.length = os.length → flat a (os.set i o') bs = (flat a os bs).set (4 * i + 3) (.i o'.tag)
  | a, [], bs, i, h, _ => by simp at h
  | a, x :: os, [], i, h, hl => by simp at hl
  | a, x :: os, (b, c) :: bs, 0, h, hl => by
    simp at h; subst h
    simp only [List.set_cons_zero, flat, h1, h2, Nat.mul_zero, Nat.zero_add, List.set_cons_succ]
    simp only [O.n, h2]
  | a, x :: os, (b, c) :: bs, i + 1, h, hl => by
    have := flat_set h1 h2 (a + x.n) os bs i (by simpa using h) (by simpa using hl)
    rw [show 4 * (i + 1) + 3 = 4 * i + 3 + 1 + 1 + 1 + 1 by omega]
    simp only [List.set_cons_succ, flat, this]
theorem set_self {α : Type} : ∀ {l : List α} {i : Nat} {x : α}, l[i]? = some x → l.set i x = l
  | [], i, x, h => by simp at h
  | y :: l, 0, x, h => by simp at h; subst h; rfl
  | y :: l, i + 1, x, h => by simp only [List.set_cons_succ]; rw [set_self (by simpa using h)]
theorem turn_set (g : O → O) {os : List O} {i : Nat} {o : O} {r : Int} (h : os[i]? = some o) (hr : r = ((lay (os.take i)).length : Nat)) : turn g os r = os.set i (g o) := by
  have hi := (List.getElem?_eq_some_iff.1 h)
  obtain ⟨hl, he⟩ := hi
  have e : os = os.take i ++ o :: os.drop (i + 1) := by
    rw [← he, ← List.drop_eq_getElem_cons hl, List.take_append_drop]
  have e2 := turn_of g (os.take i) o (os.drop (i + 1))
  rw [← e, ← hr] at e2
  rw [e2, List.set_eq_take_append_cons_drop, if_pos hl]
theorem ROs.lt {s : St} {FO : List Nat} {b : Nat} {bs : List (Nat × Option Nat)} {os : List O} (hw : Wf s) (h3 : bs.length = os.length) (h7 : ∀ (i : Nat) o, os[i]? = some o → ∃ q, bs[i]? = some q ∧ s.cl q.1 = some (o.f.map .i)) : ∀ q ∈ bs, q.1 < s.next := fun q hq => by
  obtain ⟨i, hi, rfl⟩ := List.getElem_of_mem hq
  obtain ⟨q', q1, q2⟩ := h7 i os[i] (List.getElem?_eq_getElem (by omega))
  rw [List.getElem?_eq_getElem hi] at q1
  cases q1
  exact cl_lt hw q2
/-- One more object. -/
theorem ROs.push {s : St} {FO : List Nat} {lV y : V} {os : List O} {o : O} {B : Nat} {c : Option Nat} (hw : Wf s) (h : ROs s FO lV os) (hy : Src s 4 y 1 [.i ((1 + (lay os).length : Nat) : Int), .i o.shape, .slice B 0 o.f.length c 1, .i o.tag]) (hB : s.cl B = some (o.f.map .i)) (hBn : B ∉ FO) (hl : os.length ≤ 100000) :
    ∃ s', apP 4 lV y s = some (.slice s.next 0 (os.length + 1) none 4, s') ∧ ROs s' (s.next :: B :: FO) (.slice s.next 0 (os.length + 1) none 4) (os ++ [o]) ∧ Fr s s' (blkV lV) ∧ s'.next = s.next + 1 := by
  have hBl := cl_lt hw hB
  rcases h with ⟨rfl, rfl⟩ | ⟨b, bs, rfl, h2, h3, h4, h5, h6, h7⟩
  · obtain ⟨s', e1, c1, f1, n1⟩ := eAp_nil hw hy (by omega)
    refine ⟨s', e1, .inr ⟨s.next, [(B, c)], rfl, ?_, rfl, by simp, by simp, by simp; omega, ?_⟩, f1.mono (by simp), n1⟩
    · rw [c1]; simp [flat, lay]
    · intro i x hx
      cases i with
      | zero => simp at hx; subst hx; exact ⟨_, rfl, f1.cl hw hB (by simp)⟩
      | succ i => simp at hx
  · obtain ⟨s', e1, c1, f1, n1⟩ := eAp_move (o := 0) (len := os.length) hw hy (by omega) (by omega) h2 (by rw [flat_len _ _ _ h3]; omega)
    have hlt := ROs.lt (FO := FO) (b := b) hw h3 h7
    rw [List.nodup_cons] at h6
    have hbB : b ≠ B := fun e => hBn (e ▸ h4)
    refine ⟨s', e1, .inr ⟨s.next, bs ++ [(B, c)], by simp, ?_, by simp [h3], by simp, ?_, ?_, ?_⟩, f1, n1⟩
    · rw [c1, flat_append _ _ _ _ _ h3, List.drop_zero, List.take_of_length_le (by rw [flat_len _ _ _ h3]; omega)]
    · intro q hq
      rcases List.mem_append.1 hq with hq | hq
      · simp [h5 q hq]
      · simp at hq; subst hq; simp
    · rw [List.map_append, List.nodup_cons, List.nodup_append]
      refine ⟨?_, h6.2, by simp, ?_⟩
      · intro hm
        rcases List.mem_append.1 hm with hm | hm
        · obtain ⟨q, hq, e⟩ := List.mem_map.1 hm
          have := hlt q hq; omega
        · simp at hm; omega
      · intro a ha a' ha'
        simp at ha'; subst ha'
        rintro rfl
        obtain ⟨q, hq, e⟩ := List.mem_map.1 ha
        exact hBn (e ▸ h5 q hq)
    · intro i x hx
      by_cases hi : i < os.length
      · rw [List.getElem?_append_left hi] at hx
        obtain ⟨q, q1, q2⟩ := h7 i x hx
        refine ⟨q, by rw [List.getElem?_append_left (by omega)]; exact q1, f1.cl hw q2 ?_⟩
        simp only [List.mem_singleton]
        rintro e
        exact h6.1 (e ▸ List.mem_map.2 ⟨q, List.mem_of_getElem? q1, rfl⟩)
      · rw [List.getElem?_append_right (by omega)] at hx
        have hi2 : i = os.length := by have := (List.getElem?_eq_some_iff.1 hx).1; simp at this; omega
        subst hi2
        simp at hx; subst hx
        refine ⟨(B, c), by rw [List.getElem?_append_right (by omega)]; simp [h3], f1.cl hw hB ?_⟩
        simp only [List.mem_singleton]; exact fun e => hbB e.symm
theorem ROs.blk {s : St} {FO : List Nat} {lV : V} {os : List O} (h : ROs s FO lV os) : (∀ b ∈ blkV lV, b ∈ FO) ∧ sameV 100 lV lV = true := by
  rcases h with ⟨rfl, rfl⟩ | ⟨b, bs, rfl, h2, h3, h4, _⟩
  · exact ⟨by simp [blkV], rfl⟩
  · exact ⟨by simp [blkV, h4], same_slice _ _ _ _ _⟩
theorem ShR.len {s : St} {F : List Nat} {v : V} {l : List (List Bool)} (h : ShR s F v l) : uLenS v = some (.i (l.length : Nat)) := by
  rcases h with ⟨h0, rfl⟩ | ⟨b, L, F0, rfl, _⟩
  · rw [h0]; rfl
  · rfl
section
variable {s : St} {rp : Nat} {w : Int} {os : List O} {shapes : List (List Bool)} {FO FS : List Nat} (H : RR s rp w os shapes FO FS)
include H
theorem RR.lens : os.length ≤ 16384 := by
  have := lay_len3 os
  have := H.w0
  have := H.lw
  omega
theorem RR.put (d : Nat) (shape : Int) (m : Nat) (hm : m < 20000) :
    (w < (lay os).length + 3 + m → (K (d + 2)).call 46 [.ptr rp 0, .i shape, .i m] s = some (.tup [.i 0, .i 26], s)) ∧
    (((lay os).length + 3 + m : Int) ≤ w → ∃ s' FO', (K (d + 2)).call 46 [.ptr rp 0, .i shape, .i m] s = some (.tup [.i ((1 + (lay os).length : Nat) : Int), .i 0], s') ∧ RR s' rp w (os ++ [newO shape m]) shapes FO' FS ∧ (∀ b ∈ FO', b ∈ FO ∨ s.next ≤ b) ∧ Fr s s' (rp :: FO)) := by
  have eu := H.used d
  obtain ⟨lV, shV, h1, hO, hS⟩ := H.ex
  have hw := H.wf
  have hsz := H.sz
  have hw0 := H.w0
  have hlw := H.lw
  have hlens := H.lens
  refine ⟨fun hlt => ?_, fun hle => ?_⟩
  · have c : w - ((lay os).length : Nat) < 3 + m := by omega
    rw [op46]
    simp -implicitDefEqProofs (maxSteps := 5000000) (disch := first | assumption | omega | (simp only [one_i, one_int, one_bool, one_str, one_ptr, one_nilp, one_nils, one_slice, one_map, one_nilm, one_func, one_iface, same_i, same_bool, same_nils, same_ptr, same_map, same_slice, List.length_cons, List.length_nil, Nat.zero_add, Nat.reduceAdd, allOne_cons, allOne_nil, Bool.and_self]; done) | (simp only [List.length_cons, List.length_nil, List.length_map, List.length_set]; omega)) only [go_sem, fAdd_eq, eu, dLd_at hw h1, c]
  · have c : ¬ w - ((lay os).length : Nat) < 3 + m := by omega
    obtain ⟨s1, e1, c1, f1, n1⟩ := new_ex (s := s) (l := List.replicate m (V.i 0)) (n := m) hw (by simp)
    obtain ⟨s2, e2, c2, f2, n2⟩ := new_ex (s := s1) (l := [V.i (((lay os).length : Nat) + 1), V.i shape, V.slice s.next 0 m (some m) 1, V.i 0]) (n := 4) f1.wf rfl
    have f12 := f1.trans f2
    have hO2 := (hO.fr hw f12 (by simp))
    have hs : s.next ∉ FO := fun hm' => by have := H.ltO _ hm'; omega
    have hrp := cl_lt hw h1
    have hBc : s2.cl s.next = some ((newO shape m).f.map .i) := by rw [f2.cl f1.wf c1 (by simp)]; simp [newO]
    have hlf : (newO shape m).f.length = m := by simp [newO]
    have hsrc : Src s2 4 (.slice s1.next 0 1 (some 1) 4) 1 [.i ((1 + (lay os).length : Nat) : Int), .i (newO shape m).shape, .slice s.next 0 (newO shape m).f.length (some m) 1, .i (newO shape m).tag] := by
      refine Src.full f2.wf ?_ rfl (by intro v hv; simp at hv; rcases hv with rfl | rfl | rfl | rfl <;> rfl) (by omega)
      rw [c2, hlf]; simp [newO]; omega
    obtain ⟨s3, e3, hO3, f3, n3⟩ := hO2.push f2.wf (o := newO shape m) (B := s.next) (c := some m) hsrc hBc hs (by omega)
    obtain ⟨b1, b2⟩ := hO.blk
    have F3 : Fr s s3 (rp :: FO) := (f12.mono (by simp)).trans (f3.mono (fun x hx => .inl (by simp [b1 x hx])))
    have h13 : s3.cl rp = some [.i w, lV, shV] := f3.cl f2.wf (f12.cl hw h1 (by simp)) (fun hx => H.nO (b1 _ hx))
    obtain ⟨s4, e4, c4, f4, n4⟩ := eSt_ex (s := s3) (o := 1) (v := .slice s2.next 0 (os.length + 1) none 4) f3.wf h13 (by simp) rfl
    simp only [List.set_cons_succ, List.set_cons_zero] at c4
    have F4 : Fr s s4 (rp :: FO) := F3.trans (f4.mono (by simp))
    have hlay : (lay (os ++ [newO shape m])).length = (lay os).length + 3 + m := by simp [lay_append, lay, newO, O.ws]; omega
    have q := f2.nx
    have q1 := f1.nx
    refine ⟨s4, s2.next :: s.next :: FO, ?_, ⟨f4.wf, ⟨_, shV, c4, hO3.fr f3.wf f4 ?_, hS.fr hw F4 ?_⟩, ?_, H.nS, ?_, by omega, hw0, by omega, ?_, ?_⟩, ?_, F4⟩
    · rw [op46]
      simp -implicitDefEqProofs (maxSteps := 5000000) (disch := first | assumption | omega | (simp only [one_i, one_int, one_bool, one_str, one_ptr, one_nilp, one_nils, one_slice, one_map, one_nilm, one_func, one_iface, same_i, same_bool, same_nils, same_ptr, same_map, same_slice, List.length_cons, List.length_nil, Nat.zero_add, Nat.reduceAdd, allOne_cons, allOne_nil, Bool.and_self]; done) | (simp only [List.length_cons, List.length_nil, List.length_map, List.length_set]; omega)) only [go_sem, fAdd_eq, eu, dLd_at hw h1, c, Int.toNat_natCast, e1, e2, e3, e4, b2]
      simp; omega
    · intro b hb
      simp only [List.mem_cons, List.not_mem_nil, or_false] at hb ⊢
      rcases hb with rfl | rfl | hb
      · omega
      · omega
      · rintro rfl; exact H.nO hb
    · intro b hb
      simp only [List.mem_cons]
      rintro (rfl | h)
      · exact H.nS hb
      · exact H.nOS _ h hb
    · simp only [List.mem_cons]
      rintro (h | h | h)
      · omega
      · omega
      · exact H.nO h
    · intro b hb
      simp only [List.mem_cons] at hb
      rcases hb with rfl | rfl | hb
      · intro h; have := H.ltS _ h; omega
      · intro h; have := H.ltS _ h; omega
      · exact H.nOS b hb
    · intro b hb
      simp only [List.mem_cons] at hb
      rcases hb with rfl | rfl | hb
      · omega
      · omega
      · exact Nat.lt_of_lt_of_le (H.ltO b hb) F4.nx
    · intro b hb; exact Nat.lt_of_lt_of_le (H.ltS b hb) F4.nx
    · intro b hb
      simp only [List.mem_cons] at hb
      rcases hb with rfl | rfl | hb
      · right; omega
      · right; omega
      · exact .inl hb
theorem RR.array (d : Nat) (ofRefs : Bool) (m : Int) :
    ((m < 0 ∨ 256 < m) → (K (d + 3)).call 30 [.ptr rp 0, .bool ofRefs, .i m] s = some (.tup [.i 0, .i 1], s)) ∧
    (0 ≤ m → m ≤ 256 → w < (lay os).length + 3 + m → (K (d + 3)).call 30 [.ptr rp 0, .bool ofRefs, .i m] s = some (.tup [.i 0, .i 26], s)) ∧
    (0 ≤ m → m ≤ 256 → (lay os).length + 3 + m ≤ w → ∃ s' FO', (K (d + 3)).call 30 [.ptr rp 0, .bool ofRefs, .i m] s = some (.tup [.i ((1 + (lay os).length : Nat) : Int), .i 0], s') ∧ RR s' rp w (os ++ [newO (if ofRefs then -2 else -1) m.toNat]) shapes FO' FS ∧ (∀ b ∈ FO', b ∈ FO ∨ s.next ≤ b) ∧ Fr s s' (rp :: FO)) := by
  refine ⟨fun h => ?_, fun h1 h2 h3 => ?_, fun h1 h2 h3 => ?_⟩
  · rw [op30]
    by_cases c : m < 0
    · simp -implicitDefEqProofs (maxSteps := 5000000) (disch := first | assumption | omega | (simp only [one_i, one_int, one_bool, one_str, one_ptr, one_nilp, one_nils, one_slice, one_map, one_nilm, one_func, one_iface, same_i, same_bool, same_nils, same_ptr, same_map, same_slice, List.length_cons, List.length_nil, Nat.zero_add, Nat.reduceAdd, allOne_cons, allOne_nil, Bool.and_self]; done) | (simp only [List.length_cons, List.length_nil, List.length_map, List.length_set]; omega)) only [go_sem, c]
    · have c2 : 256 < m := by omega
      simp -implicitDefEqProofs (maxSteps := 5000000) (disch := first | assumption | omega | (simp only [one_i, one_int, one_bool, one_str, one_ptr, one_nilp, one_nils, one_slice, one_map, one_nilm, one_func, one_iface, same_i, same_bool, same_nils, same_ptr, same_map, same_slice, List.length_cons, List.length_nil, Nat.zero_add, Nat.reduceAdd, allOne_cons, allOne_nil, Bool.and_self]; done) | (simp only [List.length_cons, List.length_nil, List.length_map, List.length_set]; omega)) only [go_sem, c, c2]
  · have c : ¬ m < 0 := by omega
    have c2 : ¬ 256 < m := by omega
    obtain ⟨q, _⟩ := H.put d (if ofRefs then -2 else -1) m.toNat (by omega)
    have q := q (by omega)
    rw [show ((m.toNat : Nat) : Int) = m by omega] at q
    rw [op30]
    cases ofRefs <;> simp only [if_true, if_false, Bool.false_eq_true] at q <;> simp -implicitDefEqProofs (maxSteps := 5000000) (disch := first | assumption | omega | (simp only [one_i, one_int, one_bool, one_str, one_ptr, one_nilp, one_nils, one_slice, one_map, one_nilm, one_func, one_iface, same_i, same_bool, same_nils, same_ptr, same_map, same_slice, List.length_cons, List.length_nil, Nat.zero_add, Nat.reduceAdd, allOne_cons, allOne_nil, Bool.and_self]; done) | (simp only [List.length_cons, List.length_nil, List.length_map, List.length_set]; omega)) only [go_sem, c, c2, q]
  · have c : ¬ m < 0 := by omega
    have c2 : ¬ 256 < m := by omega
    obtain ⟨_, q⟩ := H.put d (if ofRefs then -2 else -1) m.toNat (by omega)
    obtain ⟨s', FO', q, r⟩ := q (by omega)
    rw [show ((m.toNat : Nat) : Int) = m by omega] at q
    refine ⟨s', FO', ?_, r⟩
    rw [op30]
    cases ofRefs <;> simp only [if_true, if_false, Bool.false_eq_true] at q <;> simp -implicitDefEqProofs (maxSteps := 5000000) (disch := first | assumption | omega | (simp only [one_i, one_int, one_bool, one_str, one_ptr, one_nilp, one_nils, one_slice, one_map, one_nilm, one_func, one_iface, same_i, same_bool, same_nils, same_ptr, same_map, same_slice, List.length_cons, List.length_nil, Nat.zero_add, Nat.reduceAdd, allOne_cons, allOne_nil, Bool.and_self]; done) | (simp only [List.length_cons, List.length_nil, List.length_map, List.length_set]; omega)) only [go_sem, c, c2, q]
theorem RR.object (d : Nat) (r : Int) (hsh : shapes.length < 100000) :
    ((r < 0 ∨ (shapes.length : Int) ≤ r) → (K (d + 3)).call 29 [.ptr rp 0, .i r] s = some (.tup [.i 0, .i 1], s)) ∧
    (∀ l, 0 ≤ r → shapes[r.toNat]? = some l → l.length < 20000 → w < (lay os).length + 3 + l.length → (K (d + 3)).call 29 [.ptr rp 0, .i r] s = some (.tup [.i 0, .i 26], s)) ∧
    (∀ l, 0 ≤ r → shapes[r.toNat]? = some l → l.length < 20000 → ((lay os).length + 3 + l.length : Int) ≤ w → ∃ s' FO', (K (d + 3)).call 29 [.ptr rp 0, .i r] s = some (.tup [.i ((1 + (lay os).length : Nat) : Int), .i 0], s') ∧ RR s' rp w (os ++ [newO r l.length]) shapes FO' FS ∧ (∀ b ∈ FO', b ∈ FO ∨ s.next ≤ b) ∧ Fr s s' (rp :: FO)) := by
  obtain ⟨lV, sh, h1, hO, hS⟩ := H.ex
  have hw := H.wf
  have eS := hS.len
  have key : ∀ l, 0 ≤ r → shapes[r.toNat]? = some l → ∃ q v, bIdx 1 sh (.i r) = some q ∧ ldP q s = some v ∧ uLenS v = some (.i (l.length : Nat)) := fun l h0 hl => by
    have hlt := (List.getElem?_eq_some_iff.1 hl).1
    rcases hS with ⟨h0', rfl⟩ | ⟨b, L, F0, rfl, a2, a3, a4, a5, a7, a8, a6⟩
    · rw [h0'] at hlt; simp at hlt
    · obtain ⟨v, b1, b2⟩ := a6 _ _ hl
      refine ⟨_, v, bIdx1_eq h0 (by omega), ?_, b2.len⟩
      rw [Nat.zero_add]; exact dLd_eq hw a3 b1
  refine ⟨fun h => ?_, fun l h0 hl hlen hn => ?_, fun l h0 hl hlen hn => ?_⟩
  · rw [op29]
    by_cases c : r < 0
    · simp -implicitDefEqProofs (maxSteps := 5000000) (disch := first | assumption | omega | (simp only [one_i, one_int, one_bool, one_str, one_ptr, one_nilp, one_nils, one_slice, one_map, one_nilm, one_func, one_iface, same_i, same_bool, same_nils, same_ptr, same_map, same_slice, List.length_cons, List.length_nil, Nat.zero_add, Nat.reduceAdd, allOne_cons, allOne_nil, Bool.and_self]; done) | (simp only [List.length_cons, List.length_nil, List.length_map, List.length_set]; omega)) only [go_sem, c]
    · have c2 : (shapes.length : Int) ≤ r := by omega
      simp -implicitDefEqProofs (maxSteps := 5000000) (disch := first | assumption | omega | (simp only [one_i, one_int, one_bool, one_str, one_ptr, one_nilp, one_nils, one_slice, one_map, one_nilm, one_func, one_iface, same_i, same_bool, same_nils, same_ptr, same_map, same_slice, List.length_cons, List.length_nil, Nat.zero_add, Nat.reduceAdd, allOne_cons, allOne_nil, Bool.and_self]; done) | (simp only [List.length_cons, List.length_nil, List.length_map, List.length_set]; omega)) only [go_sem, c, c2, dLd_at hw h1, eS]
  · have c : ¬ r < 0 := by omega
    have hlt := (List.getElem?_eq_some_iff.1 hl).1
    have c2 : ¬ (shapes.length : Int) ≤ r := by omega
    obtain ⟨q, v, k1, k2, k3⟩ := key l h0 hl
    have ep := (H.put d r l.length hlen).1 hn
    rw [op29]
    simp -implicitDefEqProofs (maxSteps := 5000000) (disch := first | assumption | omega | (simp only [one_i, one_int, one_bool, one_str, one_ptr, one_nilp, one_nils, one_slice, one_map, one_nilm, one_func, one_iface, same_i, same_bool, same_nils, same_ptr, same_map, same_slice, List.length_cons, List.length_nil, Nat.zero_add, Nat.reduceAdd, allOne_cons, allOne_nil, Bool.and_self]; done) | (simp only [List.length_cons, List.length_nil, List.length_map, List.length_set]; omega)) only [go_sem, c, c2, dLd_at hw h1, eS, k1, k2, k3, ep]
  · have c : ¬ r < 0 := by omega
    have hlt := (List.getElem?_eq_some_iff.1 hl).1
    have c2 : ¬ (shapes.length : Int) ≤ r := by omega
    obtain ⟨q, v, k1, k2, k3⟩ := key l h0 hl
    obtain ⟨s', FO', ep, hr⟩ := (H.put d r l.length hlen).2 hn
    refine ⟨s', FO', ?_, hr⟩
    rw [op29]
    simp -implicitDefEqProofs (maxSteps := 5000000) (disch := first | assumption | omega | (simp only [one_i, one_int, one_bool, one_str, one_ptr, one_nilp, one_nils, one_slice, one_map, one_nilm, one_func, one_iface, same_i, same_bool, same_nils, same_ptr, same_map, same_slice, List.length_cons, List.length_nil, Nat.zero_add, Nat.reduceAdd, allOne_cons, allOne_nil, Bool.and_self]; done) | (simp only [List.length_cons, List.length_nil, List.length_map, List.length_set]; omega)) only [go_sem, c, c2, dLd_at hw h1, eS, k1, k2, k3, ep]
end
end
end Go.Proofs.YtjipdnfaokdkbaaLab
