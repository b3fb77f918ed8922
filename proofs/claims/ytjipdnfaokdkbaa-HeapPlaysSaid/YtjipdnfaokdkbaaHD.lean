/- The heap's functions: references, stores, new objects. No condition on the program. -/
import Derived.Test.YtjipdnfaokdkbaaHC
namespace Go.Proofs.YtjipdnfaokdkbaaLab
open Go
set_option linter.all false
set_option maxRecDepth 10000
noncomputable section
/-- A list of truths in memory. -/
def BL (s : St) (F : List Nat) (v : V) (l : List Bool) : Prop :=
  (l = [] ∧ (v = .nils ∨ ∃ b o c, v = .slice b o 0 c 1)) ∨ ∃ b o c M, v = .slice b o l.length c 1 ∧ b ∈ F ∧ s.cl b = some M ∧ o + l.length ≤ M.length ∧ ∀ k, k < l.length → M[o + k]? = l[k]?.map V.bool
/-- The shapes in memory. -/
def ShR (s : St) (F : List Nat) (sh : V) (shapes : List (List Bool)) : Prop :=
  (shapes = [] ∧ sh = .nils) ∨ ∃ b L F0, sh = .slice b 0 shapes.length none 1 ∧ b ∈ F ∧ s.cl b = some L ∧ L.length = shapes.length ∧ (∀ v ∈ L, v.one = true) ∧ (∀ x ∈ F0, x ∈ F) ∧ b ∉ F0 ∧ ∀ (i : Nat) l, shapes[i]? = some l → ∃ v, L[i]? = some v ∧ BL s F0 v l
def ShOk (os : List O) (shapes : List (List Bool)) : Prop := ∀ o ∈ os, o.shape = -1 ∨ o.shape = -2 ∨ (0 ≤ o.shape ∧ ∃ l, shapes[o.shape.toNat]? = some l ∧ l.length = o.f.length)
theorem BL.sub {s : St} {F F' : List Nat} {v : V} {l : List Bool} (h : BL s F v l) (hF : ∀ b ∈ F, b ∈ F') : BL s F' v l := by
  rcases h with h | ⟨b, o, c, M, rfl, h2, h3⟩
  · exact .inl h
  · exact .inr ⟨b, o, c, M, rfl, hF b h2, h3⟩
theorem BL.fr {s s' : St} {F l' : List Nat} {v : V} {l : List Bool} (h : BL s F v l) (hw : Wf s) (f : Fr s s' l') (hd : ∀ b, b ∈ F → b ∉ l') : BL s' F v l := by
  rcases h with h | ⟨b, o, c, M, h1, h2, h3, h4⟩
  · exact .inl h
  · exact .inr ⟨b, o, c, M, h1, h2, f.cl hw h3 (hd b h2), h4⟩
theorem ShR.fr {s s' : St} {F l' : List Nat} {v : V} {l : List (List Bool)} (h : ShR s F v l) (hw : Wf s) (f : Fr s s' l') (hd : ∀ b, b ∈ F → b ∉ l') : ShR s' F v l := by
  rcases h with h | ⟨b, L, F0, h1, h2, h3, h4, h5, h7, h8, h6⟩
  · exact .inl h
  · refine .inr ⟨b, L, F0, h1, h2, f.cl hw h3 (hd b h2), h4, h5, h7, h8, fun i l hl => ?_⟩
    obtain ⟨v, a1, a2⟩ := h6 i l hl
    exact ⟨v, a1, a2.fr hw f fun x hx => hd x (h7 x hx)⟩
/-- Is a field a reference? -/
def refO (os : List O) (shapes : List (List Bool)) (r k : Int) : Bool := match at? os r with
  | some o => if 0 ≤ k ∧ k < o.f.length then (if o.shape = -2 then true else if o.shape = -1 then false else ((shapes[o.shape.toNat]?.bind fun l => l[k.toNat]?).getD false)) else false
  | none => false
theorem at_mem {os : List O} {r : Int} {o : O} (h : at? os r = some o) : o ∈ os := by
  obtain ⟨pre, post, rfl, _⟩ := look_split h; simp
section
variable {s : St} {p bw bb n : Nat} {os : List O} {sh mp : V} {z : List Int} {F : List Nat} {shapes : List (List Bool)} (H : AH s p bw bb n os sh mp z)
include H
theorem AH.isRef (hs : ShR s F sh shapes) (ok : ShOk os shapes) (d : Nat) (r k : Int) : (K (d + 4)).call 21 [.ptr p 0, .i r, .i k] s = some (.bool (refO os shapes r k), s) := by
  have ef := H.field d r k
  have es := H.shape (d + 1) r
  have hn := H.nn
  have hw := H.hr.wf
  have h1 := H.hr.hp
  rw [op21]
  unfold refO
  unfold lenO at ef
  unfold shapeO at es
  cases ho : at? os r with
  | none =>
    rw [ho] at ef
    have c : ¬ (0 ≤ k ∧ k < 0) := by omega
    simp only [c] at ef
    simp -implicitDefEqProofs (maxSteps := 5000000) (disch := first | assumption | omega | (simp only [one_i, one_int, one_bool, one_str, one_ptr, one_nilp, one_nils, one_slice, one_map, one_nilm, one_func, one_iface, same_i, same_bool, same_nils, same_ptr, same_map, same_slice, List.length_cons, List.length_nil, Nat.zero_add, Nat.reduceAdd, allOne_cons, allOne_nil, Bool.and_self]; done) | (simp only [List.length_cons, List.length_nil, List.length_map, List.length_set]; omega)) only [go_sem, ef]
  | some o =>
    rw [ho] at ef es
    by_cases c : 0 ≤ k ∧ k < o.f.length
    · simp only [c, and_self] at ef es ⊢
      rcases ok o (at_mem ho) with q | q | ⟨q, l, hl, hle⟩
      · simp only [q] at es ⊢
        simp -implicitDefEqProofs (maxSteps := 5000000) (disch := first | assumption | omega | (simp only [one_i, one_int, one_bool, one_str, one_ptr, one_nilp, one_nils, one_slice, one_map, one_nilm, one_func, one_iface, same_i, same_bool, same_nils, same_ptr, same_map, same_slice, List.length_cons, List.length_nil, Nat.zero_add, Nat.reduceAdd, allOne_cons, allOne_nil, Bool.and_self]; done) | (simp only [List.length_cons, List.length_nil, List.length_map, List.length_set]; omega)) only [go_sem, ef, es, Int.reduceEq, if_false, if_true]
      · simp only [q] at es ⊢
        simp -implicitDefEqProofs (maxSteps := 5000000) (disch := first | assumption | omega | (simp only [one_i, one_int, one_bool, one_str, one_ptr, one_nilp, one_nils, one_slice, one_map, one_nilm, one_func, one_iface, same_i, same_bool, same_nils, same_ptr, same_map, same_slice, List.length_cons, List.length_nil, Nat.zero_add, Nat.reduceAdd, allOne_cons, allOne_nil, Bool.and_self]; done) | (simp only [List.length_cons, List.length_nil, List.length_map, List.length_set]; omega)) only [go_sem, ef, es, Int.reduceEq, if_false, if_true]
      · have q1 : ¬ o.shape = -2 := by omega
        have q2 : ¬ o.shape = -1 := by omega
        rcases hs with ⟨h0, _⟩ | ⟨b, L, F0, e1, e2, e3, e4, e5, _, _, e6⟩
        · rw [h0] at hl; simp at hl
        · obtain ⟨v, a1, a2⟩ := e6 _ _ hl
          have hlt := (List.getElem?_eq_some_iff.1 hl).1
          rcases a2 with ⟨h0, _⟩ | ⟨b2, o2, c2, M, m1, m2, m3, m4, m5⟩
          · rw [h0] at hle; simp at hle; omega
          · have m6 := m5 k.toNat (by omega)
            rw [List.getElem?_eq_getElem (show k.toNat < l.length by omega), Option.map_some] at m6
            subst e1; subst m1
            simp -implicitDefEqProofs (maxSteps := 5000000) (disch := first | assumption | omega | (simp only [one_i, one_int, one_bool, one_str, one_ptr, one_nilp, one_nils, one_slice, one_map, one_nilm, one_func, one_iface, same_i, same_bool, same_nils, same_ptr, same_map, same_slice, List.length_cons, List.length_nil, Nat.zero_add, Nat.reduceAdd, allOne_cons, allOne_nil, Bool.and_self]; done) | (simp only [List.length_cons, List.length_nil, List.length_map, List.length_set]; omega)) only [go_sem, ef, es, q1, q2, if_false, dLd_at hw h1, dLd_eq hw e3 a1, dLd_eq hw m3 m6, hl, Option.bind_some]
            simp [show k.toNat < l.length by omega]
    · have c' : ¬ (0 ≤ k ∧ k < (o.f.length : Int)) := c
      simp only [c'] at ef ⊢
      simp -implicitDefEqProofs (maxSteps := 5000000) (disch := first | assumption | omega | (simp only [one_i, one_int, one_bool, one_str, one_ptr, one_nilp, one_nils, one_slice, one_map, one_nilm, one_func, one_iface, same_i, same_bool, same_nils, same_ptr, same_map, same_slice, List.length_cons, List.length_nil, Nat.zero_add, Nat.reduceAdd, allOne_cons, allOne_nil, Bool.and_self]; done) | (simp only [List.length_cons, List.length_nil, List.length_map, List.length_set]; omega)) only [go_sem, ef, if_false]
theorem AH.fits (d : Nat) (v : Int) (h64 : -9223372036854775808 ≤ v ∧ v < 9223372036854775808) : (K (d + 2)).call 39 [.ptr p 0, .i v] s = some (.bool (decide (v = 0) || (at? os v).isSome), s) := by
  have ei := H.is d v
  have hn := H.nn
  have hw := H.hr.wf
  have h1 := H.hr.hp
  have h3 := H.size
  rw [op39]
  by_cases c0 : 0 ≤ v
  · by_cases c1 : v < n
    · by_cases c2 : v = 0
      · subst c2
        simp -implicitDefEqProofs (maxSteps := 5000000) (disch := first | assumption | omega | (simp only [one_i, one_int, one_bool, one_str, one_ptr, one_nilp, one_nils, one_slice, one_map, one_nilm, one_func, one_iface, same_i, same_bool, same_nils, same_ptr, same_map, same_slice, List.length_cons, List.length_nil, Nat.zero_add, Nat.reduceAdd, allOne_cons, allOne_nil, Bool.and_self]; done) | (simp only [List.length_cons, List.length_nil, List.length_map, List.length_set]; omega)) only [go_sem, ei, dLd_at hw h1, c1, Bool.true_or]
      · simp -implicitDefEqProofs (maxSteps := 5000000) (disch := first | assumption | omega | (simp only [one_i, one_int, one_bool, one_str, one_ptr, one_nilp, one_nils, one_slice, one_map, one_nilm, one_func, one_iface, same_i, same_bool, same_nils, same_ptr, same_map, same_slice, List.length_cons, List.length_nil, Nat.zero_add, Nat.reduceAdd, allOne_cons, allOne_nil, Bool.and_self]; done) | (simp only [List.length_cons, List.length_nil, List.length_map, List.length_set]; omega)) only [go_sem, ei, dLd_at hw h1, c0, c1, c2, Bool.false_or]
    · have c2 : at? os v = none := by
        cases ho : at? os v with
        | none => rfl
        | some o => have := lay_lt ho; have := o.n_pos; omega
      have c3 : ¬ v = 0 := by omega
      simp -implicitDefEqProofs (maxSteps := 5000000) (disch := first | assumption | omega | (simp only [one_i, one_int, one_bool, one_str, one_ptr, one_nilp, one_nils, one_slice, one_map, one_nilm, one_func, one_iface, same_i, same_bool, same_nils, same_ptr, same_map, same_slice, List.length_cons, List.length_nil, Nat.zero_add, Nat.reduceAdd, allOne_cons, allOne_nil, Bool.and_self]; done) | (simp only [List.length_cons, List.length_nil, List.length_map, List.length_set]; omega)) only [go_sem, ei, dLd_at hw h1, c0, c1, c2, c3, Bool.false_or, Option.isSome_none]
  · have c2 : at? os v = none := look_neg _ _ (by omega)
    have c3 : ¬ v = 0 := by omega
    simp -implicitDefEqProofs (maxSteps := 5000000) (disch := first | assumption | omega | (simp only [one_i, one_int, one_bool, one_str, one_ptr, one_nilp, one_nils, one_slice, one_map, one_nilm, one_func, one_iface, same_i, same_bool, same_nils, same_ptr, same_map, same_slice, List.length_cons, List.length_nil, Nat.zero_add, Nat.reduceAdd, allOne_cons, allOne_nil, Bool.and_self]; done) | (simp only [List.length_cons, List.length_nil, List.length_map, List.length_set]; omega)) only [go_sem, ei, dLd_at hw h1, c0, c2, c3, Bool.false_or, Option.isSome_none]
end
/-- A field turned. -/
def O.setF (k : Int) (v : Int) (o : O) : O := { o with f := o.f.set k.toNat v }
def O.setTag (v : Int) (o : O) : O := { o with tag := v }
theorem O.setF_ws (k v : Int) (o : O) : (o.setF k v).ws = o.ws.set (3 + k.toNat) v := by
  simp only [O.ws, O.setF, List.length_set]
  rw [show 3 + k.toNat = k.toNat + 1 + 1 + 1 by omega]
  simp
section
variable {s : St} {p bw bb n : Nat} {os : List O} {sh mp : V} {z : List Int} {F : List Nat} {shapes : List (List Bool)} (H : AH s p bw bb n os sh mp z)
include H
/-- A store into a word of an object. -/
theorem AH.store {s' : St} {r : Int} {o : O} (ho : at? os r = some o) (g : O → O) (j : Nat) (v : Int) (hj : j < o.n) (hg : (g o).ws = o.ws.set j v) (hl : (g o).f.length = o.f.length) (f : Fr s s' [bw]) (h : s'.cl bw = some (((0 :: (lay os ++ z)).map V.i).set (r.toNat + j) (.i v))) : AH s' p bw bb n (turn g os (r - 1)) sh mp z := by
  obtain ⟨t1, t2⟩ := turn_len (os := os) ho g hl
  rw [map_set_i, lay_set ho z g j v hj hg] at h
  refine ⟨?_⟩
  rw [t1, t2]
  exact H.hr.setW f h (by simp [t1])
theorem AH.set (hs : ShR s F sh shapes) (ok : ShOk os shapes) (d : Nat) (r k v : Int) (h64 : -9223372036854775808 ≤ v ∧ v < 9223372036854775808) :
    (getO os r k = none → (K (d + 5)).call 10 [.ptr p 0, .i r, .i k, .i v] s = some (.i 1, s)) ∧
    (∀ x, getO os r k = some x → (refO os shapes r k && !(decide (v = 0) || (at? os v).isSome)) = true → (K (d + 5)).call 10 [.ptr p 0, .i r, .i k, .i v] s = some (.i 20, s)) ∧
    (∀ x, getO os r k = some x → (refO os shapes r k && !(decide (v = 0) || (at? os v).isSome)) = false → ∃ s', (K (d + 5)).call 10 [.ptr p 0, .i r, .i k, .i v] s = some (.i 0, s') ∧ AH s' p bw bb n (turn (O.setF k v) os (r - 1)) sh mp z ∧ Fr s s' [bw] ∧ s'.next = s.next) := by
  have ef := H.field (d + 1) r k
  rw [← getO_len] at ef
  have er := H.isRef hs ok d r k
  have et := H.fits (d + 2) v h64
  have hn := H.nn
  have hw := H.hr.wf
  have h1 := H.hr.hp
  have h2 := H.hr.hw
  have hl := H.hr.lw
  refine ⟨fun ho => ?_, fun x ho hc => ?_, fun x ho hc => ?_⟩
  · rw [ho] at ef
    rw [op10]
    simp -implicitDefEqProofs (maxSteps := 5000000) (disch := first | assumption | omega | (simp only [one_i, one_int, one_bool, one_str, one_ptr, one_nilp, one_nils, one_slice, one_map, one_nilm, one_func, one_iface, same_i, same_bool, same_nils, same_ptr, same_map, same_slice, List.length_cons, List.length_nil, Nat.zero_add, Nat.reduceAdd, allOne_cons, allOne_nil, Bool.and_self]; done) | (simp only [List.length_cons, List.length_nil, List.length_map, List.length_set]; omega)) only [go_sem, ef, Option.isSome_none]
  · rw [ho] at ef
    rw [Bool.and_eq_true, Bool.not_eq_true'] at hc
    rw [hc.1] at er; rw [hc.2] at et
    rw [op10]
    simp -implicitDefEqProofs (maxSteps := 5000000) (disch := first | assumption | omega | (simp only [one_i, one_int, one_bool, one_str, one_ptr, one_nilp, one_nils, one_slice, one_map, one_nilm, one_func, one_iface, same_i, same_bool, same_nils, same_ptr, same_map, same_slice, List.length_cons, List.length_nil, Nat.zero_add, Nat.reduceAdd, allOne_cons, allOne_nil, Bool.and_self]; done) | (simp only [List.length_cons, List.length_nil, List.length_map, List.length_set]; omega)) only [go_sem, ef, er, et, Option.isSome_some]
  · rw [ho] at ef
    obtain ⟨a0, b0, a1, a2, a3, a4, _⟩ := H.atF ho
    rw [a3] at ef
    obtain ⟨o, q1, q2, q3, q4⟩ := getO_some ho
    obtain ⟨s1, E1, c1, f1, n1⟩ := eSt_ex (s := s) (o := (r + 3 + k).toNat) (v := .i v) hw h2 (by rw [List.length_map, hl]; omega) rfl
    refine ⟨s1, ?_, H.store q1 (O.setF k v) (3 + k.toNat) v (by simp [O.n]; omega) (O.setF_ws k v o) (by simp [O.setF]) f1 (by rw [c1]; congr 2; omega), f1, n1⟩
    rw [op10]
    cases hr : refO os shapes r k with
    | false =>
      rw [hr] at er
      simp -implicitDefEqProofs (maxSteps := 5000000) (disch := first | assumption | omega | (simp only [one_i, one_int, one_bool, one_str, one_ptr, one_nilp, one_nils, one_slice, one_map, one_nilm, one_func, one_iface, same_i, same_bool, same_nils, same_ptr, same_map, same_slice, List.length_cons, List.length_nil, Nat.zero_add, Nat.reduceAdd, allOne_cons, allOne_nil, Bool.and_self]; done) | (simp only [List.length_cons, List.length_nil, List.length_map, List.length_set]; omega)) only [go_sem, ef, er, Option.isSome_some, dLd_at hw h1, E1]
    | true =>
      rw [hr] at er hc
      have hc : (decide (v = 0) || (at? os v).isSome) = true := by
        rw [Bool.true_and, Bool.not_eq_false'] at hc; exact hc
      rw [hc] at et
      simp -implicitDefEqProofs (maxSteps := 5000000) (disch := first | assumption | omega | (simp only [one_i, one_int, one_bool, one_str, one_ptr, one_nilp, one_nils, one_slice, one_map, one_nilm, one_func, one_iface, same_i, same_bool, same_nils, same_ptr, same_map, same_slice, List.length_cons, List.length_nil, Nat.zero_add, Nat.reduceAdd, allOne_cons, allOne_nil, Bool.and_self]; done) | (simp only [List.length_cons, List.length_nil, List.length_map, List.length_set]; omega)) only [go_sem, ef, er, et, Option.isSome_some, dLd_at hw h1, E1]
theorem AH.setTag (d : Nat) (r v : Int) : (at? os r = none → (K (d + 2)).call 23 [.ptr p 0, .i r, .i v] s = some (.i 1, s)) ∧
    (∀ o, at? os r = some o → ∃ s', (K (d + 2)).call 23 [.ptr p 0, .i r, .i v] s = some (.i 0, s') ∧ AH s' p bw bb n (turn (O.setTag v) os (r - 1)) sh mp z ∧ Fr s s' [bw] ∧ s'.next = s.next) := by
  have ei := H.is d r
  have hn := H.nn
  have hw := H.hr.wf
  have h1 := H.hr.hp
  have h2 := H.hr.hw
  have hl := H.hr.lw
  refine ⟨fun ho => ?_, fun o ho => ?_⟩
  · rw [ho] at ei
    rw [op23]
    simp -implicitDefEqProofs (maxSteps := 5000000) (disch := first | assumption | omega | (simp only [one_i, one_int, one_bool, one_str, one_ptr, one_nilp, one_nils, one_slice, one_map, one_nilm, one_func, one_iface, same_i, same_bool, same_nils, same_ptr, same_map, same_slice, List.length_cons, List.length_nil, Nat.zero_add, Nat.reduceAdd, allOne_cons, allOne_nil, Bool.and_self]; done) | (simp only [List.length_cons, List.length_nil, List.length_map, List.length_set]; omega)) only [go_sem, fAdd_eq, ei, Option.isSome_none]
  · rw [ho] at ei
    have h3 := o.n_pos
    obtain ⟨a1, a2, _⟩ := H.at ho 2 (by omega)
    replace a1 : 0 ≤ r + 2 := a1
    replace a2 : r + 2 < n := a2
    have hr := (lay_lt ho).1
    obtain ⟨s1, E1, c1, f1, n1⟩ := eSt_ex (s := s) (o := (r + 2).toNat) (v := .i v) hw h2 (by rw [List.length_map, hl]; omega) rfl
    refine ⟨s1, ?_, H.store ho (O.setTag v) 2 v (by omega) (by simp [O.setTag, O.ws]) (by simp [O.setTag]) f1 (by rw [c1]; congr 2; omega), f1, n1⟩
    rw [op23]
    simp -implicitDefEqProofs (maxSteps := 5000000) (disch := first | assumption | omega | (simp only [one_i, one_int, one_bool, one_str, one_ptr, one_nilp, one_nils, one_slice, one_map, one_nilm, one_func, one_iface, same_i, same_bool, same_nils, same_ptr, same_map, same_slice, List.length_cons, List.length_nil, Nat.zero_add, Nat.reduceAdd, allOne_cons, allOne_nil, Bool.and_self]; done) | (simp only [List.length_cons, List.length_nil, List.length_map, List.length_set]; omega)) only [go_sem, fAdd_eq, ei, Option.isSome_some, dLd_at hw h1, E1]
end
end
end Go.Proofs.YtjipdnfaokdkbaaLab
