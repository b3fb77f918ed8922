/- The document's heap: stores. No condition on the program. -/
import Derived.Test.YtjipdnfaokdkbaaRC
namespace Go.Proofs.YtjipdnfaokdkbaaLab
open Go
set_option linter.all false
set_option maxRecDepth 10000
noncomputable section
theorem ROs.inv {s : St} {FO : List Nat} {b n i bf : Nat} {c : Option Nat} {os : List O} {o : O} (hw : Wf s) (h : ROs s FO (.slice b 0 n none 4) os) (hi : os[i]? = some o) (hf : ldP (.ptr b (4 * i + 2)) s = some (.slice bf 0 o.f.length c 1)) :
    ∃ bs, n = os.length ∧ s.cl b = some (flat 1 os bs) ∧ bs.length = os.length ∧ b ∈ FO ∧ (∀ q ∈ bs, q.1 ∈ FO) ∧ (b :: bs.map (·.1)).Nodup ∧ bs[i]? = some (bf, c) ∧ ∀ (i : Nat) o, os[i]? = some o → ∃ q, bs[i]? = some q ∧ s.cl q.1 = some (o.f.map .i) := by
  rcases h with ⟨_, h0⟩ | ⟨b', bs, e, h2, h3, h4, h5, h6, h7⟩
  · cases h0
  · injection e with e1 e2 e3
    subst e1
    obtain ⟨⟨bf', c'⟩, q1, q2⟩ := h7 i o hi
    obtain ⟨f1, f2, f3, f4⟩ := flat_at 1 os bs i o bf' c' hi q1
    rw [dLd_eq hw h2 f3] at hf
    injection hf with hf; injection hf with hf1 hf2 hf3 hf4 hf5
    subst hf1; subst hf4
    exact ⟨bs, e3, h2, h3, h4, h5, h6, q1, h7⟩
theorem nodup_get {l : List Nat} (h : l.Nodup) {i j : Nat} {x : Nat} (hi : l[i]? = some x) (hj : l[j]? = some x) : i = j := by
  obtain ⟨h1, h2⟩ := List.getElem?_eq_some_iff.1 hi
  obtain ⟨h3, h4⟩ := List.getElem?_eq_some_iff.1 hj
  have hp := List.pairwise_iff_getElem.1 h
  rcases Nat.lt_trichotomy i j with e | e | e
  · exact absurd (h2.trans h4.symm) (hp i j h1 h3 e)
  · exact e
  · exact absurd (h4.trans h2.symm) (hp j i h3 h1 e)
theorem ROs.setF {s s' : St} {FO : List Nat} {b n i bf : Nat} {c : Option Nat} {os : List O} {o : O} {k v : Int} (hw : Wf s) (h : ROs s FO (.slice b 0 n none 4) os) (hi : os[i]? = some o) (hf : ldP (.ptr b (4 * i + 2)) s = some (.slice bf 0 o.f.length c 1)) (f : Fr s s' [bf]) (hc : s'.cl bf = some ((o.f.map V.i).set k.toNat (.i v))) : ROs s' FO (.slice b 0 n none 4) (os.set i (o.setF k v)) := by
  obtain ⟨bs, rfl, h2, h3, h4, h5, h6, h8, h7⟩ := h.inv hw hi hf
  have hne : b ≠ bf := fun e => (List.nodup_cons.1 h6).1 (e ▸ List.mem_map.2 ⟨_, List.mem_of_getElem? h8, rfl⟩)
  have hfl := flat_set (o := o) (o' := o.setF k v) rfl (by simp [O.setF]) 1 os bs i hi h3
  obtain ⟨_, _, _, g4⟩ := flat_at 1 os bs i o bf c hi h8
  rw [show (o.setF k v).tag = o.tag from rfl, set_self g4] at hfl
  refine .inr ⟨b, bs, by simp, by rw [hfl]; exact f.cl hw h2 (by simpa using hne), by simp [h3], h4, h5, h6, fun j x hj => ?_⟩
  by_cases e : i = j
  · subst e
    rw [List.getElem?_set_self (List.getElem?_eq_some_iff.1 hi).1] at hj
    cases hj
    exact ⟨_, h8, by rw [hc]; simp only [O.setF]; rw [List.map_set]⟩
  · rw [List.getElem?_set_ne e] at hj
    obtain ⟨q, q1, q2⟩ := h7 j x hj
    refine ⟨q, q1, f.cl hw q2 ?_⟩
    simp only [List.mem_singleton]
    intro e2
    exact e (nodup_get (List.nodup_cons.1 h6).2 (x := bf) (by rw [List.getElem?_map, h8]; rfl) (by rw [List.getElem?_map, q1, ← e2]; rfl))
theorem ROs.setTag {s s' : St} {FO : List Nat} {b n i bf : Nat} {c : Option Nat} {os : List O} {o : O} {v : Int} (hw : Wf s) (h : ROs s FO (.slice b 0 n none 4) os) (hi : os[i]? = some o) (hf : ldP (.ptr b (4 * i + 2)) s = some (.slice bf 0 o.f.length c 1)) (f : Fr s s' [b]) (hc : ∀ L, s.cl b = some L → s'.cl b = some (L.set (4 * i + 3) (.i v))) : ROs s' FO (.slice b 0 n none 4) (os.set i (o.setTag v)) := by
  obtain ⟨bs, rfl, h2, h3, h4, h5, h6, h8, h7⟩ := h.inv hw hi hf
  have hfl := flat_set (o := o) (o' := o.setTag v) rfl rfl 1 os bs i hi h3
  refine .inr ⟨b, bs, by simp, by rw [hfl]; exact hc _ h2, by simp [h3], h4, h5, h6, fun j x hj => ?_⟩
  have hx : ∃ x', os[j]? = some x' ∧ x'.f = x.f := by
    by_cases e : i = j
    · subst e
      rw [List.getElem?_set_self (List.getElem?_eq_some_iff.1 hi).1] at hj
      cases hj
      exact ⟨o, hi, rfl⟩
    · rw [List.getElem?_set_ne e] at hj
      exact ⟨x, hj, rfl⟩
  obtain ⟨x', x1, x2⟩ := hx
  obtain ⟨q, q1, q2⟩ := h7 j x' x1
  rw [← x2]
  refine ⟨q, q1, f.cl hw q2 ?_⟩
  simp only [List.mem_singleton]
  intro e2
  exact (List.nodup_cons.1 h6).1 (e2 ▸ List.mem_map.2 ⟨_, List.mem_of_getElem? q1, rfl⟩)
section
variable {s : St} {rp : Nat} {w : Int} {os : List O} {shapes : List (List Bool)} {FO FS : List Nat} (H : RR s rp w os shapes FO FS)
include H
theorem RR.setTag (d : Nat) (r v : Int) :
    (at? os r = none → (K (d + 2)).call 33 [.ptr rp 0, .i r, .i v] s = some (.i 1, s)) ∧
    (∀ o, at? os r = some o → ∃ s', (K (d + 2)).call 33 [.ptr rp 0, .i r, .i v] s = some (.i 0, s') ∧ RR s' rp w (turn (O.setTag v) os (r - 1)) shapes FO FS ∧ Fr s s' FO ∧ s'.next = s.next) := by
  obtain ⟨f0, f1⟩ := H.find d r
  obtain ⟨lV, shV, h1, hO, hS⟩ := H.ex
  have hw := H.wf
  refine ⟨fun ho => ?_, fun o ho => ?_⟩
  · have e1 := f0 ho
    rw [op33]
    simp -implicitDefEqProofs (maxSteps := 5000000) (disch := first | assumption | omega | (simp only [one_i, one_int, one_bool, one_str, one_ptr, one_nilp, one_nils, one_slice, one_map, one_nilm, one_func, one_iface, same_i, same_bool, same_nils, same_ptr, same_map, same_slice, List.length_cons, List.length_nil, Nat.zero_add, Nat.reduceAdd, allOne_cons, allOne_nil, Bool.and_self]; done) | (simp only [List.length_cons, List.length_nil, List.length_map, List.length_set]; omega)) only [go_sem, e1]
  · obtain ⟨b, i, bf, c, e1, ob, oi, ol, oL⟩ := f1 o ho
    rw [dLd_at hw h1 (by simp)] at oL
    simp at oL; subst oL
    obtain ⟨bs, _, h2, h3, h4, h5, h6, h8, h7⟩ := hO.inv hw oi ob.f
    have hr := (lay_lt ho).1
    have hil := (List.getElem?_eq_some_iff.1 oi).1
    obtain ⟨s1, e2, c2, f2, n2⟩ := eSt_ex (s := s) (o := 4 * i + 3) (v := .i v) hw h2 (by rw [flat_len _ _ _ h3]; omega) rfl
    have hO2 := hO.setTag (v := v) hw oi ob.f f2 (fun L hL => by rw [h2] at hL; cases hL; exact c2)
    obtain ⟨t1, t2⟩ := turn_len (os := os) ho (O.setTag v) rfl
    refine ⟨s1, ?_, ⟨f2.wf, ⟨_, shV, f2.cl hw h1 (by simp; rintro rfl; exact H.nO h4), ?_, hS.fr hw f2 (by simp; rintro x hx rfl; exact H.nOS _ h4 hx)⟩, H.nO, H.nS, H.nOS, by rw [t1]; exact H.sz, H.w0, by rw [t1]; exact H.lw, by rw [n2]; exact H.ltO, by rw [n2]; exact H.ltS⟩, f2.mono (by simp; exact .inl h4), n2⟩
    · rw [op33]
      simp -implicitDefEqProofs (maxSteps := 5000000) (disch := first | assumption | omega | (simp only [one_i, one_int, one_bool, one_str, one_ptr, one_nilp, one_nils, one_slice, one_map, one_nilm, one_func, one_iface, same_i, same_bool, same_nils, same_ptr, same_map, same_slice, List.length_cons, List.length_nil, Nat.zero_add, Nat.reduceAdd, allOne_cons, allOne_nil, Bool.and_self]; done) | (simp only [List.length_cons, List.length_nil, List.length_map, List.length_set]; omega)) only [go_sem, e1, e2]
    · rw [turn_set _ oi (by omega)]; exact hO2
theorem RR.set (ok : ShOk os shapes) (d : Nat) (r k v : Int) :
    (getO os r k = none → (K (d + 3)).call 32 [.ptr rp 0, .i r, .i k, .i v] s = some (.i 1, s)) ∧
    (∀ x, getO os r k = some x → (refO os shapes r k && !(decide (v = 0) || (at? os v).isSome)) = true → (K (d + 3)).call 32 [.ptr rp 0, .i r, .i k, .i v] s = some (.i 20, s)) ∧
    (∀ x, getO os r k = some x → (refO os shapes r k && !(decide (v = 0) || (at? os v).isSome)) = false → ∃ s', (K (d + 3)).call 32 [.ptr rp 0, .i r, .i k, .i v] s = some (.i 0, s') ∧ RR s' rp w (turn (O.setF k v) os (r - 1)) shapes FO FS ∧ Fr s s' FO ∧ s'.next = s.next) := by
  obtain ⟨f0, f1⟩ := H.find (d + 1) r
  obtain ⟨v0, v1⟩ := H.find (d + 1) v
  have er := H.isRef ok d r k
  obtain ⟨lV, shV, h1, hO, hS⟩ := H.ex
  have hw := H.wf
  have hw0 := H.w0
  have hlw := H.lw
  have hv : ∀ o, at? os v = some o → 1 ≤ v ∧ v ≤ 16384 := fun o ho => by have := lay_lt ho; have := o.n_pos; omega
  refine ⟨fun ho => ?_, fun x ho hc => ?_, fun x ho hc => ?_⟩
  · rw [op32]
    unfold getO at ho
    cases hq : at? os r with
    | none =>
      have e1 := f0 hq
      simp -implicitDefEqProofs (maxSteps := 5000000) (disch := first | assumption | omega | (simp only [one_i, one_int, one_bool, one_str, one_ptr, one_nilp, one_nils, one_slice, one_map, one_nilm, one_func, one_iface, same_i, same_bool, same_nils, same_ptr, same_map, same_slice, List.length_cons, List.length_nil, Nat.zero_add, Nat.reduceAdd, allOne_cons, allOne_nil, Bool.and_self]; done) | (simp only [List.length_cons, List.length_nil, List.length_map, List.length_set]; omega)) only [go_sem, e1]
    | some o =>
      obtain ⟨b, i, bf, c, e1, ob, oi, ol, oL⟩ := f1 o hq
      have e2 := ob.f
      rw [hq] at ho
      simp only at ho
      by_cases c0 : k < 0
      · simp -implicitDefEqProofs (maxSteps := 5000000) (disch := first | assumption | omega | (simp only [one_i, one_int, one_bool, one_str, one_ptr, one_nilp, one_nils, one_slice, one_map, one_nilm, one_func, one_iface, same_i, same_bool, same_nils, same_ptr, same_map, same_slice, List.length_cons, List.length_nil, Nat.zero_add, Nat.reduceAdd, allOne_cons, allOne_nil, Bool.and_self]; done) | (simp only [List.length_cons, List.length_nil, List.length_map, List.length_set]; omega)) only [go_sem, e1, e2, c0]
      · have c1 : (o.f.length : Int) ≤ k := by
          rw [if_pos (by omega)] at ho
          have := List.getElem?_eq_none_iff.1 ho; omega
        simp -implicitDefEqProofs (maxSteps := 5000000) (disch := first | assumption | omega | (simp only [one_i, one_int, one_bool, one_str, one_ptr, one_nilp, one_nils, one_slice, one_map, one_nilm, one_func, one_iface, same_i, same_bool, same_nils, same_ptr, same_map, same_slice, List.length_cons, List.length_nil, Nat.zero_add, Nat.reduceAdd, allOne_cons, allOne_nil, Bool.and_self]; done) | (simp only [List.length_cons, List.length_nil, List.length_map, List.length_set]; omega)) only [go_sem, e1, e2, c0, c1]
  · obtain ⟨o, q1, q2, q3, q4⟩ := getO_some ho
    obtain ⟨b, i, bf, c, e1, ob, oi, ol, oL⟩ := f1 o q1
    have e2 := ob.f
    have c0 : ¬ k < 0 := by omega
    have c1 : ¬ (o.f.length : Int) ≤ k := by omega
    rw [Bool.and_eq_true, Bool.not_eq_true', Bool.or_eq_false_iff] at hc
    obtain ⟨x1, x2, x3⟩ := hc
    rw [x1] at er
    have x2 : ¬ v = 0 := by simpa using x2
    have x3 : at? os v = none := by simpa using x3
    have e3 := v0 x3
    rw [op32]
    by_cases d0 : v < 0
    · simp -implicitDefEqProofs (maxSteps := 5000000) (disch := first | assumption | omega | (simp only [one_i, one_int, one_bool, one_str, one_ptr, one_nilp, one_nils, one_slice, one_map, one_nilm, one_func, one_iface, same_i, same_bool, same_nils, same_ptr, same_map, same_slice, List.length_cons, List.length_nil, Nat.zero_add, Nat.reduceAdd, allOne_cons, allOne_nil, Bool.and_self]; done) | (simp only [List.length_cons, List.length_nil, List.length_map, List.length_set]; omega)) only [go_sem, e1, e2, c0, c1, er, x2, d0]
    · by_cases d1 : 16384 < v
      · simp -implicitDefEqProofs (maxSteps := 5000000) (disch := first | assumption | omega | (simp only [one_i, one_int, one_bool, one_str, one_ptr, one_nilp, one_nils, one_slice, one_map, one_nilm, one_func, one_iface, same_i, same_bool, same_nils, same_ptr, same_map, same_slice, List.length_cons, List.length_nil, Nat.zero_add, Nat.reduceAdd, allOne_cons, allOne_nil, Bool.and_self]; done) | (simp only [List.length_cons, List.length_nil, List.length_map, List.length_set]; omega)) only [go_sem, e1, e2, c0, c1, er, x2, d0, d1]
      · simp -implicitDefEqProofs (maxSteps := 5000000) (disch := first | assumption | omega | (simp only [one_i, one_int, one_bool, one_str, one_ptr, one_nilp, one_nils, one_slice, one_map, one_nilm, one_func, one_iface, same_i, same_bool, same_nils, same_ptr, same_map, same_slice, List.length_cons, List.length_nil, Nat.zero_add, Nat.reduceAdd, allOne_cons, allOne_nil, Bool.and_self]; done) | (simp only [List.length_cons, List.length_nil, List.length_map, List.length_set]; omega)) only [go_sem, e1, e2, c0, c1, er, x2, d0, d1, e3]
  · obtain ⟨o, q1, q2, q3, q4⟩ := getO_some ho
    obtain ⟨b, i, bf, c, e1, ob, oi, ol, oL⟩ := f1 o q1
    rw [dLd_at hw h1 (by simp)] at oL
    simp at oL; subst oL
    have e2 := ob.f
    have c0 : ¬ k < 0 := by omega
    have c1 : ¬ (o.f.length : Int) ≤ k := by omega
    have hr := (lay_lt q1).1
    have hi2 : bIdx 1 (.slice bf 0 o.f.length c 1) (.i k) = some (.ptr bf k.toNat) := by rw [bIdx1_eq q2 q3, Nat.zero_add]
    obtain ⟨s1, e4, c2, f2, n2⟩ := eSt_ex (s := s) (o := k.toNat) (v := .i v) hw ob.cl (by simp; omega) rfl
    have hO2 := hO.setF (v := v) hw oi ob.f f2 c2
    obtain ⟨t1, t2⟩ := turn_len (os := os) q1 (O.setF k v) (by simp [O.setF])
    refine ⟨s1, ?_, ⟨f2.wf, ⟨_, shV, f2.cl hw h1 (by simp; rintro rfl; exact H.nO ob.mf), ?_, hS.fr hw f2 (by simp; rintro x hx rfl; exact H.nOS _ ob.mf hx)⟩, H.nO, H.nS, H.nOS, by rw [t1]; exact H.sz, H.w0, by rw [t1]; exact H.lw, by rw [n2]; exact H.ltO, by rw [n2]; exact H.ltS⟩, f2.mono (by simp; exact .inl ob.mf), n2⟩
    · rw [op32]
      cases hre : refO os shapes r k with
      | false =>
        rw [hre] at er
        simp -implicitDefEqProofs (maxSteps := 5000000) (disch := first | assumption | omega | (simp only [one_i, one_int, one_bool, one_str, one_ptr, one_nilp, one_nils, one_slice, one_map, one_nilm, one_func, one_iface, same_i, same_bool, same_nils, same_ptr, same_map, same_slice, List.length_cons, List.length_nil, Nat.zero_add, Nat.reduceAdd, allOne_cons, allOne_nil, Bool.and_self]; done) | (simp only [List.length_cons, List.length_nil, List.length_map, List.length_set]; omega)) only [go_sem, e1, e2, c0, c1, er, hi2, e4]
      | true =>
        rw [hre] at er hc
        by_cases x2 : v = 0
        · subst x2
          simp -implicitDefEqProofs (maxSteps := 5000000) (disch := first | assumption | omega | (simp only [one_i, one_int, one_bool, one_str, one_ptr, one_nilp, one_nils, one_slice, one_map, one_nilm, one_func, one_iface, same_i, same_bool, same_nils, same_ptr, same_map, same_slice, List.length_cons, List.length_nil, Nat.zero_add, Nat.reduceAdd, allOne_cons, allOne_nil, Bool.and_self]; done) | (simp only [List.length_cons, List.length_nil, List.length_map, List.length_set]; omega)) only [go_sem, e1, e2, c0, c1, er, hi2, e4]
        · cases hat : at? os v with
          | none => rw [hat] at hc; simp [x2] at hc
          | some o2 =>
            obtain ⟨d0, d1⟩ := hv o2 hat
            obtain ⟨b2, i2, bf2, cc2, e3, _⟩ := v1 o2 hat
            have d0 : ¬ v < 0 := by omega
            have d1 : ¬ 16384 < v := by omega
            simp -implicitDefEqProofs (maxSteps := 5000000) (disch := first | assumption | omega | (simp only [one_i, one_int, one_bool, one_str, one_ptr, one_nilp, one_nils, one_slice, one_map, one_nilm, one_func, one_iface, same_i, same_bool, same_nils, same_ptr, same_map, same_slice, List.length_cons, List.length_nil, Nat.zero_add, Nat.reduceAdd, allOne_cons, allOne_nil, Bool.and_self]; done) | (simp only [List.length_cons, List.length_nil, List.length_map, List.length_set]; omega)) only [go_sem, e1, e2, c0, c1, er, x2, d0, d1, e3, hi2, e4]
    · rw [turn_set _ oi (by omega)]; exact hO2
end
end
end Go.Proofs.YtjipdnfaokdkbaaLab
