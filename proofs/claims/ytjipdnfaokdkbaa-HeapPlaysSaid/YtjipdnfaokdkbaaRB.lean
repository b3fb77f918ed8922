/- The document's heap: its functions that only look. No condition on the program. -/
import Derived.Test.YtjipdnfaokdkbaaRA
namespace Go.Proofs.YtjipdnfaokdkbaaLab
open Go
set_option linter.all false
set_option maxRecDepth 10000
noncomputable section
section
variable {s : St} {rp : Nat} {w : Int} {os : List O} {shapes : List (List Bool)} {FO FS : List Nat} (H : RR s rp w os shapes FO FS)
include H
theorem RR.len (d : Nat) (r : Int) : (K (d + 2)).call 51 [.ptr rp 0, .i r] s = some (.i (lenO os r), s) := by
  obtain ⟨f0, f1⟩ := H.find d r
  rw [op51]
  unfold lenO
  cases ho : at? os r with
  | none =>
    have e1 := f0 ho
    simp -implicitDefEqProofs (maxSteps := 5000000) (disch := first | assumption | omega | (simp only [one_i, one_int, one_bool, one_str, one_ptr, one_nilp, one_nils, one_slice, one_map, one_nilm, one_func, one_iface, same_i, same_bool, same_nils, same_ptr, same_map, same_slice, List.length_cons, List.length_nil, Nat.zero_add, Nat.reduceAdd, allOne_cons, allOne_nil, Bool.and_self]; done) | (simp only [List.length_cons, List.length_nil, List.length_map, List.length_set]; omega)) only [go_sem, e1]
  | some o =>
    obtain ⟨b, i, bf, c, e1, ob, _⟩ := f1 o ho
    have a2 := ob.f
    simp -implicitDefEqProofs (maxSteps := 5000000) (disch := first | assumption | omega | (simp only [one_i, one_int, one_bool, one_str, one_ptr, one_nilp, one_nils, one_slice, one_map, one_nilm, one_func, one_iface, same_i, same_bool, same_nils, same_ptr, same_map, same_slice, List.length_cons, List.length_nil, Nat.zero_add, Nat.reduceAdd, allOne_cons, allOne_nil, Bool.and_self]; done) | (simp only [List.length_cons, List.length_nil, List.length_map, List.length_set]; omega)) only [go_sem, e1, a2]
theorem RR.shape (d : Nat) (r : Int) : (K (d + 2)).call 52 [.ptr rp 0, .i r] s = some (.i (shapeO os r), s) := by
  obtain ⟨f0, f1⟩ := H.find d r
  rw [op52]
  unfold shapeO
  cases ho : at? os r with
  | none =>
    have e1 := f0 ho
    simp -implicitDefEqProofs (maxSteps := 5000000) (disch := first | assumption | omega | (simp only [one_i, one_int, one_bool, one_str, one_ptr, one_nilp, one_nils, one_slice, one_map, one_nilm, one_func, one_iface, same_i, same_bool, same_nils, same_ptr, same_map, same_slice, List.length_cons, List.length_nil, Nat.zero_add, Nat.reduceAdd, allOne_cons, allOne_nil, Bool.and_self]; done) | (simp only [List.length_cons, List.length_nil, List.length_map, List.length_set]; omega)) only [go_sem, e1]
  | some o =>
    obtain ⟨b, i, bf, c, e1, ob, _⟩ := f1 o ho
    have a2 := ob.sh
    simp -implicitDefEqProofs (maxSteps := 5000000) (disch := first | assumption | omega | (simp only [one_i, one_int, one_bool, one_str, one_ptr, one_nilp, one_nils, one_slice, one_map, one_nilm, one_func, one_iface, same_i, same_bool, same_nils, same_ptr, same_map, same_slice, List.length_cons, List.length_nil, Nat.zero_add, Nat.reduceAdd, allOne_cons, allOne_nil, Bool.and_self]; done) | (simp only [List.length_cons, List.length_nil, List.length_map, List.length_set]; omega)) only [go_sem, e1, a2]
theorem RR.tag (d : Nat) (r : Int) : (K (d + 2)).call 53 [.ptr rp 0, .i r] s = some (.i (tagO os r), s) := by
  obtain ⟨f0, f1⟩ := H.find d r
  rw [op53]
  unfold tagO
  cases ho : at? os r with
  | none =>
    have e1 := f0 ho
    simp -implicitDefEqProofs (maxSteps := 5000000) (disch := first | assumption | omega | (simp only [one_i, one_int, one_bool, one_str, one_ptr, one_nilp, one_nils, one_slice, one_map, one_nilm, one_func, one_iface, same_i, same_bool, same_nils, same_ptr, same_map, same_slice, List.length_cons, List.length_nil, Nat.zero_add, Nat.reduceAdd, allOne_cons, allOne_nil, Bool.and_self]; done) | (simp only [List.length_cons, List.length_nil, List.length_map, List.length_set]; omega)) only [go_sem, e1]
  | some o =>
    obtain ⟨b, i, bf, c, e1, ob, _⟩ := f1 o ho
    have a2 := ob.tag
    simp -implicitDefEqProofs (maxSteps := 5000000) (disch := first | assumption | omega | (simp only [one_i, one_int, one_bool, one_str, one_ptr, one_nilp, one_nils, one_slice, one_map, one_nilm, one_func, one_iface, same_i, same_bool, same_nils, same_ptr, same_map, same_slice, List.length_cons, List.length_nil, Nat.zero_add, Nat.reduceAdd, allOne_cons, allOne_nil, Bool.and_self]; done) | (simp only [List.length_cons, List.length_nil, List.length_map, List.length_set]; omega)) only [go_sem, e1, a2]
/-- A field in memory. -/
theorem ObP.get {o : O} {a b i bf : Nat} {c : Option Nat} (ob : ObP s FO o a b i bf c) {k : Int} (h0 : 0 ≤ k) (h1 : k < o.f.length) : bIdx 1 (.slice bf 0 o.f.length c 1) (.i k) = some (.ptr bf k.toNat) ∧ ldP (.ptr bf k.toNat) s = some (.i o.f[k.toNat]!) := by
  refine ⟨by rw [bIdx1_eq h0 h1, Nat.zero_add], dLd_eq H.wf ob.cl ?_⟩
  rw [List.getElem?_map, List.getElem?_eq_getElem (by omega)]
  simp [show k.toNat < o.f.length by omega]
theorem RR.get (d : Nat) (r k : Int) : (K (d + 2)).call 54 [.ptr rp 0, .i r, .i k] s = some ((match getO os r k with | some v => .tup [.i v, .i 0] | none => .tup [.i 0, .i 1]), s) := by
  obtain ⟨f0, f1⟩ := H.find d r
  rw [op54]
  unfold getO
  cases ho : at? os r with
  | none =>
    have e1 := f0 ho
    simp -implicitDefEqProofs (maxSteps := 5000000) (disch := first | assumption | omega | (simp only [one_i, one_int, one_bool, one_str, one_ptr, one_nilp, one_nils, one_slice, one_map, one_nilm, one_func, one_iface, same_i, same_bool, same_nils, same_ptr, same_map, same_slice, List.length_cons, List.length_nil, Nat.zero_add, Nat.reduceAdd, allOne_cons, allOne_nil, Bool.and_self]; done) | (simp only [List.length_cons, List.length_nil, List.length_map, List.length_set]; omega)) only [go_sem, e1]
  | some o =>
    obtain ⟨b, i, bf, c, e1, ob, _⟩ := f1 o ho
    have a2 := ob.f
    simp only
    by_cases c0 : k < 0
    · rw [if_neg (by omega)]
      simp -implicitDefEqProofs (maxSteps := 5000000) (disch := first | assumption | omega | (simp only [one_i, one_int, one_bool, one_str, one_ptr, one_nilp, one_nils, one_slice, one_map, one_nilm, one_func, one_iface, same_i, same_bool, same_nils, same_ptr, same_map, same_slice, List.length_cons, List.length_nil, Nat.zero_add, Nat.reduceAdd, allOne_cons, allOne_nil, Bool.and_self]; done) | (simp only [List.length_cons, List.length_nil, List.length_map, List.length_set]; omega)) only [go_sem, e1, a2, c0]
    · rw [if_pos (by omega)]
      by_cases c1 : (o.f.length : Int) ≤ k
      · rw [List.getElem?_eq_none (by omega)]
        simp -implicitDefEqProofs (maxSteps := 5000000) (disch := first | assumption | omega | (simp only [one_i, one_int, one_bool, one_str, one_ptr, one_nilp, one_nils, one_slice, one_map, one_nilm, one_func, one_iface, same_i, same_bool, same_nils, same_ptr, same_map, same_slice, List.length_cons, List.length_nil, Nat.zero_add, Nat.reduceAdd, allOne_cons, allOne_nil, Bool.and_self]; done) | (simp only [List.length_cons, List.length_nil, List.length_map, List.length_set]; omega)) only [go_sem, e1, a2, c0, c1]
      · obtain ⟨g1', g2'⟩ := ObP.get H ob (k := k) (by omega) (by omega)
        rw [List.getElem?_eq_getElem (show k.toNat < o.f.length by omega)]
        rw [show o.f[k.toNat]! = o.f[k.toNat] by simp [show k.toNat < o.f.length by omega]] at g2'
        simp -implicitDefEqProofs (maxSteps := 5000000) (disch := first | assumption | omega | (simp only [one_i, one_int, one_bool, one_str, one_ptr, one_nilp, one_nils, one_slice, one_map, one_nilm, one_func, one_iface, same_i, same_bool, same_nils, same_ptr, same_map, same_slice, List.length_cons, List.length_nil, Nat.zero_add, Nat.reduceAdd, allOne_cons, allOne_nil, Bool.and_self]; done) | (simp only [List.length_cons, List.length_nil, List.length_map, List.length_set]; omega)) only [go_sem, e1, a2, c0, c1, g1', g2']
theorem RR.isRef (ok : ShOk os shapes) (d : Nat) (r k : Int) : (K (d + 2)).call 48 [.ptr rp 0, .i r, .i k] s = some (.bool (refO os shapes r k), s) := by
  obtain ⟨f0, f1⟩ := H.find d r
  obtain ⟨lV, shV, h1, hO, hS⟩ := H.ex
  have hw := H.wf
  rw [op48]
  unfold refO
  cases ho : at? os r with
  | none =>
    have e1 := f0 ho
    simp -implicitDefEqProofs (maxSteps := 5000000) (disch := first | assumption | omega | (simp only [one_i, one_int, one_bool, one_str, one_ptr, one_nilp, one_nils, one_slice, one_map, one_nilm, one_func, one_iface, same_i, same_bool, same_nils, same_ptr, same_map, same_slice, List.length_cons, List.length_nil, Nat.zero_add, Nat.reduceAdd, allOne_cons, allOne_nil, Bool.and_self]; done) | (simp only [List.length_cons, List.length_nil, List.length_map, List.length_set]; omega)) only [go_sem, e1]
  | some o =>
    obtain ⟨b, i, bf, c, e1, ob, _⟩ := f1 o ho
    have a2 := ob.f
    have a1 := ob.sh
    simp only
    by_cases c0 : k < 0
    · rw [if_neg (by omega)]
      simp -implicitDefEqProofs (maxSteps := 5000000) (disch := first | assumption | omega | (simp only [one_i, one_int, one_bool, one_str, one_ptr, one_nilp, one_nils, one_slice, one_map, one_nilm, one_func, one_iface, same_i, same_bool, same_nils, same_ptr, same_map, same_slice, List.length_cons, List.length_nil, Nat.zero_add, Nat.reduceAdd, allOne_cons, allOne_nil, Bool.and_self]; done) | (simp only [List.length_cons, List.length_nil, List.length_map, List.length_set]; omega)) only [go_sem, e1, a2, c0]
    · by_cases c1 : (o.f.length : Int) ≤ k
      · rw [if_neg (by omega)]
        simp -implicitDefEqProofs (maxSteps := 5000000) (disch := first | assumption | omega | (simp only [one_i, one_int, one_bool, one_str, one_ptr, one_nilp, one_nils, one_slice, one_map, one_nilm, one_func, one_iface, same_i, same_bool, same_nils, same_ptr, same_map, same_slice, List.length_cons, List.length_nil, Nat.zero_add, Nat.reduceAdd, allOne_cons, allOne_nil, Bool.and_self]; done) | (simp only [List.length_cons, List.length_nil, List.length_map, List.length_set]; omega)) only [go_sem, e1, a2, c0, c1]
      · rw [if_pos (by omega)]
        rcases ok o (at_mem ho) with q | q | ⟨q, l, hl, hle⟩
        · rw [if_neg (by omega), if_pos q]
          simp -implicitDefEqProofs (maxSteps := 5000000) (disch := first | assumption | omega | (simp only [one_i, one_int, one_bool, one_str, one_ptr, one_nilp, one_nils, one_slice, one_map, one_nilm, one_func, one_iface, same_i, same_bool, same_nils, same_ptr, same_map, same_slice, List.length_cons, List.length_nil, Nat.zero_add, Nat.reduceAdd, allOne_cons, allOne_nil, Bool.and_self]; done) | (simp only [List.length_cons, List.length_nil, List.length_map, List.length_set]; omega)) only [go_sem, e1, a1, a2, c0, c1, q]
        · rw [if_pos q]
          simp -implicitDefEqProofs (maxSteps := 5000000) (disch := first | assumption | omega | (simp only [one_i, one_int, one_bool, one_str, one_ptr, one_nilp, one_nils, one_slice, one_map, one_nilm, one_func, one_iface, same_i, same_bool, same_nils, same_ptr, same_map, same_slice, List.length_cons, List.length_nil, Nat.zero_add, Nat.reduceAdd, allOne_cons, allOne_nil, Bool.and_self]; done) | (simp only [List.length_cons, List.length_nil, List.length_map, List.length_set]; omega)) only [go_sem, e1, a1, a2, c0, c1, q]
        · have q1 : ¬ o.shape = -2 := by omega
          have q2 : ¬ o.shape = -1 := by omega
          rw [if_neg q1, if_neg q2, hl, Option.bind_some]
          rcases hS with ⟨h0, _⟩ | ⟨b', L, F0, rfl, s2, s3, s4, s5, _, _, s6⟩
          · rw [h0] at hl; simp at hl
          · obtain ⟨v, b1, b2⟩ := s6 _ _ hl
            have hlt := (List.getElem?_eq_some_iff.1 hl).1
            rcases b2 with ⟨h0, _⟩ | ⟨b2, o2, c2, M, rfl, m2, m3, m4, m5⟩
            · rw [h0] at hle; simp at hle; omega
            · have m6 := m5 k.toNat (by omega)
              rw [List.getElem?_eq_getElem (show k.toNat < l.length by omega), Option.map_some] at m6
              simp -implicitDefEqProofs (maxSteps := 5000000) (disch := first | assumption | omega | (simp only [one_i, one_int, one_bool, one_str, one_ptr, one_nilp, one_nils, one_slice, one_map, one_nilm, one_func, one_iface, same_i, same_bool, same_nils, same_ptr, same_map, same_slice, List.length_cons, List.length_nil, Nat.zero_add, Nat.reduceAdd, allOne_cons, allOne_nil, Bool.and_self]; done) | (simp only [List.length_cons, List.length_nil, List.length_map, List.length_set]; omega)) only [go_sem, e1, a1, a2, c0, c1, q, q1, q2, dLd_at hw h1, dLd_eq hw s3 b1, dLd_eq hw m3 m6]
              simp [show k.toNat < l.length by omega]
theorem RR.used (d : Nat) : (K (d + 1)).call 50 [.ptr rp 0] s = some (.i ((lay os).length : Nat), s) := by
  obtain ⟨lV, shV, h1, hO, hS⟩ := H.ex
  have hw := H.wf
  have eL := hO.len
  have hsz := H.sz
  have h3 := lay_len3 os
  rw [op50]
  simp -implicitDefEqProofs (maxSteps := 5000000) (disch := first | assumption | omega | (simp only [one_i, one_int, one_bool, one_str, one_ptr, one_nilp, one_nils, one_slice, one_map, one_nilm, one_func, one_iface, same_i, same_bool, same_nils, same_ptr, same_map, same_slice, List.length_cons, List.length_nil, Nat.zero_add, Nat.reduceAdd, allOne_cons, allOne_nil, Bool.and_self]; done) | (simp only [List.length_cons, List.length_nil, List.length_map, List.length_set]; omega)) only [go_sem, fAdd_eq]
  refine loop_at (Q := fun x => retR _ (seqR (blkR 0 x) _) = _) (fun m e t => ∃ j : Nat, m = os.length - j ∧ j ≤ os.length ∧ s = t ∧ g0 e = .ptr rp 0 ∧ g3 e = .i ((lay (os.take j)).length : Nat) ∧ g4 e = .i j) ?_ (n := os.length) (by omega) ⟨0, by omega, by omega, rfl, (by first | trivial | rfl | assumption), by simp [lay]; rfl, (by first | trivial | rfl | assumption)⟩
  rintro m e t ⟨j, rfl, hj, rfl, i0, i3, i4⟩
  replace i0 : e.a0.a0 = _ := i0
  replace i3 : e.a0.a3 = _ := i3
  replace i4 : e.a0.a4 = _ := i4
  by_cases c : (j : Int) < ((os.length : Nat) : Int)
  · have hoj : os[j]? = some os[j] := List.getElem?_eq_getElem (by omega)
    obtain ⟨b, bf, cc, e1, ob, olv⟩ := hO.ob hw hoj
    have a2 := ob.f
    have htk : (lay (os.take (j + 1))).length = (lay (os.take j)).length + os[j].n := by
      rw [List.take_succ, hoj, lay_append]; simp [lay, O.ws_len]
    have hle : (lay (os.take (j + 1))).length ≤ (lay os).length := by
      have := lay_append (os.take (j + 1)) (os.drop (j + 1))
      rw [List.take_append_drop] at this
      rw [this]; simp
    have hon : os[j].n = 3 + os[j].f.length := rfl
    simp -implicitDefEqProofs (maxSteps := 5000000) (disch := first | assumption | omega | (simp only [one_i, one_int, one_bool, one_str, one_ptr, one_nilp, one_nils, one_slice, one_map, one_nilm, one_func, one_iface, same_i, same_bool, same_nils, same_ptr, same_map, same_slice, List.length_cons, List.length_nil, Nat.zero_add, Nat.reduceAdd, allOne_cons, allOne_nil, Bool.and_self]; done) | (simp only [List.length_cons, List.length_nil, List.length_map, List.length_set]; omega)) only [go_sem, fAdd_eq, i0, i3, i4, c, dLd_at hw h1, eL, e1, a2]
    refine ⟨os.length - (j + 1), by omega, j + 1, rfl, by omega, trivial, (by first | trivial | rfl | assumption), ?_, (by first | trivial | rfl | assumption)⟩
    show V.i _ = V.i _
    congr 1; omega
  · have : j = os.length := by omega
    subst this
    rw [List.take_length] at i3
    simp -implicitDefEqProofs (maxSteps := 5000000) (disch := first | assumption | omega | (simp only [one_i, one_int, one_bool, one_str, one_ptr, one_nilp, one_nils, one_slice, one_map, one_nilm, one_func, one_iface, same_i, same_bool, same_nils, same_ptr, same_map, same_slice, List.length_cons, List.length_nil, Nat.zero_add, Nat.reduceAdd, allOne_cons, allOne_nil, Bool.and_self]; done) | (simp only [List.length_cons, List.length_nil, List.length_map, List.length_set]; omega)) only [go_sem, fAdd_eq, i0, i3, i4, c, dLd_at hw h1, eL]
theorem RR.all (d : Nat) : Ret ((K (d + 1)).call 27 [.ptr rp 0] s) fun v s' => GL s' v ((starts 1 os).map .i) ∧ Fr s s' [] ∧ ∀ b, b ∈ blkV v → s.next ≤ b := by
  have hsz := H.sz
  have h3 := lay_len3 os
  simp -implicitDefEqProofs (maxSteps := 5000000) (disch := first | assumption | omega | (simp only [one_i, one_int, one_bool, one_str, one_ptr, one_nilp, one_nils, one_slice, one_map, one_nilm, one_func, one_iface, same_i, same_bool, same_nils, same_ptr, same_map, same_slice, List.length_cons, List.length_nil, Nat.zero_add, Nat.reduceAdd, allOne_cons, allOne_nil, Bool.and_self]; done) | (simp only [List.length_cons, List.length_nil, List.length_map, List.length_set]; omega)) only [op27, go_sem, fAdd_eq]
  refine loop_at (Q := fun r => Ret (retR _ (seqR (blkR 0 r) _)) _) (fun m e t => ∃ (j : Nat) (v : V), m = os.length - j ∧ j ≤ os.length ∧ g0 e = .ptr rp 0 ∧ g3 e = v ∧ g4 e = .i j ∧ GL t v ((starts 1 (os.take j)).map .i) ∧ Fr s t [] ∧ ∀ b, b ∈ blkV v → s.next ≤ b) ?_ (n := os.length) (by omega) ⟨0, .nils, by omega, by omega, (by first | trivial | rfl | assumption), (by first | trivial | rfl | assumption), (by first | trivial | rfl | assumption), .inl ⟨rfl, rfl⟩, Fr.refl H.wf _, by simp [blkV]⟩
  rintro m e t ⟨j, v, rfl, hj, i0, i3, i4, hg, hf, hb⟩
  replace i0 : e.a0.a0 = _ := i0
  replace i3 : e.a0.a3 = _ := i3
  replace i4 : e.a0.a4 = _ := i4
  have hw := hf.wf
  have Ht := H.fr hf (by simp) (by simp) (by simp)
  obtain ⟨lV, shV, h1, hO, hS⟩ := Ht.ex
  have eL := hO.len
  by_cases c : (j : Int) < ((os.length : Nat) : Int)
  · have hoj : os[j]? = some os[j] := List.getElem?_eq_getElem (by omega)
    obtain ⟨b, bf, cc, e1, ob, olv⟩ := hO.ob hw hoj
    have a0 := ob.at0
    obtain ⟨s1, s2, e2, e3, hg2, f2, n2⟩ := hg.push hw (x := .i ((1 + (lay (os.take j)).length : Nat) : Int)) rfl (fun y hy => by obtain ⟨a, _, rfl⟩ := List.mem_map.1 hy; rfl) (by simp [starts_len]; omega)
    simp -implicitDefEqProofs (maxSteps := 5000000) (disch := first | assumption | omega | (simp only [one_i, one_int, one_bool, one_str, one_ptr, one_nilp, one_nils, one_slice, one_map, one_nilm, one_func, one_iface, same_i, same_bool, same_nils, same_ptr, same_map, same_slice, List.length_cons, List.length_nil, Nat.zero_add, Nat.reduceAdd, allOne_cons, allOne_nil, Bool.and_self]; done) | (simp only [List.length_cons, List.length_nil, List.length_map, List.length_set]; omega)) only [go_sem, fAdd_eq, i0, i3, i4, c, dLd_at hw h1, eL, e1, a0, e2, e3]
    refine ⟨os.length - (j + 1), by omega, j + 1, _, rfl, by omega, (by first | trivial | rfl | assumption), rfl, (by first | trivial | rfl | assumption), ?_, hf.trans' f2 (fun x hx => .inr (hb x hx)), by simp [blkV]; have := hf.nx; omega⟩
    rw [List.take_succ, hoj, starts_append]
    simpa [starts] using hg2
  · have : j = os.length := by omega
    subst this
    rw [List.take_length] at hg
    simp -implicitDefEqProofs (maxSteps := 5000000) (disch := first | assumption | omega | (simp only [one_i, one_int, one_bool, one_str, one_ptr, one_nilp, one_nils, one_slice, one_map, one_nilm, one_func, one_iface, same_i, same_bool, same_nils, same_ptr, same_map, same_slice, List.length_cons, List.length_nil, Nat.zero_add, Nat.reduceAdd, allOne_cons, allOne_nil, Bool.and_self]; done) | (simp only [List.length_cons, List.length_nil, List.length_map, List.length_set]; omega)) only [go_sem, fAdd_eq, i0, i3, i4, c, dLd_at hw h1, eL]
    exact ⟨hg, hf, hb⟩
end
/-- Where a number stands. -/
def idxI (x : Int) : List Int → Option Nat | [] => none | y :: l => if y = x then some 0 else (idxI x l).map (· + 1)
def hasI (l : List Int) (x : Int) : Int := match idxI x l with | some i => (i : Int) | none => -1
theorem has_eq {s : St} (hw : Wf s) {v : V} {l : List Int} (h : SL s v (l.map .i)) (hb : l.length < 1000000) (x : Int) (d : Nat) : (K (d + 1)).call 49 [v, .i x] s = some (.i (hasI l x), s) := by
  have e1 := h.len
  rw [List.length_map] at e1
  rw [op49]
  simp -implicitDefEqProofs (maxSteps := 5000000) (disch := first | assumption | omega | (simp only [one_i, one_int, one_bool, one_str, one_ptr, one_nilp, one_nils, one_slice, one_map, one_nilm, one_func, one_iface, same_i, same_bool, same_nils, same_ptr, same_map, same_slice, List.length_cons, List.length_nil, Nat.zero_add, Nat.reduceAdd, allOne_cons, allOne_nil, Bool.and_self]; done) | (simp only [List.length_cons, List.length_nil, List.length_map, List.length_set]; omega)) only [go_sem, fAdd_eq]
  refine loop_at (Q := fun x => retR _ (seqR (blkR 0 x) _) = _) (fun m e t => ∃ j : Nat, m = l.length - j ∧ j ≤ l.length ∧ s = t ∧ idxI x l = (idxI x (l.drop j)).map (· + j) ∧ g0 e = v ∧ g1 e = .i x ∧ g5 e = .i j) ?_ (n := l.length) (by omega) ⟨0, by omega, by omega, rfl, by simp, (by first | trivial | rfl | assumption), (by first | trivial | rfl | assumption), (by first | trivial | rfl | assumption)⟩
  rintro m e t ⟨j, rfl, hj, rfl, hi, i0, i1, i5⟩
  replace i0 : e.a0.a0 = _ := i0
  replace i1 : e.a0.a1 = _ := i1
  replace i5 : e.a0.a5 = _ := i5
  by_cases c : (j : Int) < ((l.length : Nat) : Int)
  · have hj' : j < l.length := by omega
    obtain ⟨q, a1, b1⟩ := h.at hw (j := j) (x := .i l[j]) (by simp [hj'])
    have hd : l.drop j = l[j] :: l.drop (j + 1) := List.drop_eq_getElem_cons hj'
    rw [hd] at hi
    by_cases c2 : l[j] = x
    · have : hasI l x = j := by unfold hasI; rw [hi]; unfold idxI; rw [if_pos c2]; simp
      simp -implicitDefEqProofs (maxSteps := 5000000) (disch := first | assumption | omega | (simp only [one_i, one_int, one_bool, one_str, one_ptr, one_nilp, one_nils, one_slice, one_map, one_nilm, one_func, one_iface, same_i, same_bool, same_nils, same_ptr, same_map, same_slice, List.length_cons, List.length_nil, Nat.zero_add, Nat.reduceAdd, allOne_cons, allOne_nil, Bool.and_self]; done) | (simp only [List.length_cons, List.length_nil, List.length_map, List.length_set]; omega)) only [go_sem, fAdd_eq, i0, i1, i5, c, e1, a1, b1, c2, this]
    · simp -implicitDefEqProofs (maxSteps := 5000000) (disch := first | assumption | omega | (simp only [one_i, one_int, one_bool, one_str, one_ptr, one_nilp, one_nils, one_slice, one_map, one_nilm, one_func, one_iface, same_i, same_bool, same_nils, same_ptr, same_map, same_slice, List.length_cons, List.length_nil, Nat.zero_add, Nat.reduceAdd, allOne_cons, allOne_nil, Bool.and_self]; done) | (simp only [List.length_cons, List.length_nil, List.length_map, List.length_set]; omega)) only [go_sem, fAdd_eq, i0, i1, i5, c, e1, a1, b1, c2]
      refine ⟨l.length - (j + 1), by omega, j + 1, rfl, by omega, trivial, ?_, (by first | trivial | rfl | assumption), (by first | trivial | rfl | assumption), (by first | trivial | rfl | assumption)⟩
      have hu : idxI x (l[j] :: l.drop (j + 1)) = (idxI x (l.drop (j + 1))).map (· + 1) := by
        show (if l[j] = x then some 0 else (idxI x (l.drop (j + 1))).map (· + 1)) = _
        rw [if_neg c2]
      rw [hi, hu]
      cases idxI x (l.drop (j + 1)) with
      | none => rfl
      | some n => simp; omega
  · have : j = l.length := by omega
    subst this
    rw [List.drop_length] at hi
    have : hasI l x = -1 := by unfold hasI; rw [hi]; rfl
    simp -implicitDefEqProofs (maxSteps := 5000000) (disch := first | assumption | omega | (simp only [one_i, one_int, one_bool, one_str, one_ptr, one_nilp, one_nils, one_slice, one_map, one_nilm, one_func, one_iface, same_i, same_bool, same_nils, same_ptr, same_map, same_slice, List.length_cons, List.length_nil, Nat.zero_add, Nat.reduceAdd, allOne_cons, allOne_nil, Bool.and_self]; done) | (simp only [List.length_cons, List.length_nil, List.length_map, List.length_set]; omega)) only [go_sem, fAdd_eq, i0, i1, i5, c, e1, this]
end
end Go.Proofs.YtjipdnfaokdkbaaLab
