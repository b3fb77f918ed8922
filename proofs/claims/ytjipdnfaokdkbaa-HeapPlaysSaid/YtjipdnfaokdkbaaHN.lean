/- The heap slid: its closures. No condition on the program. -/
import Derived.Test.YtjipdnfaokdkbaaRH
namespace Go.Proofs.YtjipdnfaokdkbaaLab
open Go
set_option linter.all false
set_option maxRecDepth 10000
noncomputable section
theorem fok42 : fok.get 42 = some true := (rfl)
theorem fok43 : fok.get 43 = some true := (rfl)
theorem fok44 : fok.get 44 = some true := (rfl)
/-- 'each': whatever its function does. -/
theorem each_eq {s : St} {keep : List Int} {len : Nat → Nat} {rf : Nat → Nat → Bool} (I : Nat → Nat → St → Prop) (Bad : St → Prop) {gf kb hb : Nat} {caps : List V} {hp kv : V} (d : Nat)
    (hB : ∀ i k t, I i k t → Wf t ∧ ldP (.ptr kb 0) t = some kv ∧ ldP (.ptr hb 0) t = some hp ∧ SL t kv (keep.map .i))
    (hL : ∀ i k t r, I i k t → keep[i]? = some r → (K (d + 4)).call 11 [hp, .i r] t = some (.i (len i : Nat), t))
    (hR : ∀ i k t r, I i k t → keep[i]? = some r → k < len i → (K (d + 4)).call 21 [hp, .i r, .i (k : Nat)] t = some (.bool (rf i k), t))
    (hS : ∀ i k t, I i k t → k < len i → i < keep.length → rf i k = false → I i (k + 1) t)
    (hT : ∀ i k t r, I i k t → keep[i]? = some r → k < len i → rf i k = true → ∃ b t', (K (d + 4)).call gf (.i r :: .i (k : Nat) :: caps) t = some (.bool b, t') ∧ (b = true → I i (k + 1) t') ∧ (b = false → Bad t'))
    (hN : ∀ i t, i < keep.length → I i (len i) t → I (i + 1) 0 t)
    (hl : ∀ i, i < keep.length → len i < 100000) (hk : keep.length ≤ 100000) (hs : I 0 0 s) (hf : fok.get gf = some true) :
    Ret ((K (d + 5)).call 42 [.func gf [] caps, .ptr kb 0, .ptr hb 0] s) fun v t => ∃ b, v = .bool b ∧ (b = true → I keep.length 0 t) ∧ (b = false → Bad t) := by
  obtain ⟨w0, b0, b1, b2⟩ := hB 0 0 s hs
  have hlen := b2.len
  rw [List.length_map] at hlen
  simp -implicitDefEqProofs (maxSteps := 5000000) (disch := first | assumption | omega | (simp only [one_i, one_int, one_bool, one_str, one_ptr, one_nilp, one_nils, one_slice, one_map, one_nilm, one_func, one_iface, same_i, same_bool, same_nils, same_ptr, same_map, same_slice, List.length_cons, List.length_nil, Nat.zero_add, Nat.reduceAdd, allOne_cons, allOne_nil, Bool.and_self]; done) | (simp only [List.length_cons, List.length_nil, List.length_map, List.length_set]; omega)) only [op42, go_sem, fAdd_eq, b0, hlen]
  refine loop_at (Q := fun r => Ret (retR _ (seqR (blkR 0 r) _)) _) (fun m e t => ∃ j : Nat, m = keep.length - j ∧ j ≤ keep.length ∧ I j 0 t ∧ g0 e = .func gf [] caps ∧ g1 e = .ptr kb 0 ∧ g2 e = .ptr hb 0 ∧ g8 e = kv ∧ g9 e = .i (keep.length : Nat) ∧ g10 e = .i j) ?_ (n := keep.length) (by omega) ⟨0, by omega, by omega, hs, (by first | trivial | rfl | assumption), (by first | trivial | rfl | assumption), (by first | trivial | rfl | assumption), (by first | trivial | rfl | assumption), (by first | trivial | rfl | assumption), (by first | trivial | rfl | assumption)⟩
  rintro m e t ⟨j, rfl, hj, hI, i0, i1, i2, i8, i9, i10⟩
  replace i0 : e.a0.a0 = _ := i0
  replace i1 : e.a0.a1 = _ := i1
  replace i2 : e.a0.a2 = _ := i2
  replace i8 : e.a0.a8 = _ := i8
  replace i9 : e.a0.a9 = _ := i9
  replace i10 : e.a0.a10 = _ := i10
  by_cases c : (j : Int) < ((keep.length : Nat) : Int)
  · have hoj : keep[j]? = some keep[j] := List.getElem?_eq_getElem (by omega)
    obtain ⟨hw, x0, x1, x2⟩ := hB j 0 t hI
    obtain ⟨q, a1, a2⟩ := x2.at hw (j := j) (x := .i keep[j]) (by rw [List.getElem?_map, hoj]; rfl)
    have eL := hL j 0 t _ hI hoj
    have hlj := hl j (by omega)
    generalize keep[j] = r at *
    simp -implicitDefEqProofs (maxSteps := 5000000) (disch := first | assumption | omega | (simp only [one_i, one_int, one_bool, one_str, one_ptr, one_nilp, one_nils, one_slice, one_map, one_nilm, one_func, one_iface, same_i, same_bool, same_nils, same_ptr, same_map, same_slice, List.length_cons, List.length_nil, Nat.zero_add, Nat.reduceAdd, allOne_cons, allOne_nil, Bool.and_self]; done) | (simp only [List.length_cons, List.length_nil, List.length_map, List.length_set]; omega)) only [go_sem, fAdd_eq, i0, i1, i2, i8, i9, i10, c, a1, a2, x1, eL]
    refine loop_at (Q := fun r => rnd (seqR (blkR 1 (blkR 2 r)) _) _ _) (fun m e t => ∃ k : Nat, m = len j - k ∧ k ≤ len j ∧ I j k t ∧ g0 e = .func gf [] caps ∧ g1 e = .ptr kb 0 ∧ g2 e = .ptr hb 0 ∧ g6 e = .i r ∧ g8 e = kv ∧ g9 e = .i (keep.length : Nat) ∧ g10 e = .i j ∧ g16 e = .i (len j : Nat) ∧ g17 e = .i k) ?_ (n := len j) (by omega) ⟨0, by omega, by omega, hI, (by first | trivial | rfl | assumption), (by first | trivial | rfl | assumption), (by first | trivial | rfl | assumption), (by first | trivial | rfl | assumption), (by first | trivial | rfl | assumption), (by first | trivial | rfl | assumption), (by first | trivial | rfl | assumption), (by first | trivial | rfl | assumption), (by first | trivial | rfl | assumption)⟩
    clear i0 i1 i2 i8 i9 i10 hI x0 x1 x2 eL a1 a2 hw
    rintro m e t ⟨k, rfl, hk', hI, i0, i1, i2, i6, i8, i9, i10, i16, i17⟩
    replace i0 : e.a0.a0 = _ := i0
    replace i1 : e.a0.a1 = _ := i1
    replace i2 : e.a0.a2 = _ := i2
    replace i6 : e.a0.a6 = _ := i6
    replace i8 : e.a0.a8 = _ := i8
    replace i9 : e.a0.a9 = _ := i9
    replace i10 : e.a0.a10 = _ := i10
    replace i16 : e.a1.a0 = _ := i16
    replace i17 : e.a1.a1 = _ := i17
    by_cases ck : (k : Int) < ((len j : Nat) : Int)
    · obtain ⟨hw, x0, x1, x2⟩ := hB j k t hI
      have er := hR j k t r hI hoj (by omega)
      cases hr : rf j k with
      | false =>
        rw [hr] at er
        simp -implicitDefEqProofs (maxSteps := 5000000) (disch := first | assumption | omega | (simp only [one_i, one_int, one_bool, one_str, one_ptr, one_nilp, one_nils, one_slice, one_map, one_nilm, one_func, one_iface, same_i, same_bool, same_nils, same_ptr, same_map, same_slice, List.length_cons, List.length_nil, Nat.zero_add, Nat.reduceAdd, allOne_cons, allOne_nil, Bool.and_self]; done) | (simp only [List.length_cons, List.length_nil, List.length_map, List.length_set]; omega)) only [go_sem, fAdd_eq, i0, i1, i2, i6, i8, i9, i10, i16, i17, ck, x1, er]
        exact ⟨len j - (k + 1), by omega, k + 1, rfl, by omega, hS j k t hI (by omega) (by omega) hr, (by first | trivial | rfl | assumption), (by first | trivial | rfl | assumption), (by first | trivial | rfl | assumption), (by first | trivial | rfl | assumption), (by first | trivial | rfl | assumption), (by first | trivial | rfl | assumption), (by first | trivial | rfl | assumption), (by first | trivial | rfl | assumption), (by first | trivial | rfl | assumption)⟩
      | true =>
        rw [hr] at er
        obtain ⟨b, t', et, h1, h2⟩ := hT j k t r hI hoj (by omega) hr
        cases b with
        | false =>
          simp -implicitDefEqProofs (maxSteps := 5000000) (disch := first | assumption | omega | (simp only [one_i, one_int, one_bool, one_str, one_ptr, one_nilp, one_nils, one_slice, one_map, one_nilm, one_func, one_iface, same_i, same_bool, same_nils, same_ptr, same_map, same_slice, List.length_cons, List.length_nil, Nat.zero_add, Nat.reduceAdd, allOne_cons, allOne_nil, Bool.and_self]; done) | (simp only [List.length_cons, List.length_nil, List.length_map, List.length_set]; omega)) only [go_sem, fAdd_eq, i0, i1, i2, i6, i8, i9, i10, i16, i17, ck, x1, er, eCallV_def, cvV_func hf, List.nil_append, List.cons_append, et]
          exact ⟨false, rfl, by simp, fun _ => h2 rfl⟩
        | true =>
          simp -implicitDefEqProofs (maxSteps := 5000000) (disch := first | assumption | omega | (simp only [one_i, one_int, one_bool, one_str, one_ptr, one_nilp, one_nils, one_slice, one_map, one_nilm, one_func, one_iface, same_i, same_bool, same_nils, same_ptr, same_map, same_slice, List.length_cons, List.length_nil, Nat.zero_add, Nat.reduceAdd, allOne_cons, allOne_nil, Bool.and_self]; done) | (simp only [List.length_cons, List.length_nil, List.length_map, List.length_set]; omega)) only [go_sem, fAdd_eq, i0, i1, i2, i6, i8, i9, i10, i16, i17, ck, x1, er, eCallV_def, cvV_func hf, List.nil_append, List.cons_append, et]
          exact ⟨len j - (k + 1), by omega, k + 1, rfl, by omega, h1 rfl, (by first | trivial | rfl | assumption), (by first | trivial | rfl | assumption), (by first | trivial | rfl | assumption), (by first | trivial | rfl | assumption), (by first | trivial | rfl | assumption), (by first | trivial | rfl | assumption), (by first | trivial | rfl | assumption), (by first | trivial | rfl | assumption), (by first | trivial | rfl | assumption)⟩
    · have : k = len j := by omega
      subst this
      simp -implicitDefEqProofs (maxSteps := 5000000) (disch := first | assumption | omega | (simp only [one_i, one_int, one_bool, one_str, one_ptr, one_nilp, one_nils, one_slice, one_map, one_nilm, one_func, one_iface, same_i, same_bool, same_nils, same_ptr, same_map, same_slice, List.length_cons, List.length_nil, Nat.zero_add, Nat.reduceAdd, allOne_cons, allOne_nil, Bool.and_self]; done) | (simp only [List.length_cons, List.length_nil, List.length_map, List.length_set]; omega)) only [go_sem, fAdd_eq, i0, i1, i2, i6, i8, i9, i10, i16, i17, ck]
      exact ⟨keep.length - (j + 1), by omega, j + 1, rfl, by omega, hN j t (by omega) hI, (by first | trivial | rfl | assumption), (by first | trivial | rfl | assumption), (by first | trivial | rfl | assumption), (by first | trivial | rfl | assumption), (by first | trivial | rfl | assumption), (by first | trivial | rfl | assumption)⟩
  · have : j = keep.length := by omega
    subst this
    simp -implicitDefEqProofs (maxSteps := 5000000) (disch := first | assumption | omega | (simp only [one_i, one_int, one_bool, one_str, one_ptr, one_nilp, one_nils, one_slice, one_map, one_nilm, one_func, one_iface, same_i, same_bool, same_nils, same_ptr, same_map, same_slice, List.length_cons, List.length_nil, Nat.zero_add, Nat.reduceAdd, allOne_cons, allOne_nil, Bool.and_self]; done) | (simp only [List.length_cons, List.length_nil, List.length_map, List.length_set]; omega)) only [go_sem, fAdd_eq, i0, i1, i2, i8, i9, i10, c]
    exact ⟨true, rfl, fun _ => hI, by simp⟩
end
end Go.Proofs.YtjipdnfaokdkbaaLab
