/- The document's heap slid, or not. No condition on the program. -/
import Derived.Test.YtjipdnfaokdkbaaRG
namespace Go.Proofs.YtjipdnfaokdkbaaLab
open Go
set_option linter.all false
set_option maxRecDepth 10000
noncomputable section
theorem SlideQ.bad {s : St} {rp : Nat} {w : Int} {os : List O} {shapes : List (List Bool)} {FO FS : List Nat} {keep : List Int} (h : ¬ (Kept os keep ∧ Clo os shapes keep keep)) : SlideQ s rp w os shapes FO FS keep (.tup [.nils, .i 1]) s := ⟨fun _ => ⟨rfl, rfl⟩, fun h' => absurd h' h⟩
section
variable {s : St} {rp : Nat} {w : Int} {os : List O} {shapes : List (List Bool)} {FO FS : List Nat} (H : RR s rp w os shapes FO FS)
include H
theorem RR.slide (ok : ShOk os shapes) {v : V} {keep : List Int} (hk : SL s v (keep.map .i)) (hl : keep.length ≤ 100000) (hvb : ∀ b ∈ blkV v, b < s.next) (d : Nat) :
    Ret ((K (d + 3)).call 35 [.ptr rp 0, v] s) (SlideQ s rp w os shapes FO FS keep) := by
  obtain ⟨lV, sh, h1, hO, hS⟩ := H.ex
  have hw := H.wf
  have hw0 := H.w0
  have hlw := H.lw
  have hlen := hk.len
  rw [List.length_map] at hlen
  simp -implicitDefEqProofs (maxSteps := 5000000) (disch := first | assumption | omega | (simp only [one_i, one_int, one_bool, one_str, one_ptr, one_nilp, one_nils, one_slice, one_map, one_nilm, one_func, one_iface, same_i, same_bool, same_nils, same_ptr, same_map, same_slice, List.length_cons, List.length_nil, Nat.zero_add, Nat.reduceAdd, allOne_cons, allOne_nil, Bool.and_self]; done) | (simp only [List.length_cons, List.length_nil, List.length_map, List.length_set]; omega)) only [op35, go_sem, ↓p35_21.eq_1, fAdd_eq]
  refine loop_at (Q := fun r => Ret (retR _ (seqR (blkR 0 r) _)) _) (fun m e t => ∃ j : Nat, m = keep.length - j ∧ j ≤ keep.length ∧ s = t ∧ Kept os (keep.take j) ∧ Clo os shapes keep (keep.take j) ∧ g0 e = .ptr rp 0 ∧ g1 e = v ∧ g6 e = .i j) ?_ (n := keep.length) (by omega) ⟨0, by omega, by omega, rfl, by simpa using Kept.nil, by simp [Clo], (by first | trivial | rfl | assumption), (by first | trivial | rfl | assumption), (by first | trivial | rfl | assumption)⟩
  rintro m e t ⟨j, rfl, hj, rfl, hK, hC, i0, i1, i6⟩
  replace i0 : e.a0.a0 = _ := i0
  replace i1 : e.a0.a1 = _ := i1
  replace i6 : e.a0.a6 = _ := i6
  by_cases c : (j : Int) < ((keep.length : Nat) : Int)
  · have hoj : keep[j]? = some keep[j] := List.getElem?_eq_getElem (by omega)
    obtain ⟨q, a1, a2⟩ := hk.at hw (j := j) (x := .i keep[j]) (by rw [List.getElem?_map, hoj]; rfl)
    have hts := take_snoc hoj
    generalize keep[j] = r at *
    obtain ⟨f0, f1⟩ := H.find (d + 1) r
    cases hat : at? os r with
    | none =>
      have e1 := f0 hat
      have hbad : ¬ (Kept os keep ∧ Clo os shapes keep keep) := fun h => by
        have := h.1.inn r (List.mem_of_getElem? hoj)
        rw [hat] at this; cases this
      simp -implicitDefEqProofs (maxSteps := 5000000) (disch := first | assumption | omega | (simp only [one_i, one_int, one_bool, one_str, one_ptr, one_nilp, one_nils, one_slice, one_map, one_nilm, one_func, one_iface, same_i, same_bool, same_nils, same_ptr, same_map, same_slice, List.length_cons, List.length_nil, Nat.zero_add, Nat.reduceAdd, allOne_cons, allOne_nil, Bool.and_self]; done) | (simp only [List.length_cons, List.length_nil, List.length_map, List.length_set]; omega)) only [go_sem, ↓p35_21.eq_1, fAdd_eq, i0, i1, i6, c, hlen, a1, a2, e1]
      exact SlideQ.bad hbad
    | some o =>
      obtain ⟨b, i, bf, cc, e1, ob, oi, ol, oL⟩ := f1 o hat
      have e2 := ob.f
      have key : Kept os (keep.take (j + 1)) → ∀ e2 : E, e2.a0.a0 = .ptr rp 0 → e2.a0.a1 = v → e2.a0.a6 = .i j → e2.a0.a7 = .ptr b (4 * i) → rnd (seqR (blkR 1 (p35_21 (K (d + 2)) e2 s)) (p35_37 (K (d + 2)))) (fun e' s' => ∃ m, m < keep.length - j ∧ ∃ j, m = keep.length - j ∧ j ≤ keep.length ∧ s = s' ∧ Kept os (keep.take j) ∧ Clo os shapes keep (keep.take j) ∧ e'.a0.a0 = .ptr rp 0 ∧ e'.a0.a1 = v ∧ e'.a0.a6 = .i (j : Nat))
          fun r => Ret (retR (resV [rT g4, rT g5]) (seqR (blkR 0 r) (p35_38 (K (d + 2))))) (SlideQ s rp w os shapes FO FS keep) := by
        intro hK2 e3 z0 z1 z6 z7
        clear i0 i1 i6
        have hfl : o.f.length < 20000 := by have := lay_lt hat; have : o.n = 3 + o.f.length := rfl; omega
        simp -implicitDefEqProofs (maxSteps := 5000000) (disch := first | assumption | omega | (simp only [one_i, one_int, one_bool, one_str, one_ptr, one_nilp, one_nils, one_slice, one_map, one_nilm, one_func, one_iface, same_i, same_bool, same_nils, same_ptr, same_map, same_slice, List.length_cons, List.length_nil, Nat.zero_add, Nat.reduceAdd, allOne_cons, allOne_nil, Bool.and_self]; done) | (simp only [List.length_cons, List.length_nil, List.length_map, List.length_set]; omega)) only [go_sem, ↓p35_21.eq_1, fAdd_eq, z0, z1, z6, z7]
        refine loop_at (Q := fun r => rnd (seqR (blkR 1 (blkR 2 r)) _) _ _) (fun m e t => ∃ k : Nat, m = o.f.length - k ∧ k ≤ o.f.length ∧ s = t ∧ (∀ (n : Nat) x, n < k → o.f[n]? = some x → refB shapes o n = true → x = 0 ∨ x ∈ keep) ∧ g0 e = .ptr rp 0 ∧ g1 e = v ∧ g6 e = .i j ∧ g7 e = .ptr b (4 * i) ∧ g8 e = .i k) ?_ (n := o.f.length) (by omega) ⟨0, by omega, by omega, rfl, by simp, (by first | trivial | rfl | assumption), (by first | trivial | rfl | assumption), (by first | trivial | rfl | assumption), (by first | trivial | rfl | assumption), (by first | trivial | rfl | assumption)⟩
        rintro m e t ⟨k, rfl, hk', rfl, hn, i0, i1, i6, i7, i8⟩
        replace i0 : e.a0.a0 = _ := i0
        replace i1 : e.a0.a1 = _ := i1
        replace i6 : e.a0.a6 = _ := i6
        replace i7 : e.a0.a7 = _ := i7
        replace i8 : e.a0.a8 = _ := i8
        by_cases ck : (k : Int) < ((o.f.length : Nat) : Int)
        · have hx : o.f[k]? = some o.f[k] := List.getElem?_eq_getElem (by omega)
          obtain ⟨b1, b2⟩ := ob.getN hw hx
          generalize o.f[k] = x at *
          have er := H.isRef ok d r k
          rw [refO_at hat (by omega)] at er
          have hnext : (refB shapes o k = true → x = 0 ∨ x ∈ keep) → ∀ (n : Nat) x, n < k + 1 → o.f[n]? = some x → refB shapes o n = true → x = 0 ∨ x ∈ keep := by
            intro h n y hnk hy hr
            by_cases e : n = k
            · subst e; rw [hx] at hy; cases hy; exact h hr
            · exact hn n y (by omega) hy hr
          cases hr : refB shapes o k with
          | false =>
            rw [hr] at er
            simp -implicitDefEqProofs (maxSteps := 5000000) (disch := first | assumption | omega | (simp only [one_i, one_int, one_bool, one_str, one_ptr, one_nilp, one_nils, one_slice, one_map, one_nilm, one_func, one_iface, same_i, same_bool, same_nils, same_ptr, same_map, same_slice, List.length_cons, List.length_nil, Nat.zero_add, Nat.reduceAdd, allOne_cons, allOne_nil, Bool.and_self]; done) | (simp only [List.length_cons, List.length_nil, List.length_map, List.length_set]; omega)) only [go_sem, ↓p35_21.eq_1, fAdd_eq, i0, i1, i6, i7, i8, ck, e2, a1, a2, er]
            exact ⟨o.f.length - (k + 1), by omega, k + 1, rfl, by omega, (by first | trivial | rfl | assumption), hnext (by rw [hr]; simp), (by first | trivial | rfl | assumption), (by first | trivial | rfl | assumption), (by first | trivial | rfl | assumption), (by first | trivial | rfl | assumption), (by first | trivial | rfl | assumption)⟩
          | true =>
            rw [hr] at er
            by_cases c0 : x = 0
            · simp -implicitDefEqProofs (maxSteps := 5000000) (disch := first | assumption | omega | (simp only [one_i, one_int, one_bool, one_str, one_ptr, one_nilp, one_nils, one_slice, one_map, one_nilm, one_func, one_iface, same_i, same_bool, same_nils, same_ptr, same_map, same_slice, List.length_cons, List.length_nil, Nat.zero_add, Nat.reduceAdd, allOne_cons, allOne_nil, Bool.and_self]; done) | (simp only [List.length_cons, List.length_nil, List.length_map, List.length_set]; omega)) only [go_sem, ↓p35_21.eq_1, fAdd_eq, i0, i1, i6, i7, i8, ck, e2, a1, a2, er, b1, b2, c0]
              exact ⟨o.f.length - (k + 1), by omega, k + 1, rfl, by omega, (by first | trivial | rfl | assumption), hnext (fun _ => .inl c0), (by first | trivial | rfl | assumption), (by first | trivial | rfl | assumption), (by first | trivial | rfl | assumption), (by first | trivial | rfl | assumption), (by first | trivial | rfl | assumption)⟩
            · have eh := has_eq hw hk (by omega) x (d + 1)
              by_cases ch : hasI keep x < 0
              · have hbad : ¬ (Kept os keep ∧ Clo os shapes keep keep) := fun h => (h.2 r (List.mem_of_getElem? hoj) o hat k x hx hr).elim c0 (hasI_neg.1 ch)
                simp -implicitDefEqProofs (maxSteps := 5000000) (disch := first | assumption | omega | (simp only [one_i, one_int, one_bool, one_str, one_ptr, one_nilp, one_nils, one_slice, one_map, one_nilm, one_func, one_iface, same_i, same_bool, same_nils, same_ptr, same_map, same_slice, List.length_cons, List.length_nil, Nat.zero_add, Nat.reduceAdd, allOne_cons, allOne_nil, Bool.and_self]; done) | (simp only [List.length_cons, List.length_nil, List.length_map, List.length_set]; omega)) only [go_sem, ↓p35_21.eq_1, fAdd_eq, i0, i1, i6, i7, i8, ck, e2, a1, a2, er, b1, b2, c0, eh, ch]
                exact SlideQ.bad hbad
              · simp -implicitDefEqProofs (maxSteps := 5000000) (disch := first | assumption | omega | (simp only [one_i, one_int, one_bool, one_str, one_ptr, one_nilp, one_nils, one_slice, one_map, one_nilm, one_func, one_iface, same_i, same_bool, same_nils, same_ptr, same_map, same_slice, List.length_cons, List.length_nil, Nat.zero_add, Nat.reduceAdd, allOne_cons, allOne_nil, Bool.and_self]; done) | (simp only [List.length_cons, List.length_nil, List.length_map, List.length_set]; omega)) only [go_sem, ↓p35_21.eq_1, fAdd_eq, i0, i1, i6, i7, i8, ck, e2, a1, a2, er, b1, b2, c0, eh, ch]
                exact ⟨o.f.length - (k + 1), by omega, k + 1, rfl, by omega, (by first | trivial | rfl | assumption), hnext (fun _ => .inr (Classical.byContradiction fun h => ch (hasI_neg.2 h))), (by first | trivial | rfl | assumption), (by first | trivial | rfl | assumption), (by first | trivial | rfl | assumption), (by first | trivial | rfl | assumption), (by first | trivial | rfl | assumption)⟩
        · have : k = o.f.length := by omega
          subst this
          simp -implicitDefEqProofs (maxSteps := 5000000) (disch := first | assumption | omega | (simp only [one_i, one_int, one_bool, one_str, one_ptr, one_nilp, one_nils, one_slice, one_map, one_nilm, one_func, one_iface, same_i, same_bool, same_nils, same_ptr, same_map, same_slice, List.length_cons, List.length_nil, Nat.zero_add, Nat.reduceAdd, allOne_cons, allOne_nil, Bool.and_self]; done) | (simp only [List.length_cons, List.length_nil, List.length_map, List.length_set]; omega)) only [go_sem, ↓p35_21.eq_1, fAdd_eq, i0, i1, i6, i7, i8, ck, e2]
          refine ⟨keep.length - (j + 1), by omega, j + 1, rfl, by omega, (by first | trivial | rfl | assumption), hK2, ?_, (by first | trivial | rfl | assumption), (by first | trivial | rfl | assumption), (by first | trivial | rfl | assumption)⟩
          intro r' hr' o' ho' n x hx hb
          rw [hts] at hr'
          rcases List.mem_append.1 hr' with hr' | hr'
          · exact hC r' hr' o' ho' n x hx hb
          · simp at hr'; subst hr'
            rw [hat] at ho'; cases ho'
            exact hn n x (List.getElem?_eq_some_iff.1 hx).1 hx hb
      by_cases cj : (0 : Int) < (j : Int)
      · have hop : keep[j - 1]? = some keep[j - 1] := List.getElem?_eq_getElem (by omega)
        obtain ⟨q', x1, x2⟩ := hk.at hw (j := j - 1) (x := .i keep[j - 1]) (by rw [List.getElem?_map, hop]; rfl)
        rw [show (((j - 1 : Nat)) : Int) = (j : Int) - 1 by omega] at x1
        have hlast : (keep.take j).getLast? = some keep[j - 1] := by
          rw [List.getLast?_eq_getElem?, List.length_take, List.getElem?_take, if_pos (by omega), show min j keep.length - 1 = j - 1 by omega, hop]
        generalize keep[j - 1] = r2 at *
        by_cases cr : r ≤ r2
        · have hbad : ¬ (Kept os keep ∧ Clo os shapes keep keep) := fun h => by have := h.1.get hop hoj (by omega); omega
          simp -implicitDefEqProofs (maxSteps := 5000000) (disch := first | assumption | omega | (simp only [one_i, one_int, one_bool, one_str, one_ptr, one_nilp, one_nils, one_slice, one_map, one_nilm, one_func, one_iface, same_i, same_bool, same_nils, same_ptr, same_map, same_slice, List.length_cons, List.length_nil, Nat.zero_add, Nat.reduceAdd, allOne_cons, allOne_nil, Bool.and_self]; done) | (simp only [List.length_cons, List.length_nil, List.length_map, List.length_set]; omega)) only [go_sem, fAdd_eq, i0, i1, i6, c, hlen, a1, a2, e1, cj, x1, x2, cr]
          exact SlideQ.bad hbad
        · simp -implicitDefEqProofs (maxSteps := 5000000) (disch := first | assumption | omega | (simp only [one_i, one_int, one_bool, one_str, one_ptr, one_nilp, one_nils, one_slice, one_map, one_nilm, one_func, one_iface, same_i, same_bool, same_nils, same_ptr, same_map, same_slice, List.length_cons, List.length_nil, Nat.zero_add, Nat.reduceAdd, allOne_cons, allOne_nil, Bool.and_self]; done) | (simp only [List.length_cons, List.length_nil, List.length_map, List.length_set]; omega)) only [go_sem, fAdd_eq, i0, i1, i6, c, hlen, a1, a2, e1, cj, x1, x2, cr]
          refine key ?_ _ (by first | trivial | rfl | assumption) (by first | trivial | rfl | assumption) (by first | trivial | rfl | assumption) (by first | trivial | rfl | assumption)
          rw [hts]
          exact hK.snoc hat (fun x hx => by rw [hlast] at hx; cases hx; omega)
      · have hj0 : j = 0 := by omega
        simp -implicitDefEqProofs (maxSteps := 5000000) (disch := first | assumption | omega | (simp only [one_i, one_int, one_bool, one_str, one_ptr, one_nilp, one_nils, one_slice, one_map, one_nilm, one_func, one_iface, same_i, same_bool, same_nils, same_ptr, same_map, same_slice, List.length_cons, List.length_nil, Nat.zero_add, Nat.reduceAdd, allOne_cons, allOne_nil, Bool.and_self]; done) | (simp only [List.length_cons, List.length_nil, List.length_map, List.length_set]; omega)) only [go_sem, fAdd_eq, i0, i1, i6, c, hlen, a1, a2, e1, cj]
        refine key ?_ _ (by first | trivial | rfl | assumption) (by first | trivial | rfl | assumption) (by first | trivial | rfl | assumption) (by first | trivial | rfl | assumption)
        rw [hts]
        exact hK.snoc hat (fun x hx => by subst hj0; simp at hx)
  · have : j = keep.length := by omega
    subst this
    rw [List.take_length] at hK hC
    simp -implicitDefEqProofs (maxSteps := 5000000) (disch := first | assumption | omega | (simp only [one_i, one_int, one_bool, one_str, one_ptr, one_nilp, one_nils, one_slice, one_map, one_nilm, one_func, one_iface, same_i, same_bool, same_nils, same_ptr, same_map, same_slice, List.length_cons, List.length_nil, Nat.zero_add, Nat.reduceAdd, allOne_cons, allOne_nil, Bool.and_self]; done) | (simp only [List.length_cons, List.length_nil, List.length_map, List.length_set]; omega)) only [go_sem, ↓p35_21.eq_1, fAdd_eq, i0, i1, i6, c, hlen]
    exact H.slide_tail ok hk hl hK hC d _ (by first | trivial | rfl | assumption) (by first | trivial | rfl | assumption) hvb
end
end
end Go.Proofs.YtjipdnfaokdkbaaLab
