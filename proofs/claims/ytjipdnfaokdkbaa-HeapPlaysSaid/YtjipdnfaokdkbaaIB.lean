/- The law HeapPlays: slides. No condition on the program. -/
import Derived.Test.YtjipdnfaokdkbaaIA
namespace Go.Proofs.YtjipdnfaokdkbaaLab
open Go
set_option linter.all false
set_option maxRecDepth 10000
noncomputable section
section
variable {s t : St} {p bw bb n bm rp : Nat} {w : Int} {i : Nat} {a : Ask} {X : Nat} {va : V} {os : List O} {z : List Int} {shapes : List (List Bool)} {F FO FS : List Nat} (U : Turn s t p bw bb n bm rp w i a X va os z shapes F FO FS) {C : Res → Prop} {e : E} (d : Nat)
include U
theorem kind5 (h1 : e.a0.a5 = .ptr p 0) (h2 : e.a0.a7 = .ptr rp 0) (h3 : e.a0.a9 = .ptr X 0) (h4 : e.a0.a10 = va)
    (fin : ∀ e' t', e'.a0.a1 = e.a0.a1 → e'.a0.a5 = .ptr p 0 → e'.a0.a7 = .ptr rp 0 → e'.a0.a8 = e.a0.a8 → AllQ s p bw bb n bm rp w (i + 1) t' → C (.nrm e' t')) : C (p6_98 (K (d + 6)) e t) := by
  have hwt := U.T.wf
  have hc := U.c
  have hw := U.hw
  have hsz := U.T.size
  have hl3 := lay_len3 os
  have hlen := U.ga.len
  rw [List.length_map, starts_len] at hlen
  simp only [Ask.cells] at hc
  obtain ⟨lb, hb, hbb⟩ := U.ok.bits
  have hbl := hb.sl.len
  rw [List.length_map] at hbl
  have key : ∀ (u : St) (kv : V) (keep : List Int), Fr t u [] → SL u kv (keep.map .i) → (∀ b ∈ blkV kv, t.next ≤ b ∧ b < u.next) → keep.length ≤ 100000 → ∀ e2 : E, e2.a0.a5 = .ptr p 0 → e2.a0.a7 = .ptr rp 0 → e2.a1.a6 = kv → e2.a0.a1 = e.a0.a1 → e2.a0.a8 = e.a0.a8 → C (p6_121 (K (d + 6)) e2 u) := by
    intro u kv keep fu hk hkb hl e2 z5 z7 z22 z1 z8
    have Tu := U.T.fr fu
    have hp := U.T.lt
    have Fu : Fr s u [] := U.fs fu (by simp)
    obtain ⟨t1, t2, x, x2, y, q1, f1, q2, f2, ⟨l, l1, l2, hll⟩, os', z', FO', T'⟩ := Tu.slide d hk hl (fun b hb => ⟨(hkb b hb).2, fun h => by have := hp b (by simp at h ⊢; rcases h with h | h | h <;> simp [h]); have := (hkb b hb).1; omega⟩)
    have hsub3 : ∀ b ∈ [p, bw, bb], b ∈ p :: bw :: bb :: bm :: F := fun b hb => by simp at hb ⊢; rcases hb with h | h | h <;> simp [h]
    have F1 : Fr s t1 [] := Fu.trans' f1 (fun b hb => .inr (U.b1 hsub3 b hb))
    have F2 : Fr s t2 [] := F1.trans' f2 (fun b hb => .inr (U.b2 (by simp) b hb))
    have es := same_int T'.wf l1 l2 (by omega) (by omega) (d + 5)
    rw [decide_eq_true rfl] at es
    simp -implicitDefEqProofs (maxSteps := 5000000) (disch := first | assumption | omega | (simp only [one_i, one_int, one_bool, one_str, one_ptr, one_nilp, one_nils, one_slice, one_map, one_nilm, one_func, one_iface, same_i, same_bool, same_nils, same_ptr, same_map, same_slice, List.length_cons, List.length_nil, Nat.zero_add, Nat.reduceAdd, allOne_cons, allOne_nil, Bool.and_self]; done) | (simp only [List.length_cons, List.length_nil, List.length_map, List.length_set]; omega)) only [go_sem, ↓p6_41.eq_1, ↓p6_36.eq_1, ↓p6_59.eq_1, ↓p6_80.eq_1, ↓p6_71.eq_1, ↓p6_88.eq_1, ↓p6_121.eq_1, ↓p6_98.eq_1, ↓p6_56.eq_1, ↓p6_130.eq_1, ↓p6_135.eq_1, fAdd_eq, z5, z7, z22, q1, q2, es]
    exact fin _ _ z1 (by first | trivial | rfl | assumption) (by first | trivial | rfl | assumption) z8 ⟨os', ⟨z', shapes, F, FO', FS, T', by have := U.sh1; omega, U.sh2⟩, F2⟩
  simp -implicitDefEqProofs (maxSteps := 5000000) (disch := first | assumption | omega | (simp only [one_i, one_int, one_bool, one_str, one_ptr, one_nilp, one_nils, one_slice, one_map, one_nilm, one_func, one_iface, same_i, same_bool, same_nils, same_ptr, same_map, same_slice, List.length_cons, List.length_nil, Nat.zero_add, Nat.reduceAdd, allOne_cons, allOne_nil, Bool.and_self]; done) | (simp only [List.length_cons, List.length_nil, List.length_map, List.length_set]; omega)) only [go_sem, ↓p6_41.eq_1, ↓p6_36.eq_1, ↓p6_59.eq_1, ↓p6_80.eq_1, ↓p6_71.eq_1, ↓p6_88.eq_1, ↓p6_98.eq_1, ↓p6_56.eq_1, ↓p6_130.eq_1, ↓p6_135.eq_1, fAdd_eq, h1, h2, h3, h4]
  refine loop_at (Q := fun r => C (seqR (blkR 3 r) _)) (fun m e' u => ∃ (k : Nat) (kv : V) (keep : List Int), m = os.length - k ∧ k ≤ os.length ∧ Fr t u [] ∧ GL u kv (keep.map .i) ∧ (∀ r ∈ keep, r ∈ starts 1 os) ∧ keep.length ≤ k ∧ (∀ b ∈ blkV kv, t.next ≤ b) ∧ g1 e' = e.a0.a1 ∧ g5 e' = .ptr p 0 ∧ g7 e' = .ptr rp 0 ∧ g8 e' = e.a0.a8 ∧ g9 e' = .ptr X 0 ∧ g10 e' = va ∧ g22 e' = kv ∧ g23 e' = .i k) ?_ (n := os.length) (by omega) ⟨0, .nils, [], by omega, by omega, Fr.refl hwt _, .inl ⟨rfl, rfl⟩, by simp, by simp, by simp [blkV], (by first | trivial | rfl | assumption), (by first | trivial | rfl | assumption), (by first | trivial | rfl | assumption), (by first | trivial | rfl | assumption), (by first | trivial | rfl | assumption), (by first | trivial | rfl | assumption), (by first | trivial | rfl | assumption), (by first | trivial | rfl | assumption)⟩
  rintro m e' u ⟨k, kv, keep, rfl, hk, fu, hg, hin, hkl, hkb, i1, i5, i7, i8, i9, i10, i22, i23⟩
  replace i1 : e'.a0.a1 = _ := i1
  replace i5 : e'.a0.a5 = _ := i5
  replace i7 : e'.a0.a7 = _ := i7
  replace i8 : e'.a0.a8 = _ := i8
  replace i9 : e'.a0.a9 = _ := i9
  replace i10 : e'.a0.a10 = _ := i10
  replace i22 : e'.a1.a6 = _ := i22
  replace i23 : e'.a1.a7 = _ := i23
  have hwu := fu.wf
  have cu := fu.cl hwt hc (by simp)
  have Fu : Fr s u [] := U.fs fu (by simp)
  have hga := U.ga.fr hwt fu (by simp)
  by_cases c : (k : Int) < ((os.length : Nat) : Int)
  · obtain ⟨r, hok⟩ : ∃ r, (starts 1 os)[k]? = some r := ⟨_, starts_get os 1 k (by omega)⟩
    obtain ⟨q, a1, a2⟩ := (hga.sl hwu).at hwu (j := k) (x := .i r) (by rw [List.getElem?_map, hok]; rfl)
    have hmem := List.mem_of_getElem? hok
    obtain ⟨x1, x2, p1, p2, hg2, f2, n2⟩ := hg.push hwu (x := .i r) rfl (fun y hy => by obtain ⟨a, _, rfl⟩ := List.mem_map.1 hy; rfl) (by rw [List.length_map]; omega)
    have hun := fu.nx
    have F2 : Fr t x2 [] := fu.trans' f2 (fun x hx => .inr (hkb x hx))
    have more : ∃ m, m < os.length - k ∧ m = os.length - (k + 1) ∧ k + 1 ≤ os.length ∧ Fr t x2 [] ∧ GL x2 (.slice (u.next + 1) 0 ((keep.map V.i).length + 1) none 1) ((keep ++ [r]).map .i) ∧ (∀ r' ∈ keep ++ [r], r' ∈ starts 1 os) ∧ (keep ++ [r]).length ≤ k + 1 ∧ ∀ b ∈ blkV (.slice (u.next + 1) 0 ((keep.map V.i).length + 1) none 1), t.next ≤ b := by
      refine ⟨_, ?_, rfl, by omega, F2, by rw [List.map_append]; exact hg2, fun r' hr' => ?_, by simp; omega, by simp [blkV]; omega⟩
      · omega
      · rcases List.mem_append.1 hr' with h | h
        · exact hin r' h
        · simp at h; subst h; exact hmem
    obtain ⟨m', m1, m2, m3, m4, m5, m6, m7, m8⟩ := more
    by_cases cb : (lb.length : Nat) ≤ (k : Int)
    · simp -implicitDefEqProofs (maxSteps := 5000000) (disch := first | assumption | omega | (simp only [one_i, one_int, one_bool, one_str, one_ptr, one_nilp, one_nils, one_slice, one_map, one_nilm, one_func, one_iface, same_i, same_bool, same_nils, same_ptr, same_map, same_slice, List.length_cons, List.length_nil, Nat.zero_add, Nat.reduceAdd, allOne_cons, allOne_nil, Bool.and_self]; done) | (simp only [List.length_cons, List.length_nil, List.length_map, List.length_set]; omega)) only [go_sem, ↓p6_41.eq_1, ↓p6_36.eq_1, ↓p6_59.eq_1, ↓p6_80.eq_1, ↓p6_71.eq_1, ↓p6_88.eq_1, ↓p6_98.eq_1, ↓p6_56.eq_1, ↓p6_130.eq_1, ↓p6_135.eq_1, fAdd_eq, i1, i5, i7, i8, i9, i10, i22, i23, hlen, c, dLd_at hwu cu, hbl, cb, a1, a2, p1, p2]
      exact ⟨m', m1, k + 1, _, _, m2, m3, m4, m5, m6, m7, m8, (by first | trivial | rfl | assumption), (by first | trivial | rfl | assumption), (by first | trivial | rfl | assumption), (by first | trivial | rfl | assumption), (by first | trivial | rfl | assumption), (by first | trivial | rfl | assumption), rfl, (by first | trivial | rfl | assumption)⟩
    · obtain ⟨bv, hbk⟩ : ∃ bv, lb[k]? = some bv := ⟨_, List.getElem?_eq_getElem (by omega)⟩
      obtain ⟨q', b1, b2⟩ := (hb.sl.fr hw Fu (by simp)).at hwu (j := k) (x := .bool bv) (by rw [List.getElem?_map, hbk]; rfl)
      cases bv with
      | true =>
        simp -implicitDefEqProofs (maxSteps := 5000000) (disch := first | assumption | omega | (simp only [one_i, one_int, one_bool, one_str, one_ptr, one_nilp, one_nils, one_slice, one_map, one_nilm, one_func, one_iface, same_i, same_bool, same_nils, same_ptr, same_map, same_slice, List.length_cons, List.length_nil, Nat.zero_add, Nat.reduceAdd, allOne_cons, allOne_nil, Bool.and_self]; done) | (simp only [List.length_cons, List.length_nil, List.length_map, List.length_set]; omega)) only [go_sem, ↓p6_41.eq_1, ↓p6_36.eq_1, ↓p6_59.eq_1, ↓p6_80.eq_1, ↓p6_71.eq_1, ↓p6_88.eq_1, ↓p6_98.eq_1, ↓p6_56.eq_1, ↓p6_130.eq_1, ↓p6_135.eq_1, fAdd_eq, i1, i5, i7, i8, i9, i10, i22, i23, hlen, c, dLd_at hwu cu, hbl, cb, b1, b2, a1, a2, p1, p2]
        exact ⟨m', m1, k + 1, _, _, m2, m3, m4, m5, m6, m7, m8, (by first | trivial | rfl | assumption), (by first | trivial | rfl | assumption), (by first | trivial | rfl | assumption), (by first | trivial | rfl | assumption), (by first | trivial | rfl | assumption), (by first | trivial | rfl | assumption), rfl, (by first | trivial | rfl | assumption)⟩
      | false =>
        simp -implicitDefEqProofs (maxSteps := 5000000) (disch := first | assumption | omega | (simp only [one_i, one_int, one_bool, one_str, one_ptr, one_nilp, one_nils, one_slice, one_map, one_nilm, one_func, one_iface, same_i, same_bool, same_nils, same_ptr, same_map, same_slice, List.length_cons, List.length_nil, Nat.zero_add, Nat.reduceAdd, allOne_cons, allOne_nil, Bool.and_self]; done) | (simp only [List.length_cons, List.length_nil, List.length_map, List.length_set]; omega)) only [go_sem, ↓p6_41.eq_1, ↓p6_36.eq_1, ↓p6_59.eq_1, ↓p6_80.eq_1, ↓p6_71.eq_1, ↓p6_88.eq_1, ↓p6_98.eq_1, ↓p6_56.eq_1, ↓p6_130.eq_1, ↓p6_135.eq_1, fAdd_eq, i1, i5, i7, i8, i9, i10, i22, i23, hlen, c, dLd_at hwu cu, hbl, cb, b1, b2]
        exact ⟨os.length - (k + 1), by omega, k + 1, kv, keep, rfl, by omega, fu, hg, hin, by omega, hkb, (by first | trivial | rfl | assumption), (by first | trivial | rfl | assumption), (by first | trivial | rfl | assumption), (by first | trivial | rfl | assumption), (by first | trivial | rfl | assumption), (by first | trivial | rfl | assumption), (by first | trivial | rfl | assumption), (by first | trivial | rfl | assumption)⟩
  · have Tu := U.T.fr fu
    by_cases cn : a.n = 1
    · obtain ⟨t1, x, l, q1, f1, hx, hxb, hxl⟩ := Tu.mark (d + 3) (hg.sl hwu) (by omega) (fun r hr => by
        obtain ⟨o, ho⟩ := starts_at (hin r hr)
        exact .inr (by unfold at?; rw [show r - 1 = r - ((1 : Nat) : Int) by omega, ho]; rfl))
      have hun := fu.nx
      simp -implicitDefEqProofs (maxSteps := 5000000) (disch := first | assumption | omega | (simp only [one_i, one_int, one_bool, one_str, one_ptr, one_nilp, one_nils, one_slice, one_map, one_nilm, one_func, one_iface, same_i, same_bool, same_nils, same_ptr, same_map, same_slice, List.length_cons, List.length_nil, Nat.zero_add, Nat.reduceAdd, allOne_cons, allOne_nil, Bool.and_self]; done) | (simp only [List.length_cons, List.length_nil, List.length_map, List.length_set]; omega)) only [go_sem, ↓p6_41.eq_1, ↓p6_36.eq_1, ↓p6_59.eq_1, ↓p6_80.eq_1, ↓p6_71.eq_1, ↓p6_88.eq_1, ↓p6_98.eq_1, ↓p6_56.eq_1, ↓p6_130.eq_1, ↓p6_135.eq_1, fAdd_eq, i1, i5, i7, i8, i9, i10, i22, i23, hlen, c, dLd_at hwu cu, cn, q1]
      exact key t1 x l (fu.trans f1) hx (fun b hb' => ⟨by have := (hxb b hb').1; omega, (hxb b hb').2⟩) hxl _ (by first | trivial | rfl | assumption) (by first | trivial | rfl | assumption) (by first | trivial | rfl | assumption) (by first | trivial | rfl | assumption) (by first | trivial | rfl | assumption)
    · simp -implicitDefEqProofs (maxSteps := 5000000) (disch := first | assumption | omega | (simp only [one_i, one_int, one_bool, one_str, one_ptr, one_nilp, one_nils, one_slice, one_map, one_nilm, one_func, one_iface, same_i, same_bool, same_nils, same_ptr, same_map, same_slice, List.length_cons, List.length_nil, Nat.zero_add, Nat.reduceAdd, allOne_cons, allOne_nil, Bool.and_self]; done) | (simp only [List.length_cons, List.length_nil, List.length_map, List.length_set]; omega)) only [go_sem, ↓p6_41.eq_1, ↓p6_36.eq_1, ↓p6_59.eq_1, ↓p6_80.eq_1, ↓p6_71.eq_1, ↓p6_88.eq_1, ↓p6_98.eq_1, ↓p6_56.eq_1, ↓p6_130.eq_1, ↓p6_135.eq_1, fAdd_eq, i1, i5, i7, i8, i9, i10, i22, i23, hlen, c, dLd_at hwu cu, cn]
      exact key u kv keep fu (hg.sl hwu) (fun b hb' => ⟨hkb b hb', blk_lt hwu hg b hb'⟩) (by omega) _ (by first | trivial | rfl | assumption) (by first | trivial | rfl | assumption) (by first | trivial | rfl | assumption) (by first | trivial | rfl | assumption) (by first | trivial | rfl | assumption)
end
end
end Go.Proofs.YtjipdnfaokdkbaaLab
