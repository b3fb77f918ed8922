/- Ticks; whether all is over. No condition on the program. -/
import Derived.Test.YtgfghbhcifkmgaaSN
namespace Go.Proofs.YtgfghbhcifkmgaaLab
open Go
set_option linter.all false
set_option maxRecDepth 10000
noncomputable section
theorem SS.tick {s : St} {sp lm : Nat} {ths : List Th} {sl : List Sl} {now slept : Int} {FT : List Nat} (H : SS s sp lm ths sl now slept FT) (d : Nat) (hn : now < 1000000000) {pre post : List Sl} (hH : isHeap sl) (hP : sl.Perm (pre ++ post)) (hS : Srt (pre ++ post)) (h1 : ∀ x ∈ pre, x.w ≤ now + 1) (h2 : ∀ x ∈ post, now + 1 < x.w) (ht : ∀ x ∈ pre, 0 ≤ x.t ∧ x.t < ths.length) (hok : okT ths) :
    Ret ((K (d + 4)).call 23 [.ptr sp 0] s) fun v s' => GL s' v (pre.map fun x => V.i x.t) ∧ (∃ ths' sl', SS s' sp lm ths' sl' (now + 1) slept FT ∧ isHeap sl' ∧ sl'.Perm post ∧ okT ths' ∧ ths'.length = ths.length) ∧ Fr s s' (sp :: (FT ++ slB s sp)) ∧ slB s' sp = slB s sp ∧ (∀ b ∈ blkV v, s.next ≤ b) := by
  have hll := H.ll
  obtain ⟨s1, slV, thV, h0, p1, H1, f1, c1⟩ := H.step (th0 := trivial) hn
  have hwt := f1.wf
  have hw : Wf s := by obtain ⟨_, HC, _⟩ := H.h; exact HC.wf
  have hB1 : slB s1 sp = slB s sp := by unfold slB; rw [c1, h0]
  have hnow := H1.nw
  have hnow0 := H.nw
  simp -implicitDefEqProofs (maxSteps := 5000000) (disch := first | assumption | omega | (simp only [one_i, one_int, one_bool, one_str, one_ptr, one_nilp, one_nils, one_slice, one_map, one_nilm, one_func, one_iface, same_i, same_bool, same_nils, same_ptr, same_map, same_slice, List.length_cons, List.length_nil, Nat.zero_add, Nat.reduceAdd, allOne_cons, allOne_nil, Bool.and_self]; done) | (simp only [List.length_cons, List.length_nil, List.length_map, List.length_set]; omega)) only [op23, go_sem, dLd_at hw h0, p1]
  refine loop_at (Q := fun r => Ret (retR _ (seqR (blkR 0 r) _)) _) (fun m e t => ∃ (p1 p2 : List Sl) (v : V) (ths' : List Th) (sl' : List Sl), pre = p1 ++ p2 ∧ m = p2.length ∧ SS t sp lm ths' sl' (now + 1) slept FT ∧ isHeap sl' ∧ sl'.Perm (p2 ++ post) ∧ Srt (p2 ++ post) ∧ okT ths' ∧ ths'.length = ths.length ∧ GL t v (p1.map fun x => V.i x.t) ∧ Fr s t (sp :: (FT ++ slB s sp)) ∧ slB t sp = slB s sp ∧ (∀ b ∈ blkV v, s.next ≤ b) ∧ g0 e = .ptr sp 0 ∧ g3 e = v) ?_ (n := pre.length) (by have := hP.length_eq; simp at this; omega) ⟨[], pre, .nils, ths, sl, rfl, rfl, H1, hH, hP, hS, hok, rfl, .inl ⟨rfl, rfl⟩, f1.mono (by simp), hB1, by simp [blkV], (by first | trivial | rfl | assumption), (by first | trivial | rfl | assumption)⟩
  rintro m e t ⟨q1, q2, v, ths', sl', hq, rfl, Ht, hHt, hPt, hSt, hokt, hlt, hg, ft, hBt, hbv, i0, i3⟩
  replace i0 : e.a0.a0 = _ := i0
  replace i3 : e.a0.a3 = _ := i3
  obtain ⟨slV', HC', hsl', hbl'⟩ := Ht.h
  obtain ⟨thV', bs', k1, kT⟩ := HC'.ex
  have hwt := HC'.wf
  have hl0 : uLenS slV' = some (.i (sl'.length : Nat)) := by
    rcases hsl' with ⟨rfl, rfl⟩ | ⟨b0, h⟩
    · rfl
    · rw [h.v]; rfl
  have hnx := ft.nx
  cases q2 with
  | nil =>
    have hq' : q1 = pre := by rw [hq]; simp
    subst hq'
    have fin : GL t v (q1.map fun x => V.i x.t) ∧ (∃ ths' sl', SS t sp lm ths' sl' (now + 1) slept FT ∧ isHeap sl' ∧ sl'.Perm post ∧ okT ths' ∧ ths'.length = ths.length) ∧ Fr s t (sp :: (FT ++ slB s sp)) ∧ slB t sp = slB s sp ∧ (∀ b ∈ blkV v, s.next ≤ b) := ⟨hg, ⟨ths', sl', Ht, hHt, hPt, hokt, hlt⟩, ft, hBt, hbv⟩
    cases sl' with
    | nil =>
      replace hl0 : uLenS slV' = some (.i 0) := hl0
      simp -implicitDefEqProofs (maxSteps := 5000000) (disch := first | assumption | omega | (simp only [one_i, one_int, one_bool, one_str, one_ptr, one_nilp, one_nils, one_slice, one_map, one_nilm, one_func, one_iface, same_i, same_bool, same_nils, same_ptr, same_map, same_slice, List.length_cons, List.length_nil, Nat.zero_add, Nat.reduceAdd, allOne_cons, allOne_nil, Bool.and_self]; done) | (simp only [List.length_cons, List.length_nil, List.length_map, List.length_set]; omega)) only [go_sem, i0, i3, dLd_at hwt k1, hl0]
      exact fin
    | cons r tl =>
      have hrm : r ∈ post := hPt.subset (by simp)
      have hrw := h2 r hrm
      have c1 : ¬ r.w ≤ now + 1 := by omega
      have c0 : (0 : Int) < ((tl.length + 1 : Nat) : Int) := by omega
      rcases hsl' with ⟨h, _⟩ | ⟨b0, hSP⟩
      · cases h
      · obtain ⟨a0, _⟩ := hSP.ld (i := 0) (x := r) rfl
        have hv := hSP.v
        subst hv
        simp -implicitDefEqProofs (maxSteps := 5000000) (disch := first | assumption | omega | (simp only [one_i, one_int, one_bool, one_str, one_ptr, one_nilp, one_nils, one_slice, one_map, one_nilm, one_func, one_iface, same_i, same_bool, same_nils, same_ptr, same_map, same_slice, List.length_cons, List.length_nil, Nat.zero_add, Nat.reduceAdd, allOne_cons, allOne_nil, Bool.and_self]; done) | (simp only [List.length_cons, List.length_nil, List.length_map, List.length_set]; omega)) only [go_sem, i0, i3, dLd_at hwt k1, hl0, c0, Int.toNat_zero, Nat.zero_mul, Nat.zero_add, a0, c1]
        exact fin
  | cons r q2 =>
    have hrt := ht r (by rw [hq]; simp)
    have hrw := h1 r (by rw [hq]; simp)
    cases sl' with
    | nil => exact absurd hPt.length_eq (by simp)
    | cons r' tl =>
      obtain ⟨E', hE, hP'⟩ := heap_first hHt hPt hSt
      have hE : r :: (q2 ++ post) = r' :: E' := hE
      injection hE with e1 e2
      subst e1; subst e2
      obtain ⟨i, hi⟩ : ∃ i : Nat, r.t = i := ⟨r.t.toNat, by omega⟩
      obtain ⟨th, hth⟩ : ∃ th, ths'[i]? = some th := ⟨_, List.getElem?_eq_getElem (by omega)⟩
      obtain ⟨s1', s2', s3', y, q, b, thV2, w1, w2, w3, w4, w5, w6, w7, w8, w9, w10, w11, w12, w13, s4', w14, w15, w16, w17, w18, w19, w20⟩ := Ht.wake d hi hth
      subst w3
      have hown := H.own
      have hbvF : ∀ b ∈ blkV v, b ∉ sp :: (FT ++ slB t sp) := fun b hb hm => by
        have h3 := hbv b hb
        rw [hBt] at hm
        have := hown b hm; omega
      have hg4 := hg.fr hwt w16 hbvF
      obtain ⟨s5, s6, g1', g2', hg6, f6, n6⟩ := hg4.push w16.wf (x := .i (i : Nat)) rfl (fun y hy => by obtain ⟨a, _, rfl⟩ := List.mem_map.1 hy; rfl) (by rw [List.length_map]; have := hP.length_eq; rw [hq] at this; simp at this; omega)
      have hSP' : ∃ b0, SP t slV' b0 (r :: tl) := by
        rcases hsl' with ⟨h, _⟩ | h
        · cases h
        · exact h
      obtain ⟨b0, hSP⟩ := hSP'
      obtain ⟨a0, _⟩ := hSP.ld (i := 0) (x := r) rfl
      have hv := hSP.v
      subst hv
      have c0 : (0 : Int) < ((tl.length + 1 : Nat) : Int) := by omega
      have ldt3 : ldP (.ptr s1'.next (0 + 2)) s3' = some (.i (i : Nat)) := by
        rw [dLd_at w13.wf w5 (by simp [Sl.cells])]; simp [Sl.cells, hi]
      have ldt4 : ldP (.ptr s1'.next (0 + 2)) s4' = some (.i (i : Nat)) := by
        rw [dLd_at w16.wf w17 (by simp [Sl.cells])]; simp [Sl.cells, hi]
      simp -implicitDefEqProofs (maxSteps := 5000000) (disch := first | assumption | omega | (simp only [one_i, one_int, one_bool, one_str, one_ptr, one_nilp, one_nils, one_slice, one_map, one_nilm, one_func, one_iface, same_i, same_bool, same_nils, same_ptr, same_map, same_slice, List.length_cons, List.length_nil, Nat.zero_add, Nat.reduceAdd, allOne_cons, allOne_nil, Bool.and_self]; done) | (simp only [List.length_cons, List.length_nil, List.length_map, List.length_set]; omega)) only [go_sem, i0, i3, dLd_at hwt k1, hl0, c0, Int.toNat_zero, Nat.zero_mul, Nat.zero_add, a0, hrw, w1, w2, aAl_eq, w4, w6, ldt3, w7, w8, w14, ldt4, g1', g2']
      obtain ⟨H6, hB6⟩ := w15.frL f6 (fun b hb hm => hbvF b hm (by rw [w18] at hb; exact hb))
      refine ⟨q2.length, by simp, q1 ++ [r], q2, _, _, _, by simp [hq], rfl, H6, popL_heap hHt, (popL_perm _).trans hP', (List.pairwise_cons.1 hSt).2, hokt.set (.inl rfl), by simp [hlt], ?_, ?_, by rw [hB6, w18, hBt], ?_, (by first | trivial | rfl | assumption), rfl⟩
      · rw [List.map_append, List.map_cons, List.map_nil, hi]
        exact hg6
      · exact (ft.trans (by rw [hBt] at w16; exact w16)).trans' f6 (fun b hb => .inr (hbv b hb))
      · intro b hb
        simp only [blkV, List.mem_singleton] at hb
        have := w16.nx; omega
theorem SS.over {s : St} {sp lm : Nat} {ths : List Th} {sl : List Sl} {now slept : Int} {FT : List Nat} (H : SS s sp lm ths sl now slept FT) (d : Nat) (hok : okT ths) :
    Ret ((K (d + 2)).call 24 [.ptr sp 0] s) fun v s' => (∃ bd, v = .tup [.bool bd, .bool false]) ∧ Fr s s' [] := by
  obtain ⟨slV, HC, hsl, hbl⟩ := H.h
  obtain ⟨thV, bs, k1, kT⟩ := HC.ex
  have hw := HC.wf
  have h6 : ∀ (l : List Th) (i : Nat), okT l → inL 6 l i = [] := by
    intro l
    induction l with
    | nil => intro i _; rfl
    | cons th l ih =>
      intro i h
      have h1 := h th (by simp)
      rw [inL, if_neg (by omega)]
      exact ih _ (fun x hx => h x (by simp [hx]))
  have h14 : ∀ (l : List Th) (i : Nat), okT l → inL 1 l i = [] → inL 4 l i = [] → l = [] := by
    intro l
    cases l with
    | nil => intro i _ _ _; rfl
    | cons th l =>
      intro i h e1 e4
      rcases h th (by simp) with h1 | h1
      · rw [inL, if_pos h1] at e1; cases e1
      · rw [inL, if_pos h1] at e4; cases e4
  obtain ⟨v, s1, e1, hg1, f1, _⟩ := HC.inn d 6
  rw [h6 ths 0 hok] at hg1
  have l1 : uLenS v = some (.i 0) := hg1.len
  have hlen := kT.g.len
  rw [List.length_map, kT.len] at hlen
  have k2 := f1.cl hw k1 (by simp)
  have hsame : sameV 100 thV thV = true := by
    rcases kT.g with ⟨_, rfl⟩ | ⟨b, h, _⟩
    · exact same_nils
    · rw [h]; exact same_slice _ _ _ _ _
  have hs1 : seesB (some thV) thV = true := hsame
  by_cases c : (0 : Int) = ((ths.length : Nat) : Int)
  · have c' : ths.length = 0 := by omega
    rw [c'] at hlen
    replace hlen : uLenS thV = some (.i 0) := hlen
    simp -implicitDefEqProofs (maxSteps := 5000000) (disch := first | assumption | omega | (simp only [one_i, one_int, one_bool, one_str, one_ptr, one_nilp, one_nils, one_slice, one_map, one_nilm, one_func, one_iface, same_i, same_bool, same_nils, same_ptr, same_map, same_slice, List.length_cons, List.length_nil, Nat.zero_add, Nat.reduceAdd, allOne_cons, allOne_nil, Bool.and_self]; done) | (simp only [List.length_cons, List.length_nil, List.length_map, List.length_set]; omega)) only [op24, go_sem, e1, l1, dLd_at hw k1, dLd_at f1.wf k2, hs1, hlen, eq_self]
    exact ⟨⟨_, rfl⟩, f1⟩
  · have HC1 := HC.fr f1 (by simp) (by simp)
    obtain ⟨v2, s2, e2, hg2, f2, _⟩ := HC1.inn d 1
    have l2 := hg2.len
    rw [List.length_map] at l2
    by_cases c2 : (inL 1 ths 0).length = 0
    · have c2' : inL 1 ths 0 = [] := List.length_eq_zero_iff.1 c2
      have HC2 := HC1.fr f2 (by simp) (by simp)
      obtain ⟨v3, s3, e3, hg3, f3, _⟩ := HC2.inn d 4
      have l3 := hg3.len
      rw [List.length_map] at l3
      have c3 : ¬ (((inL 4 ths 0).length : Nat) : Int) = 0 := fun h => by
        have := h14 ths 0 hok c2' (List.length_eq_zero_iff.1 (by omega))
        subst this; exact c rfl
      rw [c2] at l2
      replace l2 : uLenS v2 = some (.i 0) := l2
      simp -implicitDefEqProofs (maxSteps := 5000000) (disch := first | assumption | omega | (simp only [one_i, one_int, one_bool, one_str, one_ptr, one_nilp, one_nils, one_slice, one_map, one_nilm, one_func, one_iface, same_i, same_bool, same_nils, same_ptr, same_map, same_slice, List.length_cons, List.length_nil, Nat.zero_add, Nat.reduceAdd, allOne_cons, allOne_nil, Bool.and_self]; done) | (simp only [List.length_cons, List.length_nil, List.length_map, List.length_set]; omega)) only [op24, go_sem, e1, l1, dLd_at hw k1, dLd_at f1.wf k2, hs1, hlen, c, e2, l2, eq_self, e3, l3, c3]
      exact ⟨⟨_, rfl⟩, f1.trans (f2.trans f3)⟩
    · have c2' : ¬ (((inL 1 ths 0).length : Nat) : Int) = 0 := by omega
      simp -implicitDefEqProofs (maxSteps := 5000000) (disch := first | assumption | omega | (simp only [one_i, one_int, one_bool, one_str, one_ptr, one_nilp, one_nils, one_slice, one_map, one_nilm, one_func, one_iface, same_i, same_bool, same_nils, same_ptr, same_map, same_slice, List.length_cons, List.length_nil, Nat.zero_add, Nat.reduceAdd, allOne_cons, allOne_nil, Bool.and_self]; done) | (simp only [List.length_cons, List.length_nil, List.length_map, List.length_set]; omega)) only [op24, go_sem, e1, l1, dLd_at hw k1, dLd_at f1.wf k2, hs1, hlen, c, e2, l2, c2']
      exact ⟨⟨_, rfl⟩, f1.trans f2⟩
end
end Go.Proofs.YtgfghbhcifkmgaaLab
