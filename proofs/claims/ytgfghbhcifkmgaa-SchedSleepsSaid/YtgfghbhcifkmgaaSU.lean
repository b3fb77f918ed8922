/- The law SchedSleeps: its run; its walk. No condition on the program. -/
import Derived.Test.YtgfghbhcifkmgaaST
namespace Go.Proofs.YtgfghbhcifkmgaaLab
open Go
set_option linter.all false
set_option maxRecDepth 10000
noncomputable section
theorem sleeps_tail {s0 s : St} {sp lm wb i : Nat} {ths : List Th} {sl : List Sl} {slept : Int} {FT : List Nat} {B : Nat → List Sl} {vs : List V} (P : QI s0 s sp lm wb i ths sl slept FT B vs) (hi : i ≤ 8) (d : Nat) {e : E} (i3 : g3 e = .ptr sp 0) (i4 : g4 e = .ptr wb 0) : Ret (retR (resV [rT g2]) (p6_38 (K (d + 4)) e s)) fun v s' => v = .bool true := by
  have hw := P.f.wf
  replace i3 : e.a0.a3 = _ := i3
  replace i4 : e.a0.a4 = _ := i4
  simp -implicitDefEqProofs (maxSteps := 5000000) (disch := first | assumption | omega | (simp only [one_i, one_int, one_bool, one_str, one_ptr, one_nilp, one_nils, one_slice, one_map, one_nilm, one_func, one_iface, same_i, same_bool, same_nils, same_ptr, same_map, same_slice, List.length_cons, List.length_nil, Nat.zero_add, Nat.reduceAdd, allOne_cons, allOne_nil, Bool.and_self]; done) | (simp only [List.length_cons, List.length_nil, List.length_map, List.length_set]; omega)) only [go_sem, ↓p6_38.eq_1, i3, i4]
  refine loop_at (Q := fun r => Ret (retR _ (seqR (blkR 2 r) _)) _) (fun m e t => ∃ (k : Nat) (ths' : List Th) (sl' : List Sl), m = 14 - k ∧ 1 ≤ k ∧ k ≤ 14 ∧ SS t sp lm ths' sl' ((k : Int) - 1) slept FT ∧ isHeap sl' ∧ sl'.Perm ((List.range' k (13 - k)).flatMap B) ∧ okT ths' ∧ ths'.length = i ∧ WB t wb B vs ∧ slB t sp = slB s sp ∧ g3 e = .ptr sp 0 ∧ g4 e = .ptr wb 0 ∧ g7 e = .i k) ?_ (n := 13) (by omega) ⟨1, ths, sl, by omega, by omega, by omega, P.h, P.hp, (by simpa using P.pm), P.ok, P.len, P.wW, rfl, (by first | trivial | rfl | assumption), (by first | trivial | rfl | assumption), (by first | trivial | rfl | assumption)⟩
  clear i3 i4 e
  rintro m e t ⟨k, ths', sl', rfl, hk1, hk2, Ht, hHt, hPt, hokt, hlt, hW, hBt, i3, i4, i7⟩
  replace i3 : e.a0.a3 = _ := i3
  replace i4 : e.a0.a4 = _ := i4
  replace i7 : e.a0.a7 = _ := i7
  have hwt : Wf t := by obtain ⟨_, HC, _⟩ := Ht.h; exact HC.wf
  by_cases c : (k : Int) < 14
  · have hE : (List.range' k (13 - k)).flatMap B = B k ++ (List.range' (k + 1) (13 - (k + 1))).flatMap B := by
      by_cases e13 : k = 13
      · subst e13
        have : B 13 = [] := P.bw.z 13 (by omega)
        simp [this]
      · rw [show 13 - k = (13 - (k + 1)) + 1 by omega, List.range'_succ, List.flatMap_cons]
    have hS := P.bw.srt (13 - k) k
    rw [hE] at hPt hS
    obtain ⟨v, t1, e1, hg, ⟨ths2, sl2, H2, hH2, hP2, hok2, hl2⟩, f1, hB1, hbv⟩ := Ht.tick d (by omega) hHt hPt hS (fun x hx => by have := (P.bw.w k x hx).1; omega) (fun x hx => by
      obtain ⟨j, hj, hx⟩ := List.mem_flatMap.1 hx
      rw [List.mem_range'_1] at hj
      have := (P.bw.w j x hx).1; omega) (fun x hx => by have := P.bw.w k x hx; omega) hokt
    have hoff : ∀ b ∈ wbB wb vs, b ∉ sp :: (FT ++ slB t sp) := by rw [hBt]; exact P.off
    have hW1 := hW.fr hwt f1 hoff
    obtain ⟨w, hwk⟩ : ∃ w, vs[k]? = some w := ⟨_, List.getElem?_eq_getElem (by rw [hW.len]; omega)⟩
    have l1 : ldP (.ptr wb k) t = some w := by rw [dLd_at hwt hW.c (by rw [hW.len]; omega)]; exact hwk
    have l2 : ldP (.ptr wb k) t1 = some w := by rw [dLd_at f1.wf hW1.c (by rw [hW.len]; omega)]; exact hwk
    have hgw := hW1.g k w hwk
    have hsame : seesB (some w) w = true := by
      rcases hgw with ⟨_, rfl⟩ | ⟨b, h, _⟩
      · exact same_nils
      · rw [h]; exact same_slice _ _ _ _ _
    have hmm : ∀ l : List Sl, (l.map fun x => V.i x.t) = (l.map fun x => x.t).map V.i := fun l => by rw [List.map_map]; rfl
    rw [hmm] at hg hgw
    have es := same_ints f1.wf (hg.sl f1.wf) (hgw.sl f1.wf) (by rw [List.length_map]; have h1 := hPt.length_eq; rw [List.length_append] at h1; have := Ht.ll; omega) (d + 3)
    rw [decide_eq_true rfl] at es
    have eA : bIdxA 20 1 (.ptr wb 0) (.i (k : Nat)) = some (.ptr wb k) := by rw [bIdxA_eq (by omega) (by omega)]; simp
    simp -implicitDefEqProofs (maxSteps := 5000000) (disch := first | assumption | omega | (simp only [one_i, one_int, one_bool, one_str, one_ptr, one_nilp, one_nils, one_slice, one_map, one_nilm, one_func, one_iface, same_i, same_bool, same_nils, same_ptr, same_map, same_slice, List.length_cons, List.length_nil, Nat.zero_add, Nat.reduceAdd, allOne_cons, allOne_nil, Bool.and_self]; done) | (simp only [List.length_cons, List.length_nil, List.length_map, List.length_set]; omega)) only [go_sem, ↓p6_38.eq_1, i3, i4, i7, c, e1, eA, l1, l2, hsame, es]
    refine ⟨14 - (k + 1), by omega, k + 1, ths2, sl2, rfl, by omega, by omega, ?_, hH2, hP2, hok2, by omega, hW1, by rw [hB1, hBt], (by first | trivial | rfl | assumption), (by first | trivial | rfl | assumption), (by first | trivial | rfl | assumption)⟩
    rw [show ((k : Int) - 1 + 1) = (((k + 1 : Nat) : Int) - 1) by omega] at H2
    exact H2
  · obtain ⟨v, t1, e1, ⟨bd, rfl⟩, f1⟩ := Ht.over (d + 2) hokt
    have ek := op17 (d + 3) t1
    simp -implicitDefEqProofs (maxSteps := 5000000) (disch := first | assumption | omega | (simp only [one_i, one_int, one_bool, one_str, one_ptr, one_nilp, one_nils, one_slice, one_map, one_nilm, one_func, one_iface, same_i, same_bool, same_nils, same_ptr, same_map, same_slice, List.length_cons, List.length_nil, Nat.zero_add, Nat.reduceAdd, allOne_cons, allOne_nil, Bool.and_self]; done) | (simp only [List.length_cons, List.length_nil, List.length_map, List.length_set]; omega)) only [go_sem, ↓p6_38.eq_1, i3, i4, i7, c, e1, ek]
theorem schedSleeps_run {s : St} (hw : Wf s) {x0 : V} {l0 : List Int} (hA : SL s x0 (l0.map .i)) (d : Nat) : Ret ((K (d + 5)).call 6 [x0] s) fun v s' => v = .bool true := by
  have hlen := hA.len
  rw [List.length_map] at hlen
  obtain ⟨s1, e1, H1, f1, n1, c1⟩ := new_sched hw (d + 3)
  obtain ⟨s2, e2, c2, f2, n2⟩ := new_ex (s := s1) (l := [V.nils, .nils, .nils, .nils, .nils, .nils, .nils, .nils, .nils, .nils, .nils, .nils, .nils, .nils, .nils, .nils, .nils, .nils, .nils, .nils]) (n := 20) f1.wf rfl
  have hnil : ∀ (k : Nat) v, ([V.nils, .nils, .nils, .nils, .nils, .nils, .nils, .nils, .nils, .nils, .nils, .nils, .nils, .nils, .nils, .nils, .nils, .nils, .nils, .nils] : List V)[k]? = some v → v = .nils := fun k v h => by
    have := List.mem_of_getElem? h
    simpa using this
  have hsB : slB s2 (s.next + 1) = [] := by
    have := f2.cl f1.wf c1 (by simp)
    unfold slB; rw [this]; rfl
  have P0 : QI s s2 (s.next + 1) s.next s1.next 0 [] [] 0 [] (fun _ => []) [V.nils, .nils, .nils, .nils, .nils, .nils, .nils, .nils, .nils, .nils, .nils, .nils, .nils, .nils, .nils, .nils, .nils, .nils, .nils, .nils] :=
    ⟨H1.fr f2, rfl, fun _ h => by simp at h, fun j x y _ h => by simp at h, by simp, ⟨fun k x h => by simp at h, fun k => List.Pairwise.nil, fun k _ => rfl⟩, ⟨c2, rfl, fun k v h => by rw [hnil k v h]; exact .inl ⟨rfl, rfl⟩, fun k v b h hb => by rw [hnil k v h] at hb; simp [blkV] at hb, fun j k v w b h _ _ hb => by rw [hnil j v h] at hb; simp [blkV] at hb⟩, fun b hb => by
      rw [hsB]; simp [wbB, blkV] at hb; subst hb; simp; omega, f1.trans f2, fun b hb => by rw [hsB] at hb; simp at hb; omega, fun b hb => by simp [wbB, blkV] at hb; omega, by omega, by simp⟩
  generalize s.next + 1 = sp at *
  generalize s.next = lm at *
  generalize hwb : s1.next = wb at *
  simp -implicitDefEqProofs (maxSteps := 5000000) (disch := first | assumption | omega | (simp only [one_i, one_int, one_bool, one_str, one_ptr, one_nilp, one_nils, one_slice, one_map, one_nilm, one_func, one_iface, same_i, same_bool, same_nils, same_ptr, same_map, same_slice, List.length_cons, List.length_nil, Nat.zero_add, Nat.reduceAdd, allOne_cons, allOne_nil, Bool.and_self]; done) | (simp only [List.length_cons, List.length_nil, List.length_map, List.length_set]; omega)) only [op6, go_sem, e1, aAl_eq, hwb, e2]
  refine loop_at (Q := fun r => Ret (retR _ (seqR (blkR 0 r) _)) _) (fun m e t => ∃ (i : Nat) (ths : List Th) (sl : List Sl) (slept : Int) (FT : List Nat) (B : Nat → List Sl) (vs : List V), m = 8 - i ∧ i ≤ 8 ∧ QI s t sp lm wb i ths sl slept FT B vs ∧ g0 e = x0 ∧ g3 e = .ptr sp 0 ∧ g4 e = .ptr wb 0 ∧ g5 e = .i i) ?_ (n := 8) (by omega) ⟨0, _, _, _, _, _, _, by omega, by omega, P0, (by first | trivial | rfl | assumption), (by first | trivial | rfl | assumption), (by first | trivial | rfl | assumption), (by first | trivial | rfl | assumption)⟩
  rintro m e t ⟨i, ths, sl, slept, FT, B, vs, rfl, hi, P, i0, i3, i4, i5⟩
  replace i0 : e.a0.a0 = _ := i0
  replace i3 : e.a0.a3 = _ := i3
  replace i4 : e.a0.a4 = _ := i4
  replace i5 : e.a0.a5 = _ := i5
  by_cases cl : (i : Int) < ((l0.length : Nat) : Int)
  · by_cases c8 : (i : Int) < 8
    · obtain ⟨t1, q1, F1, hth, P1⟩ := P.one d (by omega)
      obtain ⟨n0, hn0⟩ : ∃ n0, l0[i]? = some n0 := ⟨_, List.getElem?_eq_getElem (by omega)⟩
      obtain ⟨q, b1, b2⟩ := (hA.fr hw F1 (by simp)).at F1.wf (j := i) (x := .i n0) (by rw [List.getElem?_map, hn0]; rfl)
      have hwi := withinI_le n0 0 12 (by omega)
      have ew := within_eq t1 n0 0 12 (by omega) (by omega) (by omega) (d + 3)
      obtain ⟨n, hn⟩ : ∃ n : Nat, withinI n0 0 12 = n := ⟨(withinI n0 0 12).toNat, by omega⟩
      rw [hn] at ew hwi
      by_cases c1 : (0 : Int) < (n : Nat)
      · obtain ⟨t2, v, t3, t4, t5, b', w1, w2, w3, w4, w5, w6, F2, P2⟩ := P1.two ⟨P.sn, P.sll⟩ P.bw d (by omega) (n := n) (by omega) (by omega)
        have eA : bIdxA 20 1 (.ptr wb 0) (.i (n : Nat)) = some (.ptr wb n) := by rw [bIdxA_eq (by omega) (by omega)]; simp
        simp -implicitDefEqProofs (maxSteps := 5000000) (disch := first | assumption | omega | (simp only [one_i, one_int, one_bool, one_str, one_ptr, one_nilp, one_nils, one_slice, one_map, one_nilm, one_func, one_iface, same_i, same_bool, same_nils, same_ptr, same_map, same_slice, List.length_cons, List.length_nil, Nat.zero_add, Nat.reduceAdd, allOne_cons, allOne_nil, Bool.and_self]; done) | (simp only [List.length_cons, List.length_nil, List.length_map, List.length_set]; omega)) only [go_sem, i0, i3, i4, i5, hlen, cl, c8, q1, b1, b2, ew, c1, w1, w2, eq_self, eA, w3, w4, w5, w6]
        exact ⟨8 - (i + 1), by omega, i + 1, _, _, _, _, _, _, rfl, by omega, P2, (by first | trivial | rfl | assumption), (by first | trivial | rfl | assumption), (by first | trivial | rfl | assumption), (by first | trivial | rfl | assumption)⟩
      · have hn0' : n = 0 := by omega
        subst hn0'
        have hsl := (P1.h.sleep d hth ((0 : Nat) : Int) (by omega)).2.1 rfl (by omega)
        obtain ⟨slV, HC, _⟩ := P1.h.h
        have hst := HC.state (d + 3) (i : Nat)
        have hst1 : stO (ths ++ [⟨1, 0, 0, 0⟩]) (i : Nat) = 1 := by
          unfold stO; rw [if_neg (by omega), Int.toNat_natCast, hth]
        rw [hst1] at hst
        have ew' : (K (d + 4)).call 11 [.i n0, .i 0, .i 12] t1 = some (.i 0, t1) := ew
        have hsl' : (K (d + 4)).call 20 [.ptr sp 0, .i (i : Nat), .i 0] t1 = some (.i 0, t1) := hsl
        simp -implicitDefEqProofs (maxSteps := 5000000) (disch := first | assumption | omega | (simp only [one_i, one_int, one_bool, one_str, one_ptr, one_nilp, one_nils, one_slice, one_map, one_nilm, one_func, one_iface, same_i, same_bool, same_nils, same_ptr, same_map, same_slice, List.length_cons, List.length_nil, Nat.zero_add, Nat.reduceAdd, allOne_cons, allOne_nil, Bool.and_self]; done) | (simp only [List.length_cons, List.length_nil, List.length_map, List.length_set]; omega)) only [go_sem, i0, i3, i4, i5, hlen, cl, c8, q1, b1, b2, ew', hsl', hst, eq_self]
        exact ⟨8 - (i + 1), by omega, i + 1, _, _, _, _, _, _, rfl, by omega, P1, (by first | trivial | rfl | assumption), (by first | trivial | rfl | assumption), (by first | trivial | rfl | assumption), (by first | trivial | rfl | assumption)⟩
    · simp -implicitDefEqProofs (maxSteps := 5000000) (disch := first | assumption | omega | (simp only [one_i, one_int, one_bool, one_str, one_ptr, one_nilp, one_nils, one_slice, one_map, one_nilm, one_func, one_iface, same_i, same_bool, same_nils, same_ptr, same_map, same_slice, List.length_cons, List.length_nil, Nat.zero_add, Nat.reduceAdd, allOne_cons, allOne_nil, Bool.and_self]; done) | (simp only [List.length_cons, List.length_nil, List.length_map, List.length_set]; omega)) only [go_sem, i0, i3, i4, i5, hlen, cl, c8]
      exact sleeps_tail P hi d (by first | trivial | rfl | assumption) (by first | trivial | rfl | assumption)
  · simp -implicitDefEqProofs (maxSteps := 5000000) (disch := first | assumption | omega | (simp only [one_i, one_int, one_bool, one_str, one_ptr, one_nilp, one_nils, one_slice, one_map, one_nilm, one_func, one_iface, same_i, same_bool, same_nils, same_ptr, same_map, same_slice, List.length_cons, List.length_nil, Nat.zero_add, Nat.reduceAdd, allOne_cons, allOne_nil, Bool.and_self]; done) | (simp only [List.length_cons, List.length_nil, List.length_map, List.length_set]; omega)) only [go_sem, i0, i3, i4, i5, hlen, cl]
    exact sleeps_tail P hi d (by first | trivial | rfl | assumption) (by first | trivial | rfl | assumption)
theorem schedSleeps_walk {W : World} {v0 : Value} {x0 : V} {l0 : List Int} (vr : VR (impG W) x0 v0) (sl : SL (impS W 1) x0 (l0.map V.i)) :
    Calls Try.prog 6 #[v0] W (fun e w' => e = .returned (.bool true) ∧ RowKit.Below W.heap.size W w') := by
  exact law_ro (fuel := 1000000) (n := 5) tblOk ((schedSleeps_run (impS_wf W 1) sl 0).mono fun v s' h => h) (.cons _ _ _ _ vr .nil)
end
end Go.Proofs.YtgfghbhcifkmgaaLab
