/- The heap's shapes. No condition on the program. -/
import Derived.Test.YtjipdnfaokdkbaaHF
namespace Go.Proofs.YtjipdnfaokdkbaaLab
open Go
set_option linter.all false
set_option maxRecDepth 10000
noncomputable section
theorem same_boolL {s : St} (hw : Wf s) {v1 v2 : V} {l1 l2 : List Bool} (h1 : SL s v1 (l1.map .bool)) (h2 : SL s v2 (l2.map .bool)) (hb1 : l1.length < 1000000) (hb2 : l2.length < 1000000) (d : Nat) : (K (d + 1)).call 18 [v1, v2] s = some (.bool (decide (l1 = l2)), s) := by
  have e1 := h1.len
  have e2 := h2.len
  rw [List.length_map] at e1 e2
  rw [op18]
  by_cases hl : l1.length = l2.length
  · have c : ((l1.length : Nat) : Int) = ((l2.length : Nat) : Int) := by omega
    simp -implicitDefEqProofs (disch := first | assumption | omega | (simp only [one_i, one_int, one_bool, one_str, one_ptr, one_nilp, one_nils, one_slice, one_map, one_nilm, one_func, one_iface, same_i, same_bool, same_nils, same_ptr, same_map, same_slice, allOne_cons, allOne_nil, Bool.and_self]; done) | (simp only [List.length_cons, List.length_nil, List.length_map, List.length_set]; omega)) only [↓dSeq_eq, lt_eq, ↓ltc_eq, bP_some, bE_some, aSt_some, seqR_nrm, seqR_exit, seqR_ret, ↓dRet_eq, ↓dSkip_eq, ↓dExit_eq, ↓dCond_eq, condR_true, condR_false, ↓dBlock_eq, blkR_nrm, blkR_ret, blkR_exit, blkR_exit_ne, retR_nrm', retR_ret', rnd_nrm, rnd_exit, rnd_ret, Ret_some, resV_one, resV_tt, resV_ttt, resV_nil, rT_eq, ↓cV_eq, ↓pMove_eq, ↓pUn_eq, ↓pBin_eq, ↓evs_nil, ↓evs_cons, ↓eCall_eq, e0_eq, decide_true, decide_false, Bool.not_true, Bool.not_false, Option.map_some, uNone_eq, Int.reduceLT, Int.reduceLE, Int.reduceEq, Int.reduceAdd, Int.reduceSub, Int.reduceMul, Int.reduceNeg, Int.reduceToNat, Nat.reduceAdd, Nat.reduceSub, Nat.reduceMul, ↓p18_1.eq_1, ↓p18_4.eq_1, ↓p18_7.eq_1, ↓p18_6.eq_1, ↓p18_5.eq_1, ↓p18_3.eq_1, ↓p18_10.eq_1, ↓p18_15.eq_1, ↓p18_16.eq_1, ↓p18_14.eq_1, ↓p18_20.eq_1, ↓p18_23.eq_1, ↓p18_22.eq_1, ↓p18_21.eq_1, ↓p18_19.eq_1, ↓p18_18.eq_1, ↓p18_24.eq_1, ↓p18_17.eq_1, ↓p18_13.eq_1, ↓p18_12.eq_1, ↓p18_11.eq_1, ↓p18_9.eq_1, ↓p18_26.eq_1, ↓p18_25.eq_1, ↓p18_8.eq_1, ↓p18_2.eq_1, ↓p18_0.eq_1, ↓dLoop_eq, Kfuel, fAdd_eq, fNe_eq, fLt_eq, uLenS_slice, uLenS_nil, bIdx1_eq, bBool_eq, bBool_ne, ↓dLd_def, List.getElem?_cons_zero, List.getElem?_cons_succ, Nat.zero_add, ↓g0.eq_1, ↓g1.eq_1, ↓g4.eq_1, ↓g5.eq_1, ↓g10.eq_1, ↓g14.eq_1, ↓g25.eq_1, u0.eq_1, N16.u0e, N16.k0e, u1.eq_1, N16.k1e, u4.eq_1, N16.k4e, u5.eq_1, N16.k5e, u16.eq_1, N16.u1e, rw0e, rw1e, e1, e2, c]
    refine loop_at (Q := fun r => retR _ (seqR (blkR 0 r) _) = _) (fun m e t => t = s ∧ ∃ j : Nat, m = l1.length - j ∧ j ≤ l1.length ∧ g5 e = .i j ∧ g0 e = v1 ∧ g1 e = v2 ∧ l1.take j = l2.take j) ?_ (n := l1.length) ?_ ?_
    · rintro n e t ⟨rfl, j, rfl, hj, i1, i2, i3, i4⟩
      replace i1 : e.a0.a5 = _ := i1
      replace i2 : e.a0.a0 = _ := i2
      replace i3 : e.a0.a1 = _ := i3
      by_cases hc : (j : Int) < ((l1.length : Nat) : Int)
      · have hj1 : j < l1.length := by omega
        have hj2 : j < l2.length := by omega
        obtain ⟨q1, a1, b1⟩ := h1.at hw (j := j) (x := .bool l1[j]) (by simp [hj1])
        obtain ⟨q2, a2, b2⟩ := h2.at hw (j := j) (x := .bool l2[j]) (by simp [hj2])
        by_cases hx : l1[j] = l2[j]
        · simp -implicitDefEqProofs (disch := first | assumption | omega | (simp only [one_i, one_int, one_bool, one_str, one_ptr, one_nilp, one_nils, one_slice, one_map, one_nilm, one_func, one_iface, same_i, same_bool, same_nils, same_ptr, same_map, same_slice, allOne_cons, allOne_nil, Bool.and_self]; done) | (simp only [List.length_cons, List.length_nil, List.length_map, List.length_set]; omega)) only [↓dSeq_eq, lt_eq, ↓ltc_eq, bP_some, bE_some, aSt_some, seqR_nrm, seqR_exit, seqR_ret, ↓dRet_eq, ↓dSkip_eq, ↓dExit_eq, ↓dCond_eq, condR_true, condR_false, ↓dBlock_eq, blkR_nrm, blkR_ret, blkR_exit, blkR_exit_ne, retR_nrm', retR_ret', rnd_nrm, rnd_exit, rnd_ret, Ret_some, resV_one, resV_tt, resV_ttt, resV_nil, rT_eq, ↓cV_eq, ↓pMove_eq, ↓pUn_eq, ↓pBin_eq, ↓evs_nil, ↓evs_cons, ↓eCall_eq, e0_eq, decide_true, decide_false, Bool.not_true, Bool.not_false, Option.map_some, uNone_eq, Int.reduceLT, Int.reduceLE, Int.reduceEq, Int.reduceAdd, Int.reduceSub, Int.reduceMul, Int.reduceNeg, Int.reduceToNat, Nat.reduceAdd, Nat.reduceSub, Nat.reduceMul, ↓p18_1.eq_1, ↓p18_4.eq_1, ↓p18_7.eq_1, ↓p18_6.eq_1, ↓p18_5.eq_1, ↓p18_3.eq_1, ↓p18_10.eq_1, ↓p18_15.eq_1, ↓p18_16.eq_1, ↓p18_14.eq_1, ↓p18_20.eq_1, ↓p18_23.eq_1, ↓p18_22.eq_1, ↓p18_21.eq_1, ↓p18_19.eq_1, ↓p18_18.eq_1, ↓p18_24.eq_1, ↓p18_17.eq_1, ↓p18_13.eq_1, ↓p18_12.eq_1, ↓p18_11.eq_1, ↓p18_9.eq_1, ↓p18_26.eq_1, ↓p18_25.eq_1, ↓p18_8.eq_1, ↓p18_2.eq_1, ↓p18_0.eq_1, ↓dLoop_eq, Kfuel, fAdd_eq, fNe_eq, fLt_eq, uLenS_slice, uLenS_nil, bIdx1_eq, bBool_eq, bBool_ne, ↓dLd_def, List.getElem?_cons_zero, List.getElem?_cons_succ, Nat.zero_add, ↓g0.eq_1, ↓g1.eq_1, ↓g4.eq_1, ↓g5.eq_1, ↓g10.eq_1, ↓g14.eq_1, ↓g25.eq_1, u0.eq_1, N16.u0e, N16.k0e, u1.eq_1, N16.k1e, u4.eq_1, N16.k4e, u5.eq_1, N16.k5e, u16.eq_1, N16.u1e, rw0e, rw1e, e1, e2, i1, i2, i3, hc, a1, a2, b1, b2, hx]
          refine ⟨l1.length - (j + 1), by omega, trivial, j + 1, rfl, by omega, rfl, trivial, trivial, ?_⟩
          rw [List.take_succ, List.take_succ, i4]; simp [hj1, hj2, hx]
        · simp -implicitDefEqProofs (disch := first | assumption | omega | (simp only [one_i, one_int, one_bool, one_str, one_ptr, one_nilp, one_nils, one_slice, one_map, one_nilm, one_func, one_iface, same_i, same_bool, same_nils, same_ptr, same_map, same_slice, allOne_cons, allOne_nil, Bool.and_self]; done) | (simp only [List.length_cons, List.length_nil, List.length_map, List.length_set]; omega)) only [↓dSeq_eq, lt_eq, ↓ltc_eq, bP_some, bE_some, aSt_some, seqR_nrm, seqR_exit, seqR_ret, ↓dRet_eq, ↓dSkip_eq, ↓dExit_eq, ↓dCond_eq, condR_true, condR_false, ↓dBlock_eq, blkR_nrm, blkR_ret, blkR_exit, blkR_exit_ne, retR_nrm', retR_ret', rnd_nrm, rnd_exit, rnd_ret, Ret_some, resV_one, resV_tt, resV_ttt, resV_nil, rT_eq, ↓cV_eq, ↓pMove_eq, ↓pUn_eq, ↓pBin_eq, ↓evs_nil, ↓evs_cons, ↓eCall_eq, e0_eq, decide_true, decide_false, Bool.not_true, Bool.not_false, Option.map_some, uNone_eq, Int.reduceLT, Int.reduceLE, Int.reduceEq, Int.reduceAdd, Int.reduceSub, Int.reduceMul, Int.reduceNeg, Int.reduceToNat, Nat.reduceAdd, Nat.reduceSub, Nat.reduceMul, ↓p18_1.eq_1, ↓p18_4.eq_1, ↓p18_7.eq_1, ↓p18_6.eq_1, ↓p18_5.eq_1, ↓p18_3.eq_1, ↓p18_10.eq_1, ↓p18_15.eq_1, ↓p18_16.eq_1, ↓p18_14.eq_1, ↓p18_20.eq_1, ↓p18_23.eq_1, ↓p18_22.eq_1, ↓p18_21.eq_1, ↓p18_19.eq_1, ↓p18_18.eq_1, ↓p18_24.eq_1, ↓p18_17.eq_1, ↓p18_13.eq_1, ↓p18_12.eq_1, ↓p18_11.eq_1, ↓p18_9.eq_1, ↓p18_26.eq_1, ↓p18_25.eq_1, ↓p18_8.eq_1, ↓p18_2.eq_1, ↓p18_0.eq_1, ↓dLoop_eq, Kfuel, fAdd_eq, fNe_eq, fLt_eq, uLenS_slice, uLenS_nil, bIdx1_eq, bBool_eq, bBool_ne, ↓dLd_def, List.getElem?_cons_zero, List.getElem?_cons_succ, Nat.zero_add, ↓g0.eq_1, ↓g1.eq_1, ↓g4.eq_1, ↓g5.eq_1, ↓g10.eq_1, ↓g14.eq_1, ↓g25.eq_1, u0.eq_1, N16.u0e, N16.k0e, u1.eq_1, N16.k1e, u4.eq_1, N16.k4e, u5.eq_1, N16.k5e, u16.eq_1, N16.u1e, rw0e, rw1e, e1, e2, i1, i2, i3, hc, a1, a2, b1, b2, hx]
          have : l1 ≠ l2 := fun h => hx (by simp [h])
          simp [this]
      · have : j = l1.length := by omega
        subst this
        simp -implicitDefEqProofs (disch := first | assumption | omega | (simp only [one_i, one_int, one_bool, one_str, one_ptr, one_nilp, one_nils, one_slice, one_map, one_nilm, one_func, one_iface, same_i, same_bool, same_nils, same_ptr, same_map, same_slice, allOne_cons, allOne_nil, Bool.and_self]; done) | (simp only [List.length_cons, List.length_nil, List.length_map, List.length_set]; omega)) only [↓dSeq_eq, lt_eq, ↓ltc_eq, bP_some, bE_some, aSt_some, seqR_nrm, seqR_exit, seqR_ret, ↓dRet_eq, ↓dSkip_eq, ↓dExit_eq, ↓dCond_eq, condR_true, condR_false, ↓dBlock_eq, blkR_nrm, blkR_ret, blkR_exit, blkR_exit_ne, retR_nrm', retR_ret', rnd_nrm, rnd_exit, rnd_ret, Ret_some, resV_one, resV_tt, resV_ttt, resV_nil, rT_eq, ↓cV_eq, ↓pMove_eq, ↓pUn_eq, ↓pBin_eq, ↓evs_nil, ↓evs_cons, ↓eCall_eq, e0_eq, decide_true, decide_false, Bool.not_true, Bool.not_false, Option.map_some, uNone_eq, Int.reduceLT, Int.reduceLE, Int.reduceEq, Int.reduceAdd, Int.reduceSub, Int.reduceMul, Int.reduceNeg, Int.reduceToNat, Nat.reduceAdd, Nat.reduceSub, Nat.reduceMul, ↓p18_1.eq_1, ↓p18_4.eq_1, ↓p18_7.eq_1, ↓p18_6.eq_1, ↓p18_5.eq_1, ↓p18_3.eq_1, ↓p18_10.eq_1, ↓p18_15.eq_1, ↓p18_16.eq_1, ↓p18_14.eq_1, ↓p18_20.eq_1, ↓p18_23.eq_1, ↓p18_22.eq_1, ↓p18_21.eq_1, ↓p18_19.eq_1, ↓p18_18.eq_1, ↓p18_24.eq_1, ↓p18_17.eq_1, ↓p18_13.eq_1, ↓p18_12.eq_1, ↓p18_11.eq_1, ↓p18_9.eq_1, ↓p18_26.eq_1, ↓p18_25.eq_1, ↓p18_8.eq_1, ↓p18_2.eq_1, ↓p18_0.eq_1, ↓dLoop_eq, Kfuel, fAdd_eq, fNe_eq, fLt_eq, uLenS_slice, uLenS_nil, bIdx1_eq, bBool_eq, bBool_ne, ↓dLd_def, List.getElem?_cons_zero, List.getElem?_cons_succ, Nat.zero_add, ↓g0.eq_1, ↓g1.eq_1, ↓g4.eq_1, ↓g5.eq_1, ↓g10.eq_1, ↓g14.eq_1, ↓g25.eq_1, u0.eq_1, N16.u0e, N16.k0e, u1.eq_1, N16.k1e, u4.eq_1, N16.k4e, u5.eq_1, N16.k5e, u16.eq_1, N16.u1e, rw0e, rw1e, e1, e2, i1, i2, i3, hc]
        rw [List.take_length, hl, List.take_length] at i4
        simp [i4]
    · omega
    · exact ⟨rfl, 0, by omega, by omega, rfl, rfl, rfl, rfl⟩
  · have c : ¬ ((l1.length : Nat) : Int) = ((l2.length : Nat) : Int) := by omega
    have : l1 ≠ l2 := fun h => hl (by rw [h])
    simp -implicitDefEqProofs (disch := first | assumption | omega | (simp only [one_i, one_int, one_bool, one_str, one_ptr, one_nilp, one_nils, one_slice, one_map, one_nilm, one_func, one_iface, same_i, same_bool, same_nils, same_ptr, same_map, same_slice, allOne_cons, allOne_nil, Bool.and_self]; done) | (simp only [List.length_cons, List.length_nil, List.length_map, List.length_set]; omega)) only [↓dSeq_eq, lt_eq, ↓ltc_eq, bP_some, bE_some, aSt_some, seqR_nrm, seqR_exit, seqR_ret, ↓dRet_eq, ↓dSkip_eq, ↓dExit_eq, ↓dCond_eq, condR_true, condR_false, ↓dBlock_eq, blkR_nrm, blkR_ret, blkR_exit, blkR_exit_ne, retR_nrm', retR_ret', rnd_nrm, rnd_exit, rnd_ret, Ret_some, resV_one, resV_tt, resV_ttt, resV_nil, rT_eq, ↓cV_eq, ↓pMove_eq, ↓pUn_eq, ↓pBin_eq, ↓evs_nil, ↓evs_cons, ↓eCall_eq, e0_eq, decide_true, decide_false, Bool.not_true, Bool.not_false, Option.map_some, uNone_eq, Int.reduceLT, Int.reduceLE, Int.reduceEq, Int.reduceAdd, Int.reduceSub, Int.reduceMul, Int.reduceNeg, Int.reduceToNat, Nat.reduceAdd, Nat.reduceSub, Nat.reduceMul, ↓p18_1.eq_1, ↓p18_4.eq_1, ↓p18_7.eq_1, ↓p18_6.eq_1, ↓p18_5.eq_1, ↓p18_3.eq_1, ↓p18_10.eq_1, ↓p18_15.eq_1, ↓p18_16.eq_1, ↓p18_14.eq_1, ↓p18_20.eq_1, ↓p18_23.eq_1, ↓p18_22.eq_1, ↓p18_21.eq_1, ↓p18_19.eq_1, ↓p18_18.eq_1, ↓p18_24.eq_1, ↓p18_17.eq_1, ↓p18_13.eq_1, ↓p18_12.eq_1, ↓p18_11.eq_1, ↓p18_9.eq_1, ↓p18_26.eq_1, ↓p18_25.eq_1, ↓p18_8.eq_1, ↓p18_2.eq_1, ↓p18_0.eq_1, ↓dLoop_eq, Kfuel, fAdd_eq, fNe_eq, fLt_eq, uLenS_slice, uLenS_nil, bIdx1_eq, bBool_eq, bBool_ne, ↓dLd_def, List.getElem?_cons_zero, List.getElem?_cons_succ, Nat.zero_add, ↓g0.eq_1, ↓g1.eq_1, ↓g4.eq_1, ↓g5.eq_1, ↓g10.eq_1, ↓g14.eq_1, ↓g25.eq_1, u0.eq_1, N16.u0e, N16.k0e, u1.eq_1, N16.k1e, u4.eq_1, N16.k4e, u5.eq_1, N16.k5e, u16.eq_1, N16.u1e, rw0e, rw1e, e1, e2, c, this]
/-- What may be told nil apart. -/
theorem SL.nil {s : St} {v : V} {l : List V} (h : SL s v l) : (v = .nils ∧ l = []) ∨ ∀ ng, bNil ng nilS v .nils = some (.bool ng) := by
  rcases h with ⟨h1, rfl | ⟨b, o, c, rfl⟩⟩ | ⟨b, o, c, n, f, rfl, _⟩
  · exact Or.inl ⟨rfl, h1⟩
  · exact Or.inr fun ng => bNil_slice ng _ _ _ _ _
  · exact Or.inr fun ng => bNil_slice ng _ _ _ _ _
/-- A copy of a list of truths. -/
theorem clone_eq {s : St} (hw : Wf s) {v : V} {l : List Bool} (h : SL s v (l.map .bool)) (hb : l.length ≤ 1000000) (d : Nat) :
    Ret ((K (d + 1)).call 41 [v] s) fun v' s' => (v' = .nils ∧ l = [] ∨ ∃ b c, v' = .slice b 0 l.length c 1 ∧ s.next ≤ b ∧ s'.cl b = some (l.map .bool)) ∧ Fr s s' [] := by
  rcases h.nil with ⟨rfl, h0⟩ | hn
  · rw [List.map_eq_nil_iff] at h0; subst h0
    simp -implicitDefEqProofs (disch := first | assumption | omega | (simp only [one_i, one_int, one_bool, one_str, one_ptr, one_nilp, one_nils, one_slice, one_map, one_nilm, one_func, one_iface, same_i, same_bool, same_nils, same_ptr, same_map, same_slice, allOne_cons, allOne_nil, Bool.and_self]; done) | (simp only [List.length_cons, List.length_nil, List.length_map, List.length_set]; omega)) only [op41, ↓dSeq_eq, lt_eq, ↓ltc_eq, bP_some, bE_some, aSt_some, seqR_nrm, seqR_exit, seqR_ret, ↓dRet_eq, ↓dSkip_eq, ↓dExit_eq, ↓dCond_eq, condR_true, condR_false, ↓dBlock_eq, blkR_nrm, blkR_ret, blkR_exit, blkR_exit_ne, retR_nrm', retR_ret', rnd_nrm, rnd_exit, rnd_ret, Ret_some, resV_one, resV_tt, resV_ttt, resV_nil, rT_eq, ↓cV_eq, ↓pMove_eq, ↓pUn_eq, ↓pBin_eq, ↓evs_nil, ↓evs_cons, ↓eCall_eq, e0_eq, decide_true, decide_false, Bool.not_true, Bool.not_false, Option.map_some, uNone_eq, Int.reduceLT, Int.reduceLE, Int.reduceEq, Int.reduceAdd, Int.reduceSub, Int.reduceMul, Int.reduceNeg, Int.reduceToNat, Nat.reduceAdd, Nat.reduceSub, Nat.reduceMul, ↓p41_1.eq_1, ↓p41_4.eq_1, ↓p41_7.eq_1, ↓p41_6.eq_1, ↓p41_5.eq_1, ↓p41_3.eq_1, ↓p41_9.eq_1, ↓p41_8.eq_1, ↓p41_2.eq_1, ↓p41_0.eq_1, bNil_ptr, bNil_nilp, bNil_map, bNil_slice, bNil_nils, bNil_nilm, ↓aBSl_def, ↓evP_nil, ↓evP_cons, aBSl_one, new_next, ↓eAp_def, ↓g0.eq_1, ↓g2.eq_1, ↓g4.eq_1, u0.eq_1, N16.u0e, N16.k0e, u2.eq_1, N16.k2e, rw0e]
    exact ⟨.inl ⟨(by first | trivial | rfl | assumption), (by first | trivial | rfl | assumption)⟩, Fr.refl hw _⟩
  · have hn := hn false
    obtain ⟨s1, e1, c1, f1, n1⟩ := new_ex (s := s) (l := []) (n := 0) hw rfl
    have h1 := h.fr hw f1 (by simp)
    have e0 : ∀ id, bslP 0 1 [] [] id = some (.slice id 0 0 (some 0) 1, .cells 0 (ofL [])) := fun id => rfl
    have hy := h1.src (fun x hx => by obtain ⟨a, _, rfl⟩ := List.mem_map.1 hx; rfl) (by simp; omega)
    rw [List.length_map] at hy
    by_cases hl : l = []
    · subst hl
      have e2 := eAp_zero (b := s.next) (o := 0) (len := 0) (cap := some 0) hy (by omega)
      simp -implicitDefEqProofs (disch := first | assumption | omega | (simp only [one_i, one_int, one_bool, one_str, one_ptr, one_nilp, one_nils, one_slice, one_map, one_nilm, one_func, one_iface, same_i, same_bool, same_nils, same_ptr, same_map, same_slice, allOne_cons, allOne_nil, Bool.and_self]; done) | (simp only [List.length_cons, List.length_nil, List.length_map, List.length_set]; omega)) only [op41, ↓dSeq_eq, lt_eq, ↓ltc_eq, bP_some, bE_some, aSt_some, seqR_nrm, seqR_exit, seqR_ret, ↓dRet_eq, ↓dSkip_eq, ↓dExit_eq, ↓dCond_eq, condR_true, condR_false, ↓dBlock_eq, blkR_nrm, blkR_ret, blkR_exit, blkR_exit_ne, retR_nrm', retR_ret', rnd_nrm, rnd_exit, rnd_ret, Ret_some, resV_one, resV_tt, resV_ttt, resV_nil, rT_eq, ↓cV_eq, ↓pMove_eq, ↓pUn_eq, ↓pBin_eq, ↓evs_nil, ↓evs_cons, ↓eCall_eq, e0_eq, decide_true, decide_false, Bool.not_true, Bool.not_false, Option.map_some, uNone_eq, Int.reduceLT, Int.reduceLE, Int.reduceEq, Int.reduceAdd, Int.reduceSub, Int.reduceMul, Int.reduceNeg, Int.reduceToNat, Nat.reduceAdd, Nat.reduceSub, Nat.reduceMul, ↓p41_1.eq_1, ↓p41_4.eq_1, ↓p41_7.eq_1, ↓p41_6.eq_1, ↓p41_5.eq_1, ↓p41_3.eq_1, ↓p41_9.eq_1, ↓p41_8.eq_1, ↓p41_2.eq_1, ↓p41_0.eq_1, bNil_ptr, bNil_nilp, bNil_map, bNil_slice, bNil_nils, bNil_nilm, ↓aBSl_def, ↓evP_nil, ↓evP_cons, aBSl_one, new_next, ↓eAp_def, ↓g0.eq_1, ↓g2.eq_1, ↓g4.eq_1, u0.eq_1, N16.u0e, N16.k0e, u2.eq_1, N16.k2e, rw0e, hn, e0, e1, e2]
      exact ⟨.inr ⟨_, _, rfl, Nat.le_refl _, c1⟩, f1⟩
    · have hpos : 0 < l.length := by cases l; exact absurd rfl hl; simp
      obtain ⟨s2, e2, c2, f2, n2⟩ := eAp_grow (es := 1) (b := s.next) (o := 0) (len := 0) (c := 0) f1.wf hy hpos (by omega) (by omega) c1 (by simp)
      simp -implicitDefEqProofs (disch := first | assumption | omega | (simp only [one_i, one_int, one_bool, one_str, one_ptr, one_nilp, one_nils, one_slice, one_map, one_nilm, one_func, one_iface, same_i, same_bool, same_nils, same_ptr, same_map, same_slice, allOne_cons, allOne_nil, Bool.and_self]; done) | (simp only [List.length_cons, List.length_nil, List.length_map, List.length_set]; omega)) only [op41, ↓dSeq_eq, lt_eq, ↓ltc_eq, bP_some, bE_some, aSt_some, seqR_nrm, seqR_exit, seqR_ret, ↓dRet_eq, ↓dSkip_eq, ↓dExit_eq, ↓dCond_eq, condR_true, condR_false, ↓dBlock_eq, blkR_nrm, blkR_ret, blkR_exit, blkR_exit_ne, retR_nrm', retR_ret', rnd_nrm, rnd_exit, rnd_ret, Ret_some, resV_one, resV_tt, resV_ttt, resV_nil, rT_eq, ↓cV_eq, ↓pMove_eq, ↓pUn_eq, ↓pBin_eq, ↓evs_nil, ↓evs_cons, ↓eCall_eq, e0_eq, decide_true, decide_false, Bool.not_true, Bool.not_false, Option.map_some, uNone_eq, Int.reduceLT, Int.reduceLE, Int.reduceEq, Int.reduceAdd, Int.reduceSub, Int.reduceMul, Int.reduceNeg, Int.reduceToNat, Nat.reduceAdd, Nat.reduceSub, Nat.reduceMul, ↓p41_1.eq_1, ↓p41_4.eq_1, ↓p41_7.eq_1, ↓p41_6.eq_1, ↓p41_5.eq_1, ↓p41_3.eq_1, ↓p41_9.eq_1, ↓p41_8.eq_1, ↓p41_2.eq_1, ↓p41_0.eq_1, bNil_ptr, bNil_nilp, bNil_map, bNil_slice, bNil_nils, bNil_nilm, ↓aBSl_def, ↓evP_nil, ↓evP_cons, aBSl_one, new_next, ↓eAp_def, ↓g0.eq_1, ↓g2.eq_1, ↓g4.eq_1, u0.eq_1, N16.u0e, N16.k0e, u2.eq_1, N16.k2e, rw0e, hn, e0, e1, e2]
      simp only [Nat.zero_add] at c2 ⊢
      exact ⟨.inr ⟨_, _, rfl, by omega, by simpa using c2⟩, f1.trans f2⟩
/-- A shape's text. -/
def enc (l : List Bool) : List Nat := l.map fun b => if b = true then 1 else 0
theorem enc_inj : ∀ {a b : List Bool}, enc a = enc b → a = b
  | [], [], _ => rfl
  | [], _ :: _, h => by simp [enc] at h
  | _ :: _, [], h => by simp [enc] at h
  | x :: a, y :: b, h => by
    simp only [enc, List.map_cons, List.cons.injEq] at h
    rw [enc_inj (a := a) (b := b) h.2]
    congr 1
    have := h.1
    cases x <;> cases y <;> simp at this ⊢
/-- The number of a shape. -/
def idxL (x : List Bool) : List (List Bool) → Option Nat | [] => none | y :: l => if x = y then some 0 else (idxL x l).map (· + 1)
theorem idxL_enc (x : List Bool) : ∀ l, idxS (enc x) (l.map enc) = idxL x l
  | [] => rfl
  | y :: l => by
    unfold idxL
    simp only [List.map_cons, idxS]
    by_cases h : x = y
    · rw [if_pos h, if_pos (by rw [h])]
    · rw [if_neg h, if_neg (fun e => h (enc_inj e)), idxL_enc x l]
theorem idxL_get : ∀ {x : List Bool} {l : List (List Bool)} {n : Nat}, idxL x l = some n → l[n]? = some x
  | x, [], n, h => by cases h
  | x, y :: l, n, h => by
    unfold idxL at h
    split at h
    · rename_i e; cases h; rw [e]; rfl
    · cases hq : idxL x l with
      | none => rw [hq] at h; cases h
      | some m => rw [hq] at h; cases h; simpa using idxL_get hq
theorem idxL_none : ∀ {x : List Bool} {l : List (List Bool)}, idxL x l = none → x ∉ l
  | x, [], _ => by simp
  | x, y :: l, h => by
    unfold idxL at h
    split at h
    · cases h
    · rename_i e
      cases hq : idxL x l with
      | none => simp only [List.mem_cons, e, false_or]; exact idxL_none hq
      | some m => rw [hq] at h; cases h
/-- A heap with its shapes. -/
structure HS (s : St) (p bw bb n : Nat) (os : List O) (z : List Int) (shapes : List (List Bool)) (bm : Nat) (F : List Nat) : Prop where
  H : ∃ sh, AH s p bw bb n os sh (.map bm) z ∧ ShR s F sh shapes
  m : ∃ bs cl, s.mp bm = some (mkEs (shapes.map enc) 0, bs, cl)
  ok : ShOk os shapes
  dF : ∀ b ∈ F, b ≠ p ∧ b ≠ bw ∧ b ≠ bb ∧ b < s.next ∧ b ≠ bm
section
variable {s : St} {p bw bb n bm : Nat} {os : List O} {z : List Int} {shapes : List (List Bool)} {F : List Nat} (H : HS s p bw bb n os z shapes bm F)
include H
theorem HS.wf : Wf s := by obtain ⟨sh, h, _⟩ := H.H; exact h.hr.wf
theorem HS.ne : p ≠ bm ∧ bw ≠ bm ∧ bb ≠ bm ∧ bm < s.next ∧ p < s.next ∧ bw < s.next ∧ bb < s.next := by
  obtain ⟨sh, h, _⟩ := H.H
  obtain ⟨bs, cl, hm⟩ := H.m
  have := h.lt
  exact ⟨cl_mp_ne h.hr.wf h.hr.hp hm, cl_mp_ne h.hr.wf h.hr.hw hm, cl_mp_ne h.hr.wf h.hr.hb hm, mp_lt h.hr.wf hm, this⟩
/-- What leaves the heap's blocks alone. -/
theorem HS.fr {s' : St} {l : List Nat} (f : Fr s s' l) (h1 : p ∉ l) (h2 : bw ∉ l) (h3 : bb ∉ l) (h4 : bm ∉ l) (h5 : ∀ b ∈ F, b ∉ l) : HS s' p bw bb n os z shapes bm F := by
  obtain ⟨sh, h, hs⟩ := H.H
  obtain ⟨bs, cl, hm⟩ := H.m
  exact ⟨⟨sh, h.fr f h1 h2 h3, hs.fr h.hr.wf f h5⟩, ⟨bs, cl, f.mp h.hr.wf hm h4⟩, H.ok, fun b hb => ⟨(H.dF b hb).1, (H.dF b hb).2.1, (H.dF b hb).2.2.1, Nat.lt_of_lt_of_le (H.dF b hb).2.2.2.1 f.nx, (H.dF b hb).2.2.2.2⟩⟩
/-- Another heap over the same shapes. -/
theorem HS.turn {s' : St} {os' : List O} {z' : List Int} (f : Fr s s' [p, bw, bb]) (h : ∀ sh, AH s p bw bb n os sh (.map bm) z → AH s' p bw bb n os' sh (.map bm) z') (ok : ShOk os' shapes) : HS s' p bw bb n os' z' shapes bm F := by
  obtain ⟨sh, h0, hs⟩ := H.H
  obtain ⟨bs, cl, hm⟩ := H.m
  obtain ⟨n1, n2, n3, n4, _⟩ := H.ne
  exact ⟨⟨sh, h sh h0, hs.fr h0.hr.wf f (fun b hb => by have := H.dF b hb; simp; exact ⟨this.1, this.2.1, this.2.2.1⟩)⟩, ⟨bs, cl, f.mp h0.hr.wf hm (by simp; exact ⟨Ne.symm n1, Ne.symm n2, Ne.symm n3⟩)⟩, ok, fun b hb => ⟨(H.dF b hb).1, (H.dF b hb).2.1, (H.dF b hb).2.2.1, Nat.lt_of_lt_of_le (H.dF b hb).2.2.2.1 f.nx, (H.dF b hb).2.2.2.2⟩⟩
end
end
end Go.Proofs.YtjipdnfaokdkbaaLab
