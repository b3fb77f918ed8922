/- The heap's functions that only look: what they answer. No condition on the program. -/
import Derived.Test.YtjipdnfaokdkbaaLabT
import Derived.Test.YtjipdnfaokdkbaaLabRd
namespace Go.Proofs.YtjipdnfaokdkbaaLab
open Go
set_option linter.all false
set_option maxRecDepth 10000
noncomputable section
/-- A heap of the program's: where its parts lie, what they hold. -/
structure HR (s : St) (p bw bb : Nat) (n : Nat) (words : List Int) (begins : List Bool) (next : Nat) (sh mp : V) : Prop where
  wf : Wf s
  hp : s.cl p = some [.slice bw 0 n (some n) 1, .slice bb 0 n (some n) 1, .i next, sh, mp]
  hw : s.cl bw = some (words.map .i)
  hb : s.cl bb = some (begins.map .bool)
  lw : words.length = n
  lb : begins.length = n
  nn : n < 20000
  n1 : 1 ≤ next
  nx : next ≤ n
  d1 : p ≠ bw
  d2 : p ≠ bb
  d3 : bw ≠ bb
/-- Does an object begin there? -/
def isB (begins : List Bool) (r : Int) : Bool := decide (0 < r) && (begins[r.toNat]?).getD false
section
variable {s : St} {p bw bb : Nat} {n : Nat} {words : List Int} {begins : List Bool} {next : Nat} {sh mp : V} (H : HR s p bw bb n words begins next sh mp)
include H
theorem HR.fnIs (d : Nat) (r : Int) : (K (d + 1)).call 40 [.ptr p 0, .i r] s = some (.bool (isB begins r), s) := by
  obtain ⟨hw, h1, h2, h3, h4, h5, h6, h7, h8, d1, d2, d3⟩ := H
  rw [op40]
  unfold isB
  by_cases c1 : 0 < r
  · by_cases c2 : r < n
    · have q7 : (begins.map V.bool)[r.toNat]? = some (.bool (begins[r.toNat]?.getD false)) := by
        rw [List.getElem?_map, List.getElem?_eq_getElem (show r.toNat < begins.length by omega)]; rfl
      simp -implicitDefEqProofs (disch := first | omega | (simp only [one_i, one_int, one_bool, one_str, one_ptr, one_nilp, one_nils, one_slice, one_map, one_nilm, one_func, one_iface, same_i, same_bool, same_nils, same_ptr, same_map, same_slice, allOne_cons, allOne_nil, Bool.and_self]; done) | (simp only [List.length_cons, List.length_nil, List.length_map, List.length_set]; omega)) only [↓dSeq_eq, lt_eq, ↓ltc_eq, bP_some, bE_some, aSt_some, seqR_nrm, seqR_exit, seqR_ret, ↓dRet_eq, ↓dSkip_eq, ↓dExit_eq, ↓dCond_eq, condR_true, condR_false, ↓dBlock_eq, blkR_nrm, blkR_ret, blkR_exit, blkR_exit_ne, retR_nrm', retR_ret', rnd_nrm, rnd_exit, rnd_ret, Ret_some, resV_one, resV_tt, resV_ttt, resV_nil, rT_eq, ↓cV_eq, ↓pMove_eq, ↓pUn_eq, ↓pBin_eq, ↓evs_nil, ↓evs_cons, ↓eCall_eq, e0_eq, decide_true, decide_false, Bool.not_true, Bool.not_false, Option.map_some, uNone_eq, Int.reduceLT, Int.reduceLE, Int.reduceEq, Int.reduceAdd, Int.reduceSub, Int.reduceMul, Int.reduceNeg, Int.reduceToNat, Nat.reduceAdd, Nat.reduceSub, Nat.reduceMul, ↓p40_1.eq_1, ↓p40_3.eq_1, ↓p40_2.eq_1, ↓p40_0.eq_1, gdV_tt, gdV_ff, gdV_tf, gdV_ft, gdV_nil, ↓pPick_eq, pkV_tt, pkV_ff, fLt_eq, fGt_eq, uLenS_slice, uLenS_nil, uFld_eq, uChk_eq, bIdx1_eq, ↓dLd_def, List.getElem?_cons_zero, List.getElem?_cons_succ, Nat.zero_add, ↓g0.eq_1, ↓g1.eq_1, ↓g4.eq_1, u0.eq_1, N16.u0e, N16.k0e, u1.eq_1, N16.k1e, u4.eq_1, N16.k4e, rw0e, rw1e, ↓gdV_tt, ↓gdV_ff, ↓gdV_tf, ↓gdV_ft, ↓gdV_nil, dLd_at hw h1, dLd_at hw h3, q7, c1, c2, Bool.true_and]
    · have q7 : begins[r.toNat]? = none := List.getElem?_eq_none (by omega)
      simp -implicitDefEqProofs (disch := first | omega | (simp only [one_i, one_int, one_bool, one_str, one_ptr, one_nilp, one_nils, one_slice, one_map, one_nilm, one_func, one_iface, same_i, same_bool, same_nils, same_ptr, same_map, same_slice, allOne_cons, allOne_nil, Bool.and_self]; done) | (simp only [List.length_cons, List.length_nil, List.length_map, List.length_set]; omega)) only [↓dSeq_eq, lt_eq, ↓ltc_eq, bP_some, bE_some, aSt_some, seqR_nrm, seqR_exit, seqR_ret, ↓dRet_eq, ↓dSkip_eq, ↓dExit_eq, ↓dCond_eq, condR_true, condR_false, ↓dBlock_eq, blkR_nrm, blkR_ret, blkR_exit, blkR_exit_ne, retR_nrm', retR_ret', rnd_nrm, rnd_exit, rnd_ret, Ret_some, resV_one, resV_tt, resV_ttt, resV_nil, rT_eq, ↓cV_eq, ↓pMove_eq, ↓pUn_eq, ↓pBin_eq, ↓evs_nil, ↓evs_cons, ↓eCall_eq, e0_eq, decide_true, decide_false, Bool.not_true, Bool.not_false, Option.map_some, uNone_eq, Int.reduceLT, Int.reduceLE, Int.reduceEq, Int.reduceAdd, Int.reduceSub, Int.reduceMul, Int.reduceNeg, Int.reduceToNat, Nat.reduceAdd, Nat.reduceSub, Nat.reduceMul, ↓p40_1.eq_1, ↓p40_3.eq_1, ↓p40_2.eq_1, ↓p40_0.eq_1, gdV_tt, gdV_ff, gdV_tf, gdV_ft, gdV_nil, ↓pPick_eq, pkV_tt, pkV_ff, fLt_eq, fGt_eq, uLenS_slice, uLenS_nil, uFld_eq, uChk_eq, bIdx1_eq, ↓dLd_def, List.getElem?_cons_zero, List.getElem?_cons_succ, Nat.zero_add, ↓g0.eq_1, ↓g1.eq_1, ↓g4.eq_1, u0.eq_1, N16.u0e, N16.k0e, u1.eq_1, N16.k1e, u4.eq_1, N16.k4e, rw0e, rw1e, ↓gdV_tt, ↓gdV_ff, ↓gdV_tf, ↓gdV_ft, ↓gdV_nil, dLd_at hw h1, c1, c2, q7, Bool.true_and, Option.getD_none]
  · simp -implicitDefEqProofs (disch := first | omega | (simp only [one_i, one_int, one_bool, one_str, one_ptr, one_nilp, one_nils, one_slice, one_map, one_nilm, one_func, one_iface, same_i, same_bool, same_nils, same_ptr, same_map, same_slice, allOne_cons, allOne_nil, Bool.and_self]; done) | (simp only [List.length_cons, List.length_nil, List.length_map, List.length_set]; omega)) only [↓dSeq_eq, lt_eq, ↓ltc_eq, bP_some, bE_some, aSt_some, seqR_nrm, seqR_exit, seqR_ret, ↓dRet_eq, ↓dSkip_eq, ↓dExit_eq, ↓dCond_eq, condR_true, condR_false, ↓dBlock_eq, blkR_nrm, blkR_ret, blkR_exit, blkR_exit_ne, retR_nrm', retR_ret', rnd_nrm, rnd_exit, rnd_ret, Ret_some, resV_one, resV_tt, resV_ttt, resV_nil, rT_eq, ↓cV_eq, ↓pMove_eq, ↓pUn_eq, ↓pBin_eq, ↓evs_nil, ↓evs_cons, ↓eCall_eq, e0_eq, decide_true, decide_false, Bool.not_true, Bool.not_false, Option.map_some, uNone_eq, Int.reduceLT, Int.reduceLE, Int.reduceEq, Int.reduceAdd, Int.reduceSub, Int.reduceMul, Int.reduceNeg, Int.reduceToNat, Nat.reduceAdd, Nat.reduceSub, Nat.reduceMul, ↓p40_1.eq_1, ↓p40_3.eq_1, ↓p40_2.eq_1, ↓p40_0.eq_1, gdV_tt, gdV_ff, gdV_tf, gdV_ft, gdV_nil, ↓pPick_eq, pkV_tt, pkV_ff, fLt_eq, fGt_eq, uLenS_slice, uLenS_nil, uFld_eq, uChk_eq, bIdx1_eq, ↓dLd_def, List.getElem?_cons_zero, List.getElem?_cons_succ, Nat.zero_add, ↓g0.eq_1, ↓g1.eq_1, ↓g4.eq_1, u0.eq_1, N16.u0e, N16.k0e, u1.eq_1, N16.k1e, u4.eq_1, N16.k4e, rw0e, rw1e, ↓gdV_tt, ↓gdV_ff, ↓gdV_tf, ↓gdV_ft, ↓gdV_nil, c1, Bool.false_and]
theorem HR.fnUsed (d : Nat) : (K (d + 1)).call 13 [.ptr p 0] s = some (.i (next - 1), s) := by
  obtain ⟨hw, h1, h2, h3, h4, h5, h6, h7, h8, d1, d2, d3⟩ := H
  rw [op13]
  simp -implicitDefEqProofs (disch := first | omega | (simp only [one_i, one_int, one_bool, one_str, one_ptr, one_nilp, one_nils, one_slice, one_map, one_nilm, one_func, one_iface, same_i, same_bool, same_nils, same_ptr, same_map, same_slice, allOne_cons, allOne_nil, Bool.and_self]; done) | (simp only [List.length_cons, List.length_nil, List.length_map, List.length_set]; omega)) only [↓dSeq_eq, lt_eq, ↓ltc_eq, bP_some, bE_some, aSt_some, seqR_nrm, seqR_exit, seqR_ret, ↓dRet_eq, ↓dSkip_eq, ↓dExit_eq, ↓dCond_eq, condR_true, condR_false, ↓dBlock_eq, blkR_nrm, blkR_ret, blkR_exit, blkR_exit_ne, retR_nrm', retR_ret', rnd_nrm, rnd_exit, rnd_ret, Ret_some, resV_one, resV_tt, resV_ttt, resV_nil, rT_eq, ↓cV_eq, ↓pMove_eq, ↓pUn_eq, ↓pBin_eq, ↓evs_nil, ↓evs_cons, ↓eCall_eq, e0_eq, decide_true, decide_false, Bool.not_true, Bool.not_false, Option.map_some, uNone_eq, Int.reduceLT, Int.reduceLE, Int.reduceEq, Int.reduceAdd, Int.reduceSub, Int.reduceMul, Int.reduceNeg, Int.reduceToNat, Nat.reduceAdd, Nat.reduceSub, Nat.reduceMul, ↓p13_1.eq_1, ↓p13_3.eq_1, ↓p13_2.eq_1, ↓p13_0.eq_1, fSub_eq, uFld_eq, uChk_eq, ↓dLd_def, List.getElem?_cons_zero, List.getElem?_cons_succ, Nat.zero_add, ↓g0.eq_1, ↓g2.eq_1, u0.eq_1, N16.u0e, N16.k0e, u2.eq_1, N16.k2e, rw0e, dLd_at hw h1]
theorem HR.fnWords (d : Nat) : (K (d + 1)).call 24 [.ptr p 0] s = some (.i (n - 1), s) := by
  obtain ⟨hw, h1, h2, h3, h4, h5, h6, h7, h8, d1, d2, d3⟩ := H
  rw [op24]
  simp -implicitDefEqProofs (disch := first | omega | (simp only [one_i, one_int, one_bool, one_str, one_ptr, one_nilp, one_nils, one_slice, one_map, one_nilm, one_func, one_iface, same_i, same_bool, same_nils, same_ptr, same_map, same_slice, allOne_cons, allOne_nil, Bool.and_self]; done) | (simp only [List.length_cons, List.length_nil, List.length_map, List.length_set]; omega)) only [↓dSeq_eq, lt_eq, ↓ltc_eq, bP_some, bE_some, aSt_some, seqR_nrm, seqR_exit, seqR_ret, ↓dRet_eq, ↓dSkip_eq, ↓dExit_eq, ↓dCond_eq, condR_true, condR_false, ↓dBlock_eq, blkR_nrm, blkR_ret, blkR_exit, blkR_exit_ne, retR_nrm', retR_ret', rnd_nrm, rnd_exit, rnd_ret, Ret_some, resV_one, resV_tt, resV_ttt, resV_nil, rT_eq, ↓cV_eq, ↓pMove_eq, ↓pUn_eq, ↓pBin_eq, ↓evs_nil, ↓evs_cons, ↓eCall_eq, e0_eq, decide_true, decide_false, Bool.not_true, Bool.not_false, Option.map_some, uNone_eq, Int.reduceLT, Int.reduceLE, Int.reduceEq, Int.reduceAdd, Int.reduceSub, Int.reduceMul, Int.reduceNeg, Int.reduceToNat, Nat.reduceAdd, Nat.reduceSub, Nat.reduceMul, ↓p24_1.eq_1, ↓p24_3.eq_1, ↓p24_2.eq_1, ↓p24_0.eq_1, fSub_eq, uLenS_slice, uLenS_nil, uFld_eq, uChk_eq, ↓dLd_def, List.getElem?_cons_zero, List.getElem?_cons_succ, Nat.zero_add, ↓g0.eq_1, ↓g2.eq_1, u0.eq_1, N16.u0e, N16.k0e, u2.eq_1, N16.k2e, rw0e, dLd_at hw h1]
end
end
end Go.Proofs.YtjipdnfaokdkbaaLab
