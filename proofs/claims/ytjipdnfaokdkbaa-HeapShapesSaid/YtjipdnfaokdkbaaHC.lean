/- The heap's functions that only look, by its objects. No condition on the program. -/
import Derived.Test.YtjipdnfaokdkbaaHB
import Derived.Test.YtjipdnfaokdkbaaHP
namespace Go.Proofs.YtjipdnfaokdkbaaLab
open Go
set_option linter.all false
set_option maxRecDepth 10000
noncomputable section
/-- A heap of objects. -/
structure AH (s : St) (p bw bb n : Nat) (os : List O) (sh mp : V) (z : List Int) : Prop where
  hr : HR s p bw bb n (0 :: (lay os ++ z)) (false :: (layB os ++ List.replicate z.length false)) (1 + (lay os).length) sh mp
def lenO (os : List O) (r : Int) : Int := match at? os r with | some o => (o.f.length : Int) | none => 0
def shapeO (os : List O) (r : Int) : Int := match at? os r with | some o => o.shape | none => -3
def tagO (os : List O) (r : Int) : Int := match at? os r with | some o => o.tag | none => 0
theorem isB_at (os : List O) (z : Nat) (r : Int) : isB (false :: (layB os ++ List.replicate z false)) r = (at? os r).isSome := by
  unfold isB at?
  by_cases h : 0 < r
  · obtain ⟨j, rfl⟩ : ∃ j : Nat, r = (j : Int) + 1 := ⟨(r - 1).toNat, by omega⟩
    rw [show (((j : Int) + 1).toNat) = j + 1 by omega, List.getElem?_cons_succ, layB_get, show ((j : Int) + 1 - 1) = (j : Int) by omega]
    simp
  · rw [look_neg _ _ (by omega)]; simp [h]
section
variable {s : St} {p bw bb n : Nat} {os : List O} {sh mp : V} {z : List Int} (H : AH s p bw bb n os sh mp z)
include H
theorem AH.is (d : Nat) (r : Int) : (K (d + 1)).call 40 [.ptr p 0, .i r] s = some (.bool (at? os r).isSome, s) := by
  rw [H.hr.fnIs, isB_at]
theorem AH.size : n = 1 + (lay os).length + z.length := by have := H.hr.lw; simp at this; omega
theorem AH.nn : n < 20000 := H.hr.nn
/-- A word of an object. -/
theorem AH.at {r : Int} {o : O} (h : at? os r = some o) (j : Nat) (hj : j < o.n) : 0 ≤ r + j ∧ r + j < n ∧ ((0 :: (lay os ++ z)).map V.i)[(r + j).toNat]? = (o.ws[j]?).map V.i := by
  obtain ⟨h1, h2, h3⟩ := lay_at h z
  have := H.size
  refine ⟨by omega, by omega, ?_⟩
  rw [List.getElem?_map, show (r + j).toNat = r.toNat + j by omega, h3 j hj]
theorem AH.len (d : Nat) (r : Int) : (K (d + 2)).call 11 [.ptr p 0, .i r] s = some (.i (lenO os r), s) := by
  have ei := H.is d r
  have hn := H.nn
  have hw := H.hr.wf
  have h1 := H.hr.hp
  have h2 := H.hr.hw
  rw [op11]
  unfold lenO
  cases ho : at? os r with
  | none =>
    rw [ho] at ei
    simp -implicitDefEqProofs (disch := first | omega | (simp only [one_i, one_int, one_bool, one_str, one_ptr, one_nilp, one_nils, one_slice, one_map, one_nilm, one_func, one_iface, same_i, same_bool, same_nils, same_ptr, same_map, same_slice, allOne_cons, allOne_nil, Bool.and_self]; done) | (simp only [List.length_cons, List.length_nil, List.length_map, List.length_set]; omega)) only [↓dSeq_eq, lt_eq, ↓ltc_eq, bP_some, bE_some, aSt_some, seqR_nrm, seqR_exit, seqR_ret, ↓dRet_eq, ↓dSkip_eq, ↓dExit_eq, ↓dCond_eq, condR_true, condR_false, ↓dBlock_eq, blkR_nrm, blkR_ret, blkR_exit, blkR_exit_ne, retR_nrm', retR_ret', rnd_nrm, rnd_exit, rnd_ret, Ret_some, resV_one, resV_tt, resV_ttt, resV_nil, rT_eq, ↓cV_eq, ↓pMove_eq, ↓pUn_eq, ↓pBin_eq, ↓evs_nil, ↓evs_cons, ↓eCall_eq, e0_eq, decide_true, decide_false, Bool.not_true, Bool.not_false, Option.map_some, uNone_eq, Int.reduceLT, Int.reduceLE, Int.reduceEq, Int.reduceAdd, Int.reduceSub, Int.reduceMul, Int.reduceNeg, Int.reduceToNat, Nat.reduceAdd, Nat.reduceSub, Nat.reduceMul, ↓p11_1.eq_1, ↓p11_4.eq_1, ↓p11_7.eq_1, ↓p11_6.eq_1, ↓p11_5.eq_1, ↓p11_3.eq_1, ↓p11_9.eq_1, ↓p11_8.eq_1, ↓p11_2.eq_1, ↓p11_0.eq_1, fAdd_eq, uNot_eq, uFld_eq, uChk_eq, bIdx1_eq, ↓dLd_def, List.getElem?_cons_zero, List.getElem?_cons_succ, Nat.zero_add, ↓g0.eq_1, ↓g1.eq_1, ↓g4.eq_1, ↓g8.eq_1, u0.eq_1, N16.u0e, N16.k0e, u1.eq_1, N16.k1e, u4.eq_1, N16.k4e, u16.eq_1, N16.u1e, rw0e, ei, Option.isSome_none]
  | some o =>
    rw [ho] at ei
    have h3 := o.n_pos
    obtain ⟨a1, a2, a3⟩ := H.at ho 1 (by omega)
    have hl := H.hr.lw
    simp only [O.ws, List.getElem?_cons_succ, List.getElem?_cons_zero, Option.map_some] at a3
    replace a1 : 0 ≤ r + 1 := a1
    replace a2 : r + 1 < n := a2
    replace a3 : _[(r + 1).toNat]? = _ := a3
    simp -implicitDefEqProofs (disch := first | omega | (simp only [one_i, one_int, one_bool, one_str, one_ptr, one_nilp, one_nils, one_slice, one_map, one_nilm, one_func, one_iface, same_i, same_bool, same_nils, same_ptr, same_map, same_slice, allOne_cons, allOne_nil, Bool.and_self]; done) | (simp only [List.length_cons, List.length_nil, List.length_map, List.length_set]; omega)) only [↓dSeq_eq, lt_eq, ↓ltc_eq, bP_some, bE_some, aSt_some, seqR_nrm, seqR_exit, seqR_ret, ↓dRet_eq, ↓dSkip_eq, ↓dExit_eq, ↓dCond_eq, condR_true, condR_false, ↓dBlock_eq, blkR_nrm, blkR_ret, blkR_exit, blkR_exit_ne, retR_nrm', retR_ret', rnd_nrm, rnd_exit, rnd_ret, Ret_some, resV_one, resV_tt, resV_ttt, resV_nil, rT_eq, ↓cV_eq, ↓pMove_eq, ↓pUn_eq, ↓pBin_eq, ↓evs_nil, ↓evs_cons, ↓eCall_eq, e0_eq, decide_true, decide_false, Bool.not_true, Bool.not_false, Option.map_some, uNone_eq, Int.reduceLT, Int.reduceLE, Int.reduceEq, Int.reduceAdd, Int.reduceSub, Int.reduceMul, Int.reduceNeg, Int.reduceToNat, Nat.reduceAdd, Nat.reduceSub, Nat.reduceMul, ↓p11_1.eq_1, ↓p11_4.eq_1, ↓p11_7.eq_1, ↓p11_6.eq_1, ↓p11_5.eq_1, ↓p11_3.eq_1, ↓p11_9.eq_1, ↓p11_8.eq_1, ↓p11_2.eq_1, ↓p11_0.eq_1, fAdd_eq, uNot_eq, uFld_eq, uChk_eq, bIdx1_eq, ↓dLd_def, List.getElem?_cons_zero, List.getElem?_cons_succ, Nat.zero_add, ↓g0.eq_1, ↓g1.eq_1, ↓g4.eq_1, ↓g8.eq_1, u0.eq_1, N16.u0e, N16.k0e, u1.eq_1, N16.k1e, u4.eq_1, N16.k4e, u16.eq_1, N16.u1e, rw0e, ei, Option.isSome_some, dLd_at hw h1, dLd_eq hw h2 a3]
theorem AH.shape (d : Nat) (r : Int) : (K (d + 2)).call 20 [.ptr p 0, .i r] s = some (.i (shapeO os r), s) := by
  have ei := H.is d r
  have hn := H.nn
  have hw := H.hr.wf
  have h1 := H.hr.hp
  have h2 := H.hr.hw
  rw [op20]
  unfold shapeO
  cases ho : at? os r with
  | none =>
    rw [ho] at ei
    simp -implicitDefEqProofs (disch := first | omega | (simp only [one_i, one_int, one_bool, one_str, one_ptr, one_nilp, one_nils, one_slice, one_map, one_nilm, one_func, one_iface, same_i, same_bool, same_nils, same_ptr, same_map, same_slice, allOne_cons, allOne_nil, Bool.and_self]; done) | (simp only [List.length_cons, List.length_nil, List.length_map, List.length_set]; omega)) only [↓dSeq_eq, lt_eq, ↓ltc_eq, bP_some, bE_some, aSt_some, seqR_nrm, seqR_exit, seqR_ret, ↓dRet_eq, ↓dSkip_eq, ↓dExit_eq, ↓dCond_eq, condR_true, condR_false, ↓dBlock_eq, blkR_nrm, blkR_ret, blkR_exit, blkR_exit_ne, retR_nrm', retR_ret', rnd_nrm, rnd_exit, rnd_ret, Ret_some, resV_one, resV_tt, resV_ttt, resV_nil, rT_eq, ↓cV_eq, ↓pMove_eq, ↓pUn_eq, ↓pBin_eq, ↓evs_nil, ↓evs_cons, ↓eCall_eq, e0_eq, decide_true, decide_false, Bool.not_true, Bool.not_false, Option.map_some, uNone_eq, Int.reduceLT, Int.reduceLE, Int.reduceEq, Int.reduceAdd, Int.reduceSub, Int.reduceMul, Int.reduceNeg, Int.reduceToNat, Nat.reduceAdd, Nat.reduceSub, Nat.reduceMul, ↓p20_1.eq_1, ↓p20_4.eq_1, ↓p20_7.eq_1, ↓p20_6.eq_1, ↓p20_5.eq_1, ↓p20_3.eq_1, ↓p20_9.eq_1, ↓p20_8.eq_1, ↓p20_2.eq_1, ↓p20_0.eq_1, uNot_eq, uFld_eq, uChk_eq, bIdx1_eq, ↓dLd_def, List.getElem?_cons_zero, List.getElem?_cons_succ, Nat.zero_add, ↓g0.eq_1, ↓g1.eq_1, ↓g4.eq_1, ↓g8.eq_1, u0.eq_1, N16.u0e, N16.k0e, u1.eq_1, N16.k1e, u4.eq_1, N16.k4e, rw0e, ei, Option.isSome_none]
  | some o =>
    rw [ho] at ei
    have h3 := o.n_pos
    obtain ⟨a1, a2, a3⟩ := H.at ho 0 (by omega)
    have hl := H.hr.lw
    simp only [O.ws, List.getElem?_cons_succ, List.getElem?_cons_zero, Option.map_some, Int.ofNat_zero, Int.natCast_zero, Int.add_zero] at a1 a2 a3
    simp -implicitDefEqProofs (disch := first | omega | (simp only [one_i, one_int, one_bool, one_str, one_ptr, one_nilp, one_nils, one_slice, one_map, one_nilm, one_func, one_iface, same_i, same_bool, same_nils, same_ptr, same_map, same_slice, allOne_cons, allOne_nil, Bool.and_self]; done) | (simp only [List.length_cons, List.length_nil, List.length_map, List.length_set]; omega)) only [↓dSeq_eq, lt_eq, ↓ltc_eq, bP_some, bE_some, aSt_some, seqR_nrm, seqR_exit, seqR_ret, ↓dRet_eq, ↓dSkip_eq, ↓dExit_eq, ↓dCond_eq, condR_true, condR_false, ↓dBlock_eq, blkR_nrm, blkR_ret, blkR_exit, blkR_exit_ne, retR_nrm', retR_ret', rnd_nrm, rnd_exit, rnd_ret, Ret_some, resV_one, resV_tt, resV_ttt, resV_nil, rT_eq, ↓cV_eq, ↓pMove_eq, ↓pUn_eq, ↓pBin_eq, ↓evs_nil, ↓evs_cons, ↓eCall_eq, e0_eq, decide_true, decide_false, Bool.not_true, Bool.not_false, Option.map_some, uNone_eq, Int.reduceLT, Int.reduceLE, Int.reduceEq, Int.reduceAdd, Int.reduceSub, Int.reduceMul, Int.reduceNeg, Int.reduceToNat, Nat.reduceAdd, Nat.reduceSub, Nat.reduceMul, ↓p20_1.eq_1, ↓p20_4.eq_1, ↓p20_7.eq_1, ↓p20_6.eq_1, ↓p20_5.eq_1, ↓p20_3.eq_1, ↓p20_9.eq_1, ↓p20_8.eq_1, ↓p20_2.eq_1, ↓p20_0.eq_1, uNot_eq, uFld_eq, uChk_eq, bIdx1_eq, ↓dLd_def, List.getElem?_cons_zero, List.getElem?_cons_succ, Nat.zero_add, ↓g0.eq_1, ↓g1.eq_1, ↓g4.eq_1, ↓g8.eq_1, u0.eq_1, N16.u0e, N16.k0e, u1.eq_1, N16.k1e, u4.eq_1, N16.k4e, rw0e, ei, Option.isSome_some, dLd_at hw h1, dLd_eq hw h2 a3]
theorem AH.tag (d : Nat) (r : Int) : (K (d + 2)).call 25 [.ptr p 0, .i r] s = some (.i (tagO os r), s) := by
  have ei := H.is d r
  have hn := H.nn
  have hw := H.hr.wf
  have h1 := H.hr.hp
  have h2 := H.hr.hw
  rw [op25]
  unfold tagO
  cases ho : at? os r with
  | none =>
    rw [ho] at ei
    simp -implicitDefEqProofs (disch := first | omega | (simp only [one_i, one_int, one_bool, one_str, one_ptr, one_nilp, one_nils, one_slice, one_map, one_nilm, one_func, one_iface, same_i, same_bool, same_nils, same_ptr, same_map, same_slice, allOne_cons, allOne_nil, Bool.and_self]; done) | (simp only [List.length_cons, List.length_nil, List.length_map, List.length_set]; omega)) only [↓dSeq_eq, lt_eq, ↓ltc_eq, bP_some, bE_some, aSt_some, seqR_nrm, seqR_exit, seqR_ret, ↓dRet_eq, ↓dSkip_eq, ↓dExit_eq, ↓dCond_eq, condR_true, condR_false, ↓dBlock_eq, blkR_nrm, blkR_ret, blkR_exit, blkR_exit_ne, retR_nrm', retR_ret', rnd_nrm, rnd_exit, rnd_ret, Ret_some, resV_one, resV_tt, resV_ttt, resV_nil, rT_eq, ↓cV_eq, ↓pMove_eq, ↓pUn_eq, ↓pBin_eq, ↓evs_nil, ↓evs_cons, ↓eCall_eq, e0_eq, decide_true, decide_false, Bool.not_true, Bool.not_false, Option.map_some, uNone_eq, Int.reduceLT, Int.reduceLE, Int.reduceEq, Int.reduceAdd, Int.reduceSub, Int.reduceMul, Int.reduceNeg, Int.reduceToNat, Nat.reduceAdd, Nat.reduceSub, Nat.reduceMul, ↓p25_1.eq_1, ↓p25_4.eq_1, ↓p25_7.eq_1, ↓p25_6.eq_1, ↓p25_5.eq_1, ↓p25_3.eq_1, ↓p25_9.eq_1, ↓p25_8.eq_1, ↓p25_2.eq_1, ↓p25_0.eq_1, fAdd_eq, uNot_eq, uFld_eq, uChk_eq, bIdx1_eq, ↓dLd_def, List.getElem?_cons_zero, List.getElem?_cons_succ, Nat.zero_add, ↓g0.eq_1, ↓g1.eq_1, ↓g4.eq_1, ↓g8.eq_1, u0.eq_1, N16.u0e, N16.k0e, u1.eq_1, N16.k1e, u4.eq_1, N16.k4e, u16.eq_1, N16.u1e, rw0e, ei, Option.isSome_none]
  | some o =>
    rw [ho] at ei
    have h3 := o.n_pos
    obtain ⟨a1, a2, a3⟩ := H.at ho 2 (by omega)
    have hl := H.hr.lw
    simp only [O.ws, List.getElem?_cons_succ, List.getElem?_cons_zero, Option.map_some] at a3
    replace a1 : 0 ≤ r + 2 := a1
    replace a2 : r + 2 < n := a2
    replace a3 : _[(r + 2).toNat]? = _ := a3
    simp -implicitDefEqProofs (disch := first | omega | (simp only [one_i, one_int, one_bool, one_str, one_ptr, one_nilp, one_nils, one_slice, one_map, one_nilm, one_func, one_iface, same_i, same_bool, same_nils, same_ptr, same_map, same_slice, allOne_cons, allOne_nil, Bool.and_self]; done) | (simp only [List.length_cons, List.length_nil, List.length_map, List.length_set]; omega)) only [↓dSeq_eq, lt_eq, ↓ltc_eq, bP_some, bE_some, aSt_some, seqR_nrm, seqR_exit, seqR_ret, ↓dRet_eq, ↓dSkip_eq, ↓dExit_eq, ↓dCond_eq, condR_true, condR_false, ↓dBlock_eq, blkR_nrm, blkR_ret, blkR_exit, blkR_exit_ne, retR_nrm', retR_ret', rnd_nrm, rnd_exit, rnd_ret, Ret_some, resV_one, resV_tt, resV_ttt, resV_nil, rT_eq, ↓cV_eq, ↓pMove_eq, ↓pUn_eq, ↓pBin_eq, ↓evs_nil, ↓evs_cons, ↓eCall_eq, e0_eq, decide_true, decide_false, Bool.not_true, Bool.not_false, Option.map_some, uNone_eq, Int.reduceLT, Int.reduceLE, Int.reduceEq, Int.reduceAdd, Int.reduceSub, Int.reduceMul, Int.reduceNeg, Int.reduceToNat, Nat.reduceAdd, Nat.reduceSub, Nat.reduceMul, ↓p25_1.eq_1, ↓p25_4.eq_1, ↓p25_7.eq_1, ↓p25_6.eq_1, ↓p25_5.eq_1, ↓p25_3.eq_1, ↓p25_9.eq_1, ↓p25_8.eq_1, ↓p25_2.eq_1, ↓p25_0.eq_1, fAdd_eq, uNot_eq, uFld_eq, uChk_eq, bIdx1_eq, ↓dLd_def, List.getElem?_cons_zero, List.getElem?_cons_succ, Nat.zero_add, ↓g0.eq_1, ↓g1.eq_1, ↓g4.eq_1, ↓g8.eq_1, u0.eq_1, N16.u0e, N16.k0e, u1.eq_1, N16.k1e, u4.eq_1, N16.k4e, u16.eq_1, N16.u1e, rw0e, ei, Option.isSome_some, dLd_at hw h1, dLd_eq hw h2 a3]
/-- Is there such a field? -/
theorem AH.field (d : Nat) (r k : Int) : (K (d + 3)).call 38 [.ptr p 0, .i r, .i k] s = some (.tup [.i (w64 (w64 (r + 3) + k)), .bool (decide (0 ≤ k ∧ k < lenO os r))], s) := by
  have el := H.len d r
  rw [op38]
  by_cases h0 : 0 ≤ k
  · simp -implicitDefEqProofs (disch := first | omega | (simp only [one_i, one_int, one_bool, one_str, one_ptr, one_nilp, one_nils, one_slice, one_map, one_nilm, one_func, one_iface, same_i, same_bool, same_nils, same_ptr, same_map, same_slice, allOne_cons, allOne_nil, Bool.and_self]; done) | (simp only [List.length_cons, List.length_nil, List.length_map, List.length_set]; omega)) only [↓dSeq_eq, lt_eq, ↓ltc_eq, bP_some, bE_some, aSt_some, seqR_nrm, seqR_exit, seqR_ret, ↓dRet_eq, ↓dSkip_eq, ↓dExit_eq, ↓dCond_eq, condR_true, condR_false, ↓dBlock_eq, blkR_nrm, blkR_ret, blkR_exit, blkR_exit_ne, retR_nrm', retR_ret', rnd_nrm, rnd_exit, rnd_ret, Ret_some, resV_one, resV_tt, resV_ttt, resV_nil, rT_eq, ↓cV_eq, ↓pMove_eq, ↓pUn_eq, ↓pBin_eq, ↓evs_nil, ↓evs_cons, ↓eCall_eq, e0_eq, decide_true, decide_false, Bool.not_true, Bool.not_false, Option.map_some, uNone_eq, Int.reduceLT, Int.reduceLE, Int.reduceEq, Int.reduceAdd, Int.reduceSub, Int.reduceMul, Int.reduceNeg, Int.reduceToNat, Nat.reduceAdd, Nat.reduceSub, Nat.reduceMul, ↓p38_1.eq_1, ↓p38_3.eq_1, ↓p38_2.eq_1, ↓p38_0.eq_1, gdV_tt, gdV_ff, gdV_tf, gdV_ft, gdV_nil, gdW_tt, gdW_ff, gdW_tf, gdW_ft, gdW_nil, ↓pPick_eq, pkV_tt, pkV_ff, fAdd_w, fLt_eq, fGe_eq, ↓g0.eq_1, ↓g1.eq_1, ↓g2.eq_1, ↓g6.eq_1, ↓g7.eq_1, u0.eq_1, N16.u0e, N16.k0e, u1.eq_1, N16.k1e, u2.eq_1, N16.k2e, rw0e, rw1e, ↓gdV_tt, ↓gdV_ff, ↓gdV_tf, ↓gdV_ft, ↓gdV_nil, ↓gdW_tt, ↓gdW_ff, ↓gdW_tf, ↓gdW_ft, ↓gdW_nil, el, h0, true_and]
  · simp -implicitDefEqProofs (disch := first | omega | (simp only [one_i, one_int, one_bool, one_str, one_ptr, one_nilp, one_nils, one_slice, one_map, one_nilm, one_func, one_iface, same_i, same_bool, same_nils, same_ptr, same_map, same_slice, allOne_cons, allOne_nil, Bool.and_self]; done) | (simp only [List.length_cons, List.length_nil, List.length_map, List.length_set]; omega)) only [↓dSeq_eq, lt_eq, ↓ltc_eq, bP_some, bE_some, aSt_some, seqR_nrm, seqR_exit, seqR_ret, ↓dRet_eq, ↓dSkip_eq, ↓dExit_eq, ↓dCond_eq, condR_true, condR_false, ↓dBlock_eq, blkR_nrm, blkR_ret, blkR_exit, blkR_exit_ne, retR_nrm', retR_ret', rnd_nrm, rnd_exit, rnd_ret, Ret_some, resV_one, resV_tt, resV_ttt, resV_nil, rT_eq, ↓cV_eq, ↓pMove_eq, ↓pUn_eq, ↓pBin_eq, ↓evs_nil, ↓evs_cons, ↓eCall_eq, e0_eq, decide_true, decide_false, Bool.not_true, Bool.not_false, Option.map_some, uNone_eq, Int.reduceLT, Int.reduceLE, Int.reduceEq, Int.reduceAdd, Int.reduceSub, Int.reduceMul, Int.reduceNeg, Int.reduceToNat, Nat.reduceAdd, Nat.reduceSub, Nat.reduceMul, ↓p38_1.eq_1, ↓p38_3.eq_1, ↓p38_2.eq_1, ↓p38_0.eq_1, gdV_tt, gdV_ff, gdV_tf, gdV_ft, gdV_nil, gdW_tt, gdW_ff, gdW_tf, gdW_ft, gdW_nil, ↓pPick_eq, pkV_tt, pkV_ff, fAdd_w, fLt_eq, fGe_eq, ↓g0.eq_1, ↓g1.eq_1, ↓g2.eq_1, ↓g6.eq_1, ↓g7.eq_1, u0.eq_1, N16.u0e, N16.k0e, u1.eq_1, N16.k1e, u2.eq_1, N16.k2e, rw0e, rw1e, ↓gdV_tt, ↓gdV_ff, ↓gdV_tf, ↓gdV_ft, ↓gdV_nil, ↓gdW_tt, ↓gdW_ff, ↓gdW_tf, ↓gdW_ft, ↓gdW_nil, el, h0, false_and]
end
/-- A field. -/
def getO (os : List O) (r k : Int) : Option Int := match at? os r with | some o => if 0 ≤ k then o.f[k.toNat]? else none | none => none
theorem getO_len {os : List O} {r k : Int} : (getO os r k).isSome = decide (0 ≤ k ∧ k < lenO os r) := by
  unfold getO lenO
  cases at? os r with
  | none => simp
  | some o =>
    by_cases h : 0 ≤ k
    · simp only [if_pos h, h, true_and]
      by_cases h2 : k < o.f.length
      · rw [List.getElem?_eq_getElem (by omega)]; simp [h2]
      · rw [List.getElem?_eq_none (by omega)]; simp [h2]
    · simp [h]
theorem getO_some {os : List O} {r k v : Int} (h : getO os r k = some v) : ∃ o, at? os r = some o ∧ 0 ≤ k ∧ k < o.f.length ∧ o.f[k.toNat]? = some v := by
  unfold getO at h
  split at h
  · rename_i o ho
    split at h
    · have := (List.getElem?_eq_some_iff.1 h).1
      exact ⟨o, ho, by omega, by omega, h⟩
    · cases h
  · cases h
section
variable {s : St} {p bw bb n : Nat} {os : List O} {sh mp : V} {z : List Int} (H : AH s p bw bb n os sh mp z)
include H
/-- Where a field lies. -/
theorem AH.atF {r k v : Int} (h : getO os r k = some v) : 1 ≤ r ∧ 0 ≤ k ∧ 0 ≤ r + 3 + k ∧ r + 3 + k < n ∧ w64 (w64 (r + 3) + k) = r + 3 + k ∧ ((0 :: (lay os ++ z)).map V.i)[(r + 3 + k).toNat]? = some (.i v) ∧ 0 ≤ k ∧ k < lenO os r := by
  obtain ⟨o, ho, h1, h2, h3⟩ := getO_some h
  have hn := H.nn
  obtain ⟨a1, a2, a3⟩ := H.at ho (3 + k.toNat) (by simp [O.n]; omega)
  have hr := (lay_lt ho).1
  refine ⟨hr, h1, by omega, by omega, ?_, ?_, h1, ?_⟩
  · rw [w64_of (n := r + 3) ⟨by omega, by omega⟩, w64_of ⟨by omega, by omega⟩]
  · rw [show r + 3 + k = r + ((3 + k.toNat : Nat) : Int) by omega, a3, show 3 + k.toNat = k.toNat + 1 + 1 + 1 by omega]
    simp only [O.ws, List.getElem?_cons_succ, h3, Option.map_some]
  · unfold lenO; rw [ho]; exact h2
theorem AH.get (d : Nat) (r k : Int) : (K (d + 4)).call 12 [.ptr p 0, .i r, .i k] s = some ((match getO os r k with | some v => .tup [.i v, .i 0] | none => .tup [.i 0, .i 1]), s) := by
  have ef := H.field d r k
  rw [← getO_len] at ef
  have hn := H.nn
  have hw := H.hr.wf
  have h1 := H.hr.hp
  have h2 := H.hr.hw
  have hl := H.hr.lw
  rw [op12]
  cases ho : getO os r k with
  | none =>
    rw [ho] at ef
    simp -implicitDefEqProofs (disch := first | omega | (simp only [one_i, one_int, one_bool, one_str, one_ptr, one_nilp, one_nils, one_slice, one_map, one_nilm, one_func, one_iface, same_i, same_bool, same_nils, same_ptr, same_map, same_slice, allOne_cons, allOne_nil, Bool.and_self]; done) | (simp only [List.length_cons, List.length_nil, List.length_map, List.length_set]; omega)) only [↓dSeq_eq, lt_eq, ↓ltc_eq, bP_some, bE_some, aSt_some, seqR_nrm, seqR_exit, seqR_ret, ↓dRet_eq, ↓dSkip_eq, ↓dExit_eq, ↓dCond_eq, condR_true, condR_false, ↓dBlock_eq, blkR_nrm, blkR_ret, blkR_exit, blkR_exit_ne, retR_nrm', retR_ret', rnd_nrm, rnd_exit, rnd_ret, Ret_some, resV_one, resV_tt, resV_ttt, resV_nil, rT_eq, ↓cV_eq, ↓pMove_eq, ↓pUn_eq, ↓pBin_eq, ↓evs_nil, ↓evs_cons, ↓eCall_eq, e0_eq, decide_true, decide_false, Bool.not_true, Bool.not_false, Option.map_some, uNone_eq, Int.reduceLT, Int.reduceLE, Int.reduceEq, Int.reduceAdd, Int.reduceSub, Int.reduceMul, Int.reduceNeg, Int.reduceToNat, Nat.reduceAdd, Nat.reduceSub, Nat.reduceMul, ↓p12_1.eq_1, ↓p12_3.eq_1, ↓p12_6.eq_1, ↓p12_9.eq_1, ↓p12_8.eq_1, ↓p12_7.eq_1, ↓p12_5.eq_1, ↓p12_11.eq_1, ↓p12_10.eq_1, ↓p12_4.eq_1, ↓p12_2.eq_1, ↓p12_0.eq_1, uNot_eq, uFld_eq, uChk_eq, uExt_eq, List.getElem?_cons_zero, List.getElem?_cons_succ, bIdx1_eq, ↓dLd_def, Nat.zero_add, ↓g0.eq_1, ↓g1.eq_1, ↓g2.eq_1, ↓g6.eq_1, ↓g7.eq_1, ↓g8.eq_1, ↓g9.eq_1, ↓g18.eq_1, u0.eq_1, N16.u0e, N16.k0e, u1.eq_1, N16.k1e, u2.eq_1, N16.k2e, u16.eq_1, N16.u1e, rw0e, rw1e, ef, Option.isSome_none]
  | some v =>
    rw [ho] at ef
    obtain ⟨a0, b0, a1, a2, a3, a4, _⟩ := H.atF ho
    rw [a3] at ef
    simp -implicitDefEqProofs (disch := first | omega | (simp only [one_i, one_int, one_bool, one_str, one_ptr, one_nilp, one_nils, one_slice, one_map, one_nilm, one_func, one_iface, same_i, same_bool, same_nils, same_ptr, same_map, same_slice, allOne_cons, allOne_nil, Bool.and_self]; done) | (simp only [List.length_cons, List.length_nil, List.length_map, List.length_set]; omega)) only [↓dSeq_eq, lt_eq, ↓ltc_eq, bP_some, bE_some, aSt_some, seqR_nrm, seqR_exit, seqR_ret, ↓dRet_eq, ↓dSkip_eq, ↓dExit_eq, ↓dCond_eq, condR_true, condR_false, ↓dBlock_eq, blkR_nrm, blkR_ret, blkR_exit, blkR_exit_ne, retR_nrm', retR_ret', rnd_nrm, rnd_exit, rnd_ret, Ret_some, resV_one, resV_tt, resV_ttt, resV_nil, rT_eq, ↓cV_eq, ↓pMove_eq, ↓pUn_eq, ↓pBin_eq, ↓evs_nil, ↓evs_cons, ↓eCall_eq, e0_eq, decide_true, decide_false, Bool.not_true, Bool.not_false, Option.map_some, uNone_eq, Int.reduceLT, Int.reduceLE, Int.reduceEq, Int.reduceAdd, Int.reduceSub, Int.reduceMul, Int.reduceNeg, Int.reduceToNat, Nat.reduceAdd, Nat.reduceSub, Nat.reduceMul, ↓p12_1.eq_1, ↓p12_3.eq_1, ↓p12_6.eq_1, ↓p12_9.eq_1, ↓p12_8.eq_1, ↓p12_7.eq_1, ↓p12_5.eq_1, ↓p12_11.eq_1, ↓p12_10.eq_1, ↓p12_4.eq_1, ↓p12_2.eq_1, ↓p12_0.eq_1, uNot_eq, uFld_eq, uChk_eq, uExt_eq, List.getElem?_cons_zero, List.getElem?_cons_succ, bIdx1_eq, ↓dLd_def, Nat.zero_add, ↓g0.eq_1, ↓g1.eq_1, ↓g2.eq_1, ↓g6.eq_1, ↓g7.eq_1, ↓g8.eq_1, ↓g9.eq_1, ↓g18.eq_1, u0.eq_1, N16.u0e, N16.k0e, u1.eq_1, N16.k1e, u2.eq_1, N16.k2e, u16.eq_1, N16.u1e, rw0e, rw1e, ef, Option.isSome_some, dLd_at hw h1, dLd_eq hw h2 a4]
end
end
end Go.Proofs.YtjipdnfaokdkbaaLab
