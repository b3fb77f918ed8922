/- The heap slid: objects go to their places. No condition on the program. -/
import Derived.Test.YtjipdnfaokdkbaaHQ
namespace Go.Proofs.YtjipdnfaokdkbaaLab
open Go
set_option linter.all false
set_option maxRecDepth 10000
noncomputable section
/-- copy(x, y). -/
theorem eCp_ex {s : St} {b b2 o o2 len len2 : Nat} {c c2 : Option Nat} {l l2 : List V} (hw : Wf s) (h : s.cl b = some l) (h2 : s.cl b2 = some l2) (ho : o + min len2 len ≤ l.length) (ho2 : o2 + min len2 len ≤ l2.length) :
    ∃ s', cpP 1 (.slice b o len c 1) (.slice b2 o2 len2 c2 1) s = some (.i ((min len2 len : Nat) : Int), s') ∧ s'.cl b = some (putL l o ((l2.drop o2).take (min len2 len))) ∧ Fr s s' [b] ∧ s'.next = s.next := by
  by_cases h0 : min len2 len = 0
  · refine ⟨s, ?_, ?_, Fr.refl hw _, rfl⟩
    · show (Bool.casesOn (motive := fun _ => Option (V × St)) (Nat.beq (min len2 len) 0) _ (some (V.i 0, s))) = _
      rw [h0]; rfl
    · rw [h, h0]
      unfold putL
      simp
  · obtain ⟨xs, p1, _⟩ := cl_inv hw h
    obtain ⟨ys, p2, p3, _⟩ := cl_inv hw h2
    have hll : ((l2.drop o2).take (min len2 len)).length = min len2 len := by rw [List.length_take, List.length_drop]; omega
    obtain ⟨q1, q2, q3⟩ := st_ok (o := o) (vs := (l2.drop o2).take (min len2 len)) hw h (by rw [hll]; exact ho)
    refine ⟨_, ?_, q1, q2, q3⟩
    show (Bool.casesOn (motive := fun _ => Option (V × St)) (Nat.beq (min len2 len) 0)
      (match rdOf s b2 with
       | some (n2, xs2) => Bool.casesOn (motive := fun _ => Option (V × St)) (Nat.ble (Nat.add o2 (Nat.mul (min len2 len) 1)) n2) none
          (match ldc xs2 (Nat.mul (min len2 len) 1) o2 with
           | some l => (match blkOf s b with
              | some (n, xs) => Bool.casesOn (motive := fun _ => Option (V × St)) (Nat.ble (Nat.add o (Nat.mul (min len2 len) 1)) n) none (some (.i (.ofNat (min len2 len)), s.put b (.cells n (setL xs o l))))
              | none => none)
           | none => none)
       | none => none) (some (.i 0, s))) = _
    have e0 : Nat.beq (min len2 len) 0 = false := by rw [nbeq_eq]; exact decide_eq_false h0
    have em : Nat.mul (min len2 len) 1 = min len2 len := Nat.mul_one _
    have e1 : Nat.ble (Nat.add o2 (min len2 len)) l2.length = true := ble_true (show o2 + min len2 len ≤ l2.length by omega)
    have e2 : Nat.ble (Nat.add o (min len2 len)) l.length = true := ble_true (show o + min len2 len ≤ l.length by omega)
    rw [rdOf_cells p2]; simp only
    rw [e0, em, e1, ldc_eq p3 _ _ (by omega), blkOf_cl p1]; simp only
    rw [e2]
    unfold St.st; rw [p1]; rfl
def fillL (l : List V) (z : V) (j N : Nat) : List V := l.take j ++ List.replicate (N - j) z
theorem fill_set {l : List V} {z x : V} {j N : Nat} (h : l[j]? = some x) (hj : j < N) : (fillL l z j N).set j x = fillL l z (j + 1) N := by
  have hl := (List.getElem?_eq_some_iff.1 h).1
  unfold fillL
  rw [List.set_append_right _ _ (by rw [List.length_take]; omega), List.length_take, show j - min j l.length = 0 by omega, show N - j = (N - (j + 1)) + 1 by omega, List.replicate_succ, List.set_cons_zero, List.take_succ, h]
  simp
theorem layB_snoc (os : List O) (o : O) (k : Nat) (hk : o.n ≤ k) : (false :: (layB os ++ List.replicate k false)).set (1 + (lay os).length) true = false :: (layB (os ++ [o]) ++ List.replicate (k - o.n) false) := by
  have hon : o.n = 3 + o.f.length := rfl
  rw [layB_put os k o.f.length o.shape (by omega), layB_append, layB_append, hon]
  simp [layB, O.bs]
section
variable {s : St} {p bw bb n : Nat} {os : List O} {sh mp : V} {z : List Int} {keep : List Int} {kv tv : V} (H : AH s p bw bb n os sh mp z)
include H
theorem AH.slide45 (hK : Kept os keep) (hl : keep.length ≤ 100000) (hk : SL s kv (keep.map .i)) (ht : SL s tv ((tos os keep).map .i)) (hkb : ∀ b ∈ blkV kv, b ∉ [p, bw, bb]) (htb : ∀ b ∈ blkV tv, b ∉ [p, bw, bb]) (d : Nat) :
    Ret ((K (d + 3)).call 45 [.ptr p 0, kv, tv] s) fun v s' => v = .tup [] ∧ (∃ z', AH s' p bw bb n (objs os keep) sh mp z') ∧ Fr s s' [p, bw, bb] := by
  have hw := H.hr.wf
  have hn := H.nn
  have hz := H.size
  have hlen := hk.len
  rw [List.length_map] at hlen
  have hfit := hK.fits
  have hlt := H.lt
  have hob := objs_len hK.inn
  have t1 : ((keep.length : Nat) : Int).toNat = keep.length := Int.toNat_natCast _
  obtain ⟨s1, e1, c1, f1, n1⟩ := new_ex (s := s) (l := List.replicate keep.length (V.i 0)) (n := keep.length) hw (by simp)
  simp -implicitDefEqProofs (maxSteps := 5000000) (disch := first | assumption | omega | (simp only [one_i, one_int, one_bool, one_str, one_ptr, one_nilp, one_nils, one_slice, one_map, one_nilm, one_func, one_iface, same_i, same_bool, same_nils, same_ptr, same_map, same_slice, List.length_cons, List.length_nil, Nat.zero_add, Nat.reduceAdd, allOne_cons, allOne_nil, Bool.and_self]; done) | (simp only [List.length_cons, List.length_nil, List.length_map, List.length_set]; omega)) only [op45, go_sem, fAdd_eq, hlen, t1, e1]
  refine loop_at (Q := fun r => Ret (retR _ (seqR (blkR 0 r) _)) _) (fun m e t => ∃ j : Nat, m = keep.length - j ∧ j ≤ keep.length ∧ Fr s t [] ∧ s.next < t.next ∧ t.cl s.next = some (fillL ((objs os keep).map fun o => V.i (o.n : Nat)) (.i 0) j keep.length) ∧ g0 e = .ptr p 0 ∧ g1 e = kv ∧ g2 e = tv ∧ g6 e = .slice s.next 0 keep.length (some keep.length) 1 ∧ g14 e = kv ∧ g15 e = .i (keep.length : Nat) ∧ g16 e = .i j) ?_ (n := keep.length) (by omega) ⟨0, by omega, by omega, f1, by omega, by rw [c1]; simp [fillL], (by first | trivial | rfl | assumption), (by first | trivial | rfl | assumption), (by first | trivial | rfl | assumption), (by first | trivial | rfl | assumption), (by first | trivial | rfl | assumption), (by first | trivial | rfl | assumption), (by first | trivial | rfl | assumption)⟩
  rintro m e t ⟨j, rfl, hj, ft, hnt, ct, i0, i1, i2, i6, i14, i15, i16⟩
  replace i0 : e.a0.a0 = _ := i0
  replace i1 : e.a0.a1 = _ := i1
  replace i2 : e.a0.a2 = _ := i2
  replace i6 : e.a0.a6 = _ := i6
  replace i14 : e.a0.a14 = _ := i14
  replace i15 : e.a0.a15 = _ := i15
  replace i16 : e.a1.a0 = _ := i16
  have hwt := ft.wf
  have Ht := H.fr ft (by simp) (by simp) (by simp)
  by_cases c : (j : Int) < ((keep.length : Nat) : Int)
  · have hoj : keep[j]? = some keep[j] := List.getElem?_eq_getElem (by omega)
    obtain ⟨o, hat⟩ := Option.isSome_iff_exists.1 (hK.inn _ (List.mem_of_getElem? hoj))
    have hon : o.n = 3 + o.f.length := rfl
    have hlo := lay_lt hat
    obtain ⟨q, a1, a2⟩ := (hk.fr hw ft (by simp)).at hwt (j := j) (x := .i keep[j]) (by rw [List.getElem?_map, hoj]; rfl)
    have eL := Ht.len d keep[j]
    unfold lenO at eL
    rw [hat] at eL
    simp only at eL
    have eI : bIdx 1 (.slice s.next 0 keep.length (some keep.length) 1) (.i (j : Nat)) = some (.ptr s.next j) := by rw [bIdx1_eq (by omega) (by omega), Nat.zero_add, Int.toNat_natCast]
    obtain ⟨s2, p2, c2, f2, n2⟩ := eSt_ex (s := t) (o := j) (v := .i (3 + (o.f.length : Nat) : Int)) hwt ct (by simp [fillL]; omega) rfl
    simp -implicitDefEqProofs (maxSteps := 5000000) (disch := first | assumption | omega | (simp only [one_i, one_int, one_bool, one_str, one_ptr, one_nilp, one_nils, one_slice, one_map, one_nilm, one_func, one_iface, same_i, same_bool, same_nils, same_ptr, same_map, same_slice, List.length_cons, List.length_nil, Nat.zero_add, Nat.reduceAdd, allOne_cons, allOne_nil, Bool.and_self]; done) | (simp only [List.length_cons, List.length_nil, List.length_map, List.length_set]; omega)) only [go_sem, fAdd_eq, i0, i1, i2, i6, i14, i15, i16, c, a1, a2, eL, eI, p2]
    refine ⟨keep.length - (j + 1), by omega, j + 1, rfl, by omega, ft.trans' f2 (fun x hx => .inr (by simp at hx; omega)), by omega, ?_, (by first | trivial | rfl | assumption), (by first | trivial | rfl | assumption), (by first | trivial | rfl | assumption), (by first | trivial | rfl | assumption), (by first | trivial | rfl | assumption), (by first | trivial | rfl | assumption), (by first | trivial | rfl | assumption)⟩
    rw [c2, fill_set _ (by omega)]
    rw [List.getElem?_map, objs_get hK.inn hoj, hat, Option.map_some, hon]
    congr 2
  · have : j = keep.length := by omega
    subst this
    have hS : t.cl s.next = some ((objs os keep).map fun o => V.i (o.n : Nat)) := by
      rw [ct]; unfold fillL
      rw [List.take_of_length_le (by rw [List.length_map, hob]; omega)]; simp
    have h1 := Ht.hr.hp
    obtain ⟨s2, p2, c2, f2, n2⟩ := eClr_ex (z := .bool false) (o := 0) (len := n) (c := some n) (es := 1) hwt Ht.hr.hb (by rw [List.length_map, Ht.hr.lb]; omega)
    have h12 := f2.cl hwt h1 (by simp; exact H.hr.d2)
    obtain ⟨s3, p3, c3, f3, n3⟩ := eSt_ex (s := s2) (o := 2) (v := .i 1) f2.wf h12 (by simp) rfl
    simp only [List.set_cons_succ, List.set_cons_zero] at c3
    have F3 : Fr t s3 [p, bw, bb] := (f2.mono (by simp)).trans (f3.mono (by simp))
    have hbb3 := f3.cl f2.wf c2 (by simp; exact H.hr.d2.symm)
    have hbw3 := f3.cl f2.wf (f2.cl hwt Ht.hr.hw (by simp; exact H.hr.d3)) (by simp; exact H.hr.d1.symm)
    have hlw := Ht.hr.lw
    simp -implicitDefEqProofs (maxSteps := 5000000) (disch := first | assumption | omega | (simp only [one_i, one_int, one_bool, one_str, one_ptr, one_nilp, one_nils, one_slice, one_map, one_nilm, one_func, one_iface, same_i, same_bool, same_nils, same_ptr, same_map, same_slice, List.length_cons, List.length_nil, Nat.zero_add, Nat.reduceAdd, allOne_cons, allOne_nil, Bool.and_self]; done) | (simp only [List.length_cons, List.length_nil, List.length_map, List.length_set]; omega)) only [go_sem, fAdd_eq, i0, i1, i2, i6, i14, i15, i16, c, dLd_at hwt h1, p2, p3]
    refine loop_at (Q := fun r => Ret (retR _ (seqR (blkR 2 r) _)) _) (fun m e u => ∃ (i : Nat) (W : List Int), m = keep.length - i ∧ i ≤ keep.length ∧ Fr s u [p, bw, bb] ∧ Fr t u [p, bw, bb] ∧ W.length = n ∧ W.take (1 + (lay (objs os (keep.take i))).length) = 0 :: lay (objs os (keep.take i)) ∧ (∀ (i' : Nat) r o, i ≤ i' → keep[i']? = some r → at? os r = some o → ∀ j, j < o.n → W[r.toNat + j]? = o.ws[j]?) ∧ u.cl bw = some (W.map .i) ∧ u.cl bb = some ((false :: (layB (objs os (keep.take i)) ++ List.replicate (n - 1 - (lay (objs os (keep.take i))).length) false)).map .bool) ∧ u.cl p = some [.slice bw 0 n (some n) 1, .slice bb 0 n (some n) 1, .i ((1 + (lay (objs os (keep.take i))).length : Nat) : Int), sh, mp] ∧ g0 e = .ptr p 0 ∧ g1 e = kv ∧ g2 e = tv ∧ g36 e = .slice s.next 0 keep.length (some keep.length) 1 ∧ g37 e = .i (keep.length : Nat) ∧ g38 e = .i i) ?_ (n := keep.length) (by omega) ⟨0, _, by omega, by omega, (ft.mono (by simp)).trans F3, F3, hlw, ?_, ?_, hbw3, ?_, ?_, (by first | trivial | rfl | assumption), (by first | trivial | rfl | assumption), (by first | trivial | rfl | assumption), (by first | trivial | rfl | assumption), (by first | trivial | rfl | assumption), (by first | trivial | rfl | assumption)⟩
    rotate_left
    · simp [objs, lay]
    · intro i' r o _ _ ho j hj
      exact (lay_at ho z).2.2 j hj
    · rw [hbb3]
      unfold putL
      have := Ht.hr.lb
      simp [objs, layB, lay]
      rw [List.drop_eq_nil_of_le (by simp at this ⊢; omega), show n = (n - 1) + 1 by omega, List.replicate_succ]
      simp
    · rw [c3]; simp [objs, lay]
    clear i0 i1 i2 i6 i14 i15 i16 c e
    rintro m e u ⟨i, W, rfl, hi, fsu, fu, hWl, hWt, hWo, cw, cb, cp, i0, i1, i2, i36, i37, i38⟩
    replace i0 : e.a0.a0 = _ := i0
    replace i1 : e.a0.a1 = _ := i1
    replace i2 : e.a0.a2 = _ := i2
    replace i36 : e.a2.a4 = _ := i36
    replace i37 : e.a2.a5 = _ := i37
    replace i38 : e.a2.a6 = _ := i38
    have hwu := fu.wf
    have hLi : (lay (objs os (keep.take i))).length ≤ (lay os).length := (hK.take i).fits
    have d1 := H.hr.d1
    have d2 := H.hr.d2
    have d3 := H.hr.d3
    by_cases c : (i : Int) < ((keep.length : Nat) : Int)
    · have hoi : keep[i]? = some keep[i] := List.getElem?_eq_getElem (by omega)
      have hts := take_snoc hoi
      obtain ⟨o, hat⟩ := Option.isSome_iff_exists.1 (hK.inn _ (List.mem_of_getElem? hoi))
      have hon : o.n = 3 + o.f.length := rfl
      have hlo := lay_lt hat
      have hle := hK.le i _ hoi
      have htg := tos_get hK.inn (i := i) (by omega)
      have hsz : u.cl s.next = some ((objs os keep).map fun o => V.i (o.n : Nat)) := fu.cl hwt hS (by simp; omega)
      have hlater : ∀ (i' : Nat) r' o', i + 1 ≤ i' → keep[i']? = some r' → at? os r' = some o' → keep[i] + (o.n : Nat) ≤ r' := fun i' r' o' h1 h2 h3 => at_lt hat h3 (hK.get hoi h2 (by omega))
      have hWi := hWo i _ o (Nat.le_refl _) hoi hat
      generalize keep[i] = r at *
      have hT : ((1 + (lay (objs os (keep.take i))).length : Nat) : Int).toNat = 1 + (lay (objs os (keep.take i))).length := Int.toNat_natCast _
      have hobn : objs os (keep.take (i + 1)) = objs os (keep.take i) ++ [o] := by rw [hts, objs_append, objs_one hat]
      generalize hLL : (lay (objs os (keep.take i))).length = LL at *
      have eSz : ldP (.ptr s.next i) u = some (.i (o.n : Nat)) := dLd_eq hwu hsz (by rw [List.getElem?_map, objs_get hK.inn hoi, hat]; rfl)
      have eI : bIdx 1 (.slice s.next 0 keep.length (some keep.length) 1) (.i (i : Nat)) = some (.ptr s.next i) := by rw [bIdx1_eq (by omega) (by omega), Nat.zero_add, Int.toNat_natCast]
      have hku : ∀ u', Fr u u' [p, bw, bb] → ∃ q, bIdx 1 kv (.i (i : Nat)) = some q ∧ ldP q u' = some (.i r) := fun u' f' => (hk.fr hw (fsu.trans f') hkb).at f'.wf (j := i) (x := .i r) (by rw [List.getElem?_map, hoi]; rfl)
      have htu : ∀ u', Fr u u' [p, bw, bb] → ∃ q, bIdx 1 tv (.i (i : Nat)) = some q ∧ ldP q u' = some (.i ((1 + LL : Nat) : Int)) := fun u' f' => (ht.fr hw (fsu.trans f') htb).at f'.wf (j := i) (x := .i ((1 + LL : Nat) : Int)) (by rw [List.getElem?_map, htg]; rfl)
      obtain ⟨q1, a1, a2⟩ := hku u (Fr.refl hwu _)
      obtain ⟨q2, b1, b2⟩ := htu u (Fr.refl hwu _)
      have e2 : (r + (o.n : Nat)).toNat - r.toNat = o.n := by omega
      obtain ⟨x1, p4, c4, f4, n4⟩ := eCp_ex (s := u) (b := bw) (b2 := bw) (o := 1 + LL) (o2 := r.toNat) (len := n - (1 + LL)) (len2 := o.n) (c := some (n - (1 + LL))) (c2 := some (n - r.toNat)) hwu cw cw (by rw [List.length_map, hWl]; omega) (by rw [List.length_map, hWl]; omega)
      have f4' : Fr u x1 [p, bw, bb] := f4.mono (by simp)
      have hmin : min o.n (n - (1 + LL)) = o.n := by omega
      rw [hmin] at p4 c4
      have cp4 := f4.cl hwu cp (by simp; exact d1)
      have cb4 := f4.cl hwu cb (by simp; exact d3.symm)
      obtain ⟨q3, b3, b4⟩ := htu x1 f4'
      rw [b1] at b3; injection b3 with b3; subst b3
      obtain ⟨x2, p5, c5, f5, n5⟩ := eSt_ex (s := x1) (o := 1 + LL) (v := .bool true) f4.wf cb4 (by simp [lay_len, hLL]; omega) rfl
      have f5' : Fr u x2 [p, bw, bb] := f4'.trans (f5.mono (by simp))
      have cp5 := f5.cl f4.wf cp4 (by simp; exact d2)
      obtain ⟨q4, b5, b6⟩ := htu x2 f5'
      rw [b1] at b5; injection b5 with b5; subst b5
      obtain ⟨x3, p6, c6, f6, n6⟩ := eSt_ex (s := x2) (o := 2) (v := .i (((1 + LL : Nat) : Int) + (o.n : Nat))) f5.wf cp5 (by simp) rfl
      simp only [List.set_cons_succ, List.set_cons_zero] at c6
      have f6' : Fr u x3 [p, bw, bb] := f5'.trans (f6.mono (by simp))
      have cw6 := f6.cl f5.wf (f5.cl f4.wf c4 (by simp; exact d3)) (by simp; exact d1.symm)
      have cb6 := f6.cl f5.wf c5 (by simp; exact d2.symm)
      simp -implicitDefEqProofs (maxSteps := 5000000) (disch := first | assumption | omega | (simp only [one_i, one_int, one_bool, one_str, one_ptr, one_nilp, one_nils, one_slice, one_map, one_nilm, one_func, one_iface, same_i, same_bool, same_nils, same_ptr, same_map, same_slice, List.length_cons, List.length_nil, Nat.zero_add, Nat.reduceAdd, allOne_cons, allOne_nil, Bool.and_self]; done) | (simp only [List.length_cons, List.length_nil, List.length_map, List.length_set]; omega)) only [go_sem, fAdd_eq, i0, i1, i2, i36, i37, i38, c, eI, eSz, dLd_at hwu cp, dLd_at f4.wf cp4, dLd_at f5.wf cp5, a1, a2, b1, b2, b4, b6, hT, e2, Nat.zero_add, Nat.mul_one, p4, p5, p6]
      have hseg : (W.drop r.toNat).take o.n = o.ws := by
        refine List.ext_getElem? fun j => ?_
        rw [List.getElem?_take]
        by_cases hj : j < o.n
        · rw [if_pos hj, List.getElem?_drop, hWi j hj]
        · rw [if_neg hj, List.getElem?_eq_none (by rw [O.ws_len]; omega)]
      have hW2 : putL (W.map V.i) (1 + LL) (((W.map V.i).drop r.toNat).take o.n) = (W.take (1 + LL) ++ o.ws ++ W.drop (1 + LL + o.n)).map V.i := by
        have hseg' : ((W.map V.i).drop r.toNat).take o.n = o.ws.map V.i := by rw [← List.map_drop, ← List.map_take, hseg]
        unfold putL
        rw [hseg']
        simp [O.ws_len]
      rw [hW2] at cw6
      have hll : (lay (objs os (keep.take (i + 1)))).length = LL + o.n := by rw [hobn, lay_append, List.length_append, hLL]; simp [lay, O.ws_len]
      refine ⟨keep.length - (i + 1), by omega, i + 1, W.take (1 + LL) ++ o.ws ++ W.drop (1 + LL + o.n), rfl, by omega, fsu.trans f6', fu.trans f6', ?_, ?_, ?_, cw6, ?_, ?_, (by first | trivial | rfl | assumption), (by first | trivial | rfl | assumption), (by first | trivial | rfl | assumption), (by first | trivial | rfl | assumption), (by first | trivial | rfl | assumption), (by first | trivial | rfl | assumption)⟩
      · simp [O.ws_len]; omega
      · rw [hll, hWt, hobn, lay_append]
        simp only [lay, List.append_nil, List.cons_append]
        rw [show 1 + (LL + o.n) = (LL + o.n) + 1 by omega, List.take_succ_cons, List.take_left' (by rw [List.length_append, hLL, O.ws_len])]
      · intro i' r' o' h1' h2' h3' j hj
        have hlt' := hlater i' r' o' h1' h2' h3'
        rw [List.getElem?_append_right (by rw [List.length_append, List.length_take, O.ws_len, hWl]; omega), List.length_append, List.length_take, O.ws_len, hWl, List.getElem?_drop]
        rw [show 1 + LL + o.n + (r'.toNat + j - (min (1 + LL) n + o.n)) = r'.toNat + j by omega]
        exact hWo i' r' o' (by omega) h2' h3' j hj
      · have h2 := layB_snoc (objs os (keep.take i)) o (n - 1 - LL) (by omega)
        rw [hLL] at h2
        rw [cb6, hll, hobn, map_set_b, h2, show n - 1 - (LL + o.n) = n - 1 - LL - o.n by omega]
      · rw [c6, hll, show ((1 + LL : Nat) : Int) + (o.n : Nat) = ((1 + (LL + o.n) : Nat) : Int) by omega]
    · have : i = keep.length := by omega
      subst this
      rw [List.take_length] at hWt cb cp hLi
      have hT : ((1 + (lay (objs os keep)).length : Nat) : Int).toNat = 1 + (lay (objs os keep)).length := Int.toNat_natCast _
      obtain ⟨x1, p4, c4, f4, n4⟩ := eClr_ex (s := u) (z := .i 0) (o := 1 + (lay (objs os keep)).length) (len := n - (1 + (lay (objs os keep)).length)) (c := some (n - (1 + (lay (objs os keep)).length))) (es := 1) hwu cw (by rw [List.length_map, hWl]; omega)
      simp -implicitDefEqProofs (maxSteps := 5000000) (disch := first | assumption | omega | (simp only [one_i, one_int, one_bool, one_str, one_ptr, one_nilp, one_nils, one_slice, one_map, one_nilm, one_func, one_iface, same_i, same_bool, same_nils, same_ptr, same_map, same_slice, List.length_cons, List.length_nil, Nat.zero_add, Nat.reduceAdd, allOne_cons, allOne_nil, Bool.and_self]; done) | (simp only [List.length_cons, List.length_nil, List.length_map, List.length_set]; omega)) only [go_sem, fAdd_eq, i0, i1, i2, i36, i37, i38, c, dLd_at hwu cp, hT, Nat.zero_add, Nat.mul_one, p4]
      have hW2 : putL (W.map V.i) (1 + (lay (objs os keep)).length) (List.replicate (n - (1 + (lay (objs os keep)).length)) (V.i 0)) = (0 :: (lay (objs os keep) ++ List.replicate (n - (1 + (lay (objs os keep)).length)) 0)).map V.i := by
        unfold putL
        rw [← List.map_take, hWt, List.drop_eq_nil_of_le (by simp; omega)]
        simp
      rw [hW2] at c4
      have hb4 := f4.cl hwu cb (by simp; exact d3.symm)
      refine ⟨(by first | trivial | rfl | assumption), ⟨List.replicate (n - (1 + (lay (objs os keep)).length)) 0, ⟨⟨f4.wf, f4.cl hwu cp (by simp; exact d1), c4, ?_, by simp; omega, by simp [lay_len]; omega, hn, by omega, by omega, d1, d2, d3⟩⟩⟩, fsu.trans (f4.mono (by simp))⟩
      rw [hb4, List.length_replicate, show n - (1 + (lay (objs os keep)).length) = n - 1 - (lay (objs os keep)).length by omega]
end
end
end Go.Proofs.YtjipdnfaokdkbaaLab
