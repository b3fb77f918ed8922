/- The heap slid, or not. No condition on the program. -/
import Derived.Test.YtjipdnfaokdkbaaHT
namespace Go.Proofs.YtjipdnfaokdkbaaLab
open Go
set_option linter.all false
set_option maxRecDepth 10000
noncomputable section
theorem SL.one {s : St} {v : V} {l : List V} (h : SL s v l) : v.one = true := by
  rcases h with ⟨_, rfl | ⟨b, o, c, rfl⟩⟩ | ⟨b, o, c, n, f, rfl, _⟩ <;> rfl
theorem starts_map {os : List O} {shapes : List (List Bool)} {keep : List Int} : ∀ (l : List O) (a : Nat), starts a (l.map (mvO os shapes keep)) = starts a l
  | [], a => rfl
  | o :: l, a => by simp only [List.map_cons, starts, mvO_n, starts_map l]
theorem slid_ok {os : List O} {shapes : List (List Bool)} {keep : List Int} (ok : ShOk os shapes) : ShOk (slid os shapes keep) shapes := fun o ho => by
  obtain ⟨x, hx, rfl⟩ := List.mem_map.1 ho
  obtain ⟨r, hr, ha⟩ := List.mem_filterMap.1 hx
  have := ok x (at_mem ha)
  rw [mvO_len]
  exact this
def SlideP (s : St) (p bw bb n bm : Nat) (os : List O) (z : List Int) (shapes : List (List Bool)) (F : List Nat) (keep : List Int) (r : V) (s' : St) : Prop :=
  (¬ (Kept os keep ∧ Clo os shapes keep keep) → r = .tup [.nils, .i 1] ∧ Fr s s' []) ∧
  (Kept os keep ∧ Clo os shapes keep keep → ∃ tv z', r = .tup [tv, .i 0] ∧ GL s' tv ((tos os keep).map .i) ∧ HS s' p bw bb n (slid os shapes keep) z' shapes bm F ∧ Fr s s' [p, bw, bb] ∧ ∀ b ∈ blkV tv, s.next ≤ b)
theorem SlideP.bad {s s' : St} {p bw bb n bm : Nat} {os : List O} {z : List Int} {shapes : List (List Bool)} {F : List Nat} {keep : List Int} (h : ¬ (Kept os keep ∧ Clo os shapes keep keep)) (f : Fr s s' []) : SlideP s p bw bb n bm os z shapes F keep (.tup [.nils, .i 1]) s' := ⟨fun _ => ⟨rfl, f⟩, fun h' => absurd h' h⟩
section
variable {s : St} {p bw bb n bm : Nat} {os : List O} {z : List Int} {shapes : List (List Bool)} {F : List Nat} (H : HS s p bw bb n os z shapes bm F)
include H
theorem HS.slide {kv : V} {keep : List Int} (hk : SL s kv (keep.map .i)) (hl : keep.length ≤ 100000) (hkb : ∀ b ∈ blkV kv, b < s.next ∧ b ∉ [p, bw, bb]) (d : Nat) :
    Ret ((K (d + 6)).call 22 [.ptr p 0, kv] s) (SlideP s p bw bb n bm os z shapes F keep) := by
  obtain ⟨sh, hA, hS⟩ := H.H
  have hw := hA.hr.wf
  have hn := hA.nn
  have hz := hA.size
  have hlt := hA.lt
  have hlen := hk.len
  have hkone := hk.one
  rw [List.length_map] at hlen
  obtain ⟨s1, p1, c1, f1, n1⟩ := new_ex (s := s) (l := [V.ptr p 0]) (n := 1) hw rfl
  obtain ⟨s2, p2, c2, f2, n2⟩ := new_ex (s := s1) (l := [kv]) (n := 1) f1.wf rfl
  obtain ⟨s3, p3, c3, f3, n3⟩ : ∃ s', s2.new (.map [] [] 0) = s' ∧ s'.mp s2.next = some ([], [], 0) ∧ Fr s2 s' [] ∧ s'.next = s2.next + 1 :=
    ⟨_, rfl, by unfold St.mp; rw [new_at f2.wf], ⟨f2.wf.new trivial, Nat.le_succ _, fun j hj _ => new_ne (by omega)⟩, rfl⟩
  obtain ⟨s4, p4, c4, f4, n4⟩ := eMu_new (q := eqKI) (x := .i 0) (y := .i 0) f3.wf c3 rfl
  obtain ⟨s5, p5, c5, f5, n5⟩ := new_ex (s := s4) (l := [V.nilm]) (n := 1) f4.wf rfl
  obtain ⟨s6, p6, c6, f6, n6⟩ := eSt_ex (s := s5) (o := 0) (v := .map s2.next) f5.wf c5 (by simp) rfl
  have e12 : s1.next = s.next + 1 := n1
  have G4 : Fr s s4 [] := ((f1.trans f2).trans f3).trans' f4 (fun x hx => .inr (by simp at hx; omega))
  have F6 : Fr s s6 [] := (G4.trans f5).trans' f6 (fun x hx => .inr (by simp at hx; omega))
  have B6 : SlB s6 s1.next s.next s4.next s2.next p kv (mvE os []) := by
    refine ⟨f6.wf, ?_, ?_, c6, ⟨_, _, f6.mp f5.wf (f5.mp f4.wf c4 (by simp)) (by simp; omega)⟩⟩
    · exact f6.cl f5.wf (f5.cl f4.wf (f4.cl f3.wf (f3.cl f2.wf c2 (by simp)) (by simp; omega)) (by simp)) (by simp; omega)
    · exact f6.cl f5.wf (f5.cl f4.wf (f4.cl f3.wf (f3.cl f2.wf (f2.cl f1.wf c1 (by simp)) (by simp)) (by simp; omega)) (by simp)) (by simp; omega)
  have hk6 := dLd_at f6.wf B6.k (o := 0) (by simp)
  simp only [List.getElem?_cons_zero] at hk6
  simp -implicitDefEqProofs (maxSteps := 5000000) (disch := first | assumption | omega | (simp only [one_i, one_int, one_bool, one_str, one_ptr, one_nilp, one_nils, one_slice, one_map, one_nilm, one_func, one_iface, same_i, same_bool, same_nils, same_ptr, same_map, same_slice, List.length_cons, List.length_nil, Nat.zero_add, Nat.reduceAdd, allOne_cons, allOne_nil, Bool.and_self]; done) | (simp only [List.length_cons, List.length_nil, List.length_map, List.length_set]; omega)) only [op22, go_sem, ↓p22_27.eq_1, ↓p22_33.eq_1, fAdd_eq, hkone, p1, p2, p3, p4, aAl_eq, p5, p6, hk6, hlen]
  refine loop_at (Q := fun r => Ret (retR _ (seqR (blkR 0 r) _)) _) (fun m e t => ∃ (j : Nat) (ov : V), m = keep.length - j ∧ j ≤ keep.length ∧ Fr s t [] ∧ s4.next < t.next ∧ SlB t s1.next s.next s4.next s2.next p kv (mvE os (keep.take j)) ∧ Kept os (keep.take j) ∧ GL t ov ((tos os (keep.take j)).map .i) ∧ (∀ b ∈ blkV ov, s4.next < b) ∧ g2 e = .ptr s.next 0 ∧ g3 e = .ptr s1.next 0 ∧ g6 e = .ptr s4.next 0 ∧ g7 e = ov ∧ g8 e = .i ((1 + (lay (objs os (keep.take j))).length : Nat) : Int) ∧ g15 e = kv ∧ g16 e = .i (keep.length : Nat) ∧ g17 e = .i j) ?_ (n := keep.length) (by omega) ⟨0, .nils, by omega, by omega, F6, by omega, B6, by simpa using Kept.nil, by simp [tos, objs, starts]; exact .inl ⟨rfl, rfl⟩, by simp [blkV], (by first | trivial | rfl | assumption), (by first | trivial | rfl | assumption), (by first | trivial | rfl | assumption), (by first | trivial | rfl | assumption), by simp [objs, lay]; rfl, (by first | trivial | rfl | assumption), (by first | trivial | rfl | assumption), (by first | trivial | rfl | assumption)⟩
  clear hk6 B6 F6
  rintro m e t ⟨j, ov, rfl, hj, ft, hnt, B, hK, hg, hb, i2, i3, i6, i7, i8, i15, i16, i17⟩
  replace i2 : e.a0.a2 = _ := i2
  replace i3 : e.a0.a3 = _ := i3
  replace i6 : e.a0.a6 = _ := i6
  replace i7 : e.a0.a7 = _ := i7
  replace i8 : e.a0.a8 = _ := i8
  replace i15 : e.a0.a15 = _ := i15
  replace i16 : e.a1.a0 = _ := i16
  replace i17 : e.a1.a1 = _ := i17
  have hwt := ft.wf
  have hkt := hk.fr hw ft (by simp)
  have Ht := hA.fr ft (by simp) (by simp) (by simp)
  by_cases c : (j : Int) < ((keep.length : Nat) : Int)
  · have hoj : keep[j]? = some keep[j] := List.getElem?_eq_getElem (by omega)
    obtain ⟨q, a1, a2⟩ := hkt.at hwt (j := j) (x := .i keep[j]) (by rw [List.getElem?_map, hoj]; rfl)
    have hts := take_snoc hoj
    have hop : 0 < j → keep[j - 1]? = some keep[j - 1] := fun h => List.getElem?_eq_getElem (by omega)
    have ei := Ht.is (d + 4) keep[j]
    generalize hrr : keep[j] = r at *
    cases hat : at? os r with
    | none =>
      have hbad : ¬ (Kept os keep ∧ Clo os shapes keep keep) := fun h => by
        have := h.1.inn r (List.mem_of_getElem? hoj)
        rw [hat] at this; cases this
      rw [hat] at ei
      simp -implicitDefEqProofs (maxSteps := 5000000) (disch := first | assumption | omega | (simp only [one_i, one_int, one_bool, one_str, one_ptr, one_nilp, one_nils, one_slice, one_map, one_nilm, one_func, one_iface, same_i, same_bool, same_nils, same_ptr, same_map, same_slice, List.length_cons, List.length_nil, Nat.zero_add, Nat.reduceAdd, allOne_cons, allOne_nil, Bool.and_self]; done) | (simp only [List.length_cons, List.length_nil, List.length_map, List.length_set]; omega)) only [go_sem, ↓p22_27.eq_1, ↓p22_33.eq_1, fAdd_eq, i2, i3, i6, i7, i8, i15, i16, i17, c, a1, a2, dLd_at hwt B.h, ei, Option.isSome_none]
      exact SlideP.bad hbad ft
    | some o =>
      rw [hat] at ei
      have hon : o.n = 3 + o.f.length := rfl
      have hlo := lay_lt hat
      have key : Kept os (keep.take (j + 1)) → ∀ e2 : E, e2.a0.a2 = .ptr s.next 0 → e2.a0.a3 = .ptr s1.next 0 → e2.a0.a6 = .ptr s4.next 0 → e2.a0.a7 = ov → e2.a0.a8 = .i ((1 + (lay (objs os (keep.take j))).length : Nat) : Int) → e2.a0.a10 = .i r → e2.a0.a15 = kv → e2.a1.a0 = .i (keep.length : Nat) → e2.a1.a1 = .i j →
          rnd (seqR (blkR 1 (p22_27 (K (d + 5)) e2 t)) (p22_32 (K (d + 5)))) (fun e t => ∃ m, m < keep.length - j ∧ ∃ (j : Nat) (ov : V), m = keep.length - j ∧ j ≤ keep.length ∧ Fr s t [] ∧ s4.next < t.next ∧ SlB t s1.next s.next s4.next s2.next p kv (mvE os (keep.take j)) ∧ Kept os (keep.take j) ∧ GL t ov ((tos os (keep.take j)).map .i) ∧ (∀ b ∈ blkV ov, s4.next < b) ∧ e.a0.a2 = .ptr s.next 0 ∧ e.a0.a3 = .ptr s1.next 0 ∧ e.a0.a6 = .ptr s4.next 0 ∧ e.a0.a7 = ov ∧ e.a0.a8 = .i ((1 + (lay (objs os (keep.take j))).length : Nat) : Int) ∧ e.a0.a15 = kv ∧ e.a1.a0 = .i (keep.length : Nat) ∧ e.a1.a1 = .i j)
            fun r => Ret (retR (resV [rT g4, rT g5]) (seqR (blkR 0 r) (p22_33 (K (d + 5))))) (SlideP s p bw bb n bm os z shapes F keep) := by
        intro hK2 e2 z2 z3 z6 z7 z8 z10 z15 z16 z17
        clear i2 i3 i6 i7 i8 i15 i16 i17
        have hLj : (lay (objs os (keep.take j))).length ≤ (lay os).length := hK.fits
        obtain ⟨bs, cl, hm⟩ := B.e
        have hr1 : r ∉ keep.take j := fun hm' => by
          have := (List.pairwise_append.1 (hts ▸ hK2.asc)).2.2 r hm' r (by simp)
          omega
        have hf := mvE_none hK.inn (x := r) (by omega) hr1
        obtain ⟨t1, p1', c1', f1', n1'⟩ := eMu_new (q := eqKI) (x := .i r) (y := .i ((1 + (lay (objs os (keep.take j))).length : Nat) : Int)) hwt hm hf
        rw [← mvE_snoc hK.inn hat, ← hts] at c1'
        have hne : ∀ b ∈ blkV ov, b ∉ [s2.next] := fun b hb' => by have := hb b hb'; simp; omega
        obtain ⟨t2, t3, p2', p3', hg3, f3', n3'⟩ := (hg.fr hwt f1' hne).push f1'.wf (x := .i ((1 + (lay (objs os (keep.take j))).length : Nat) : Int)) rfl (fun y hy => by obtain ⟨a, _, rfl⟩ := List.mem_map.1 hy; rfl) (by rw [List.length_map, tos_len hK.inn, List.length_take]; omega)
        have F1 : Fr s t1 [] := ft.trans' f1' (fun x hx => .inr (by simp at hx; omega))
        have F3 : Fr s t3 [] := F1.trans' f3' (fun x hx => .inr (by have := hb x hx; omega))
        have H3 := hA.fr F3 (by simp) (by simp) (by simp)
        have eL := H3.len (d + 3) r
        unfold lenO at eL
        rw [hat] at eL
        simp only at eL
        have B1 : SlB t1 s1.next s.next s4.next s2.next p kv (mvE os (keep.take (j + 1))) := ⟨f1'.wf, f1'.cl hwt B.k (by simp; omega), f1'.cl hwt B.h (by simp; omega), f1'.cl hwt B.m (by simp; omega), ⟨_, _, c1'⟩⟩
        have hnb : ∀ x, x ≤ s4.next → x ∉ blkV ov := fun x hx hm' => by have := hb x hm'; omega
        have B3 := B1.fr f3' (hnb _ (by omega)) (hnb _ (by omega)) (hnb _ (by omega)) (hnb _ (by omega))
        simp -implicitDefEqProofs (maxSteps := 5000000) (disch := first | assumption | omega | (simp only [one_i, one_int, one_bool, one_str, one_ptr, one_nilp, one_nils, one_slice, one_map, one_nilm, one_func, one_iface, same_i, same_bool, same_nils, same_ptr, same_map, same_slice, List.length_cons, List.length_nil, Nat.zero_add, Nat.reduceAdd, allOne_cons, allOne_nil, Bool.and_self]; done) | (simp only [List.length_cons, List.length_nil, List.length_map, List.length_set]; omega)) only [go_sem, ↓p22_27.eq_1, fAdd_eq, z2, z3, z6, z7, z8, z10, z15, z16, z17, dLd_at hwt B.m, p1', p2', p3', dLd_at F3.wf B3.h, eL]
        refine ⟨keep.length - (j + 1), by omega, j + 1, _, rfl, by omega, F3, by omega, B3, hK2, ?_, ?_, (by first | trivial | rfl | assumption), (by first | trivial | rfl | assumption), (by first | trivial | rfl | assumption), rfl, ?_, (by first | trivial | rfl | assumption), (by first | trivial | rfl | assumption), (by first | trivial | rfl | assumption)⟩
        · rw [hts]
          unfold tos
          rw [objs_append, objs_one hat, starts_append]
          simp only [starts, List.map_append, List.map_cons, List.map_nil]
          exact hg3
        · simp [blkV]; omega
        · rw [hts, objs_append, objs_one hat, lay_append]
          congr 1
          simp [lay, O.ws_len, hon]; omega
      by_cases cj : (0 : Int) < (j : Int)
      · have hop := hop (by omega)
        obtain ⟨q', x1, x2⟩ := hkt.at hwt (j := j - 1) (x := .i keep[j - 1]) (by rw [List.getElem?_map, hop]; rfl)
        rw [show (((j - 1 : Nat)) : Int) = (j : Int) - 1 by omega] at x1
        have hlast : (keep.take j).getLast? = some keep[j - 1] := by
          rw [List.getLast?_eq_getElem?, List.length_take, List.getElem?_take, if_pos (by omega), show min j keep.length - 1 = j - 1 by omega, hop]
        generalize keep[j - 1] = r2 at *
        by_cases cr : r ≤ r2
        · have hbad : ¬ (Kept os keep ∧ Clo os shapes keep keep) := fun h => by have := h.1.get hop hoj (by omega); omega
          simp -implicitDefEqProofs (maxSteps := 5000000) (disch := first | assumption | omega | (simp only [one_i, one_int, one_bool, one_str, one_ptr, one_nilp, one_nils, one_slice, one_map, one_nilm, one_func, one_iface, same_i, same_bool, same_nils, same_ptr, same_map, same_slice, List.length_cons, List.length_nil, Nat.zero_add, Nat.reduceAdd, allOne_cons, allOne_nil, Bool.and_self]; done) | (simp only [List.length_cons, List.length_nil, List.length_map, List.length_set]; omega)) only [go_sem, fAdd_eq, i2, i3, i6, i7, i8, i15, i16, i17, c, a1, a2, dLd_at hwt B.h, dLd_at hwt B.k, ei, Option.isSome_some, cj, x1, x2, cr]
          exact SlideP.bad hbad ft
        · simp -implicitDefEqProofs (maxSteps := 5000000) (disch := first | assumption | omega | (simp only [one_i, one_int, one_bool, one_str, one_ptr, one_nilp, one_nils, one_slice, one_map, one_nilm, one_func, one_iface, same_i, same_bool, same_nils, same_ptr, same_map, same_slice, List.length_cons, List.length_nil, Nat.zero_add, Nat.reduceAdd, allOne_cons, allOne_nil, Bool.and_self]; done) | (simp only [List.length_cons, List.length_nil, List.length_map, List.length_set]; omega)) only [go_sem, fAdd_eq, i2, i3, i6, i7, i8, i15, i16, i17, c, a1, a2, dLd_at hwt B.h, dLd_at hwt B.k, ei, Option.isSome_some, cj, x1, x2, cr]
          refine key ?_ _ (by first | trivial | rfl | assumption) (by first | trivial | rfl | assumption) (by first | trivial | rfl | assumption) (by first | trivial | rfl | assumption) (by first | trivial | rfl | assumption) (by first | trivial | rfl | assumption) (by first | trivial | rfl | assumption) (by first | trivial | rfl | assumption) (by first | trivial | rfl | assumption)
          rw [hts]
          exact hK.snoc hat (fun x hx => by rw [hlast] at hx; cases hx; omega)
      · have hj0 : j = 0 := by omega
        simp -implicitDefEqProofs (maxSteps := 5000000) (disch := first | assumption | omega | (simp only [one_i, one_int, one_bool, one_str, one_ptr, one_nilp, one_nils, one_slice, one_map, one_nilm, one_func, one_iface, same_i, same_bool, same_nils, same_ptr, same_map, same_slice, List.length_cons, List.length_nil, Nat.zero_add, Nat.reduceAdd, allOne_cons, allOne_nil, Bool.and_self]; done) | (simp only [List.length_cons, List.length_nil, List.length_map, List.length_set]; omega)) only [go_sem, fAdd_eq, i2, i3, i6, i7, i8, i15, i16, i17, c, a1, a2, dLd_at hwt B.h, dLd_at hwt B.k, ei, Option.isSome_some, cj]
        refine key ?_ _ (by first | trivial | rfl | assumption) (by first | trivial | rfl | assumption) (by first | trivial | rfl | assumption) (by first | trivial | rfl | assumption) (by first | trivial | rfl | assumption) (by first | trivial | rfl | assumption) (by first | trivial | rfl | assumption) (by first | trivial | rfl | assumption) (by first | trivial | rfl | assumption)
        rw [hts]
        exact hK.snoc hat (fun x hx => by subst hj0; simp at hx)
  · have : j = keep.length := by omega
    subst this
    rw [List.take_length] at hK hg B
    obtain ⟨v1, t1, q1, b, rfl, rfl, hbC⟩ := Ht.each1 (hS.fr hw ft (by simp)) H.ok B hkt hl hK d
    cases b with
    | false =>
      have hbad : ¬ (Kept os keep ∧ Clo os shapes keep keep) := fun h => by have := hbC.2 h.2; cases this
      simp -implicitDefEqProofs (maxSteps := 5000000) (disch := first | assumption | omega | (simp only [one_i, one_int, one_bool, one_str, one_ptr, one_nilp, one_nils, one_slice, one_map, one_nilm, one_func, one_iface, same_i, same_bool, same_nils, same_ptr, same_map, same_slice, List.length_cons, List.length_nil, Nat.zero_add, Nat.reduceAdd, allOne_cons, allOne_nil, Bool.and_self]; done) | (simp only [List.length_cons, List.length_nil, List.length_map, List.length_set]; omega)) only [go_sem, ↓p22_27.eq_1, ↓p22_33.eq_1, fAdd_eq, i2, i3, i6, i7, i8, i15, i16, i17, c, pFun_eq, eCallV_def, cvV_func fok42, List.nil_append, List.cons_append, q1]
      exact SlideP.bad hbad ft
    | true =>
      have hC := hbC.1 rfl
      have hkb' : ∀ b ∈ blkV kv, b ∉ [p, bw, bb] := fun b hb' => (hkb b hb').2
      obtain ⟨v2, t2, q2, rfl, Ht2, f2'⟩ := Ht.each2 (hS.fr hw ft (by simp)) H.ok B hkt hl hK hC d ⟨by omega, by omega, by omega, by omega⟩ (fun b hb' => (H.dF b hb').2.1) (fun b hb' => by have := hkb' b hb'; simp at this; exact this.2.1)
      have B2 := B.fr f2' (by simp; omega) (by simp; omega) (by simp; omega) (by simp; omega)
      have hg2 := hg.fr hwt f2' (fun b hb' => by have := hb b hb'; simp; omega)
      have htos : tos (mapAt (phi os shapes keep keep.length 0) 1 os) keep = tos os keep := by
        unfold tos
        rw [phi_objs hK.inn]; exact starts_map _ _
      obtain ⟨v3, t3, q3, rfl, ⟨z', Ht3⟩, f3'⟩ := Ht2.slide45 (kv := kv) (tv := ov) (phi_kept hK) hl (hkt.fr hwt f2' (fun b hb' => by have := hkb' b hb'; simp at this ⊢; exact this.2.1)) (by rw [htos]; exact hg2.sl f2'.wf) hkb' (fun b hb' => by have := hb b hb'; simp; omega) (d + 2)
      rw [phi_objs hK.inn] at Ht3
      have F3 : Fr s t3 [p, bw, bb] := (ft.mono (by simp)).trans ((f2'.mono (by simp)).trans f3')
      simp -implicitDefEqProofs (maxSteps := 5000000) (disch := first | assumption | omega | (simp only [one_i, one_int, one_bool, one_str, one_ptr, one_nilp, one_nils, one_slice, one_map, one_nilm, one_func, one_iface, same_i, same_bool, same_nils, same_ptr, same_map, same_slice, List.length_cons, List.length_nil, Nat.zero_add, Nat.reduceAdd, allOne_cons, allOne_nil, Bool.and_self]; done) | (simp only [List.length_cons, List.length_nil, List.length_map, List.length_set]; omega)) only [go_sem, ↓p22_27.eq_1, ↓p22_33.eq_1, fAdd_eq, i2, i3, i6, i7, i8, i15, i16, i17, c, pFun_eq, eCallV_def, cvV_func fok42, List.nil_append, List.cons_append, q1, q2, dLd_at f2'.wf B2.h, dLd_at f2'.wf B2.k, q3]
      refine ⟨fun h => absurd ⟨hK, hC⟩ h, fun _ => ⟨ov, z', rfl, hg2.fr f2'.wf f3' (fun b hb' => by have := hb b hb'; simp; omega), H.turn F3 (fun sh' h' => ?_) (slid_ok H.ok), F3, fun b hb' => by have := hb b hb'; omega⟩⟩
      have := h'.hr.hp
      rw [hA.hr.hp] at this
      cases this
      exact Ht3
end
end
end Go.Proofs.YtjipdnfaokdkbaaLab
