/- Parts of the proof: contracts of functions, joined. No condition on the program. -/
import Derived.Test.YtgkcpceppmppfaaJ0
namespace Go.Proofs.YtgkcpceppmppfaaLab
open Go
set_option linter.all false
set_option maxRecDepth 10000
noncomputable section
theorem SL.one {s : St} {v : V} {l : List V} (h : SL s v l) : v.one = true := by
 rcases h with ⟨_, rfl | ⟨b, o, c, rfl⟩⟩ | ⟨b, o, c, n, f, rfl, _⟩ <;> rfl
theorem starts_map {os : List O} {shapes : List (List Bool)} {keep : List Int} : ∀ (l : List O) (a : Nat), starts a (l.map (mvO os shapes keep)) = starts a l
 | [], a => rfl
 | o :: l, a => by simp only [List.map_cons, starts, mvO_n, starts_map l]
theorem slid_ok {os : List O} {shapes : List (List Bool)} {keep : List Int} (ok : ShOk os shapes) : ShOk (slid os shapes keep) shapes := fun o ho => by
 obtain ⟨x, hx, rfl⟩ := List.mem_map.1 ho
 obtain ⟨r, hr, ha⟩ := List.mem_filterMap.1 hx
 have := ok x (at_mem ha)
 rw [mvO_len]
 exact this
def SlideP (s : St) (p bw bb n bm : Nat) (os : List O) (z : List Int) (shapes : List (List Bool)) (F : List Nat) (keep : List Int) (r : V) (s' : St) : Prop :=
 (¬ (Kept os keep ∧ Clo os shapes keep keep) → r = .tup [.nils, .i 1] ∧ Fr s s' []) ∧
 (Kept os keep ∧ Clo os shapes keep keep → ∃ tv z', r = .tup [tv, .i 0] ∧ GL s' tv ((tos os keep).map .i) ∧ HS s' p bw bb n (slid os shapes keep) z' shapes bm F ∧ Fr s s' [p, bw, bb] ∧ ∀ b ∈ blkV tv, s.next ≤ b)
theorem SlideP.bad {s s' : St} {p bw bb n bm : Nat} {os : List O} {z : List Int} {shapes : List (List Bool)} {F : List Nat} {keep : List Int} (h : ¬ (Kept os keep ∧ Clo os shapes keep keep)) (f : Fr s s' []) : SlideP s p bw bb n bm os z shapes F keep (.tup [.nils, .i 1]) s' := ⟨fun _ => ⟨rfl, f⟩, fun h' => absurd h' h⟩
section
variable {s : St} {p bw bb n bm : Nat} {os : List O} {z : List Int} {shapes : List (List Bool)} {F : List Nat} (H : HS s p bw bb n os z shapes bm F)
include H
theorem HS.slide {kv : V} {keep : List Int} (hk : SL s kv (keep.map .i)) (hl : keep.length ≤ 100000) (hkb : ∀ b ∈ blkV kv, b < s.next ∧ b ∉ [p, bw, bb]) (d : Nat) :
 Ret ((K (d + 6)).call 48 [.ptr p 0, kv] s) (SlideP s p bw bb n bm os z shapes F keep) := by
 obtain ⟨sh, hA, hS⟩ := H.H
 have hw := hA.hr.wf
 have hn := hA.nn
 have hz := hA.size
 have hlt := hA.lt
 have hlen := hk.len
 have hkone := hk.one
 rw [List.length_map] at hlen
 obtain ⟨s1, p1, c1, f1, n1⟩ := new_ex (s := s) (l := [V.ptr p 0]) (n := 1) hw rfl
 obtain ⟨s2, p2, c2, f2, n2⟩ := new_ex (s := s1) (l := [kv]) (n := 1) f1.wf rfl
 obtain ⟨s3, p3, c3, f3, n3⟩ : ∃ s', s2.new (.map [] [] 0) = s' ∧ s'.mp s2.next = some ([], [], 0) ∧ Fr s2 s' [] ∧ s'.next = s2.next + 1 :=
  ⟨_, rfl, by unfold St.mp; rw [new_at f2.wf], ⟨f2.wf.new trivial, Nat.le_succ _, fun j hj _ => new_ne (by omega)⟩, rfl⟩
 obtain ⟨s4, p4, c4, f4, n4⟩ := eMu_new (q := eqKI) (x := .i 0) (y := .i 0) f3.wf c3 rfl
 obtain ⟨s5, p5, c5, f5, n5⟩ := new_ex (s := s4) (l := [V.nilm]) (n := 1) f4.wf rfl
 obtain ⟨s6, p6, c6, f6, n6⟩ := eSt_ex (s := s5) (o := 0) (v := .map s2.next) f5.wf c5 (by simp) rfl
 have e12 : s1.next = s.next + 1 := n1
 have G4 : Fr s s4 [] := ((f1.trans f2).trans f3).trans' f4 (fun x hx => .inr (by simp at hx; omega))
 have F6 : Fr s s6 [] := (G4.trans f5).trans' f6 (fun x hx => .inr (by simp at hx; omega))
 have B6 : SlB s6 s1.next s.next s4.next s2.next p kv (mvE os []) := by
  refine ⟨f6.wf, ?_, ?_, c6, ⟨_, _, f6.mp f5.wf (f5.mp f4.wf c4 (by simp)) (by simp; omega)⟩⟩
  · exact f6.cl f5.wf (f5.cl f4.wf (f4.cl f3.wf (f3.cl f2.wf c2 (by simp)) (by simp; omega)) (by simp)) (by simp; omega)
  · exact f6.cl f5.wf (f5.cl f4.wf (f4.cl f3.wf (f3.cl f2.wf (f2.cl f1.wf c1 (by simp)) (by simp)) (by simp; omega)) (by simp)) (by simp; omega)
 have hk6 := dLd_at f6.wf B6.k (o := 0) (by simp)
 simp only [List.getElem?_cons_zero] at hk6
 simp -implicitDefEqProofs (maxSteps := 5000000) (disch := first | assumption | omega | (simp only [dz, dl, Nat.zero_add, Nat.reduceAdd, Bool.and_self]; done) | (simp only [dl]; omega)) only [op48, go_sem, ↓p48_27.eq_1, ↓p48_33.eq_1, fAdd_eq, hkone, p1, p2, p3, p4, aAl_eq, p5, p6, hk6, hlen]
 refine loop_at (Q := fun r => Ret (retR _ (seqR (blkR 0 r) _)) _) (fun m e t => ∃ (j : Nat) (ov : V), m = keep.length - j ∧ j ≤ keep.length ∧ Fr s t [] ∧ s4.next < t.next ∧ SlB t s1.next s.next s4.next s2.next p kv (mvE os (keep.take j)) ∧ Kept os (keep.take j) ∧ GL t ov ((tos os (keep.take j)).map .i) ∧ (∀ b ∈ blkV ov, s4.next < b) ∧ g2 e = .ptr s.next 0 ∧ g3 e = .ptr s1.next 0 ∧ g6 e = .ptr s4.next 0 ∧ g7 e = ov ∧ g8 e = .i ((1 + (lay (objs os (keep.take j))).length : Nat) : Int) ∧ g15 e = kv ∧ g16 e = .i (keep.length : Nat) ∧ g17 e = .i j) ?_ (n := keep.length) (by omega) ⟨0, .nils, by omega, by omega, F6, by omega, B6, by simpa using Kept.nil, by simp [tos, objs, starts]; exact .inl ⟨rfl, rfl⟩, by simp [blkV], (by first | trivial | rfl | assumption), (by first | trivial | rfl | assumption), (by first | trivial | rfl | assumption), (by first | trivial | rfl | assumption), by simp [objs, lay]; rfl, (by first | trivial | rfl | assumption), (by first | trivial | rfl | assumption), (by first | trivial | rfl | assumption)⟩
 clear hk6 B6 F6
 rintro m e t ⟨j, ov, rfl, hj, ft, hnt, B, hK, hg, hb, i2, i3, i6, i7, i8, i15, i16, i17⟩
 replace i2 : e.a0.a2 = _ := i2
 replace i3 : e.a0.a3 = _ := i3
 replace i6 : e.a0.a6 = _ := i6
 replace i7 : e.a0.a7 = _ := i7
 replace i8 : e.a0.a8 = _ := i8
 replace i15 : e.a0.a15 = _ := i15
 replace i16 : e.a1.a0 = _ := i16
 replace i17 : e.a1.a1 = _ := i17
 have hwt := ft.wf
 have hkt := hk.fr hw ft (by simp)
 have Ht := hA.fr ft (by simp) (by simp) (by simp)
 by_cases c : (j : Int) < ((keep.length : Nat) : Int)
 · have hoj : keep[j]? = some keep[j] := List.getElem?_eq_getElem (by omega)
   obtain ⟨q, a1, a2⟩ := hkt.at hwt (j := j) (x := .i keep[j]) (by rw [List.getElem?_map, hoj]; rfl)
   have hts := take_snoc hoj
   have hop : 0 < j → keep[j - 1]? = some keep[j - 1] := fun h => List.getElem?_eq_getElem (by omega)
   have ei := Ht.is (d + 4) keep[j]
   generalize hrr : keep[j] = r at *
   cases hat : at? os r with
   | none =>
     have hbad : ¬ (Kept os keep ∧ Clo os shapes keep keep) := fun h => by
      have := h.1.inn r (List.mem_of_getElem? hoj)
      rw [hat] at this; cases this
     rw [hat] at ei
     simp -implicitDefEqProofs (maxSteps := 5000000) (disch := first | assumption | omega | (simp only [dz, dl, Nat.zero_add, Nat.reduceAdd, Bool.and_self]; done) | (simp only [dl]; omega)) only [go_sem, ↓p48_27.eq_1, ↓p48_33.eq_1, fAdd_eq, i2, i3, i6, i7, i8, i15, i16, i17, c, a1, a2, dLd_at hwt B.h, ei, Option.isSome_none]
     exact SlideP.bad hbad ft
   | some o =>
     rw [hat] at ei
     have hon : o.n = 3 + o.f.length := rfl
     have hlo := lay_lt hat
     have key : Kept os (keep.take (j + 1)) → ∀ e2 : E, e2.a0.a2 = .ptr s.next 0 → e2.a0.a3 = .ptr s1.next 0 → e2.a0.a6 = .ptr s4.next 0 → e2.a0.a7 = ov → e2.a0.a8 = .i ((1 + (lay (objs os (keep.take j))).length : Nat) : Int) → e2.a0.a10 = .i r → e2.a0.a15 = kv → e2.a1.a0 = .i (keep.length : Nat) → e2.a1.a1 = .i j →
      rnd (seqR (blkR 1 (p48_27 (K (d + 5)) e2 t)) (p48_32 (K (d + 5)))) (fun e t => ∃ m, m < keep.length - j ∧ ∃ (j : Nat) (ov : V), m = keep.length - j ∧ j ≤ keep.length ∧ Fr s t [] ∧ s4.next < t.next ∧ SlB t s1.next s.next s4.next s2.next p kv (mvE os (keep.take j)) ∧ Kept os (keep.take j) ∧ GL t ov ((tos os (keep.take j)).map .i) ∧ (∀ b ∈ blkV ov, s4.next < b) ∧ e.a0.a2 = .ptr s.next 0 ∧ e.a0.a3 = .ptr s1.next 0 ∧ e.a0.a6 = .ptr s4.next 0 ∧ e.a0.a7 = ov ∧ e.a0.a8 = .i ((1 + (lay (objs os (keep.take j))).length : Nat) : Int) ∧ e.a0.a15 = kv ∧ e.a1.a0 = .i (keep.length : Nat) ∧ e.a1.a1 = .i j)
       fun r => Ret (retR (resV [rT g4, rT g5]) (seqR (blkR 0 r) (p48_33 (K (d + 5))))) (SlideP s p bw bb n bm os z shapes F keep) := by
      intro hK2 e2 z2 z3 z6 z7 z8 z10 z15 z16 z17
      clear i2 i3 i6 i7 i8 i15 i16 i17
      have hLj : (lay (objs os (keep.take j))).length ≤ (lay os).length := hK.fits
      obtain ⟨bs, cl, hm⟩ := B.e
      have hr1 : r ∉ keep.take j := fun hm' => by
       have := (List.pairwise_append.1 (hts ▸ hK2.asc)).2.2 r hm' r (by simp)
       omega
      have hf := mvE_none hK.inn (x := r) (by omega) hr1
      obtain ⟨t1, p1', c1', f1', n1'⟩ := eMu_new (q := eqKI) (x := .i r) (y := .i ((1 + (lay (objs os (keep.take j))).length : Nat) : Int)) hwt hm hf
      rw [← mvE_snoc hK.inn hat, ← hts] at c1'
      have hne : ∀ b ∈ blkV ov, b ∉ [s2.next] := fun b hb' => by have := hb b hb'; simp; omega
      obtain ⟨t2, t3, p2', p3', hg3, f3', n3'⟩ := (hg.fr hwt f1' hne).push f1'.wf (x := .i ((1 + (lay (objs os (keep.take j))).length : Nat) : Int)) rfl (fun y hy => by obtain ⟨a, _, rfl⟩ := List.mem_map.1 hy; rfl) (by rw [List.length_map, tos_len hK.inn, List.length_take]; omega)
      have F1 : Fr s t1 [] := ft.trans' f1' (fun x hx => .inr (by simp at hx; omega))
      have F3 : Fr s t3 [] := F1.trans' f3' (fun x hx => .inr (by have := hb x hx; omega))
      have H3 := hA.fr F3 (by simp) (by simp) (by simp)
      have eL := H3.len (d + 3) r
      unfold lenO at eL
      rw [hat] at eL
      simp only at eL
      have B1 : SlB t1 s1.next s.next s4.next s2.next p kv (mvE os (keep.take (j + 1))) := ⟨f1'.wf, f1'.cl hwt B.k (by simp; omega), f1'.cl hwt B.h (by simp; omega), f1'.cl hwt B.m (by simp; omega), ⟨_, _, c1'⟩⟩
      have hnb : ∀ x, x ≤ s4.next → x ∉ blkV ov := fun x hx hm' => by have := hb x hm'; omega
      have B3 := B1.fr f3' (hnb _ (by omega)) (hnb _ (by omega)) (hnb _ (by omega)) (hnb _ (by omega))
      simp -implicitDefEqProofs (maxSteps := 5000000) (disch := first | assumption | omega | (simp only [dz, dl, Nat.zero_add, Nat.reduceAdd, Bool.and_self]; done) | (simp only [dl]; omega)) only [go_sem, ↓p48_27.eq_1, fAdd_eq, z2, z3, z6, z7, z8, z10, z15, z16, z17, dLd_at hwt B.m, p1', p2', p3', dLd_at F3.wf B3.h, eL]
      refine ⟨keep.length - (j + 1), by omega, j + 1, _, rfl, by omega, F3, by omega, B3, hK2, ?_, ?_, (by first | trivial | rfl | assumption), (by first | trivial | rfl | assumption), (by first | trivial | rfl | assumption), rfl, ?_, (by first | trivial | rfl | assumption), (by first | trivial | rfl | assumption), (by first | trivial | rfl | assumption)⟩
      · rw [hts]
        unfold tos
        rw [objs_append, objs_one hat, starts_append]
        simp only [starts, List.map_append, List.map_cons, List.map_nil]
        exact hg3
      · simp [blkV]; omega
      · rw [hts, objs_append, objs_one hat, lay_append]
        congr 1
        simp [lay, O.ws_len, hon]; omega
     by_cases cj : (0 : Int) < (j : Int)
     · have hop := hop (by omega)
       obtain ⟨q', x1, x2⟩ := hkt.at hwt (j := j - 1) (x := .i keep[j - 1]) (by rw [List.getElem?_map, hop]; rfl)
       rw [show (((j - 1 : Nat)) : Int) = (j : Int) - 1 by omega] at x1
       have hlast : (keep.take j).getLast? = some keep[j - 1] := by
        rw [List.getLast?_eq_getElem?, List.length_take, List.getElem?_take, if_pos (by omega), show min j keep.length - 1 = j - 1 by omega, hop]
       generalize keep[j - 1] = r2 at *
       by_cases cr : r ≤ r2
       · have hbad : ¬ (Kept os keep ∧ Clo os shapes keep keep) := fun h => by have := h.1.get hop hoj (by omega); omega
         simp -implicitDefEqProofs (maxSteps := 5000000) (disch := first | assumption | omega | (simp only [dz, dl, Nat.zero_add, Nat.reduceAdd, Bool.and_self]; done) | (simp only [dl]; omega)) only [go_sem, fAdd_eq, i2, i3, i6, i7, i8, i15, i16, i17, c, a1, a2, dLd_at hwt B.h, dLd_at hwt B.k, ei, Option.isSome_some, cj, x1, x2, cr]
         exact SlideP.bad hbad ft
       · simp -implicitDefEqProofs (maxSteps := 5000000) (disch := first | assumption | omega | (simp only [dz, dl, Nat.zero_add, Nat.reduceAdd, Bool.and_self]; done) | (simp only [dl]; omega)) only [go_sem, fAdd_eq, i2, i3, i6, i7, i8, i15, i16, i17, c, a1, a2, dLd_at hwt B.h, dLd_at hwt B.k, ei, Option.isSome_some, cj, x1, x2, cr]
         refine key ?_ _ (by first | trivial | rfl | assumption) (by first | trivial | rfl | assumption) (by first | trivial | rfl | assumption) (by first | trivial | rfl | assumption) (by first | trivial | rfl | assumption) (by first | trivial | rfl | assumption) (by first | trivial | rfl | assumption) (by first | trivial | rfl | assumption) (by first | trivial | rfl | assumption)
         rw [hts]
         exact hK.snoc hat (fun x hx => by rw [hlast] at hx; cases hx; omega)
     · have hj0 : j = 0 := by omega
       simp -implicitDefEqProofs (maxSteps := 5000000) (disch := first | assumption | omega | (simp only [dz, dl, Nat.zero_add, Nat.reduceAdd, Bool.and_self]; done) | (simp only [dl]; omega)) only [go_sem, fAdd_eq, i2, i3, i6, i7, i8, i15, i16, i17, c, a1, a2, dLd_at hwt B.h, dLd_at hwt B.k, ei, Option.isSome_some, cj]
       refine key ?_ _ (by first | trivial | rfl | assumption) (by first | trivial | rfl | assumption) (by first | trivial | rfl | assumption) (by first | trivial | rfl | assumption) (by first | trivial | rfl | assumption) (by first | trivial | rfl | assumption) (by first | trivial | rfl | assumption) (by first | trivial | rfl | assumption) (by first | trivial | rfl | assumption)
       rw [hts]
       exact hK.snoc hat (fun x hx => by subst hj0; simp at hx)
 · have : j = keep.length := by omega
   subst this
   rw [List.take_length] at hK hg B
   obtain ⟨v1, t1, q1, b, rfl, rfl, hbC⟩ := Ht.each1 (hS.fr hw ft (by simp)) H.ok B hkt hl hK d
   cases b with
   | false =>
     have hbad : ¬ (Kept os keep ∧ Clo os shapes keep keep) := fun h => by have := hbC.2 h.2; cases this
     simp -implicitDefEqProofs (maxSteps := 5000000) (disch := first | assumption | omega | (simp only [dz, dl, Nat.zero_add, Nat.reduceAdd, Bool.and_self]; done) | (simp only [dl]; omega)) only [go_sem, ↓p48_27.eq_1, ↓p48_33.eq_1, fAdd_eq, i2, i3, i6, i7, i8, i15, i16, i17, c, pFun_eq, eCallV_def, cvV_func fok65, List.nil_append, List.cons_append, q1]
     exact SlideP.bad hbad ft
   | true =>
     have hC := hbC.1 rfl
     have hkb' : ∀ b ∈ blkV kv, b ∉ [p, bw, bb] := fun b hb' => (hkb b hb').2
     obtain ⟨v2, t2, q2, rfl, Ht2, f2'⟩ := Ht.each2 (hS.fr hw ft (by simp)) H.ok B hkt hl hK hC d ⟨by omega, by omega, by omega, by omega⟩ (fun b hb' => (H.dF b hb').2.1) (fun b hb' => by have := hkb' b hb'; simp at this; exact this.2.1)
     have B2 := B.fr f2' (by simp; omega) (by simp; omega) (by simp; omega) (by simp; omega)
     have hg2 := hg.fr hwt f2' (fun b hb' => by have := hb b hb'; simp; omega)
     have htos : tos (mapAt (phi os shapes keep keep.length 0) 1 os) keep = tos os keep := by
      unfold tos
      rw [phi_objs hK.inn]; exact starts_map _ _
     obtain ⟨v3, t3, q3, rfl, ⟨z', Ht3⟩, f3'⟩ := Ht2.slide45 (kv := kv) (tv := ov) (phi_kept hK) hl (hkt.fr hwt f2' (fun b hb' => by have := hkb' b hb'; simp at this ⊢; exact this.2.1)) (by rw [htos]; exact hg2.sl f2'.wf) hkb' (fun b hb' => by have := hb b hb'; simp; omega) (d + 2)
     rw [phi_objs hK.inn] at Ht3
     have F3 : Fr s t3 [p, bw, bb] := (ft.mono (by simp)).trans ((f2'.mono (by simp)).trans f3')
     simp -implicitDefEqProofs (maxSteps := 5000000) (disch := first | assumption | omega | (simp only [dz, dl, Nat.zero_add, Nat.reduceAdd, Bool.and_self]; done) | (simp only [dl]; omega)) only [go_sem, ↓p48_27.eq_1, ↓p48_33.eq_1, fAdd_eq, i2, i3, i6, i7, i8, i15, i16, i17, c, pFun_eq, eCallV_def, cvV_func fok65, List.nil_append, List.cons_append, q1, q2, dLd_at f2'.wf B2.h, dLd_at f2'.wf B2.k, q3]
     refine ⟨fun h => absurd ⟨hK, hC⟩ h, fun _ => ⟨ov, z', rfl, hg2.fr f2'.wf f3' (fun b hb' => by have := hb b hb'; simp; omega), H.turn F3 (fun sh' h' => ?_) (slid_ok H.ok), F3, fun b hb' => by have := hb b hb'; omega⟩⟩
     have := h'.hr.hp
     rw [hA.hr.hp] at this
     cases this
     exact Ht3
end
end
end Go.Proofs.YtgkcpceppmppfaaLab
namespace Go.Proofs.YtgkcpceppmppfaaLab
open Go
set_option linter.all false
set_option maxRecDepth 10000
noncomputable section
inductive Reach (os : List O) (shapes : List (List Bool)) (roots : List Int) : Int → Prop
 | root {r : Int} (h : r ∈ roots) (h0 : ¬ r = 0) : Reach os shapes roots r
 | step {r : Int} {o : O} {k : Nat} {x : Int} (h : Reach os shapes roots r) (ho : at? os r = some o) (hx : o.f[k]? = some x) (hr : refB shapes o k = true) (h0 : ¬ x = 0) : Reach os shapes roots x
def RefOk (os : List O) (shapes : List (List Bool)) : Prop := ∀ r o, at? os r = some o → ∀ (k : Nat) x, o.f[k]? = some x → refB shapes o k = true → x = 0 ∨ (at? os x).isSome
def RootOk (os : List O) (roots : List Int) : Prop := ∀ r ∈ roots, r = 0 ∨ (at? os r).isSome
theorem Reach.isSome {os : List O} {shapes : List (List Bool)} {roots : List Int} (hR : RefOk os shapes) (hr : RootOk os roots) {r : Int} (h : Reach os shapes roots r) : (at? os r).isSome := by
 induction h with
 | root h h0 => exact (hr _ h).resolve_left h0
 | step _ ho hx hb h0 _ => exact (hR _ _ ho _ _ hx hb).resolve_left h0
def leftW : List O → Nat → List Int → Nat
 | [], _, _ => 0
 | o :: os, a, out => (if (a : Int) ∈ out then 0 else 1 + o.f.length) + leftW os (a + o.n) out
theorem leftW_lt : ∀ (os : List O) (a : Nat) (out : List Int) (r : Int), r < a → leftW os a (out ++ [r]) = leftW os a out
 | [], a, out, r, h => rfl
 | o :: os, a, out, r, h => by
   have : ((a : Int) ∈ out ++ [r]) = ((a : Int) ∈ out) := by
    rw [List.mem_append, List.mem_singleton]; exact propext ⟨fun hh => hh.resolve_right (by omega), .inl⟩
   simp only [leftW, this, leftW_lt os _ out r (show r < ((a + o.n : Nat) : Int) by omega)]
theorem leftW_snoc : ∀ (os : List O) (a : Nat) (out : List Int) (r : Int) (o : O), look os r = some o → r + a ∉ out → leftW os a (out ++ [r + a]) + 1 + o.f.length = leftW os a out
 | [], a, out, r, o, h, _ => by cases h
 | x :: os, a, out, r, o, h, hn => by
   have hp := x.n_pos
   unfold look at h
   by_cases hr : r = 0
   · subst hr
     rw [if_pos rfl] at h; cases h
     rw [Int.zero_add] at hn ⊢
     simp only [leftW]
     rw [if_pos (by simp), if_neg hn, leftW_lt os _ out _ (by omega)]; omega
   · rw [if_neg hr] at h
     have h0 : 0 ≤ r - (x.n : Nat) := by
      by_cases c : r - (x.n : Nat) < 0
      · rw [look_neg _ _ c] at h; cases h
      · omega
     have ih := leftW_snoc os (a + x.n) out (r - (x.n : Nat)) o h (by rw [show r - (x.n : Nat) + ((a + x.n : Nat) : Int) = r + a by omega]; exact hn)
     rw [show r - (x.n : Nat) + ((a + x.n : Nat) : Int) = r + a by omega] at ih
     have : ((a : Int) ∈ out ++ [r + a]) = ((a : Int) ∈ out) := by
      rw [List.mem_append, List.mem_singleton]; exact propext ⟨fun hh => hh.resolve_right (by omega), .inl⟩
     simp only [leftW, this]
     omega
theorem leftW_nil : ∀ (os : List O) (a : Nat), leftW os a [] ≤ (lay os).length
 | [], a => Nat.le_refl _
 | o :: os, a => by
   have := leftW_nil os (a + o.n)
   have hon : o.n = 3 + o.f.length := rfl
   simp only [leftW, List.not_mem_nil, if_false, lay, List.length_append, O.ws_len]
   omega
def GP (s : St) (v : V) (l : List V) : Prop := (l = [] ∧ v = .nils) ∨ ∃ b L, v = .slice b 0 l.length none 1 ∧ s.cl b = some L ∧ l <+: L
section
variable {s : St} {v x : V} {l : List V}
theorem GL.gp (h : GL s v l) : GP s v l := by
 rcases h with h | ⟨b, rfl, h2⟩
 · exact .inl h
 · exact .inr ⟨b, l, rfl, h2, List.prefix_refl _⟩
theorem GP.fr {s' : St} {L : List Nat} (h : GP s v l) (hw : Wf s) (f : Fr s s' L) (hd : ∀ b, b ∈ blkV v → b ∉ L) : GP s' v l := by
 rcases h with h | ⟨b, L', rfl, h2, h3⟩
 · exact .inl h
 · exact .inr ⟨b, L', rfl, f.cl hw h2 (hd b (by simp [blkV])), h3⟩
theorem GP.len (h : GP s v l) : uLenS v = some (.i (l.length : Nat)) := by
 rcases h with ⟨rfl, rfl⟩ | ⟨b, L, rfl, _⟩ <;> rfl
theorem GP.sl (hw : Wf s) (h : GP s v l) : SL s v l := by
 rcases h with h | ⟨b, L, rfl, h2, t, rfl⟩
 · exact .inl ⟨h.1, .inl h.2⟩
 · exact SL.of hw h2 (by simp) (fun i hi => by rw [Nat.zero_add, List.getElem?_append_left hi])
theorem GP.push (hw : Wf s) (h : GP s v l) (h1 : x.one = true) (ho : ∀ y ∈ l, y.one = true) (hl : l.length ≤ 100000000) :
 ∃ s1 s2, s.new (.cells 1 (ofL [x])) = s1 ∧ (apP 1 v (.slice s.next 0 1 (some 1) 1) s1 = some (.slice (s.next + 1) 0 (l.length + 1) none 1, s2)) ∧
   GL s2 (.slice (s.next + 1) 0 (l.length + 1) none 1) (l ++ [x]) ∧ Fr s s2 (blkV v) ∧ s2.next = s.next + 2 := by
 obtain ⟨s1, e1, c1, f1, n1⟩ := new_ex (s := s) (l := [x]) (n := 1) hw rfl
 have hy : Src s1 1 (.slice s.next 0 1 (some 1) 1) 1 [x] := Src.full f1.wf c1 rfl (by simpa using h1) (by omega)
 rcases h with ⟨rfl, rfl⟩ | ⟨b, L, rfl, h2, t, rfl⟩
 · obtain ⟨s2, e2, c2, f2, n2⟩ := eAp_nil f1.wf hy (by omega)
   rw [n1] at e2 c2
   exact ⟨s1, s2, e1, e2, .inr ⟨_, rfl, c2⟩, f1.trans f2, by omega⟩
 · have hb := cl_lt hw h2
   obtain ⟨s2, e2, c2, f2, n2⟩ := eAp_move (s := s1) (es := 1) (len := l.length) (o := 0) (b := b) f1.wf hy (by omega) hl (f1.cl hw h2 (by simp)) (by simp)
   rw [n1] at e2 c2
   refine ⟨s1, s2, e1, e2, .inr ⟨s.next + 1, by simp, ?_⟩, (f1.mono (by simp)).trans f2, by omega⟩
   rw [c2]; simp
theorem GP.pop (h : GP s v (l ++ [x])) : ∃ v', slV 1 v none (some (.i (((l.length + 1 : Nat) : Int) - 1))) none = some v' ∧ GP s v' l ∧ blkV v' = blkV v := by
 rcases h with ⟨h, _⟩ | ⟨b, L, rfl, h2, t, rfl⟩
 · simp at h
 · refine ⟨.slice b 0 l.length none 1, ?_, .inr ⟨b, _, rfl, h2, ?_⟩, rfl⟩
   · rw [pSl_hN (by omega) (by simp; omega)]
     congr 2; omega
   · exact ⟨[x] ++ t, by simp⟩
end
end
end Go.Proofs.YtgkcpceppmppfaaLab
namespace Go.Proofs.YtgkcpceppmppfaaLab
open Go
set_option linter.all false
set_option maxRecDepth 10000
noncomputable section
theorem sorted_snoc {A : List Int} {x : Int} (h : A.Pairwise (· ≤ ·)) (hx : ∀ a, A.getLast? = some a → a ≤ x) : ∀ a ∈ A, a ≤ x := fun a ha => by
 obtain ⟨i, hi, rfl⟩ := List.getElem_of_mem ha
 have hl : A.getLast? = some A[A.length - 1] := by rw [List.getLast?_eq_getElem?]; exact List.getElem?_eq_getElem (by omega)
 have hx := hx _ hl
 by_cases e : i = A.length - 1
 · subst e; exact hx
 · have := List.pairwise_iff_getElem.1 h i (A.length - 1) hi (by omega) (by omega)
   omega
theorem sort_tail {s s0 : St} {out : List Int} {v : V} (hw : Wf s) (f0 : Fr s0 s []) (hg : GL s v (out.map .i)) (hl : out.length ≤ 100000) (hb : ∀ b ∈ blkV v, s0.next ≤ b) (d : Nat) (e0 : E) (z6 : e0.a0.a6 = v) :
 Ret (retR (resV [rT g4, rT g5]) (p11_60 (K (d + 2)) e0 s)) fun r s' => ∃ l : List Int, r = .tup [v, .bool true] ∧ GL s' v (l.map .i) ∧ l.Perm out ∧ l.Pairwise (· ≤ ·) ∧ Fr s0 s' [] := by
 have hlen : uLenS v = some (.i (out.length : Nat)) := by have := hg.len; rwa [List.length_map] at this
 simp -implicitDefEqProofs (maxSteps := 5000000) (disch := first | assumption | omega | (simp only [dz, dl, Nat.zero_add, Nat.reduceAdd, Bool.and_self]; done) | (simp only [dl]; omega)) only [go_sem, ↓p11_60.eq_1, fAdd_eq, z6]
 refine loop_at (Q := fun r => Ret (retR _ (seqR (blkR 6 r) _)) _) (fun m e t => ∃ (i : Nat) (l : List Int), m = out.length - i ∧ (i ≤ out.length ∨ i = 1) ∧ 1 ≤ i ∧ GL t v (l.map .i) ∧ l.Perm out ∧ (l.take i).Pairwise (· ≤ ·) ∧ Fr s0 t [] ∧ g6 e = v ∧ g12 e = .i i) ?_ (n := out.length - 1) (by omega) ⟨1, out, rfl, .inr rfl, by omega, hg, List.Perm.refl _, ?_, f0, (by first | trivial | rfl | assumption), (by first | trivial | rfl | assumption)⟩
 rotate_left
 · cases out with
   | nil => simp
   | cons x l => simp
 rintro m e t ⟨i, l, rfl, hi, hi1, hgt, hp, hs, ft, i6, i12⟩
 replace i6 : e.a0.a6 = _ := i6
 replace i12 : e.a0.a12 = _ := i12
 have hlp := hp.length_eq
 by_cases c : (i : Int) < ((out.length : Nat) : Int)
 · simp -implicitDefEqProofs (maxSteps := 5000000) (disch := first | assumption | omega | (simp only [dz, dl, Nat.zero_add, Nat.reduceAdd, Bool.and_self]; done) | (simp only [dl]; omega)) only [go_sem, ↓p11_60.eq_1, fAdd_eq, i6, i12, hlen, c]
   have hil : i < l.length := by omega
   refine loop_at (Q := fun r => rnd (seqR (blkR 7 (blkR 8 r)) _) _ _) (fun m e u => ∃ (A B C : List Int) (x : Int), m = A.length ∧ (A ++ x :: B ++ C).Perm out ∧ A.length + 1 + B.length = i + 1 ∧ (A ++ B).Pairwise (· ≤ ·) ∧ (∀ b ∈ B, x ≤ b) ∧ GL u v ((A ++ x :: B ++ C).map .i) ∧ Fr s0 u [] ∧ g6 e = v ∧ g12 e = .i i ∧ g13 e = .i (A.length : Nat)) ?_ (n := i) (by omega) ⟨l.take i, [], l.drop (i + 1), l[i], by rw [List.length_take]; omega, ?_, by rw [List.length_take]; simp; omega, by simpa using hs, by simp, ?_, ft, (by first | trivial | rfl | assumption), (by first | trivial | rfl | assumption), ?_⟩
   rotate_left
   · have : l.take i ++ l[i] :: [] ++ l.drop (i + 1) = l := by
      rw [List.append_assoc, List.cons_append, List.nil_append, ← List.drop_eq_getElem_cons hil, List.take_append_drop]
     rw [this]; exact hp
   · have : l.take i ++ l[i] :: [] ++ l.drop (i + 1) = l := by
      rw [List.append_assoc, List.cons_append, List.nil_append, ← List.drop_eq_getElem_cons hil, List.take_append_drop]
     rw [this]; exact hgt
   · rw [List.length_take, Nat.min_eq_left (by omega)]; rfl
   clear i6 i12 e
   rintro m e u ⟨A, B, C, x, rfl, hp', hAB, hsAB, hxB, hgu, fu, i6, i12, i13⟩
   replace i6 : e.a0.a6 = _ := i6
   replace i12 : e.a0.a12 = _ := i12
   replace i13 : e.a0.a13 = _ := i13
   have hwu := fu.wf
   have hpl := hp'.length_eq
   simp only [List.length_append, List.length_cons] at hpl
   have hx : ((A ++ x :: B ++ C).map V.i)[A.length]? = some (.i x) := by simp
   have stop : (∀ a, A.getLast? = some a → a ≤ x) → ((A ++ x :: B ++ C).take (i + 1)).Pairwise (· ≤ ·) := fun h => by
    have hA := (List.pairwise_append.1 hsAB).1
    have hB := (List.pairwise_append.1 hsAB).2.1
    have hc := (List.pairwise_append.1 hsAB).2.2
    rw [show i + 1 = (A ++ x :: B).length by simp; omega, List.take_left']
    · rw [List.pairwise_append]
      refine ⟨hA, List.pairwise_cons.2 ⟨hxB, hB⟩, fun a ha b hb' => ?_⟩
      rcases List.mem_cons.1 hb' with rfl | hb'
      · exact sorted_snoc hA h a ha
      · exact hc a ha b hb'
    · rfl
   rcases List.eq_nil_or_concat A with rfl | ⟨A', a, rfl⟩
   · replace i13 : e.a0.a13 = .i 0 := i13
     simp -implicitDefEqProofs (maxSteps := 5000000) (disch := first | assumption | omega | (simp only [dz, dl, Nat.zero_add, Nat.reduceAdd, Bool.and_self]; done) | (simp only [dl]; omega)) only [go_sem, ↓p11_60.eq_1, fAdd_eq, i6, i12, i13]
     have hp2 := stop (by simp)
     exact ⟨out.length - (i + 1), by omega, i + 1, _, rfl, by omega, by omega, hgu, hp', hp2, fu, (by first | trivial | rfl | assumption), (by first | trivial | rfl | assumption)⟩
   · rw [List.concat_eq_append] at *
     have hal : (A' ++ [a]).length = A'.length + 1 := by simp
     rw [hal] at i13 hx
     have c0 : (0 : Int) < ((A'.length + 1 : Nat) : Int) := by omega
     have em : ((A'.length + 1 : Nat) : Int) - 1 = ((A'.length : Nat) : Int) := by omega
     obtain ⟨q1, a1, a2⟩ := (hgu.sl hwu).at hwu (j := A'.length) (x := .i a) (by simp)
     obtain ⟨q2, b1, b2⟩ := (hgu.sl hwu).at hwu (j := A'.length + 1) (x := .i x) hx
     have hla : ∀ y, (A' ++ [a]).getLast? = some y → y = a := fun y hy => by simp at hy; exact hy.symm
     by_cases cx : x < a
     · obtain ⟨b, rfl, cb⟩ : ∃ b, v = .slice b 0 ((A' ++ [a] ++ x :: B ++ C).map V.i).length none 1 ∧ u.cl b = some ((A' ++ [a] ++ x :: B ++ C).map V.i) := by
        rcases hgu with ⟨h0, _⟩ | h
        · simp at h0
        · exact h
       have e1 : q1 = .ptr b A'.length := by
        rw [bIdx1_eq (by omega) (by simp; omega), Nat.zero_add, Int.toNat_natCast] at a1
        injection a1 with a1; exact a1.symm
       have e2 : q2 = .ptr b (A'.length + 1) := by
        rw [bIdx1_eq (by omega) (by simp; omega), Nat.zero_add, Int.toNat_natCast] at b1
        injection b1 with b1; exact b1.symm
       subst e1; subst e2
       obtain ⟨x1, p1, c1, f1, n1⟩ := eSt_ex (s := u) (b := b) (o := A'.length) (v := .i x) hwu cb (by simp) rfl
       obtain ⟨x2, p2, c2, f2, n2⟩ := eSt_ex (s := x1) (b := b) (o := A'.length + 1) (v := .i a) f1.wf c1 (by simp) rfl
       have hsw : ((((A' ++ [a] ++ x :: B ++ C).map V.i).set A'.length (.i x)).set (A'.length + 1) (.i a)) = (A' ++ x :: (a :: B) ++ C).map V.i := by
        simp only [List.map_append, List.map_cons, List.map_nil, List.append_assoc, List.cons_append, List.nil_append]
        rw [List.set_append_right _ _ (by simp), List.set_append_right _ _ (by simp)]
        simp
       rw [hsw] at c2
       simp -implicitDefEqProofs (maxSteps := 5000000) (disch := first | assumption | omega | (simp only [dz, dl, Nat.zero_add, Nat.reduceAdd, Bool.and_self]; done) | (simp only [dl]; omega)) only [go_sem, ↓p11_60.eq_1, fAdd_eq, i6, i12, i13, c0, em, a1, a2, b1, b2, cx, p1, p2]
       have hbn := hb b (by simp [blkV])
       refine ⟨A'.length, by omega, A', a :: B, C, x, rfl, ?_, by simp at hAB ⊢; omega, by simpa using hsAB, ?_, ?_, fu.trans' (f1.trans f2) (fun y hy => .inr (by simp at hy; omega)), (by first | trivial | rfl | assumption), (by first | trivial | rfl | assumption), (by first | trivial | rfl | assumption)⟩
       · refine List.Perm.trans ?_ hp'
         simp only [List.append_assoc, List.cons_append, List.nil_append]
         exact List.Perm.append_left _ (List.Perm.swap _ _ _)
       · intro y hy
         rcases List.mem_cons.1 hy with rfl | hy
         · omega
         · exact hxB y hy
       · refine .inr ⟨b, ?_, c2⟩
         congr 1; simp
     · have hp2 := stop (fun y hy => by have := hla y hy; omega)
       simp -implicitDefEqProofs (maxSteps := 5000000) (disch := first | assumption | omega | (simp only [dz, dl, Nat.zero_add, Nat.reduceAdd, Bool.and_self]; done) | (simp only [dl]; omega)) only [go_sem, ↓p11_60.eq_1, fAdd_eq, i6, i12, i13, c0, em, a1, a2, b1, b2, cx]
       exact ⟨out.length - (i + 1), by omega, i + 1, _, rfl, by omega, by omega, hgu, hp', hp2, fu, (by first | trivial | rfl | assumption), (by first | trivial | rfl | assumption)⟩
 · simp -implicitDefEqProofs (maxSteps := 5000000) (disch := first | assumption | omega | (simp only [dz, dl, Nat.zero_add, Nat.reduceAdd, Bool.and_self]; done) | (simp only [dl]; omega)) only [go_sem, ↓p11_60.eq_1, fAdd_eq, i6, i12, hlen, c]
   rw [List.take_of_length_le (by omega)] at hs
   exact ⟨l, (by first | trivial | rfl | assumption), hgt, hp, hs, ft⟩
end
end Go.Proofs.YtgkcpceppmppfaaLab
namespace Go.Proofs.YtgkcpceppmppfaaLab
open Go
set_option linter.all false
set_option maxRecDepth 10000
noncomputable section
theorem RootOk.snoc {os : List O} {l : List Int} {r : Int} (h : RootOk os l) (hr : r = 0 ∨ (at? os r).isSome) : RootOk os (l ++ [r]) := fun x hx => by
 rcases List.mem_append.1 hx with hx | hx
 · exact h x hx
 · simp at hx; subst hx; exact hr
structure MkI (os : List O) (shapes : List (List Bool)) (roots out left : List Int) : Prop where
 so : ∀ r ∈ out, Reach os shapes roots r
 sl : ∀ r ∈ left, r = 0 ∨ Reach os shapes roots r
 ro : ∀ r ∈ roots, r = 0 ∨ r ∈ out ∨ r ∈ left
 cl : ∀ r ∈ out, ∀ o, at? os r = some o → ∀ (k : Nat) x, o.f[k]? = some x → refB shapes o k = true → x = 0 ∨ x ∈ out ∨ x ∈ left
 nd : out.Nodup
def MarkQ (s : St) (os : List O) (shapes : List (List Bool)) (roots : List Int) (r : V) (s' : St) : Prop :=
 (¬ RootOk os roots → r = .tup [.nils, .bool false] ∧ Fr s s' []) ∧
 (RootOk os roots → ∃ (v : V) (l : List Int), r = .tup [v, .bool true] ∧ GL s' v (l.map .i) ∧ Fr s s' [] ∧ (∀ b ∈ blkV v, s.next ≤ b) ∧ l.Pairwise (· < ·) ∧ ∀ x, x ∈ l ↔ Reach os shapes roots x)
theorem blk_lt {s : St} {v : V} {l : List V} (hw : Wf s) (h : GL s v l) : ∀ b ∈ blkV v, b < s.next := fun b hb => by
 rcases h with ⟨_, rfl⟩ | ⟨b', rfl, h2⟩
 · simp [blkV] at hb
 · simp [blkV] at hb; subst hb; exact cl_lt hw h2
theorem blk_ltP {s : St} {v : V} {l : List V} (hw : Wf s) (h : GP s v l) : ∀ b ∈ blkV v, b < s.next := fun b hb => by
 rcases h with ⟨_, rfl⟩ | ⟨b', L, rfl, h2, _⟩
 · simp [blkV] at hb
 · simp [blkV] at hb; subst hb; exact cl_lt hw h2
theorem perm_lt {l out : List Int} (hp : l.Perm out) (hs : l.Pairwise (· ≤ ·)) (hn : out.Nodup) : l.Pairwise (· < ·) := by
 have hn2 : l.Nodup := hp.nodup_iff.2 hn
 have := List.Pairwise.and hs hn2
 exact this.imp fun h => by omega
theorem at_pos {os : List O} {r : Int} (h : (at? os r).isSome) : 1 ≤ r := by
 obtain ⟨o, ho⟩ := Option.isSome_iff_exists.1 h
 exact (lay_lt ho).1
theorem ld_same {s s' : St} {b o : Nat} (h : s'.heap.get b = s.heap.get b) : ldP (.ptr b o) s' = ldP (.ptr b o) s := by
 show (match rdOf s' b with | some (n, xs) => Bool.casesOn (motive := fun _ => Option V) (Nat.blt o n) none (xs o) | none => none) = (match rdOf s b with | some (n, xs) => Bool.casesOn (motive := fun _ => Option V) (Nat.blt o n) none (xs o) | none => none)
 rw [rd_same h]
theorem ObP.same {s s' : St} {FO : List Nat} {o : O} {a b i bf : Nat} {c : Option Nat} (ob : ObP s FO o a b i bf c) (h : ∀ b ∈ FO, s'.heap.get b = s.heap.get b) : ObP s' FO o a b i bf c :=
 ⟨(ld_same (h b ob.mb)).trans ob.at0, (ld_same (h b ob.mb)).trans ob.sh, (ld_same (h b ob.mb)).trans ob.f, (ld_same (h b ob.mb)).trans ob.tag, (cl_same (h bf ob.mf)).trans ob.cl, ob.mb, ob.mf⟩
section
variable {s : St} {rp : Nat} {w : Int} {os : List O} {shapes : List (List Bool)} {FO FS : List Nat} (H : RR s rp w os shapes FO FS)
include H
theorem RR.mark (ok : ShOk os shapes) (hRf : RefOk os shapes) {v : V} {roots : List Int} (hk : SL s v (roots.map .i)) (hl : roots.length ≤ 50000) (d : Nat) :
 Ret ((K (d + 3)).call 11 [.ptr rp 0, v] s) (MarkQ s os shapes roots) := by
 have hw := H.wf
 have hw0 := H.w0
 have hlw := H.lw
 have hlen := hk.len
 rw [List.length_map] at hlen
 simp -implicitDefEqProofs (maxSteps := 5000000) (disch := first | assumption | omega | (simp only [dz, dl, Nat.zero_add, Nat.reduceAdd, Bool.and_self]; done) | (simp only [dl]; omega)) only [op11, go_sem, fAdd_eq]
 refine loop_at (Q := fun r => Ret (retR _ (seqR (blkR 0 r) _)) _) (fun m e t => ∃ (j : Nat) (lv : V), m = roots.length - j ∧ j ≤ roots.length ∧ Fr s t [] ∧ RootOk os (roots.take j) ∧ GL t lv ((roots.take j).map .i) ∧ (∀ b ∈ blkV lv, s.next ≤ b) ∧ g0 e = .ptr rp 0 ∧ g1 e = v ∧ g6 e = .nils ∧ g7 e = lv ∧ g8 e = .i j) ?_ (n := roots.length) (by omega) ⟨0, .nils, by omega, by omega, Fr.refl hw _, by simp [RootOk], .inl ⟨rfl, rfl⟩, by simp [blkV], (by first | trivial | rfl | assumption), (by first | trivial | rfl | assumption), (by first | trivial | rfl | assumption), (by first | trivial | rfl | assumption), (by first | trivial | rfl | assumption)⟩
 rintro m e t ⟨j, lv, rfl, hj, ft, hro, hg, hb, i0, i1, i6, i7, i8⟩
 replace i0 : e.a0.a0 = _ := i0
 replace i1 : e.a0.a1 = _ := i1
 replace i6 : e.a0.a6 = _ := i6
 replace i7 : e.a0.a7 = _ := i7
 replace i8 : e.a0.a8 = _ := i8
 have hwt := ft.wf
 have hkt := hk.fr hw ft (by simp)
 have Ht := H.fr ft (by simp) (by simp) (by simp)
 by_cases c : (j : Int) < ((roots.length : Nat) : Int)
 · have hoj : roots[j]? = some roots[j] := List.getElem?_eq_getElem (by omega)
   obtain ⟨q, a1, a2⟩ := hkt.at hwt (j := j) (x := .i roots[j]) (by rw [List.getElem?_map, hoj]; rfl)
   have hts := take_snoc hoj
   generalize roots[j] = r at *
   obtain ⟨f0, f1⟩ := Ht.find (d + 1) r
   obtain ⟨s1, s2, p1, p2, hg2, f2, n2⟩ := hg.push hwt (x := .i r) rfl (fun y hy => by obtain ⟨a, _, rfl⟩ := List.mem_map.1 hy; rfl) (by rw [List.length_map, List.length_take]; omega)
   have F2 : Fr s s2 [] := ft.trans' f2 (fun x hx => .inr (hb x hx))
   have hnx := ft.nx
   have fin : (r = 0 ∨ (at? os r).isSome) → ∃ m, m < roots.length - j ∧ ∃ (j' : Nat) (lv' : V), m = roots.length - j' ∧ j' ≤ roots.length ∧ Fr s s2 [] ∧ RootOk os (roots.take j') ∧ GL s2 lv' ((roots.take j').map .i) ∧ (∀ b ∈ blkV lv', s.next ≤ b) ∧ j' = j + 1 ∧ lv' = .slice (t.next + 1) 0 (((roots.take j).map V.i).length + 1) none 1 := fun h => by
    refine ⟨roots.length - (j + 1), by omega, j + 1, _, rfl, by omega, F2, ?_, ?_, ?_, rfl, rfl⟩
    · rw [hts]; exact hro.snoc h
    · rw [hts, List.map_append]; exact hg2
    · simp [blkV]; omega
   by_cases c0 : r = 0
   · obtain ⟨m, h1, j', lv', h2, h3, h4, h5, h6, h7, rfl, rfl⟩ := fin (.inl c0)
     subst c0
     simp -implicitDefEqProofs (maxSteps := 5000000) (disch := first | assumption | omega | (simp only [dz, dl, Nat.zero_add, Nat.reduceAdd, Bool.and_self]; done) | (simp only [dl]; omega)) only [go_sem, fAdd_eq, i0, i1, i6, i7, i8, c, hlen, a1, a2, p1, p2, eq_self, Bool.not_true]
     exact ⟨m, h1, j + 1, _, h2, h3, h4, h5, h6, h7, (by first | trivial | rfl | assumption), (by first | trivial | rfl | assumption), (by first | trivial | rfl | assumption), rfl, (by first | trivial | rfl | assumption)⟩
   · cases hat : at? os r with
     | none =>
       have e1 := f0 hat
       have hbad : ¬ RootOk os roots := fun h => by
        have := h r (List.mem_of_getElem? hoj)
        rw [hat] at this
        exact this.elim c0 (by simp)
       simp -implicitDefEqProofs (maxSteps := 5000000) (disch := first | assumption | omega | (simp only [dz, dl, Nat.zero_add, Nat.reduceAdd, Bool.and_self]; done) | (simp only [dl]; omega)) only [go_sem, fAdd_eq, i0, i1, i6, i7, i8, c, hlen, a1, a2, c0, e1]
       exact ⟨fun _ => ⟨rfl, ft⟩, fun h => absurd h hbad⟩
     | some o =>
       obtain ⟨b, i, bf, cc, e1, ob, oi, ol, oL⟩ := f1 o hat
       obtain ⟨m, h1, j', lv', h2, h3, h4, h5, h6, h7, rfl, rfl⟩ := fin (.inr (by rw [hat]; rfl))
       simp -implicitDefEqProofs (maxSteps := 5000000) (disch := first | assumption | omega | (simp only [dz, dl, Nat.zero_add, Nat.reduceAdd, Bool.and_self]; done) | (simp only [dl]; omega)) only [go_sem, fAdd_eq, i0, i1, i6, i7, i8, c, hlen, a1, a2, c0, e1, p1, p2]
       exact ⟨m, h1, j + 1, _, h2, h3, h4, h5, h6, h7, (by first | trivial | rfl | assumption), (by first | trivial | rfl | assumption), (by first | trivial | rfl | assumption), rfl, (by first | trivial | rfl | assumption)⟩
 · have : j = roots.length := by omega
   subst this
   rw [List.take_length] at hro hg
   simp -implicitDefEqProofs (maxSteps := 5000000) (disch := first | assumption | omega | (simp only [dz, dl, Nat.zero_add, Nat.reduceAdd, Bool.and_self]; done) | (simp only [dl]; omega)) only [go_sem, fAdd_eq, i0, i1, i6, i7, i8, c, hlen]
   have hw1 := leftW_nil os 1
   refine loop_at (Q := fun r => Ret (retR _ (seqR (blkR 2 r) _)) _) (fun m e t => ∃ (out left : List Int) (ov lv : V), m = left.length + leftW os 1 out ∧ m ≤ 50000 + (lay os).length ∧ Fr s t [] ∧ MkI os shapes roots out left ∧ out.length + leftW os 1 out ≤ (lay os).length ∧ GL t ov (out.map .i) ∧ GP t lv (left.map .i) ∧ (∀ b ∈ blkV lv, s.next ≤ b ∧ b ∉ blkV ov) ∧ (∀ b ∈ blkV ov, s.next ≤ b) ∧ g0 e = .ptr rp 0 ∧ g6 e = ov ∧ g7 e = lv) ?_ (n := roots.length + leftW os 1 []) (by omega) ⟨[], roots, .nils, lv, rfl, by omega, ft, ⟨by simp, ?_, fun r hr => ?_, by simp, by simp⟩, by simpa using hw1, .inl ⟨rfl, rfl⟩, hg.gp, fun b hb' => ⟨hb b hb', by simp [blkV]⟩, by simp [blkV], (by first | trivial | rfl | assumption), (by first | trivial | rfl | assumption), (by first | trivial | rfl | assumption)⟩
   rotate_left
   · intro r hr
     by_cases c0 : r = 0
     · exact .inl c0
     · exact .inr (.root hr c0)
   · exact .inr (.inr hr)
   clear i0 i1 i6 i7 i8 c hj e hg hb hkt Ht ft hwt lv t
   rintro m e t ⟨out, left, ov, lv, rfl, hm, ft, hI, hol, hg, hgp, hb, hbo, i0, i6, i7⟩
   replace i0 : e.a0.a0 = _ := i0
   replace i6 : e.a0.a6 = _ := i6
   replace i7 : e.a0.a7 = _ := i7
   have hwt := ft.wf
   have hlenL : uLenS lv = some (.i (left.length : Nat)) := by have := hgp.len; rwa [List.length_map] at this
   rcases List.eq_nil_or_concat left with rfl | ⟨left, n, rfl⟩
   · replace hlenL : uLenS lv = some (.i 0) := hlenL
     simp -implicitDefEqProofs (maxSteps := 5000000) (disch := first | assumption | omega | (simp only [dz, dl, Nat.zero_add, Nat.reduceAdd, Bool.and_self]; done) | (simp only [dl]; omega)) only [go_sem, fAdd_eq, i0, i6, i7, hlenL]
     refine (sort_tail (out := out) (v := ov) (s0 := s) hwt ft hg (by omega) hbo d _ (by first | trivial | rfl | assumption)).mono fun r s' hq => ?_
     obtain ⟨l, rfl, q2, q3, q4, q5⟩ := hq
     refine ⟨fun h => absurd hro h, fun _ => ⟨ov, l, rfl, q2, q5, hbo, perm_lt q3 q4 hI.nd, fun x => ?_⟩⟩
     rw [q3.mem_iff]
     constructor
     · exact hI.so x
     · intro h
       induction h with
       | root h h0 => exact (hI.ro _ h).elim (fun h => absurd h h0) (fun h => h.elim id (by simp))
       | step h ho hx hr h0 ih => exact (hI.cl _ ih _ ho _ _ hx hr).elim (fun h => absurd h h0) (fun h => h.elim id (by simp))
   · rw [List.concat_eq_append] at *
     have hL : (left ++ [n]).length = left.length + 1 := by simp
     rw [hL] at hm hlenL
     have c1 : (0 : Int) < ((left.length + 1 : Nat) : Int) := by omega
     have em : ((left.length + 1 : Nat) : Int) - 1 = ((left.length : Nat) : Int) := by omega
     rw [List.map_append] at hgp
     obtain ⟨q, a1, a2⟩ := (hgp.sl hwt).at hwt (j := left.length) (x := .i n) (by simp)
     obtain ⟨lv', p1, hgp', hbl⟩ := hgp.pop
     rw [List.length_map, em] at p1
     have eh := has_eq hwt (hg.sl hwt) (by omega) n (d + 1)
     by_cases c0 : n = 0
     · simp -implicitDefEqProofs (maxSteps := 5000000) (disch := first | assumption | omega | (simp only [dz, dl, Nat.zero_add, Nat.reduceAdd, Bool.and_self]; done) | (simp only [dl]; omega)) only [go_sem, fAdd_eq, i0, i6, i7, hlenL, c1, em, a1, a2, p1, c0]
       refine ⟨left.length + leftW os 1 out, by rw [List.length_append, List.length_singleton]; omega, out, left, ov, lv', rfl, by omega, ft, ⟨hI.so, fun r hr => hI.sl r (by simp [hr]), fun r hr => ?_, fun r hr o ho k x hx hb => ?_, hI.nd⟩, hol, hg, hgp', by rw [hbl]; exact hb, hbo, (by first | trivial | rfl | assumption), (by first | trivial | rfl | assumption), (by first | trivial | rfl | assumption)⟩
       · rcases hI.ro r hr with h | h | h
         · exact .inl h
         · exact .inr (.inl h)
         · rcases List.mem_append.1 h with h | h
           · exact .inr (.inr h)
           · simp at h; exact .inl (h.trans c0)
       · rcases hI.cl r hr o ho k x hx hb with h | h | h
         · exact .inl h
         · exact .inr (.inl h)
         · rcases List.mem_append.1 h with h | h
           · exact .inr (.inr h)
           · simp at h; exact .inl (h.trans c0)
     · by_cases ch : 0 ≤ hasI out n
       · have hmem : n ∈ out := Classical.byContradiction fun h => by have := hasI_neg.2 h; omega
         simp -implicitDefEqProofs (maxSteps := 5000000) (disch := first | assumption | omega | (simp only [dz, dl, Nat.zero_add, Nat.reduceAdd, Bool.and_self]; done) | (simp only [dl]; omega)) only [go_sem, fAdd_eq, i0, i6, i7, hlenL, c1, em, a1, a2, p1, c0, eh, ch]
         refine ⟨left.length + leftW os 1 out, by rw [List.length_append, List.length_singleton]; omega, out, left, ov, lv', rfl, by omega, ft, ⟨hI.so, fun r hr => hI.sl r (by simp [hr]), fun r hr => ?_, fun r hr o ho k x hx hb => ?_, hI.nd⟩, hol, hg, hgp', by rw [hbl]; exact hb, hbo, (by first | trivial | rfl | assumption), (by first | trivial | rfl | assumption), (by first | trivial | rfl | assumption)⟩
         · rcases hI.ro r hr with h | h | h
           · exact .inl h
           · exact .inr (.inl h)
           · rcases List.mem_append.1 h with h | h
             · exact .inr (.inr h)
             · simp at h; subst h; exact .inr (.inl hmem)
         · rcases hI.cl r hr o ho k x hx hb with h | h | h
           · exact .inl h
           · exact .inr (.inl h)
           · rcases List.mem_append.1 h with h | h
             · exact .inr (.inr h)
             · simp at h; subst h; exact .inr (.inl hmem)
       · have hnm : n ∉ out := hasI_neg.1 (by omega)
         have hre : Reach os shapes roots n := (hI.sl n (by simp)).resolve_left c0
         obtain ⟨o, ho⟩ := Option.isSome_iff_exists.1 (hre.isSome hRf hro)
         have hlo := lay_lt ho
         have hon : o.n = 3 + o.f.length := rfl
         have hW := leftW_snoc os 1 out (n - 1) o ho (by rw [show n - 1 + ((1 : Nat) : Int) = n by omega]; exact hnm)
         rw [show n - 1 + ((1 : Nat) : Int) = n by omega] at hW
         have hos := H.lens
         obtain ⟨x1, x2, p2, p3, hg2, f2, n2⟩ := hg.push hwt (x := .i n) rfl (fun y hy => by obtain ⟨a, _, rfl⟩ := List.mem_map.1 hy; rfl) (by rw [List.length_map]; omega)
         rw [List.length_map] at p3 hg2
         have F2 : Fr s x2 [] := ft.trans' f2 (fun x hx => .inr (hbo x hx))
         have H2 := H.fr F2 (by simp) (by simp) (by simp)
         obtain ⟨b, i, bf, cc, e1, ob, oi, ol, oL⟩ := (H2.find (d + 1) n).2 o ho
         have hbl' : ∀ b ∈ blkV lv', s.next ≤ b ∧ b ∉ blkV ov := by rw [hbl]; exact hb
         have hgp2 := hgp'.fr hwt f2 (fun b hb' => (hbl' b hb').2)
         have hlvt := blk_ltP hwt hgp'
         simp -implicitDefEqProofs (maxSteps := 5000000) (disch := first | assumption | omega | (simp only [dz, dl, Nat.zero_add, Nat.reduceAdd, Bool.and_self]; done) | (simp only [dl]; omega)) only [go_sem, fAdd_eq, i0, i6, i7, hlenL, c1, em, a1, a2, p1, c0, eh, ch, p2, p3, e1]
         have hnx := ft.nx
         refine loop_at (Q := fun r => rnd (blkR 3 (blkR 4 r)) _ _) (fun m e u => ∃ (k : Nat) (left2 : List Int) (lv2 : V), m = o.f.length - k ∧ k ≤ o.f.length ∧ Fr s u [] ∧ left2.length ≤ left.length + k ∧ (∀ r ∈ left, r ∈ left2) ∧ (∀ r ∈ left2, r ∈ left ∨ r = 0 ∨ Reach os shapes roots r) ∧ (∀ (k' : Nat) x, k' < k → o.f[k']? = some x → refB shapes o k' = true → x ∈ left2) ∧ GL u (.slice (t.next + 1) 0 (out.length + 1) none 1) ((out ++ [n]).map .i) ∧ GP u lv2 (left2.map .i) ∧ (∀ b ∈ blkV lv2, s.next ≤ b ∧ b ≠ t.next + 1) ∧ g0 e = .ptr rp 0 ∧ g6 e = .slice (t.next + 1) 0 (out.length + 1) none 1 ∧ g7 e = lv2 ∧ g9 e = .i n ∧ g10 e = .ptr b (4 * i) ∧ g11 e = .i k) ?_ (n := o.f.length) (by omega) ⟨0, left, lv', by omega, by omega, F2, by omega, fun r hr => hr, fun r hr => .inl hr, by simp, by rw [List.map_append]; exact hg2, hgp2, fun b hb' => ⟨(hbl' b hb').1, by have := hlvt b hb'; omega⟩, (by first | trivial | rfl | assumption), (by first | trivial | rfl | assumption), (by first | trivial | rfl | assumption), (by first | trivial | rfl | assumption), (by first | trivial | rfl | assumption), (by first | trivial | rfl | assumption)⟩
         clear i0 i6 i7 e
         rintro m e u ⟨k, left2, lv2, rfl, hk', fu, hl2, hs1, hs2, hs3, hgu, hgp3, hb3, i0, i6, i7, i9, i10, i11⟩
         replace i0 : e.a0.a0 = _ := i0
         replace i6 : e.a0.a6 = _ := i6
         replace i7 : e.a0.a7 = _ := i7
         replace i9 : e.a0.a9 = _ := i9
         replace i10 : e.a0.a10 = _ := i10
         replace i11 : e.a0.a11 = _ := i11
         have hwu := fu.wf
         have Hu := H.fr fu (by simp) (by simp) (by simp)
         have obu := ob.same (s' := u) (fun y hy => (fu.same y (H.ltO y hy) (by simp)).trans (F2.same y (H.ltO y hy) (by simp)).symm)
         have e2 := obu.f
         by_cases ck : (k : Int) < ((o.f.length : Nat) : Int)
         · have hx : o.f[k]? = some o.f[k] := List.getElem?_eq_getElem (by omega)
           obtain ⟨b1, b2⟩ := obu.getN hwu hx
           generalize o.f[k] = x at *
           have er := Hu.isRef ok d n k
           rw [refO_at ho (by omega)] at er
           cases hr : refB shapes o k with
           | false =>
             rw [hr] at er
             simp -implicitDefEqProofs (maxSteps := 5000000) (disch := first | assumption | omega | (simp only [dz, dl, Nat.zero_add, Nat.reduceAdd, Bool.and_self]; done) | (simp only [dl]; omega)) only [go_sem, fAdd_eq, i0, i6, i7, i9, i10, i11, ck, e2, er]
             refine ⟨o.f.length - (k + 1), by omega, k + 1, left2, lv2, rfl, by omega, fu, by omega, hs1, hs2, ?_, hgu, hgp3, hb3, (by first | trivial | rfl | assumption), (by first | trivial | rfl | assumption), (by first | trivial | rfl | assumption), (by first | trivial | rfl | assumption), (by first | trivial | rfl | assumption), (by first | trivial | rfl | assumption)⟩
             intro k' x' hk2 hx' hr'
             by_cases e : k' = k
             · subst e; rw [hr] at hr'; cases hr'
             · exact hs3 k' x' (by omega) hx' hr'
           | true =>
             rw [hr] at er
             obtain ⟨y1, y2, p4, p5, hg4, f4, n4⟩ := hgp3.push hwu (x := .i x) rfl (fun y hy => by obtain ⟨a, _, rfl⟩ := List.mem_map.1 hy; rfl) (by rw [List.length_map]; omega)
             rw [List.length_map] at p5 hg4
             have hun := fu.nx
             have hgub := blk_lt hwu hgu _ (by simp [blkV]; rfl)
             simp -implicitDefEqProofs (maxSteps := 5000000) (disch := first | assumption | omega | (simp only [dz, dl, Nat.zero_add, Nat.reduceAdd, Bool.and_self]; done) | (simp only [dl]; omega)) only [go_sem, fAdd_eq, i0, i6, i7, i9, i10, i11, ck, e2, er, b1, b2, p4, p5]
             refine ⟨o.f.length - (k + 1), by omega, k + 1, left2 ++ [x], _, rfl, by omega, fu.trans' f4 (fun y hy => .inr (hb3 y hy).1), by simp; omega, fun r hr => by simp [hs1 r hr], ?_, ?_, hgu.fr hwu f4 (fun y hy => by simp [blkV] at hy; subst hy; exact fun hm => (hb3 _ hm).2 rfl), by rw [List.map_append]; exact hg4.gp, ?_, (by first | trivial | rfl | assumption), (by first | trivial | rfl | assumption), rfl, (by first | trivial | rfl | assumption), (by first | trivial | rfl | assumption), (by first | trivial | rfl | assumption)⟩
             · intro r hr'
               rcases List.mem_append.1 hr' with hr' | hr'
               · exact hs2 r hr'
               · simp at hr'; subst hr'
                 by_cases e : r = 0
                 · exact .inr (.inl e)
                 · exact .inr (.inr (.step hre ho hx hr e))
             · intro k' x' hk2 hx' hr'
               by_cases e : k' = k
               · subst e; rw [hx] at hx'; cases hx'; simp
               · simp [hs3 k' x' (by omega) hx' hr']
             · simp [blkV]; omega
         · have : k = o.f.length := by omega
           subst this
           simp -implicitDefEqProofs (maxSteps := 5000000) (disch := first | assumption | omega | (simp only [dz, dl, Nat.zero_add, Nat.reduceAdd, Bool.and_self]; done) | (simp only [dl]; omega)) only [go_sem, fAdd_eq, i0, i6, i7, i9, i10, i11, ck, e2]
           refine ⟨left2.length + leftW os 1 (out ++ [n]), ?_, out ++ [n], left2, _, lv2, rfl, by omega, fu, ⟨fun r hr => ?_, fun r hr => ?_, fun r hr => ?_, fun r hr o' ho' k x hx hb => ?_, ?_⟩, by simp; omega, hgu, hgp3, fun b hb' => ⟨(hb3 b hb').1, by simp [blkV]; exact (hb3 b hb').2⟩, by simp [blkV]; omega, (by first | trivial | rfl | assumption), rfl, (by first | trivial | rfl | assumption)⟩
           · simp; omega
           · rcases List.mem_append.1 hr with hr | hr
             · exact hI.so r hr
             · simp at hr; subst hr; exact hre
           · rcases hs2 r hr with h | h
             · exact hI.sl r (by simp [h])
             · exact h
           · rcases hI.ro r hr with h | h | h
             · exact .inl h
             · exact .inr (.inl (by simp [h]))
             · rcases List.mem_append.1 h with h | h
               · exact .inr (.inr (hs1 r h))
               · simp at h; subst h; exact .inr (.inl (by simp))
           · rcases List.mem_append.1 hr with hr | hr
             · rcases hI.cl r hr o' ho' k x hx hb with h | h | h
               · exact .inl h
               · exact .inr (.inl (by simp [h]))
               · rcases List.mem_append.1 h with h | h
                 · exact .inr (.inr (hs1 x h))
                 · simp at h; subst h; exact .inr (.inl (by simp))
             · simp at hr; subst hr
               rw [ho] at ho'; cases ho'
               exact .inr (.inr (hs3 k x (List.getElem?_eq_some_iff.1 hx).1 hx hb))
           · rw [List.nodup_append]
             exact ⟨hI.nd, by simp, fun a ha b hb' => by simp at hb'; subst hb'; rintro rfl; exact hnm ha⟩
end
end
end Go.Proofs.YtgkcpceppmppfaaLab
namespace Go.Proofs.YtgkcpceppmppfaaLab
open Go
set_option linter.all false
set_option maxRecDepth 10000
noncomputable section
theorem look_more : ∀ {os : List O} {l : List O} {r : Int} {o : O}, look os r = some o → look (os ++ l) r = some o
 | [], l, r, o, h => by cases h
 | x :: os, l, r, o, h => by
   unfold look at h ⊢
   simp only [List.cons_append]
   split at h
   · rename_i c; rw [if_pos c]; exact h
   · rename_i c; rw [if_neg c]; exact look_more h
theorem look_last : ∀ {os : List O} {x : O} {r : Int} {o : O}, look (os ++ [x]) r = some o → look os r = some o ∨ o = x
 | [], x, r, o, h => by
   simp only [List.nil_append, look] at h
   split at h
   · cases h; exact .inr rfl
   · cases h
 | y :: os, x, r, o, h => by
   simp only [List.cons_append, look] at h ⊢
   split at h
   · rename_i c; rw [if_pos c]; exact .inl h
   · rename_i c; rw [if_neg c]; exact look_last h
theorem RefOk.snoc {os : List O} {shapes : List (List Bool)} (h : RefOk os shapes) (sh : Int) (m : Nat) : RefOk (os ++ [newO sh m]) shapes := fun r o ho k x hx hb => by
 rcases look_last ho with ho | rfl
 · rcases h r o ho k x hx hb with h | h
   · exact .inl h
   · obtain ⟨o', ho'⟩ := Option.isSome_iff_exists.1 h
     exact .inr (by unfold at?; rw [look_more ho']; rfl)
 · left
   simp only [newO, List.getElem?_replicate] at hx
   split at hx
   · cases hx; rfl
   · cases hx
theorem refB_more {os : List O} {shapes : List (List Bool)} {l : List Bool} (ok : ShOk os shapes) {o : O} (ho : o ∈ os) (k : Nat) : refB (shapes ++ [l]) o k = refB shapes o k := by
 unfold refB
 rcases ok o ho with h | h | ⟨h, x, hx, _⟩
 · rw [h]; simp
 · rw [h]; simp
 · rw [List.getElem?_append_left (List.getElem?_eq_some_iff.1 hx).1]
theorem RefOk.more {os : List O} {shapes : List (List Bool)} (h : RefOk os shapes) (ok : ShOk os shapes) (l : List Bool) : RefOk os (shapes ++ [l]) := fun r o ho k x hx hb => by
 rw [refB_more ok (at_mem ho)] at hb
 exact h r o ho k x hx hb
theorem at_turn {g : O → O} (hg : ∀ o, (g o).f.length = o.f.length) {os : List O} {r : Int} {o : O} (ho : at? os r = some o) (r' : Int) : at? (turn g os (r - 1)) r' = (at? os r').map fun y => if r' = r then g y else y := by
 have h := turn_mapAt (φ := fun _ o => o) g (fun _ _ => rfl) os 1 (r - 1) o ho
 rw [mapAt_id] at h
 rw [h, at_mapAt (fun x y => by split <;> simp [hg])]
 congr 1
 funext y
 by_cases c : r' = r
 · rw [if_pos c, if_pos (by omega)]
 · rw [if_neg c, if_neg (by omega)]
theorem RefOk.setTag {os : List O} {shapes : List (List Bool)} (h : RefOk os shapes) {r v : Int} {o : O} (ho : at? os r = some o) : RefOk (turn (O.setTag v) os (r - 1)) shapes := fun r' o' ho' k x hx hb => by
 rw [at_turn (g := O.setTag v) (fun o => rfl) ho] at ho' ⊢
 cases hq : at? os r' with
 | none => rw [hq] at ho'; cases ho'
 | some y =>
   rw [hq] at ho'
   simp only [Option.map_some, Option.some.injEq] at ho'
   have hy : y.f[k]? = some x ∧ refB shapes y k = true := by
    split at ho' <;> subst ho' <;> exact ⟨hx, hb⟩
   rcases h r' y hq k x hy.1 hy.2 with h | h
   · exact .inl h
   · right
     obtain ⟨o2, ho2⟩ := Option.isSome_iff_exists.1 h
     rw [ho2]; rfl
theorem RefOk.set {os : List O} {shapes : List (List Bool)} (h : RefOk os shapes) {r k0 v y : Int} (hg : getO os r k0 = some y) (hc : (refO os shapes r k0 && !(decide (v = 0) || (at? os v).isSome)) = false) : RefOk (turn (O.setF k0 v) os (r - 1)) shapes := by
 obtain ⟨o, ho, h0, h1, h2⟩ := getO_some hg
 have hls : ∀ o : O, (O.setF k0 v o).f.length = o.f.length := fun o => by simp [O.setF]
 have hsome : ∀ x : Int, (at? os x).isSome → (at? (turn (O.setF k0 v) os (r - 1)) x).isSome := fun x hx => by
  obtain ⟨o2, ho2⟩ := Option.isSome_iff_exists.1 hx
  rw [at_turn hls ho, ho2]; rfl
 intro r' o' ho' k x hx hb
 rw [at_turn hls ho] at ho'
 cases hq : at? os r' with
 | none => rw [hq] at ho'; cases ho'
 | some w =>
   rw [hq] at ho'
   simp only [Option.map_some, Option.some.injEq] at ho'
   by_cases c : r' = r
   · rw [if_pos c] at ho'
     subst ho'; subst c
     rw [ho] at hq; cases hq
     have hb : refB shapes o k = true := hb
     simp only [O.setF] at hx
     by_cases e : k0.toNat = k
     · subst e
       rw [List.getElem?_set_self (by omega)] at hx
       cases hx
       have hr := refO_at (shapes := shapes) ho (k := k0.toNat) (by omega)
       rw [show ((k0.toNat : Nat) : Int) = k0 by omega] at hr
       rw [hr, hb, Bool.true_and, Bool.not_eq_false', Bool.or_eq_true] at hc
       rcases hc with hc | hc
       · exact .inl (of_decide_eq_true hc)
       · exact .inr (hsome _ hc)
     · rw [List.getElem?_set_ne e] at hx
       rcases h r' o ho k x hx hb with h | h
       · exact .inl h
       · exact .inr (hsome _ h)
   · rw [if_neg c] at ho'
     subst ho'
     rcases h r' w hq k x hx hb with h | h
     · exact .inl h
     · exact .inr (hsome _ h)
theorem at_starts {l : List O} {i : Nat} {o : O} (h : l[i]? = some o) : at? l ((1 + (lay (l.take i)).length : Nat) : Int) = some o := by
 obtain ⟨h1, rfl⟩ := List.getElem?_eq_some_iff.1 h
 have e : l = l.take i ++ l[i] :: l.drop (i + 1) := by rw [← List.drop_eq_getElem_cons h1, List.take_append_drop]
 have := look_of (l.take i) l[i] (l.drop (i + 1))
 rw [← e] at this
 unfold at?
 rw [show ((1 + (lay (l.take i)).length : Nat) : Int) - 1 = ((lay (l.take i)).length : Nat) by omega, this]
theorem RefOk.slide {os : List O} {shapes : List (List Bool)} {keep : List Int} (hK : Kept os keep) (hC : Clo os shapes keep keep) : RefOk (slid os shapes keep) shapes := by
 intro r o ho k x hx hb
 have hm := at_mem ho
 obtain ⟨y, hy, rfl⟩ := List.mem_map.1 hm
 obtain ⟨r0, hr0, ha⟩ := List.mem_filterMap.1 hy
 have hb : refB shapes y k = true := hb
 simp only [mvO, List.getElem?_mapIdx] at hx
 cases hq : y.f[k]? with
 | none => rw [hq] at hx; cases hx
 | some x0 =>
   rw [hq] at hx
   simp only [Option.map_some, Option.some.injEq] at hx
   unfold mvF at hx
   rw [hb, if_pos rfl] at hx
   unfold mv at hx
   by_cases c : x0 = 0
   · rw [if_pos c] at hx; exact .inl hx.symm
   · rw [if_neg c] at hx
     obtain ⟨i, hi⟩ := idxI_mem ((hC r0 hr0 y ha k x0 hq hb).resolve_left c)
     rw [hi] at hx
     have hil := (List.getElem?_eq_some_iff.1 (idxI_get hi)).1
     have ht := tos_get hK.inn hil
     simp only at hx
     rw [ht] at hx
     right
     obtain ⟨o2, ho2⟩ := Option.isSome_iff_exists.1 (hK.inn _ (List.mem_of_getElem? (idxI_get hi)))
     have h1 : (objs os keep)[i]? = some o2 := by rw [objs_get hK.inn (idxI_get hi), ho2]
     have h2 : (slid os shapes keep)[i]? = some (mvO os shapes keep o2) := by unfold slid; rw [List.getElem?_map, h1]; rfl
     have h3 := at_starts h2
     rw [slid_take hK.inn, lay_map_len] at h3
     simp only [Option.getD_some] at hx
     rw [← hx, h3]; rfl
end
end Go.Proofs.YtgkcpceppmppfaaLab
namespace Go.Proofs.YtgkcpceppmppfaaLab
open Go
set_option linter.all false
set_option maxRecDepth 10000
noncomputable section
structure Two (b0 : Nat) (t : St) (p bw bb n bm rp : Nat) (os : List O) (z : List Int) (shapes : List (List Bool)) (F FO FS : List Nat) (w : Int) : Prop where
 h : HS t p bw bb n os z shapes bm F
 r : RR t rp w os shapes FO FS
 nw : (n : Int) = w + 1
 rf : RefOk os shapes
 dj : ∀ b ∈ p :: bw :: bb :: bm :: F, b0 ≤ b ∧ b ∉ rp :: (FO ++ FS)
 dr : ∀ b ∈ rp :: (FO ++ FS), b0 ≤ b
section
variable {b0 : Nat} {t : St} {p bw bb n bm rp : Nat} {os : List O} {z : List Int} {shapes : List (List Bool)} {F FO FS : List Nat} {w : Int} (T : Two b0 t p bw bb n bm rp os z shapes F FO FS w)
include T
theorem Two.wf : Wf t := T.h.wf
theorem Two.lt : ∀ b ∈ p :: bw :: bb :: bm :: F, b < t.next := fun b hb => by
 obtain ⟨_, _, _, n4, n5, n6, n7⟩ := T.h.ne
 simp only [List.mem_cons] at hb
 rcases hb with rfl | rfl | rfl | rfl | hb
 · exact n5
 · exact n6
 · exact n7
 · exact n4
 · exact (T.h.dF b hb).2.2.2.1
theorem Two.ltR : ∀ b ∈ rp :: (FO ++ FS), b < t.next := fun b hb => by
 obtain ⟨lV, sh, h1, _⟩ := T.r.ex
 simp only [List.mem_cons, List.mem_append] at hb
 rcases hb with rfl | hb | hb
 · exact cl_lt T.r.wf h1
 · exact T.r.ltO b hb
 · exact T.r.ltS b hb
theorem Two.fr {t' : St} (f : Fr t t' []) : Two b0 t' p bw bb n bm rp os z shapes F FO FS w :=
 ⟨T.h.fr f (by simp) (by simp) (by simp) (by simp) (by simp), T.r.fr f (by simp) (by simp) (by simp), T.nw, T.rf, T.dj, T.dr⟩
theorem Two.r1 {t1 : St} {l : List Nat} (f : Fr t t1 l) (hl : ∀ b ∈ l, b ∈ p :: bw :: bb :: bm :: F) : RR t1 rp w os shapes FO FS :=
 T.r.fr f (fun h => (T.dj _ (hl _ h)).2 (by simp)) (fun b hb h => (T.dj _ (hl _ h)).2 (by simp [hb])) (fun b hb h => (T.dj _ (hl _ h)).2 (by simp [hb]))
theorem Two.make {t1 t2 : St} {l l2 : List Nat} {os' : List O} {z' : List Int} {shapes' : List (List Bool)} {F' FO' FS' : List Nat} (f : Fr t t1 l) (h' : HS t1 p bw bb n os' z' shapes' bm F') (hF : ∀ b ∈ F', b ∈ F ∨ t.next ≤ b)
 (f2 : Fr t1 t2 l2) (hl2 : ∀ b ∈ l2, b ∈ rp :: (FO ++ FS)) (r' : RR t2 rp w os' shapes' FO' FS') (hO : ∀ b ∈ FO', b ∈ FO ∨ t1.next ≤ b) (hS : ∀ b ∈ FS', b ∈ FS ∨ t1.next ≤ b) (rf : RefOk os' shapes') : Two b0 t2 p bw bb n bm rp os' z' shapes' F' FO' FS' w := by
 have hlt := T.ltR
 have hltP := T.lt
 have hb0 : b0 ≤ t.next := by have := (T.dr rp (by simp)); have := hlt rp (by simp); omega
 have hn1 := f.nx
 have hdj : ∀ b ∈ p :: bw :: bb :: bm :: F', b0 ≤ b ∧ b < t1.next ∧ b ∉ rp :: (FO ++ FS) := fun b hb => by
  by_cases hm : b ∈ p :: bw :: bb :: bm :: F
  · exact ⟨(T.dj b hm).1, Nat.lt_of_lt_of_le (hltP b hm) hn1, (T.dj b hm).2⟩
  · have hm2 : t.next ≤ b ∧ b ∈ F' := by
     simp only [List.mem_cons, not_or] at hb hm
     rcases hb with h | h | h | h | h
     · exact absurd h hm.1
     · exact absurd h hm.2.1
     · exact absurd h hm.2.2.1
     · exact absurd h hm.2.2.2.1
     · exact ⟨(hF b h).resolve_left hm.2.2.2.2, h⟩
    exact ⟨by omega, (h'.dF b hm2.2).2.2.2.1, fun h => by have := hlt b h; omega⟩
 refine ⟨h'.fr f2 ?_ ?_ ?_ ?_ ?_, r', T.nw, rf, fun b hb => ⟨(hdj b hb).1, fun h => ?_⟩, fun b hb => ?_⟩
 · exact fun h => (hdj p (by simp)).2.2 (hl2 _ h)
 · exact fun h => (hdj bw (by simp)).2.2 (hl2 _ h)
 · exact fun h => (hdj bb (by simp)).2.2 (hl2 _ h)
 · exact fun h => (hdj bm (by simp)).2.2 (hl2 _ h)
 · exact fun b hb h => (hdj b (by simp [hb])).2.2 (hl2 _ h)
 · obtain ⟨h1, h2, h3⟩ := hdj b hb
   simp only [List.mem_cons, List.mem_append, not_or] at h h3
   rcases h with h | h | h
   · exact h3.1 h
   · rcases hO b h with h | h
     · exact h3.2.1 h
     · omega
   · rcases hS b h with h | h
     · exact h3.2.2 h
     · omega
 · simp only [List.mem_cons, List.mem_append] at hb
   rcases hb with rfl | hb | hb
   · exact T.dr _ (by simp)
   · rcases hO b hb with h | h
     · exact T.dr b (by simp [h])
     · omega
   · rcases hS b hb with h | h
     · exact T.dr b (by simp [h])
     · omega
theorem Two.addO {sh : Int} {m : Nat} {t1 : St} {z' : List Int} (f : Fr t t1 [p, bw, bb]) (h' : HS t1 p bw bb n (os ++ [newO sh m]) z' shapes bm F) {t2 : St} {FO' : List Nat} (f2 : Fr t1 t2 (rp :: FO)) (r' : RR t2 rp w (os ++ [newO sh m]) shapes FO' FS) (hO : ∀ b ∈ FO', b ∈ FO ∨ t1.next ≤ b) : Two b0 t2 p bw bb n bm rp (os ++ [newO sh m]) z' shapes F FO' FS w :=
 T.make f h' (fun b hb => .inl hb) f2 (fun b hb => by simp only [List.mem_cons, List.mem_append] at hb ⊢; exact hb.elim .inl (fun h => .inr (.inl h))) r' hO (fun b hb => .inl hb) (T.rf.snoc _ _)
theorem Two.size : (lay os).length + z.length = w ∧ w ≤ 16384 := by
 obtain ⟨sh, hA, _⟩ := T.h.H
 have := hA.size
 have := T.nw
 have := T.r.w0
 omega
theorem Two.array (d : Nat) (b : Bool) (m : Int) : ∃ t1 t2 x y, (K (d + 3)).call 35 [.ptr p 0, .bool b, .i m] t = some (.tup [.i x, .i y], t1) ∧ Fr t t1 [p, bw, bb] ∧ (K (d + 3)).call 36 [.ptr rp 0, .bool b, .i m] t1 = some (.tup [.i x, .i y], t2) ∧ Fr t1 t2 (rp :: FO) ∧ ∃ os' z' FO', Two b0 t2 p bw bb n bm rp os' z' shapes F FO' FS w := by
 obtain ⟨sh, hA, hS⟩ := T.h.H
 have hz := hA.size
 have hnw := T.nw
 have hw := T.wf
 by_cases c1 : m < 0 ∨ 256 < m
 · exact ⟨t, t, _, _, (hA.array d b m).1 c1, Fr.refl hw _, (T.r.array d b m).1 c1, Fr.refl hw _, _, _, _, T⟩
 · by_cases c2 : 1 + (lay os).length + 3 + m ≤ (n : Int)
   · obtain ⟨t1, e1, _, f1, _⟩ := (hA.array d b m).2.2 (by omega) (by omega) c2
     have h1 : HS t1 p bw bb n (os ++ [newO (if b then -2 else -1) m.toNat]) (z.drop (3 + m.toNat)) shapes bm F := by
      refine T.h.turn f1 (fun sh' h' => ?_) ?_
      · obtain ⟨t1', e1', h1', _⟩ := (h'.array d b m).2.2 (by omega) (by omega) c2
        rw [e1] at e1'; cases e1'; exact h1'
      · intro o ho
        rcases List.mem_append.1 ho with ho | ho
        · exact T.h.ok o ho
        · simp at ho; subst ho
          cases b
          · exact .inl rfl
          · exact .inr (.inl rfl)
     obtain ⟨t2, FO', e2, r2, hO, f2⟩ := ((T.r1 f1 (by intro b hb; simp at hb ⊢; rcases hb with h | h | h <;> simp [h])).array d b m).2.2 (by omega) (by omega) (by omega)
     exact ⟨t1, t2, _, _, e1, f1, e2, f2, _, _, _, T.addO f1 h1 f2 r2 hO⟩
   · exact ⟨t, t, _, _, (hA.array d b m).2.1 (by omega) (by omega) (by omega), Fr.refl hw _, (T.r.array d b m).2.1 (by omega) (by omega) (by omega), Fr.refl hw _, _, _, _, T⟩
theorem Two.object (d : Nat) (r : Int) (hsh : shapes.length < 100000) (hlen : ∀ l ∈ shapes, l.length < 20000) : ∃ t1 t2 x y, (K (d + 3)).call 37 [.ptr p 0, .i r] t = some (.tup [.i x, .i y], t1) ∧ Fr t t1 [p, bw, bb] ∧ (K (d + 3)).call 38 [.ptr rp 0, .i r] t1 = some (.tup [.i x, .i y], t2) ∧ Fr t1 t2 (rp :: FO) ∧ ∃ os' z' FO', Two b0 t2 p bw bb n bm rp os' z' shapes F FO' FS w := by
 obtain ⟨sh, hA, hS⟩ := T.h.H
 have hz := hA.size
 have hnw := T.nw
 have hw := T.wf
 by_cases c1 : r < 0 ∨ (shapes.length : Int) ≤ r
 · exact ⟨t, t, _, _, (T.h.object d r hsh).1 c1, Fr.refl hw _, (T.r.object d r hsh).1 c1, Fr.refl hw _, _, _, _, T⟩
 · have hl : shapes[r.toNat]? = some shapes[r.toNat] := List.getElem?_eq_getElem (by omega)
   have hln := hlen _ (List.mem_of_getElem? hl)
   generalize shapes[r.toNat] = l at *
   by_cases c2 : 1 + (lay os).length + 3 + l.length ≤ n
   · obtain ⟨t1, e1, h1, f1, _⟩ := (T.h.object d r hsh).2.2 l (by omega) hl hln c2
     obtain ⟨t2, FO', e2, r2, hO, f2⟩ := ((T.r1 f1 (by intro b hb; simp at hb ⊢; rcases hb with h | h | h <;> simp [h])).object d r hsh).2.2 l (by omega) hl hln (by omega)
     exact ⟨t1, t2, _, _, e1, f1, e2, f2, _, _, _, T.addO f1 h1 f2 r2 hO⟩
   · exact ⟨t, t, _, _, (T.h.object d r hsh).2.1 l (by omega) hl hln (by omega), Fr.refl hw _, (T.r.object d r hsh).2.1 l (by omega) hl hln (by omega), Fr.refl hw _, _, _, _, T⟩
theorem Two.shape (d : Nat) {v : V} {l : List Bool} (h : SL t v (l.map .bool)) (hv : ∀ b ∈ blkV v, b < b0) (hb0 : b0 ≤ t.next) (hb : l.length ≤ 1000) (hsh : shapes.length ≤ 1000) :
 ∃ t1 t2 x, (K (d + 2)).call 33 [.ptr p 0, v] t = some (.i x, t1) ∧ Fr t t1 (p :: bm :: F) ∧ (K (d + 2)).call 34 [.ptr rp 0, v] t1 = some (.i x, t2) ∧ Fr t1 t2 (rp :: FS) ∧ ∃ shapes' F' FS', Two b0 t2 p bw bb n bm rp os z shapes' F' FO FS' w ∧ (shapes' = shapes ∨ shapes' = shapes ++ [l]) := by
 have hltb := T.dj
 have hw := T.wf
 have hne : ∀ b ∈ blkV v, ∀ x ∈ p :: bw :: bb :: bm :: F, b ≠ x := fun b hb x hx e => by have := hv b hb; have := (hltb x hx).1; omega
 obtain ⟨x1, t1, e1, hq⟩ := T.h.shape h (fun b hb => ⟨by have := hv b hb; omega, hne b hb p (by simp), hne b hb bm (by simp), fun hm => hne b hb b (by simp [hm]) rfl⟩) (by omega) (by omega) d
 unfold ShapeQ at hq
 cases hi : idxL l shapes with
 | some i =>
   rw [hi] at hq
   obtain ⟨rfl, h1, f1⟩ := hq
   have T1 := T.fr f1
   obtain ⟨x2, t2, e2, hq2⟩ := T1.r.shapeN (h.fr hw f1 (by simp)) (by omega) (by omega) (d + 1)
   rw [hi] at hq2
   obtain ⟨rfl, rfl⟩ := hq2
   exact ⟨_, _, _, e1, f1.mono (by simp), e2, Fr.refl f1.wf _, _, _, _, T1, .inl rfl⟩
 | none =>
   rw [hi] at hq
   obtain ⟨rfl, ⟨F', h1, hF⟩, f1⟩ := hq
   have R1 := T.r1 f1 (by intro b hb; simp only [List.mem_cons] at hb ⊢; rcases hb with h | h | h <;> simp [h])
   obtain ⟨x2, t2, e2, hq2⟩ := R1.shapeN (h.fr hw f1 (fun b hb hm => by simp only [List.mem_cons] at hm; rcases hm with h | h | h; exact hne b hb p (by simp) h; exact hne b hb bm (by simp) h; exact hne b hb b (by simp [h]) rfl)) (by omega) (by omega) (d + 1)
   rw [hi] at hq2
   obtain ⟨rfl, FS', r2, hS2, f2⟩ := hq2
   exact ⟨t1, t2, _, e1, f1, e2, f2, _, _, _, T.make f1 h1 hF f2 (by intro b hb; simp only [List.mem_cons, List.mem_append] at hb ⊢; exact hb.elim .inl (fun h => .inr (.inr h))) r2 (fun b hb => .inl hb) hS2 (T.rf.more T.h.ok l), .inr rfl⟩
end
end
end Go.Proofs.YtgkcpceppmppfaaLab
namespace Go.Proofs.YtgkcpceppmppfaaLab
open Go
set_option linter.all false
set_option maxRecDepth 10000
noncomputable section
theorem fok62 : fok.get 62 = some true := (rfl)
def okRf (os : List O) (r : Int) : Bool := decide (r = 0) || (at? os r).isSome
theorem okRf_iff {os : List O} {r : Int} : okRf os r = true ↔ r = 0 ∨ (at? os r).isSome := by
 unfold okRf; rw [Bool.or_eq_true, decide_eq_true_eq]
theorem rootOk_iff {os : List O} {roots : List Int} : RootOk os roots ↔ roots.all (okRf os) = true := by
 unfold RootOk; rw [List.all_eq_true]
 exact ⟨fun h r hr => okRf_iff.2 (h r hr), fun h r hr => okRf_iff.1 (h r hr)⟩
section
variable {s : St} {p bw bb n bm : Nat} {os : List O} {z : List Int} {shapes : List (List Bool)} {F : List Nat} (H : HS s p bw bb n os z shapes bm F)
include H
theorem HS.isN (d : Nat) (r : Int) : (K (d + 3)).call 53 [.ptr p 0, .i r] s = some (.bool (okRf os r), s) := by
 obtain ⟨sh, hA, hS⟩ := H.H
 have es := hA.shape d r
 rw [op53]
 unfold okRf
 by_cases c : r = 0
 · simp -implicitDefEqProofs (maxSteps := 5000000) (disch := first | assumption | omega | (simp only [dz, dl, Nat.zero_add, Nat.reduceAdd, Bool.and_self]; done) | (simp only [dl]; omega)) only [go_sem, c, eq_self, Bool.true_or]
 · have c3 : decide (-3 < shapeO os r) = (at? os r).isSome := by
    unfold shapeO
    cases ho : at? os r with
    | none => simp
    | some o =>
      rcases H.ok o (at_mem ho) with h | h | ⟨h, _⟩ <;> simp <;> omega
   simp -implicitDefEqProofs (maxSteps := 5000000) (disch := first | assumption | omega | (simp only [dz, dl, Nat.zero_add, Nat.reduceAdd, Bool.and_self]; done) | (simp only [dl]; omega)) only [go_sem, c, es, c3, Bool.false_or]
theorem HS.is62 {hb : Nat} (hh : s.cl hb = some [.ptr p 0]) (d : Nat) (r : Int) : (K (d + 4)).call 62 [.i r, .ptr hb 0] s = some (.bool (!okRf os r), s) := by
 have e1 := H.isN d r
 rw [op62]
 simp -implicitDefEqProofs (maxSteps := 5000000) (disch := first | assumption | omega | (simp only [dz, dl, Nat.zero_add, Nat.reduceAdd, Bool.and_self]; done) | (simp only [dl]; omega)) only [go_sem, dLd_at H.wf hh, e1]
theorem HS.index {hb : Nat} (hh : s.cl hb = some [.ptr p 0]) {v : V} {roots : List Int} (hk : SL s v (roots.map .i)) (hl : roots.length ≤ 100000) (d : Nat) : Ret ((K (d + 5)).call 72 [v, .func 62 [] [.ptr hb 0]] s) fun x t => t = s ∧ ∃ j : Int, x = .i j ∧ decide (0 ≤ j) = !(roots.all (okRf os)) := by
 have hw := H.wf
 have hlen := hk.len
 rw [List.length_map] at hlen
 simp -implicitDefEqProofs (maxSteps := 5000000) (disch := first | assumption | omega | (simp only [dz, dl, Nat.zero_add, Nat.reduceAdd, Bool.and_self]; done) | (simp only [dl]; omega)) only [op72, go_sem, fAdd_eq, hlen]
 refine loop_at (Q := fun r => Ret (retR _ (seqR (blkR 0 r) _)) _) (fun m e t => ∃ j : Nat, m = roots.length - j ∧ j ≤ roots.length ∧ t = s ∧ (roots.take j).all (okRf os) = true ∧ g0 e = v ∧ g1 e = .func 62 [] [.ptr hb 0] ∧ g7 e = .i (roots.length : Nat) ∧ g8 e = .i j) ?_ (n := roots.length) (by omega) ⟨0, by omega, by omega, rfl, by simp, (by first | trivial | rfl | assumption), (by first | trivial | rfl | assumption), (by first | trivial | rfl | assumption), (by first | trivial | rfl | assumption)⟩
 rintro m e t ⟨j, rfl, hj, rfl, ha, i0, i1, i7, i8⟩
 replace i0 : e.a0.a0 = _ := i0
 replace i1 : e.a0.a1 = _ := i1
 replace i7 : e.a0.a7 = _ := i7
 replace i8 : e.a0.a8 = _ := i8
 by_cases c : (j : Int) < ((roots.length : Nat) : Int)
 · obtain ⟨r, hr⟩ : ∃ r, roots[j]? = some r := ⟨_, List.getElem?_eq_getElem (by omega)⟩
   obtain ⟨q, a1, a2⟩ := hk.at hw (j := j) (x := .i r) (by rw [List.getElem?_map, hr]; rfl)
   have e1 := H.is62 hh d r
   have hts := take_snoc hr
   cases ho : okRf os r with
   | true =>
     rw [ho] at e1
     simp -implicitDefEqProofs (maxSteps := 5000000) (disch := first | assumption | omega | (simp only [dz, dl, Nat.zero_add, Nat.reduceAdd, Bool.and_self]; done) | (simp only [dl]; omega)) only [go_sem, fAdd_eq, i0, i1, i7, i8, c, a1, a2, cvV_func fok62, List.nil_append, List.cons_append, e1]
     exact ⟨roots.length - (j + 1), by omega, j + 1, rfl, by omega, (by first | trivial | rfl | assumption), by rw [hts, List.all_append, ha]; simp [ho], (by first | trivial | rfl | assumption), (by first | trivial | rfl | assumption), (by first | trivial | rfl | assumption), (by first | trivial | rfl | assumption)⟩
   | false =>
     rw [ho] at e1
     simp -implicitDefEqProofs (maxSteps := 5000000) (disch := first | assumption | omega | (simp only [dz, dl, Nat.zero_add, Nat.reduceAdd, Bool.and_self]; done) | (simp only [dl]; omega)) only [go_sem, fAdd_eq, i0, i1, i7, i8, c, a1, a2, cvV_func fok62, List.nil_append, List.cons_append, e1]
     refine ⟨(by first | trivial | rfl | assumption), _, rfl, ?_⟩
     have : roots.all (okRf os) = false := by
      rw [← Bool.not_eq_true, List.all_eq_true]
      intro h; rw [h r (List.mem_of_getElem? hr)] at ho; cases ho
     rw [this, decide_eq_true (by omega)]; rfl
 · have : j = roots.length := by omega
   subst this
   rw [List.take_length] at ha
   simp -implicitDefEqProofs (maxSteps := 5000000) (disch := first | assumption | omega | (simp only [dz, dl, Nat.zero_add, Nat.reduceAdd, Bool.and_self]; done) | (simp only [dl]; omega)) only [go_sem, fAdd_eq, i0, i1, i7, i8, c]
   exact ⟨(by first | trivial | rfl | assumption), _, rfl, by rw [ha]; rfl⟩
theorem HS.contains {hb : Nat} (hh : s.cl hb = some [.ptr p 0]) {v : V} {roots : List Int} (hk : SL s v (roots.map .i)) (hl : roots.length ≤ 100000) (d : Nat) : (K (d + 6)).call 61 [v, .func 62 [] [.ptr hb 0]] s = some (.bool (!(roots.all (okRf os))), s) := by
 obtain ⟨x, t, e1, rfl, j, rfl, h⟩ := H.index hh hk hl d
 rw [op61]
 simp -implicitDefEqProofs (maxSteps := 5000000) (disch := first | assumption | omega | (simp only [dz, dl, Nat.zero_add, Nat.reduceAdd, Bool.and_self]; done) | (simp only [dl]; omega)) only [go_sem, e1, h]
end
end
end Go.Proofs.YtgkcpceppmppfaaLab
namespace Go.Proofs.YtgkcpceppmppfaaLab
open Go
set_option linter.all false
set_option maxRecDepth 10000
noncomputable section
def metP (met : List Int) : List (Int × Int) := met.mapIdx fun i x => (x, (i : Int))
def metE (met : List Int) : List (V × V) := pairsI (metP met)
theorem metP_fst (met : List Int) : (metP met).map (·.1) = met := by
 unfold metP
 refine List.ext_getElem? fun i => ?_
 simp
 cases met[i]? <;> rfl
theorem metE_len (met : List Int) : (metE met).length = met.length := by simp [metE, pairsI, metP]
theorem metE_snoc (met : List Int) (r : Int) : metE (met ++ [r]) = metE met ++ [(.i r, .i (met.length : Nat))] := by
 unfold metE metP
 rw [List.mapIdx_concat]
 simp [pairsI]
theorem findP_none {x : Int} : ∀ {l : List (Int × Int)} {j : Nat}, x ∉ l.map (·.1) → findP x l j = none
 | [], j, _ => rfl
 | (y, v) :: l, j, h => by
   simp only [List.map_cons, List.mem_cons, not_or] at h
   unfold findP
   rw [if_neg h.1]
   exact findP_none h.2
theorem findP_some {x : Int} : ∀ {l : List (Int × Int)} {j : Nat}, x ∈ l.map (·.1) → ∃ p, findP x l j = some p
 | [], j, h => by simp at h
 | (y, v) :: l, j, h => by
   unfold findP
   by_cases e : x = y
   · rw [if_pos e]; exact ⟨_, rfl⟩
   · rw [if_neg e]
     refine findP_some ?_
     simpa [e] using h
theorem metE_none {met : List Int} {x : Int} (h : x ∉ met) : findV eqKI (.i x) (metE met) 0 = some none := by
 unfold metE
 rw [findV_pairsI, findP_none (by rw [metP_fst]; exact h)]; rfl
theorem metE_some {met : List Int} {x : Int} (h : x ∈ met) : ∃ n v, findV eqKI (.i x) (metE met) 0 = some (some (n, .i v)) := by
 unfold metE
 obtain ⟨p, hp⟩ := findP_some (x := x) (l := metP met) (j := 0) (by rw [metP_fst]; exact h)
 rw [findV_pairsI, hp]; exact ⟨_, _, rfl⟩
theorem dLenM_eq {s : St} {b : Nat} {es : List (V × V)} {bs : List Nat} {cl : Nat} (h : s.mp b = some (es, bs, cl)) : lenMP (.map b) s = some (.i (es.length : Nat)) := by
 show (match mapOf s (.map b) with | some es => some (V.i (Int.ofNat es.length)) | none => none) = _
 rw [mapOf_mp h]; rfl
structure MK (s0 s : St) (m mb p : Nat) (met todo : List Int) (steps : Nat) : Prop where
 f : Fr s0 s []
 hm : s0.next ≤ m ∧ s0.next ≤ mb
 ex : ∃ tv, s.cl m = some [.ptr p 0, .map mb, tv, .i steps] ∧ GP s tv (todo.map .i) ∧ ∀ b ∈ blkV tv, s0.next ≤ b ∧ b ≠ m
 mp : s.mp mb = some (metE met, List.range met.length, met.length)
theorem MK.fr {s0 s s' : St} {m mb p : Nat} {met todo : List Int} {steps : Nat} (h : MK s0 s m mb p met todo steps) (f : Fr s s' []) : MK s0 s' m mb p met todo steps := by
 obtain ⟨tv, h1, h2, h3⟩ := h.ex
 exact ⟨h.f.trans f, h.hm, ⟨tv, f.cl h.f.wf h1 (by simp), h2.fr h.f.wf f (by simp), h3⟩, f.mp h.f.wf h.mp (by simp)⟩
def markM (met : List Int) (r : Int) : List Int := if r ∈ met ∨ r = 0 then met else met ++ [r]
def markT (met todo : List Int) (r : Int) : List Int := if r ∈ met ∨ r = 0 then todo else todo ++ [r]
theorem MK.mark {s0 s : St} {m mb p : Nat} {met todo : List Int} {steps : Nat} (H : MK s0 s m mb p met todo steps) (d : Nat) (r : Int) (hs : steps < 1000000000) (hl : todo.length ≤ 1000000) :
 ∃ s', (K (d + 1)).call 73 [.ptr m 0, .i r] s = some (.tup [], s') ∧ MK s0 s' m mb p (markM met r) (markT met todo r) (steps + 1) := by
 obtain ⟨tv, h1, h2, h3⟩ := H.ex
 have hw := H.f.wf
 have hm := H.mp
 have hne : m ≠ mb := cl_mp_ne hw h1 hm
 obtain ⟨s1, p1, c1, f1, n1⟩ := eSt_ex (s := s) (b := m) (o := 3) (v := .i ((steps : Int) + 1)) hw h1 (by simp) rfl
 simp only [List.set_cons_zero, List.set_cons_succ] at c1
 have m1 := f1.mp hw hm (by simpa using hne.symm)
 have g1' := h2.fr hw f1 (fun b hb => by simp; exact (h3 b hb).2)
 have F1 : Fr s0 s1 [] := H.f.trans' f1 (fun b hb => .inr (by simp at hb; subst hb; exact H.hm.1))
 have hcast : ((steps : Int) + 1) = ((steps + 1 : Nat) : Int) := by omega
 have c1' : s1.cl m = some [.ptr p 0, .map mb, tv, .i ((steps + 1 : Nat) : Int)] := by rw [c1, hcast]
 rw [op73]
 by_cases hin : r ∈ met
 · obtain ⟨n, v, hf⟩ := metE_some hin
   refine ⟨s1, ?_, ?_⟩
   · simp -implicitDefEqProofs (maxSteps := 5000000) (disch := first | assumption | omega | (simp only [dz, dl, Nat.zero_add, Nat.reduceAdd, Bool.and_self]; done) | (simp only [dl]; omega)) only [go_sem, fAdd_eq, dLd_at hw h1, p1, dLd_at f1.wf c1, dLk_eq m1, lkV_some hf]
   · unfold markM markT
     rw [if_pos (.inl hin), if_pos (.inl hin)]
     exact ⟨F1, H.hm, ⟨tv, c1', g1', h3⟩, m1⟩
 · have hf := metE_none hin
   by_cases h0 : r = 0
   · refine ⟨s1, ?_, ?_⟩
     · simp -implicitDefEqProofs (maxSteps := 5000000) (disch := first | assumption | omega | (simp only [dz, dl, Nat.zero_add, Nat.reduceAdd, Bool.and_self]; done) | (simp only [dl]; omega)) only [go_sem, fAdd_eq, dLd_at hw h1, p1, dLd_at f1.wf c1, dLk_eq m1, lkV_none hf, h0, eq_self]
       simp only [h0] at hf
       simp -implicitDefEqProofs (maxSteps := 5000000) (disch := first | assumption | omega | (simp only [dz, dl, Nat.zero_add, Nat.reduceAdd, Bool.and_self]; done) | (simp only [dl]; omega)) only [go_sem, fAdd_eq, dLk_eq m1, lkV_none hf]
     · unfold markM markT
       rw [if_pos (.inr h0), if_pos (.inr h0)]
       exact ⟨F1, H.hm, ⟨tv, c1', g1', h3⟩, m1⟩
   · obtain ⟨s2, p2, m2, f2, n2⟩ := eMu_new (y := .i ((metE met).length : Nat)) f1.wf m1 hf
     have c2 := f2.cl f1.wf c1' (by simpa using hne)
     have g2' := g1'.fr f1.wf f2 (fun b hb => by
      rcases g1' with ⟨_, rfl⟩ | ⟨b1, L, rfl, hc, _⟩
      · simp [blkV] at hb
      · simp [blkV] at hb; subst hb; simp; exact cl_mp_ne f1.wf hc m1)
     obtain ⟨s3, s4, p3, p4, g4', f4, n4⟩ := g2'.push f2.wf (x := .i r) rfl (fun y hy => by obtain ⟨a, _, rfl⟩ := List.mem_map.1 hy; rfl) (by rw [List.length_map]; omega)
     have c4 := f4.cl f2.wf c2 (fun hm' => (h3 _ hm').2 rfl)
     obtain ⟨s5, p5, c5, f5, n5⟩ := eSt_ex (s := s4) (b := m) (o := 2) (v := .slice (s2.next + 1) 0 ((todo.map V.i).length + 1) none 1) f4.wf c4 (by simp) rfl
     simp only [List.set_cons_zero, List.set_cons_succ] at c5
     have hml := cl_lt f2.wf c2
     have hn0 := F1.nx
     have g5' := g4'.fr f4.wf f5 (fun b hb => by simp [blkV] at hb; subst hb; simp; omega)
     have m4 : s4.mp mb = some (metE met ++ [(.i r, .i ((metE met).length : Nat))], List.range met.length ++ [met.length], met.length + 1) := f4.mp f2.wf m2 (fun hm' => by
      rcases g2' with ⟨_, rfl⟩ | ⟨b1, L, rfl, hc, _⟩
      · simp [blkV] at hm'
      · simp [blkV] at hm'; subst hm'; exact cl_mp_ne f2.wf hc m2 rfl)
     have m5 := f5.mp f4.wf m4 (by simpa using hne.symm)
     refine ⟨s5, ?_, ?_⟩
     · simp -implicitDefEqProofs (maxSteps := 5000000) (disch := first | assumption | omega | (simp only [dz, dl, Nat.zero_add, Nat.reduceAdd, Bool.and_self]; done) | (simp only [dl]; omega)) only [go_sem, fAdd_eq, dLd_at hw h1, p1, dLd_at f1.wf c1, dLk_eq m1, lkV_none hf, h0, dLenM_eq m1, p2, dLd_at f2.wf c2, p3, p4, p5]
     · unfold markM markT
       rw [if_neg (by simp [hin, h0]), if_neg (by simp [hin, h0])]
       refine ⟨((F1.trans' f2 (fun b hb => .inr (by simp at hb; subst hb; exact H.hm.2))).trans' f4 (fun b hb => .inr (h3 b hb).1)).trans' f5 (fun b hb => .inr (by simp at hb; subst hb; exact H.hm.1)), H.hm, ⟨_, c5, ?_, fun b hb => ?_⟩, ?_⟩
       · rw [List.map_append]; exact g5'.gp
       · simp [blkV] at hb; subst hb; omega
       · rw [m5, metE_snoc, metE_len, List.length_append, List.length_singleton, List.range_succ]
end
end Go.Proofs.YtgkcpceppmppfaaLab
namespace Go.Proofs.YtgkcpceppmppfaaLab
open Go
set_option linter.all false
set_option maxRecDepth 10000
noncomputable section
theorem markM_mem {met : List Int} {r x : Int} : x ∈ markM met r ↔ x ∈ met ∨ (x = r ∧ r ≠ 0) := by
 unfold markM
 by_cases h : r ∈ met ∨ r = 0
 · rw [if_pos h]
   constructor
   · exact .inl
   · rintro (h' | ⟨rfl, h0⟩)
     · exact h'
     · exact h.resolve_right h0
 · rw [if_neg h, List.mem_append, List.mem_singleton]
   constructor
   · rintro (h' | rfl)
     · exact .inl h'
     · exact .inr ⟨rfl, fun h0 => h (.inr h0)⟩
   · rintro (h' | ⟨rfl, _⟩)
     · exact .inl h'
     · exact .inr rfl
structure MI (os : List O) (shapes : List (List Bool)) (roots met todo out : List Int) : Prop where
 so : ∀ r ∈ met, Reach os shapes roots r
 nd : met.Nodup
 ps : met.Perm (out ++ todo)
theorem MI.mark {os : List O} {shapes : List (List Bool)} {roots met todo out : List Int} (h : MI os shapes roots met todo out) {r : Int} (hr : r = 0 ∨ Reach os shapes roots r) : MI os shapes roots (markM met r) (markT met todo r) out := by
 refine ⟨fun x hx => ?_, ?_, ?_⟩
 · rcases markM_mem.1 hx with hx | ⟨rfl, h0⟩
   · exact h.so x hx
   · exact hr.resolve_left h0
 · unfold markM
   by_cases c : r ∈ met ∨ r = 0
   · rw [if_pos c]; exact h.nd
   · rw [if_neg c, List.nodup_append]
     exact ⟨h.nd, by simp, fun a ha b hb e => by simp at hb; subst hb; subst e; exact c (.inl ha)⟩
 · unfold markM markT
   by_cases c : r ∈ met ∨ r = 0
   · rw [if_pos c, if_pos c]; exact h.ps
   · rw [if_neg c, if_neg c, ← List.append_assoc]; exact h.ps.append_right _
def DoneM (os : List O) (shapes : List (List Bool)) (met out : List Int) : Prop := ∀ r ∈ out, ∀ o, at? os r = some o → ∀ (k : Nat) x, o.f[k]? = some x → refB shapes o k = true → x = 0 ∨ x ∈ met
theorem DoneM.mono {os : List O} {shapes : List (List Bool)} {met met' out : List Int} (h : DoneM os shapes met out) (hm : ∀ x ∈ met, x ∈ met') : DoneM os shapes met' out := fun r hr o ho k x hx hb => (h r hr o ho k x hx hb).imp_right (hm x)
theorem rnd_inv {r : Res} {N : E → St → Prop} (h : rnd r N fun _ => False) : ∃ e s, r = .nrm e s ∧ N e s := by
 unfold rnd at h
 cases r with
 | nrm e s => exact ⟨e, s, rfl, h⟩
 | _ => exact h.elim
section
variable {s0 : St} {p bw bb n bm : Nat} {os : List O} {z : List Int} {shapes : List (List Bool)} {F : List Nat} (H : HS s0 p bw bb n os z shapes bm F)
include H
theorem HS.lay_le : (lay os).length ≤ 20000 := by
 obtain ⟨sh, hA, _⟩ := H.H
 have := hA.size
 have := hA.nn
 omega
theorem MK.fields (hRf : RefOk os shapes) {s : St} {m mb : Nat} {met todo roots out : List Int} {steps : Nat} (M : MK s0 s m mb p met todo steps) {r : Int} {o : O} (ho : at? os r = some o) (I : MI os shapes roots met todo (out ++ [r])) (hR : Reach os shapes roots r) (hst0 : steps ≤ 100000000) (d : Nat) {e : E} (i0 : g0 e = .ptr m 0) (i6 : g6 e = .i r) (i57 : g57 e = .i (o.f.length : Nat)) (i58 : g58 e = .i 0) (hl : met.length ≤ 100000) :
 rnd (p63_28 (K (d + 4)) e s) (fun e' t => g0 e' = .ptr m 0 ∧ ∃ met' todo' steps', MK s0 t m mb p met' todo' steps' ∧ MI os shapes roots met' todo' (out ++ [r]) ∧ (∀ x ∈ met, x ∈ met') ∧ met'.length ≤ met.length + o.f.length ∧ steps' ≤ steps + 2 * o.f.length ∧ (∀ (k : Nat) x, o.f[k]? = some x → refB shapes o k = true → x = 0 ∨ x ∈ met')) (fun _ => False) := by
 have hol : o.f.length ≤ 20000 := by
  have := (lay_lt ho).2
  have hn : o.n = 3 + o.f.length := rfl
  have := H.lay_le
  omega
 replace i0 : e.a0.a0 = _ := i0
 replace i6 : e.a0.a6 = _ := i6
 replace i57 : e.a3.a9 = _ := i57
 replace i58 : e.a3.a10 = _ := i58
 simp -implicitDefEqProofs (maxSteps := 5000000) (disch := first | assumption | omega | (simp only [dz, dl, Nat.zero_add, Nat.reduceAdd, Bool.and_self]; done) | (simp only [dl]; omega)) only [go_sem, fAdd_eq, p63_28.eq_1]
 refine loop_at (Q := fun r => rnd (blkR 4 r) _ _) (fun q e' t => ∃ (k : Nat) (met' todo' : List Int) (steps' : Nat), q = o.f.length - k ∧ k ≤ o.f.length ∧ MK s0 t m mb p met' todo' steps' ∧ MI os shapes roots met' todo' (out ++ [r]) ∧ (∀ x ∈ met, x ∈ met') ∧ met'.length ≤ met.length + k ∧ steps' ≤ steps + 2 * k ∧ (∀ (j : Nat) x, j < k → o.f[j]? = some x → refB shapes o j = true → x = 0 ∨ x ∈ met') ∧ g0 e' = .ptr m 0 ∧ g6 e' = .i r ∧ g57 e' = .i (o.f.length : Nat) ∧ g58 e' = .i k) ?_ (n := o.f.length) (by omega) ⟨0, met, todo, steps, by omega, by omega, M, I, fun x hx => hx, by omega, by omega, fun j x hj => by omega, i0, i6, i57, i58⟩
 clear i0 i6 i57 i58 M I e
 rintro q e t ⟨k, met', todo', steps', rfl, hk, M, I, hsub, hlen, hst, hdone, i0, i6, i57, i58⟩
 replace i0 : e.a0.a0 = _ := i0
 replace i6 : e.a0.a6 = _ := i6
 replace i57 : e.a3.a9 = _ := i57
 replace i58 : e.a3.a10 = _ := i58
 by_cases c : (k : Int) < ((o.f.length : Nat) : Int)
 · have hkl : k < o.f.length := by omega
   obtain ⟨x, hx⟩ : ∃ x, o.f[k]? = some x := ⟨_, List.getElem?_eq_getElem hkl⟩
   obtain ⟨tv, h1, h2, h3⟩ := M.ex
   have hwt := M.f.wf
   obtain ⟨s1, p1, c1, f1, n1⟩ := eSt_ex (s := t) (b := m) (o := 3) (v := .i ((steps' : Int) + 1)) hwt h1 (by simp) rfl
   simp only [List.set_cons_zero, List.set_cons_succ] at c1
   have hmm := M.mp
   have hne : m ≠ mb := cl_mp_ne hwt h1 hmm
   have hcast : ((steps' : Int) + 1) = ((steps' + 1 : Nat) : Int) := by omega
   have M1 : MK s0 s1 m mb p met' todo' (steps' + 1) := ⟨M.f.trans' f1 (fun b hb => .inr (by simp at hb; subst hb; exact M.hm.1)), M.hm, ⟨tv, by rw [c1, hcast], h2.fr hwt f1 (fun b hb => by simp; exact (h3 b hb).2), h3⟩, f1.mp hwt hmm (by simpa using hne.symm)⟩
   have H1 := H.fr M1.f (by simp) (by simp) (by simp) (by simp) (by simp)
   obtain ⟨sh, hA, hS⟩ := H1.H
   have e1 := hA.isRef hS H1.ok d r (k : Nat)
   have hrO := refO_at (shapes := shapes) ho hkl
   rw [hrO] at e1
   have e2 := hA.get d r (k : Nat)
   have hg : getO os r (k : Nat) = some x := by
    unfold getO; rw [ho]; simp only
    rw [if_pos (by omega), Int.toNat_natCast]; exact hx
   rw [hg] at e2
   simp only at e2
   have htl : todo'.length ≤ 1000000 := by
    have := I.ps.length_eq; simp at this; omega
   cases hb : refB shapes o k with
   | false =>
     rw [hb] at e1
     simp -implicitDefEqProofs (maxSteps := 5000000) (disch := first | assumption | omega | (simp only [dz, dl, Nat.zero_add, Nat.reduceAdd, Bool.and_self]; done) | (simp only [dl]; omega)) only [go_sem, fAdd_eq, i0, i6, i57, i58, c, dLd_at hwt h1, p1, dLd_at f1.wf c1, e1]
     exact ⟨o.f.length - (k + 1), by omega, k + 1, met', todo', steps' + 1, rfl, by omega, M1, I, hsub, by omega, by omega, fun j y hj hy hby => by
      by_cases ej : j = k
      · subst ej; rw [hb] at hby; cases hby
      · exact hdone j y (by omega) hy hby, (by first | trivial | rfl | assumption), (by first | trivial | rfl | assumption), (by first | trivial | rfl | assumption), (by first | trivial | rfl | assumption)⟩
   | true =>
     rw [hb] at e1
     obtain ⟨s2, q2, M2⟩ := M1.mark (d + 3) x (by omega) htl
     have hxr : x = 0 ∨ Reach os shapes roots x := by
      by_cases h0 : x = 0
      · exact .inl h0
      · exact .inr (.step hR ho hx hb h0)
     simp -implicitDefEqProofs (maxSteps := 5000000) (disch := first | assumption | omega | (simp only [dz, dl, Nat.zero_add, Nat.reduceAdd, Bool.and_self]; done) | (simp only [dl]; omega)) only [go_sem, fAdd_eq, i0, i6, i57, i58, c, dLd_at hwt h1, p1, dLd_at f1.wf c1, e1, e2, q2]
     refine ⟨o.f.length - (k + 1), by omega, k + 1, _, _, steps' + 1 + 1, rfl, by omega, M2, I.mark hxr, fun y hy => markM_mem.2 (.inl (hsub y hy)), ?_, by omega, fun j y hj hy hby => ?_, (by first | trivial | rfl | assumption), (by first | trivial | rfl | assumption), (by first | trivial | rfl | assumption), (by first | trivial | rfl | assumption)⟩
     · unfold markM; split
       · omega
       · simp; omega
     · by_cases ej : j = k
       · subst ej
         rw [hx] at hy; cases hy
         by_cases h0 : x = 0
         · exact .inl h0
         · exact .inr (markM_mem.2 (.inr ⟨rfl, h0⟩))
       · exact (hdone j y (by omega) hy hby).imp_right fun h => markM_mem.2 (.inl h)
 · have : k = o.f.length := by omega
   subst this
   simp -implicitDefEqProofs (maxSteps := 5000000) (disch := first | assumption | omega | (simp only [dz, dl, Nat.zero_add, Nat.reduceAdd, Bool.and_self]; done) | (simp only [dl]; omega)) only [go_sem, fAdd_eq, i0, i6, i57, i58, c]
   exact ⟨(by first | trivial | rfl | assumption), met', todo', steps', M, I, hsub, hlen, hst, fun k x hx hb => hdone k x (List.getElem?_eq_some_iff.1 hx).1 hx hb⟩
end
end
end Go.Proofs.YtgkcpceppmppfaaLab
namespace Go.Proofs.YtgkcpceppmppfaaLab
open Go
set_option linter.all false
set_option maxRecDepth 10000
noncomputable section
theorem rnd_blk {id : Nat} {r : Res} {N N' : E → St → Prop} {Q : Res → Prop} (h : rnd r N' fun _ => False) (hN : ∀ e s, N' e s → N e s) : rnd (blkR id r) N Q := by
 obtain ⟨e, s, rfl, h⟩ := rnd_inv h
 exact hN e s h
theorem MI.fin {os : List O} {shapes : List (List Bool)} {roots met out : List Int} (I : MI os shapes roots met [] out) (hD : DoneM os shapes met out) (hr : ∀ r ∈ roots, r = 0 ∨ r ∈ met) : ∀ x, x ∈ met ↔ Reach os shapes roots x := fun x => by
 refine ⟨I.so x, fun h => ?_⟩
 induction h with
 | root h h0 => exact (hr _ h).resolve_left h0
 | step _ ho hx hb h0 ih => exact (hD _ (by have := I.ps.subset ih; simpa using this) _ ho _ _ hx hb).resolve_left h0
section
variable {s0 : St} {p bw bb n bm : Nat} {os : List O} {z : List Int} {shapes : List (List Bool)} {F : List Nat} (H : HS s0 p bw bb n os z shapes bm F)
include H
theorem MK.run2 (hRf : RefOk os shapes) {roots : List Int} (hRo : RootOk os roots) {s : St} {m mb : Nat} {met todo : List Int} {steps : Nat} (M : MK s0 s m mb p met todo steps) (I : MI os shapes roots met todo []) (hr : ∀ r ∈ roots, r = 0 ∨ r ∈ met) (hst : steps ≤ 100000) (hml : met.length ≤ 60000) (d : Nat) {e : E} (i0 : g0 e = .ptr m 0) :
 Ret (retR (resV []) (p63_15 (K (d + 4)) e s)) fun x t => x = .tup [] ∧ ∃ met' steps', MK s0 t m mb p met' [] steps' ∧ met'.Nodup ∧ (∀ x, x ∈ met' ↔ Reach os shapes roots x) ∧ steps' ≤ steps + 2 * (lay os).length ∧ met'.length ≤ 90000 := by
 have hlay := H.lay_le
 have hW0 := leftW_nil os 1
 replace i0 : e.a0.a0 = _ := i0
 simp -implicitDefEqProofs (maxSteps := 5000000) (disch := first | assumption | omega | (simp only [dz, dl, Nat.zero_add, Nat.reduceAdd, Bool.and_self]; done) | (simp only [dl]; omega)) only [go_sem, fAdd_eq, p63_15.eq_1]
 refine loop_at (Q := fun r => Ret (retR _ (blkR 2 r)) _) (fun q e' t => ∃ (met' todo' out : List Int) (steps' : Nat), q = leftW os 1 out ∧ MK s0 t m mb p met' todo' steps' ∧ MI os shapes roots met' todo' out ∧ DoneM os shapes met' out ∧ (∀ x ∈ met, x ∈ met') ∧ steps' + 2 * leftW os 1 out ≤ steps + 2 * leftW os 1 [] ∧ met'.length + leftW os 1 out ≤ met.length + leftW os 1 [] ∧ g0 e' = .ptr m 0) ?_ (n := leftW os 1 []) (by omega) ⟨met, todo, [], steps, rfl, M, I, fun r h => by simp at h, fun x h => h, by omega, by omega, i0⟩
 clear i0 M I e
 rintro q e t ⟨met', todo', out, steps', rfl, M, I, hD, hsub, hs2, hl2, i0⟩
 replace i0 : e.a0.a0 = _ := i0
 obtain ⟨tv, h1, h2, h3⟩ := M.ex
 have hwt := M.f.wf
 have hlen := h2.len
 rw [List.length_map] at hlen
 rcases List.eq_nil_or_concat todo' with rfl | ⟨rest, r, rfl⟩
 · replace hlen : uLenS tv = some (.i 0) := hlen
   simp -implicitDefEqProofs (maxSteps := 5000000) (disch := first | assumption | omega | (simp only [dz, dl, Nat.zero_add, Nat.reduceAdd, Bool.and_self]; done) | (simp only [dl]; omega)) only [go_sem, fAdd_eq, i0, dLd_at hwt h1, hlen]
   exact ⟨(by first | trivial | rfl | assumption), met', steps', M, I.nd, I.fin hD (fun r hr' => (hr r hr').imp_right (hsub r)), by omega, by omega⟩
 · rw [List.concat_eq_append] at *
   rw [List.length_append, List.length_singleton] at hlen
   have h2' := h2
   rw [List.map_append, List.map_cons, List.map_nil] at h2'
   obtain ⟨tv', k1, k2, k3⟩ := h2'.pop
   rw [List.length_map] at k1
   have em : ((rest.length + 1 : Nat) : Int) - 1 = (rest.length : Nat) := by omega
   rw [em] at k1
   have hrb : rest.length ≤ 100000 := by have := I.ps.length_eq; simp at this; omega
   have c0 : (0 : Int) < ((rest.length + 1 : Nat) : Int) := by omega
   obtain ⟨qq, a1, a2⟩ := (h2.sl hwt).at hwt (j := rest.length) (x := .i r) (by rw [List.getElem?_map]; simp)
   have hone : tv'.one = true := by
    rcases k2 with ⟨_, rfl⟩ | ⟨b, L, rfl, _⟩ <;> rfl
   obtain ⟨s1, p1, c1, f1, n1⟩ := eSt_ex (s := t) (b := m) (o := 2) (v := tv') hwt h1 (by simp) hone
   simp only [List.set_cons_zero, List.set_cons_succ] at c1
   have hmm := M.mp
   have hne : m ≠ mb := cl_mp_ne hwt h1 hmm
   have M1 : MK s0 s1 m mb p met' rest steps' := ⟨M.f.trans' f1 (fun b hb => .inr (by simp at hb; subst hb; exact M.hm.1)), M.hm, ⟨tv', c1, k2.fr hwt f1 (fun b hb => by rw [k3] at hb; simp; exact (h3 b hb).2), fun b hb => by rw [k3] at hb; exact h3 b hb⟩, f1.mp hwt hmm (by simpa using hne.symm)⟩
   have hrm : r ∈ met' := I.ps.symm.subset (by simp)
   have hR := I.so r hrm
   obtain ⟨o, ho⟩ := Option.isSome_iff_exists.1 (hR.isSome hRf hRo)
   have hrl := at_pos (hR.isSome hRf hRo)
   have hnd2 : (out ++ (rest ++ [r])).Nodup := I.ps.nodup_iff.1 I.nd
   have hrn : r ∉ out := fun hm => by
    rw [List.nodup_append] at hnd2
    exact hnd2.2.2 r hm r (by simp) rfl
   have hW : leftW os 1 (out ++ [r]) + 1 + o.f.length = leftW os 1 out := by
    have := leftW_snoc os 1 out (r - 1) o ho (by rw [show r - 1 + ((1 : Nat) : Int) = r by omega]; exact hrn)
    rwa [show r - 1 + ((1 : Nat) : Int) = r by omega] at this
   have I1 : MI os shapes roots met' rest (out ++ [r]) := ⟨I.so, I.nd, I.ps.trans (by
    rw [List.append_assoc]
    exact (List.perm_append_comm).append_left _)⟩
   have H1 := H.fr M1.f (by simp) (by simp) (by simp) (by simp) (by simp)
   obtain ⟨sh, hA, hS⟩ := H1.H
   have e1 := hA.len (d + 2) r
   have hlo : lenO os r = (o.f.length : Nat) := by unfold lenO; rw [ho]
   rw [hlo] at e1
   simp -implicitDefEqProofs (maxSteps := 5000000) (disch := first | assumption | omega | (simp only [dz, dl, Nat.zero_add, Nat.reduceAdd, Bool.and_self]; done) | (simp only [dl]; omega)) only [go_sem, fAdd_eq, i0, dLd_at hwt h1, hlen, c0, em, a1, a2, k1, p1, dLd_at f1.wf c1, e1]
   refine rnd_blk (M1.fields H hRf ho I1 hR (by omega) d (by first | trivial | rfl | assumption) (by first | trivial | rfl | assumption) (by first | trivial | rfl | assumption) (by first | trivial | rfl | assumption) (by omega)) ?_
   rintro e' t' ⟨j0, met2, todo2, steps2, M2, I2, hs3, hl3, hst3, hdn⟩
   refine ⟨leftW os 1 (out ++ [r]), by omega, met2, todo2, out ++ [r], steps2, rfl, M2, I2, ?_, fun x hx => hs3 x (hsub x hx), by omega, by omega, j0⟩
   intro x hx o' ho' k y hy hb
   rcases List.mem_append.1 hx with hx | hx
   · exact (hD x hx o' ho' k y hy hb).imp_right (hs3 y)
   · simp at hx; subst hx
     rw [ho] at ho'; cases ho'
     exact hdn k y hy hb
theorem MK.run (hRf : RefOk os shapes) {roots : List Int} (hRo : RootOk os roots) {s : St} {m mb : Nat} (M : MK s0 s m mb p [] [] 0) {v : V} (hk : SL s0 v (roots.map .i)) (hl : roots.length ≤ 50000) (d : Nat) :
 Ret ((K (d + 5)).call 63 [.ptr m 0, v] s) fun x t => x = .tup [] ∧ ∃ met' steps', MK s0 t m mb p met' [] steps' ∧ met'.Nodup ∧ (∀ x, x ∈ met' ↔ Reach os shapes roots x) ∧ steps' ≤ roots.length + 2 * (lay os).length ∧ met'.length ≤ 90000 := by
 have hw0 := H.wf
 have hlen := hk.len
 rw [List.length_map] at hlen
 simp -implicitDefEqProofs (maxSteps := 5000000) (disch := first | assumption | omega | (simp only [dz, dl, Nat.zero_add, Nat.reduceAdd, Bool.and_self]; done) | (simp only [dl]; omega)) only [op63, go_sem, fAdd_eq, hlen]
 refine loop_at (Q := fun r => Ret (retR _ (seqR (blkR 0 r) _)) _) (fun q e' t => ∃ (j : Nat) (met' todo' : List Int), q = roots.length - j ∧ j ≤ roots.length ∧ MK s0 t m mb p met' todo' j ∧ MI os shapes roots met' todo' [] ∧ (∀ r ∈ roots.take j, r = 0 ∨ r ∈ met') ∧ met'.length ≤ j ∧ g0 e' = .ptr m 0 ∧ g10 e' = v ∧ g11 e' = .i (roots.length : Nat) ∧ g12 e' = .i j) ?_ (n := roots.length) (by omega) ⟨0, [], [], by omega, by omega, M, ⟨fun r h => by simp at h, List.nodup_nil, by simp⟩, by simp, by simp, (by first | trivial | rfl | assumption), (by first | trivial | rfl | assumption), (by first | trivial | rfl | assumption), (by first | trivial | rfl | assumption)⟩
 rintro q e t ⟨j, met', todo', rfl, hj, M, I, hr, hml, i0, i10, i11, i12⟩
 replace i0 : e.a0.a0 = _ := i0
 replace i10 : e.a0.a10 = _ := i10
 replace i11 : e.a0.a11 = _ := i11
 replace i12 : e.a0.a12 = _ := i12
 by_cases c : (j : Int) < ((roots.length : Nat) : Int)
 · obtain ⟨r, hrj⟩ : ∃ r, roots[j]? = some r := ⟨_, List.getElem?_eq_getElem (by omega)⟩
   obtain ⟨qq, a1, a2⟩ := (hk.fr hw0 M.f (by simp)).at M.f.wf (j := j) (x := .i r) (by rw [List.getElem?_map, hrj]; rfl)
   have hts := take_snoc hrj
   obtain ⟨s2, q2, M2⟩ := M.mark (d + 3) r (by omega) (by have := I.ps.length_eq; simp at this; omega)
   have hrm := List.mem_of_getElem? hrj
   have hxr : r = 0 ∨ Reach os shapes roots r := by
    by_cases h0 : r = 0
    · exact .inl h0
    · exact .inr (.root hrm h0)
   simp -implicitDefEqProofs (maxSteps := 5000000) (disch := first | assumption | omega | (simp only [dz, dl, Nat.zero_add, Nat.reduceAdd, Bool.and_self]; done) | (simp only [dl]; omega)) only [go_sem, fAdd_eq, i0, i10, i11, i12, c, a1, a2, q2]
   refine ⟨roots.length - (j + 1), by omega, j + 1, _, _, rfl, by omega, M2, I.mark hxr, fun x hx => ?_, ?_, (by first | trivial | rfl | assumption), (by first | trivial | rfl | assumption), (by first | trivial | rfl | assumption), (by first | trivial | rfl | assumption)⟩
   · rw [hts] at hx
     rcases List.mem_append.1 hx with hx | hx
     · exact (hr x hx).imp_right fun h => markM_mem.2 (.inl h)
     · simp at hx; subst hx
       by_cases h0 : x = 0
       · exact .inl h0
       · exact .inr (markM_mem.2 (.inr ⟨rfl, h0⟩))
   · unfold markM; split
     · omega
     · simp; omega
 · have : j = roots.length := by omega
   subst this
   rw [List.take_length] at hr
   simp -implicitDefEqProofs (maxSteps := 5000000) (disch := first | assumption | omega | (simp only [dz, dl, Nat.zero_add, Nat.reduceAdd, Bool.and_self]; done) | (simp only [dl]; omega)) only [go_sem, fAdd_eq, i0, i10, i11, i12, c]
   exact M.run2 H hRf hRo I hr (by omega) (by omega) d (by first | trivial | rfl | assumption)
end
end
end Go.Proofs.YtgkcpceppmppfaaLab
namespace Go.Proofs.YtgkcpceppmppfaaLab
open Go
set_option linter.all false
set_option maxRecDepth 10000
noncomputable section
theorem fOne_run {g : V → St → Option (V × St)} {k : KC} {x v : V} {s s' : St} (h : g x s = some (v, s')) : runF (fOne g) k [x] s = some (v, s') := by
 show (match (match g (Gt 0 (Ut 0 e0 x)) s with | some (v, s') => Res.nrm (Ut 0 (Ut 0 e0 x) v) s' | none => .bad) with
  | .nrm e' s' => (match resV [rT (Gt 0)] e' s' with | some v => some (v, s') | none => none)
  | .ret e' s' => (match resV [rT (Gt 0)] e' s' with | some v => some (v, s') | none => none)
  | _ => none) = _
 rw [Gt_Ut 0 0 (by omega) (by omega), if_pos rfl, h]
 simp only
 show some (Gt 0 (Ut 0 (Ut 0 e0 x) v), s') = _
 rw [Gt_Ut 0 0 (by omega) (by omega), if_pos rfl]
theorem keysI_metP : ∀ {l : List (Int × Int)}, (∀ p ∈ l, wfI p.1 = true) → keysI (pairsI l) = some (l.map (·.1))
 | [], _ => rfl
 | (x, y) :: l, h => by
   have ih := keysI_metP (l := l) fun p hp => h p (by simp [hp])
   have hx := h (x, y) (by simp)
   show (Bool.casesOn (motive := fun _ => Option (List Int)) (wfI x) none (match keysI (pairsI l) with | some r => some (x :: r) | none => none)) = _
   rw [hx, ih]; rfl
theorem incN_range : ∀ (n k m : Nat), k + n ≤ m → incN m (List.range' k n) = true
 | 0, k, m, h => rfl
 | 1, k, m, h => by
   show Nat.blt k m = true
   rw [nblt_eq, decide_eq_true (by omega)]
 | n + 2, k, m, h => by
   rw [List.range'_succ, List.range'_succ]
   show and (Nat.blt k (k + 1)) (incN m ((k + 1) :: List.range' (k + 1 + 1) n)) = true
   have := incN_range (n + 1) (k + 1) m (by omega)
   rw [List.range'_succ] at this
   rw [this, nblt_eq, decide_eq_true (by omega)]; rfl
theorem incI_of : ∀ {l : List Int}, l.Pairwise (· < ·) → incI l = true
 | [], _ => rfl
 | [x], _ => rfl
 | x :: y :: l, h => by
   rw [List.pairwise_cons] at h
   show and (ltI x y) (incI (y :: l)) = true
   rw [incI_of h.2, ltI_eq, decide_eq_true (h.1 y (by simp))]; rfl
theorem srtI_lt {l : List Int} (h : l.Nodup) : (srtI l).Pairwise (· < ·) := perm_lt (srtI_perm l) (srtI_sorted l) h
theorem rising_eq : ∀ {a b : List Int}, a.Pairwise (· < ·) → b.Pairwise (· < ·) → (∀ x, x ∈ a ↔ x ∈ b) → a = b
 | [], [], _, _, _ => rfl
 | [], y :: b, _, _, h => by have := (h y).2 (by simp); simp at this
 | x :: a, [], _, _, h => by have := (h x).1 (by simp); simp at this
 | x :: a, y :: b, ha, hb, h => by
   rw [List.pairwise_cons] at ha hb
   have e : x = y := by
    rcases List.mem_cons.1 ((h x).1 (by simp)) with e | h1
    · exact e
    · rcases List.mem_cons.1 ((h y).2 (by simp)) with e | h2
      · exact e.symm
      · have := hb.1 x h1; have := ha.1 y h2; omega
   subst e
   rw [rising_eq ha.2 hb.2 fun z => ?_]
   constructor
   · intro hz
     rcases List.mem_cons.1 ((h z).1 (by simp [hz])) with rfl | h1
     · have := ha.1 z hz; omega
     · exact h1
   · intro hz
     rcases List.mem_cons.1 ((h z).2 (by simp [hz])) with rfl | h1
     · have := hb.1 z hz; omega
     · exact h1
section
variable {s0 s : St} {m mb p : Nat} {met todo : List Int} {steps : Nat} (M : MK s0 s m mb p met todo steps)
include M
theorem MK.blk : ∃ (xs : T V) (tv : V), s.heap.get m = some (.cells 4 xs) ∧ xs.get 0 = some (.ptr p 0) ∧ xs.get 1 = some (.map mb) := by
 obtain ⟨tv, h1, _⟩ := M.ex
 obtain ⟨xs, q1, q2, _⟩ := cl_inv M.f.wf h1
 exact ⟨xs, tv, q1, q2 0 (by simp), q2 1 (by simp)⟩
theorem MK.metOf (hn : met.Nodup) (h64 : ∀ x ∈ met, 0 ≤ x ∧ x ≤ 1000000) (hl : met.length ≤ 1000000) : Go.Proofs.YtgkcpceppmppfaaLab.metOf 1 (.ptr m 0) s = some met := by
 obtain ⟨xs, tv, q1, q2, q3⟩ := M.blk
 have hk : keysI (metE met) = some met := by
  unfold metE
  rw [keysI_metP, metP_fst]
  intro y hy
  have : y.1 ∈ met := by rw [← metP_fst met]; exact List.mem_map.2 ⟨y, hy, rfl⟩
  have := h64 _ this
  unfold wfI
  rw [Bool.and_eq_true, ltI_eq, ltI_eq]
  simp; omega
 have hb : blkOf s m = some (4, xs) := by unfold blkOf; rw [q1]
 unfold Go.Proofs.YtgkcpceppmppfaaLab.metOf
 simp only [hb]
 have e1 : Nat.blt (Nat.add 0 1) 4 = true := rfl
 have q3' : xs.get (Nat.add 0 1) = some (.map mb) := q3
 rw [e1, q3']
 simp only [mp_inv M.mp, hk]
 rw [ble_true (by omega), incI_of (srtI_lt hn)]
 have := incN_range met.length 0 met.length (by omega)
 rw [← List.range_eq_range'] at this
 rw [this]; rfl
theorem MK.all (hn : met.Nodup) (h64 : ∀ x ∈ met, 0 ≤ x ∧ x ≤ 1000000) (hl : met.length ≤ 1000000) (d : Nat) : ∃ s', (K (d + 1)).call 44 [.ptr m 0] s = some (.slice s.next 0 met.length none 1, s') ∧ GL s' (.slice s.next 0 met.length none 1) ((srtI met).map .i) ∧ Fr s s' [] := by
 have hm := M.metOf hn h64 hl
 obtain ⟨s', e1, c1, f1, n1⟩ := new_ex (s := s) (l := (srtI met).map V.i) (n := met.length) M.f.wf (by rw [List.length_map, (srtI_perm met).length_eq])
 refine ⟨s', ?_, .inr ⟨s.next, ?_, c1⟩, f1⟩
 · rw [call44]
   refine fOne_run ?_
   unfold allV
   rw [hm]; simp only
   rw [e1]
 · rw [List.length_map, (srtI_perm met).length_eq]
end
section
variable {k k' : KC}
theorem p50_4_k (h : k.call 51 = k'.call 51) : p50_4 k = p50_4 k' := by
 funext e s; unfold p50_4; simp only [eCall_eq, h]
theorem p50_3_k (h : k.call 51 = k'.call 51) : p50_3 k = p50_3 k' := by
 funext e s
 show dSeq p50_4 p50_5 k e s = dSeq p50_4 p50_5 k' e s
 unfold dSeq; rw [p50_4_k h]; rfl
theorem p50_2_k (h : k.call 51 = k'.call 51) : p50_2 k = p50_2 k' := by
 funext e s
 show dSeq p50_3 p50_8 k e s = dSeq p50_3 p50_8 k' e s
 unfold dSeq; rw [p50_3_k h]; rfl
theorem p50_0_k (h : k.call 51 = k'.call 51) : p50_0 k = p50_0 k' := by
 funext e s
 show dSeq p50_1 p50_2 k e s = dSeq p50_1 p50_2 k' e s
 unfold dSeq; rw [p50_2_k h]; rfl
end
theorem k2_51 : (kc tblW 1000000 1).call 51 = (K 1).call 51 := by
 funext args s
 rw [call51, call_eq (F := F51) rfl]; rfl
theorem k2_50 (args : List V) (s : St) : k2.call 50 args s = (K 2).call 50 args s := by
 have h : F50.body (kc tblW 1000000 1) = F50.body (K 1) := p50_0_k k2_51
 rw [call50]
 show (kc tblW 1000000 (1 + 1)).call 50 args s = _
 rw [call_eq (F := F50) rfl]
 unfold runF
 rw [h]
def wordsL (os : List O) (l : List Int) : Nat := (l.map fun x => 3 + (lenO os x).toNat).sum
theorem wordsL_perm {os : List O} {a b : List Int} (h : a.Perm b) : wordsL os a = wordsL os b := by
 unfold wordsL
 exact (h.map _).sum_nat
theorem lenO_b (os : List O) (x : Int) : 0 ≤ lenO os x := by
 unfold lenO; cases at? os x <;> simp
section
variable {s0 s : St} {p bw bb n bm : Nat} {os : List O} {z : List Int} {shapes : List (List Bool)} {F : List Nat} {m mb : Nat} {met todo : List Int} {steps : Nat} (H : HS s p bw bb n os z shapes bm F) (M : MK s0 s m mb p met todo steps)
include H M
theorem MK.sumN : ∀ l : List Int, Go.Proofs.YtgkcpceppmppfaaLab.sumN k2 50 (.ptr p 0) s l = some (wordsL os l)
 | [] => rfl
 | x :: l => by
   have ih := MK.sumN l
   obtain ⟨sh, hA, _⟩ := H.H
   have e := hA.len 0 x
   have hb := lenO_b os x
   have hle : (lenO os x).toNat ≤ 1099511627776 := by
    have := H.lay_le
    unfold lenO
    cases ho : at? os x with
    | none => simp
    | some o =>
      have := (lay_lt ho).2
      have hn : o.n = 3 + o.f.length := rfl
      simp; omega
   have e2 : lenN k2 50 (.ptr p 0) s x = some (lenO os x).toNat := by
    unfold lenN
    rw [k2_50, e]
    obtain ⟨q, hq⟩ : ∃ q : Nat, lenO os x = Int.ofNat q := ⟨(lenO os x).toNat, by simp; omega⟩
    rw [hq] at hle ⊢
    simp only
    rw [ble_true (by simpa using hle)]; rfl
   unfold Go.Proofs.YtgkcpceppmppfaaLab.sumN
   rw [e2, ih]; rfl
end
end
end Go.Proofs.YtgkcpceppmppfaaLab
namespace Go.Proofs.YtgkcpceppmppfaaLab
open Go
set_option linter.all false
set_option maxRecDepth 10000
noncomputable section
theorem valsI_met : ∀ l : List (Int × Int), valsI (pairsI l) = true
 | [] => rfl
 | (x, y) :: l => valsI_met l
theorem obj_b {os : List O} {x : Int} (h : (at? os x).isSome) : 1 ≤ x ∧ x ≤ (lay os).length := by
 obtain ⟨o, ho⟩ := Option.isSome_iff_exists.1 h
 have := lay_lt ho
 have := o.n_pos
 omega
section
variable {s : St} {p bw bb n bm : Nat} {os : List O} {z : List Int} {shapes : List (List Bool)} {F : List Nat} (H : HS s p bw bb n os z shapes bm F)
include H
theorem MK.words {s0 : St} {m mb : Nat} {met todo : List Int} {steps : Nat} (M : MK s0 s m mb p met todo steps) (hn : met.Nodup) (h64 : ∀ x ∈ met, 0 ≤ x ∧ x ≤ 1000000) (hl : met.length ≤ 1000000) (d : Nat) : (K (d + 1)).call 47 [.ptr m 0] s = some (.i (wordsL os met : Nat), s) := by
 obtain ⟨xs, tv, q1, q2, q3⟩ := M.blk
 have hm := M.metOf hn h64 hl
 have hb : blkOf s m = some (4, xs) := by unfold blkOf; rw [q1]
 have hB : metB 1 (.ptr m 0) s = some true := by
  unfold metB
  simp only [hb]
  have q3' : xs.get (Nat.add 0 1) = some (.map mb) := q3
  rw [q3']
  simp only [mp_inv M.mp]
  unfold metE
  rw [valsI_met]
 rw [call47]
 refine fOne_run ?_
 unfold wordsV
 rw [hm, hB]
 simp only [hb, q2, M.sumN H met]
 rfl
def MarkedQ (s : St) (p : Nat) (os : List O) (shapes : List (List Bool)) (roots : List Int) (r : V) (t : St) : Prop :=
 (¬ RootOk os roots → r = .tup [.nilp, .bool false] ∧ Fr s t []) ∧
 (RootOk os roots → ∃ m mb met steps, r = .tup [.ptr m 0, .bool true] ∧ MK s t m mb p met [] steps ∧ met.Nodup ∧ (∀ x, x ∈ met ↔ Reach os shapes roots x) ∧ steps ≤ roots.length + 2 * (lay os).length ∧ met.length ≤ 90000)
theorem HS.marked (hRf : RefOk os shapes) {v : V} {roots : List Int} (hk : SL s v (roots.map .i)) (hl : roots.length ≤ 50000) (d : Nat) : Ret ((K (d + 7)).call 43 [.ptr p 0, v] s) (MarkedQ s p os shapes roots) := by
 have hw := H.wf
 obtain ⟨s1, e1, c1, f1, n1⟩ := new_ex (s := s) (l := [V.ptr p 0]) (n := 1) hw rfl
 have H1 := H.fr f1 (by simp) (by simp) (by simp) (by simp) (by simp)
 have hc := H1.contains c1 (hk.fr hw f1 (by simp)) (by omega) d
 have hld := dLd_at f1.wf c1 (o := 0) (by simp)
 by_cases hr : RootOk os roots
 · rw [rootOk_iff.1 hr] at hc
   obtain ⟨s2, e2, m2, f2, n2⟩ : ∃ s', s1.new (.map [] [] 0) = s' ∧ s'.mp s1.next = some ([], [], 0) ∧ Fr s1 s' [] ∧ s'.next = s1.next + 1 :=
    ⟨_, rfl, by unfold St.mp; rw [new_at f1.wf], ⟨f1.wf.new trivial, Nat.le_succ _, fun j hj _ => new_ne (by omega)⟩, rfl⟩
   obtain ⟨s3, e3, c3, f3, n3⟩ := new_ex (s := s2) (l := [V.ptr p 0, .map s1.next, .nils, .i 0]) (n := 4) f2.wf rfl
   have M : MK s s3 s2.next s1.next p [] [] 0 := ⟨f1.trans (f2.trans f3), ⟨by omega, by omega⟩, ⟨.nils, c3, .inl ⟨rfl, rfl⟩, by simp [blkV]⟩, f3.mp f2.wf m2 (by simp)⟩
   obtain ⟨x, t, q1, rfl, met, steps, q2, q3, q4, q5, q6⟩ := M.run H hRf hr hk hl (d + 1)
   refine ⟨.tup [.ptr s2.next 0, .bool true], t, ?_, fun h => absurd hr h, fun _ => ⟨_, _, met, steps, rfl, q2, q3, q4, q5, q6⟩⟩
   rw [op43]
   simp -implicitDefEqProofs (maxSteps := 5000000) (disch := first | assumption | omega | (simp only [dz, dl, Nat.zero_add, Nat.reduceAdd, Bool.and_self]; done) | (simp only [dl]; omega)) only [go_sem, aBox_one, e1, hld, hc, e2, e3, q1, Bool.not_true]
 · have hr' : roots.all (okRf os) = false := by rw [← Bool.not_eq_true]; exact fun h => hr (rootOk_iff.2 h)
   rw [hr'] at hc
   refine ⟨.tup [.nilp, .bool false], s1, ?_, fun _ => ⟨rfl, f1⟩, fun h => absurd h hr⟩
   rw [op43]
   simp -implicitDefEqProofs (maxSteps := 5000000) (disch := first | assumption | omega | (simp only [dz, dl, Nat.zero_add, Nat.reduceAdd, Bool.and_self]; done) | (simp only [dl]; omega)) only [go_sem, aBox_one, e1, hld, hc, Bool.not_false]
theorem met64 {s0 : St} (hRf : RefOk os shapes) {met roots : List Int} (hr : RootOk os roots) (h : ∀ x, x ∈ met ↔ Reach os shapes roots x) : ∀ x ∈ met, 0 ≤ x ∧ x ≤ 1000000 := fun x hx => by
 have h1 := obj_b (((h x).1 hx).isSome hRf hr)
 have := H.lay_le
 omega
end
end
end Go.Proofs.YtgkcpceppmppfaaLab
namespace Go.Proofs.YtgkcpceppmppfaaLab
open Go
set_option linter.all false
set_option maxRecDepth 10000
noncomputable section
theorem ShOk.turn {os : List O} {shapes : List (List Bool)} (ok : ShOk os shapes) {g : O → O} (hg : ∀ o, (g o).f.length = o.f.length ∧ (g o).shape = o.shape) {r : Int} {o : O} (ho : at? os r = some o) : ShOk (turn g os (r - 1)) shapes := fun x hx => by
 obtain ⟨pre, post, rfl, hr⟩ := look_split ho
 rw [hr, turn_of] at hx
 rcases List.mem_append.1 hx with hx | hx
 · exact ok x (by simp [hx])
 · rcases List.mem_cons.1 hx with rfl | hx
   · rw [(hg o).1, (hg o).2]; exact ok o (by simp)
   · exact ok x (by simp [hx])
section
variable {b0 : Nat} {t : St} {p bw bb n bm rp : Nat} {os : List O} {z : List Int} {shapes : List (List Bool)} {F FO FS : List Nat} {w : Int} (T : Two b0 t p bw bb n bm rp os z shapes F FO FS w)
include T
theorem Two.set (d : Nat) (r k v : Int) (h64 : -9223372036854775808 ≤ v ∧ v < 9223372036854775808) : ∃ t1 t2 y, (K (d + 5)).call 41 [.ptr p 0, .i r, .i k, .i v] t = some (.i y, t1) ∧ Fr t t1 [bw] ∧ (K (d + 5)).call 42 [.ptr rp 0, .i r, .i k, .i v] t1 = some (.i y, t2) ∧ Fr t1 t2 FO ∧ ∃ os', Two b0 t2 p bw bb n bm rp os' z shapes F FO FS w := by
 obtain ⟨sh, hA, hS⟩ := T.h.H
 have hw := T.wf
 cases hg : getO os r k with
 | none => exact ⟨t, t, _, (hA.set hS T.h.ok d r k v h64).1 hg, Fr.refl hw _, (T.r.set T.h.ok (d + 2) r k v).1 hg, Fr.refl hw _, _, T⟩
 | some x =>
   cases hc : (refO os shapes r k && !(decide (v = 0) || (at? os v).isSome)) with
   | true => exact ⟨t, t, _, (hA.set hS T.h.ok d r k v h64).2.1 x hg hc, Fr.refl hw _, (T.r.set T.h.ok (d + 2) r k v).2.1 x hg hc, Fr.refl hw _, _, T⟩
   | false =>
     obtain ⟨o, ho, _⟩ := getO_some hg
     obtain ⟨t1, e1, _, f1, _⟩ := (hA.set hS T.h.ok d r k v h64).2.2 x hg hc
     have ok' : ShOk (turn (O.setF k v) os (r - 1)) shapes := T.h.ok.turn (g := O.setF k v) (fun o => ⟨by simp [O.setF], rfl⟩) ho
     have h1 : HS t1 p bw bb n (turn (O.setF k v) os (r - 1)) z shapes bm F := by
      refine T.h.turn (f1.mono (by simp)) (fun sh' h' => ?_) ok'
      have h2 := h'.hr.hp
      rw [hA.hr.hp] at h2
      cases h2
      obtain ⟨t1', e1', h1', _⟩ := (h'.set hS T.h.ok d r k v h64).2.2 x hg hc
      rw [e1] at e1'; cases e1'; exact h1'
     obtain ⟨t2, e2, r2, f2, _⟩ := ((T.r1 f1 (by simp)).set T.h.ok (d + 2) r k v).2.2 x hg hc
     exact ⟨t1, t2, _, e1, f1, e2, f2, _, T.make f1 h1 (fun b hb => .inl hb) f2 (fun b hb => by simp [hb]) r2 (fun b hb => .inl hb) (fun b hb => .inl hb) (T.rf.set hg hc)⟩
theorem Two.setTag (d : Nat) (r v : Int) : ∃ t1 t2 y, (K (d + 2)).call 30 [.ptr p 0, .i r, .i v] t = some (.i y, t1) ∧ Fr t t1 [bw] ∧ (K (d + 2)).call 39 [.ptr rp 0, .i r, .i v] t1 = some (.i y, t2) ∧ Fr t1 t2 FO ∧ ∃ os', Two b0 t2 p bw bb n bm rp os' z shapes F FO FS w := by
 obtain ⟨sh, hA, hS⟩ := T.h.H
 have hw := T.wf
 cases ho : at? os r with
 | none => exact ⟨t, t, _, (hA.setTag d r v).1 ho, Fr.refl hw _, (T.r.setTag d r v).1 ho, Fr.refl hw _, _, T⟩
 | some o =>
   obtain ⟨t1, e1, _, f1, _⟩ := (hA.setTag d r v).2 o ho
   have ok' : ShOk (turn (O.setTag v) os (r - 1)) shapes := T.h.ok.turn (g := O.setTag v) (fun o => ⟨rfl, rfl⟩) ho
   have h1 : HS t1 p bw bb n (turn (O.setTag v) os (r - 1)) z shapes bm F := by
    refine T.h.turn (f1.mono (by simp)) (fun sh' h' => ?_) ok'
    obtain ⟨t1', e1', h1', _⟩ := (h'.setTag d r v).2 o ho
    rw [e1] at e1'; cases e1'; exact h1'
   obtain ⟨t2, e2, r2, f2, _⟩ := ((T.r1 f1 (by simp)).setTag d r v).2 o ho
   exact ⟨t1, t2, _, e1, f1, e2, f2, _, T.make f1 h1 (fun b hb => .inl hb) f2 (fun b hb => by simp [hb]) r2 (fun b hb => .inl hb) (fun b hb => .inl hb) (T.rf.setTag ho)⟩
theorem Two.slide (d : Nat) {kv : V} {keep : List Int} (hk : SL t kv (keep.map .i)) (hl : keep.length ≤ 100000) (hkb : ∀ b ∈ blkV kv, b < t.next ∧ b ∉ [p, bw, bb]) :
 ∃ t1 t2 x x2 y, (K (d + 6)).call 48 [.ptr p 0, kv] t = some (.tup [x, .i y], t1) ∧ Fr t t1 [p, bw, bb] ∧ (K (d + 6)).call 18 [.ptr rp 0, kv] t1 = some (.tup [x2, .i y], t2) ∧ Fr t1 t2 [rp] ∧ (∃ l : List Int, SL t2 x (l.map .i) ∧ SL t2 x2 (l.map .i) ∧ l.length ≤ 100000) ∧ ∃ os' z' FO', Two b0 t2 p bw bb n bm rp os' z' shapes F FO' FS w := by
 have hw := T.wf
 obtain ⟨r1, t1, e1, q1, q2⟩ := T.h.slide hk hl hkb d
 have hltR := T.ltR
 by_cases c : Kept os keep ∧ Clo os shapes keep keep
 · obtain ⟨tv, z', rfl, hg, h1, f1, hbt⟩ := q2 c
   have R1 := T.r1 f1 (by intro b hb; simp at hb ⊢; rcases hb with h | h | h <;> simp [h])
   obtain ⟨r2, t2, e2, _, q4⟩ := R1.slide T.h.ok (hk.fr hw f1 (fun b hb => (hkb b hb).2)) hl (fun b hb => Nat.lt_of_lt_of_le (hkb b hb).1 f1.nx) (d + 3)
   obtain ⟨tv2, FO', rfl, hg2, r2, hO, f2, hbt2⟩ := q4 c
   have hrp := hltR rp (by simp)
   refine ⟨t1, t2, tv, tv2, 0, e1, f1, e2, f2, ⟨_, (hg.fr f1.wf f2 (fun b hb => by have := hbt b hb; simp; omega)).sl f2.wf, hg2.sl f2.wf, by rw [tos_len c.1.inn]; exact hl⟩, _, _, _, T.make f1 h1 (fun b hb => .inl hb) f2 (by simp) r2 (fun b hb => .inr (hO b hb)) (fun b hb => .inl hb) (RefOk.slide c.1 c.2)⟩
 · obtain ⟨rfl, f1⟩ := q1 c
   have T1 := T.fr f1
   obtain ⟨r2, t2, e2, q3, _⟩ := T1.r.slide T.h.ok (hk.fr hw f1 (by simp)) hl (fun b hb => Nat.lt_of_lt_of_le (hkb b hb).1 f1.nx) (d + 3)
   obtain ⟨rfl, rfl⟩ := q3 c
   exact ⟨_, _, _, _, 1, e1, f1.mono (by simp), e2, Fr.refl f1.wf _, ⟨[], .inl ⟨rfl, .inl rfl⟩, .inl ⟨rfl, .inl rfl⟩, by simp⟩, _, _, _, T1⟩
theorem Two.mark (d : Nat) {kv : V} {keep : List Int} (hk : SL t kv (keep.map .i)) (hl : keep.length ≤ 50000) (hr : RootOk os keep) :
 ∃ (t1 : St) (x : V) (l : List Int), (K (d + 3)).call 11 [.ptr rp 0, kv] t = some (.tup [x, .bool true], t1) ∧ Fr t t1 [] ∧ SL t1 x (l.map .i) ∧ (∀ b ∈ blkV x, t.next ≤ b ∧ b < t1.next) ∧ l.length ≤ 100000 := by
 obtain ⟨v, t1, e1, _, q⟩ := T.r.mark T.h.ok T.rf hk hl d
 obtain ⟨x, l, rfl, h1, f1, hb, hp, hl'⟩ := q hr
 have hK : Kept os l := ⟨fun r hr' => ((hl' r).1 hr').isSome T.rf hr, hp⟩
 have h2 := hK.fits
 have h3 := objs_len hK.inn
 have h4 := lay_len3 (objs os l)
 have h5 := T.size
 exact ⟨t1, x, l, e1, f1, h1.sl f1.wf, fun b hb' => ⟨hb b hb', blk_lt f1.wf h1 b hb'⟩, by omega⟩
end
structure Ask where
 kind : Int
 n : Int
 of : Int
 to : Int
 refs : V
 v : Int
 bits : V
def Ask.cells (a : Ask) : List V := [.i a.kind, .i a.n, .i a.of, .i a.to, a.refs, .i a.v, a.bits]
def SA (s : St) (v : V) (l : List Ask) : Prop := (l = [] ∧ (v = .nils ∨ ∃ b o c, v = .slice b o 0 c 7)) ∨ ∃ b o c n f, v = .slice b o l.length c 7 ∧ rdOf s b = some (n, f) ∧ o + l.length * 7 ≤ n ∧ ∀ i a, l[i]? = some a → ∀ j, j < 7 → f (o + i * 7 + j) = a.cells[j]?
section
variable {s : St} {v : V} {l : List Ask}
theorem SA.len (h : SA s v l) : uLenS v = some (.i (l.length : Nat)) := by
 rcases h with ⟨rfl, rfl | ⟨b, o, c, rfl⟩⟩ | ⟨b, o, c, n, g, rfl, h2⟩ <;> rfl
theorem SA.fr {s' : St} {L : List Nat} (h : SA s v l) (hw : Wf s) (f : Fr s s' L) (hd : ∀ b, b ∈ blkV v → b ∉ L) : SA s' v l := by
 rcases h with h | ⟨b, o, c, n, g, h1, h2, h3⟩
 · exact .inl h
 · subst h1; exact .inr ⟨b, o, c, n, g, rfl, (rd_same (f.same b (rd_lt hw h2) (hd b (by simp [blkV])))).trans h2, h3⟩
theorem SA.at (h : SA s v l) {i : Nat} {a : Ask} (hi : l[i]? = some a) : ∃ q, bIdx 7 v (.i (i : Nat)) = some q ∧ ldNP 7 q s = some (.agg a.cells) := by
 have hl := (List.getElem?_eq_some_iff.1 hi).1
 rcases h with ⟨rfl, _⟩ | ⟨b, o, c, n, g, rfl, h2, h3, h4⟩
 · simp at hl
 · refine ⟨_, bIdx_eq (by omega) (by omega), ?_⟩
   show (match rdOf s b with | some (n, xs) => Bool.casesOn (motive := fun _ => Option V) (Nat.ble (Nat.add (o + ((i : Nat) : Int).toNat * 7) 7) n) none (match ldc xs 7 (o + ((i : Nat) : Int).toNat * 7) with | some l => some (.agg l) | none => none) | none => none) = _
   rw [h2]; simp only
   rw [Int.toNat_natCast]
   have e1 : Nat.ble (Nat.add (o + i * 7) 7) n = true := ble_true (show o + i * 7 + 7 ≤ n by omega)
   have e2 : ldc g 7 (o + i * 7) = some a.cells := ldc_list rfl (fun j hj => h4 i a hi j hj)
   rw [e1, e2]
end
end
end Go.Proofs.YtgkcpceppmppfaaLab
namespace Go.Proofs.YtgkcpceppmppfaaLab
open Go
set_option linter.all false
set_option maxRecDepth 10000
noncomputable section
section
variable {b0 : Nat} {t : St} {p bw bb n bm rp : Nat} {os : List O} {z : List Int} {shapes : List (List Bool)} {F FO FS : List Nat} {w : Int} (T : Two b0 t p bw bb n bm rp os z shapes F FO FS w)
include T
theorem Two.off {t' : St} {L : List Nat} (f : Fr t t' L) (h1 : ∀ b ∈ p :: bw :: bb :: bm :: F, b ∉ L) (h2 : ∀ b ∈ rp :: (FO ++ FS), b ∉ L) : Two b0 t' p bw bb n bm rp os z shapes F FO FS w :=
 ⟨T.h.fr f (h1 _ (by simp)) (h1 _ (by simp)) (h1 _ (by simp)) (h1 _ (by simp)) (fun b hb => h1 b (by simp [hb])), T.r.fr f (h2 _ (by simp)) (fun b hb => h2 b (by simp [hb])) (fun b hb => h2 b (by simp [hb])), T.nw, T.rf, T.dj, T.dr⟩
theorem Two.arrayE (d : Nat) (b : Bool) (m : Nat) (hm : m ≤ 256) :
 (w < (lay os).length + 3 + m → (K (d + 3)).call 35 [.ptr p 0, .bool b, .i m] t = some (.tup [.i 0, .i 26], t) ∧ (K (d + 3)).call 36 [.ptr rp 0, .bool b, .i m] t = some (.tup [.i 0, .i 26], t)) ∧
 (((lay os).length + 3 + m : Int) ≤ w → ∃ t1 t2 z' FO', (K (d + 3)).call 35 [.ptr p 0, .bool b, .i m] t = some (.tup [.i ((1 + (lay os).length : Nat) : Int), .i 0], t1) ∧ Fr t t1 [p, bw, bb] ∧ (K (d + 3)).call 36 [.ptr rp 0, .bool b, .i m] t1 = some (.tup [.i ((1 + (lay os).length : Nat) : Int), .i 0], t2) ∧ Fr t1 t2 (rp :: FO) ∧ Two b0 t2 p bw bb n bm rp (os ++ [newO (if b then -2 else -1) m]) z' shapes F FO' FS w ∧ (∀ b ∈ FO', b ∈ FO ∨ t.next ≤ b)) := by
 obtain ⟨sh, hA, hS⟩ := T.h.H
 have hz := hA.size
 have hnw := T.nw
 have hw := T.wf
 refine ⟨fun c => ⟨(hA.array d b m).2.1 (by omega) (by omega) (by omega), (T.r.array d b m).2.1 (by omega) (by omega) (by omega)⟩, fun c => ?_⟩
 have c2 : (1 : Int) + (lay os).length + 3 + m ≤ (n : Int) := by omega
 obtain ⟨t1, e1, _, f1, _⟩ := (hA.array d b m).2.2 (by omega) (by omega) c2
 have h1 : HS t1 p bw bb n (os ++ [newO (if b then -2 else -1) m]) (z.drop (3 + m)) shapes bm F := by
  refine T.h.turn f1 (fun sh' h' => ?_) ?_
  · obtain ⟨t1', e1', h1', _⟩ := (h'.array d b m).2.2 (by omega) (by omega) c2
    rw [e1] at e1'; cases e1'
    rw [Int.toNat_natCast] at h1'
    exact h1'
  · intro o ho
    rcases List.mem_append.1 ho with ho | ho
    · exact T.h.ok o ho
    · simp at ho; subst ho
      cases b
      · exact .inl rfl
      · exact .inr (.inl rfl)
 obtain ⟨t2, FO', e2, r2, hO, f2⟩ := ((T.r1 f1 (by intro b hb; simp at hb ⊢; rcases hb with h | h | h <;> simp [h])).array d b m).2.2 (by omega) (by omega) (by omega)
 rw [Int.toNat_natCast] at r2
 exact ⟨t1, t2, _, _, e1, f1, e2, f2, T.addO f1 h1 f2 r2 hO, fun x hx => (hO x hx).imp_right fun h => Nat.le_trans f1.nx h⟩
theorem Two.objectE (d : Nat) (r : Int) (hsh : shapes.length < 100000) {l : List Bool} (h0 : 0 ≤ r) (hl : shapes[r.toNat]? = some l) (hln : l.length < 20000) :
 (w < (lay os).length + 3 + l.length → (K (d + 3)).call 37 [.ptr p 0, .i r] t = some (.tup [.i 0, .i 26], t) ∧ (K (d + 3)).call 38 [.ptr rp 0, .i r] t = some (.tup [.i 0, .i 26], t)) ∧
 (((lay os).length + 3 + l.length : Int) ≤ w → ∃ t1 t2 z' FO', (K (d + 3)).call 37 [.ptr p 0, .i r] t = some (.tup [.i ((1 + (lay os).length : Nat) : Int), .i 0], t1) ∧ Fr t t1 [p, bw, bb] ∧ (K (d + 3)).call 38 [.ptr rp 0, .i r] t1 = some (.tup [.i ((1 + (lay os).length : Nat) : Int), .i 0], t2) ∧ Fr t1 t2 (rp :: FO) ∧ Two b0 t2 p bw bb n bm rp (os ++ [newO r l.length]) z' shapes F FO' FS w ∧ (∀ b ∈ FO', b ∈ FO ∨ t.next ≤ b)) := by
 obtain ⟨sh, hA, hS⟩ := T.h.H
 have hz := hA.size
 have hnw := T.nw
 have hw := T.wf
 refine ⟨fun c => ⟨(T.h.object d r hsh).2.1 l h0 hl hln (by omega), (T.r.object d r hsh).2.1 l h0 hl hln (by omega)⟩, fun c => ?_⟩
 obtain ⟨t1, e1, h1, f1, _⟩ := (T.h.object d r hsh).2.2 l h0 hl hln (by omega)
 obtain ⟨t2, FO', e2, r2, hO, f2⟩ := ((T.r1 f1 (by intro b hb; simp at hb ⊢; rcases hb with h | h | h <;> simp [h])).object d r hsh).2.2 l h0 hl hln (by omega)
 exact ⟨t1, t2, _, _, e1, f1, e2, f2, T.addO f1 h1 f2 r2 hO, fun x hx => (hO x hx).imp_right fun h => Nat.le_trans f1.nx h⟩
theorem Two.setE (d : Nat) {r k v y : Int} (h64 : -9223372036854775808 ≤ v ∧ v < 9223372036854775808) (hg : getO os r k = some y) (hc : (refO os shapes r k && !(decide (v = 0) || (at? os v).isSome)) = false) : ∃ t1 t2, (K (d + 5)).call 41 [.ptr p 0, .i r, .i k, .i v] t = some (.i 0, t1) ∧ Fr t t1 [bw] ∧ (K (d + 5)).call 42 [.ptr rp 0, .i r, .i k, .i v] t1 = some (.i 0, t2) ∧ Fr t1 t2 FO ∧ Two b0 t2 p bw bb n bm rp (turn (O.setF k v) os (r - 1)) z shapes F FO FS w := by
 obtain ⟨sh, hA, hS⟩ := T.h.H
 have hw := T.wf
 obtain ⟨o, ho, _⟩ := getO_some hg
 obtain ⟨t1, e1, _, f1, _⟩ := (hA.set hS T.h.ok d r k v h64).2.2 y hg hc
 have ok' : ShOk (turn (O.setF k v) os (r - 1)) shapes := T.h.ok.turn (g := O.setF k v) (fun o => ⟨by simp [O.setF], rfl⟩) ho
 have h1 : HS t1 p bw bb n (turn (O.setF k v) os (r - 1)) z shapes bm F := by
  refine T.h.turn (f1.mono (by simp)) (fun sh' h' => ?_) ok'
  have h2 := h'.hr.hp
  rw [hA.hr.hp] at h2
  cases h2
  obtain ⟨t1', e1', h1', _⟩ := (h'.set hS T.h.ok d r k v h64).2.2 y hg hc
  rw [e1] at e1'; cases e1'; exact h1'
 obtain ⟨t2, e2, r2, f2, _⟩ := ((T.r1 f1 (by simp)).set T.h.ok (d + 2) r k v).2.2 y hg hc
 exact ⟨t1, t2, e1, f1, e2, f2, T.make f1 h1 (fun b hb => .inl hb) f2 (fun b hb => by simp [hb]) r2 (fun b hb => .inl hb) (fun b hb => .inl hb) (T.rf.set hg hc)⟩
theorem Two.setTagE (d : Nat) {r : Int} (v : Int) {o : O} (ho : at? os r = some o) : ∃ t1 t2, (K (d + 2)).call 30 [.ptr p 0, .i r, .i v] t = some (.i 0, t1) ∧ Fr t t1 [bw] ∧ (K (d + 2)).call 39 [.ptr rp 0, .i r, .i v] t1 = some (.i 0, t2) ∧ Fr t1 t2 FO ∧ Two b0 t2 p bw bb n bm rp (turn (O.setTag v) os (r - 1)) z shapes F FO FS w := by
 obtain ⟨sh, hA, hS⟩ := T.h.H
 have hw := T.wf
 obtain ⟨t1, e1, _, f1, _⟩ := (hA.setTag d r v).2 o ho
 have ok' : ShOk (turn (O.setTag v) os (r - 1)) shapes := T.h.ok.turn (g := O.setTag v) (fun o => ⟨rfl, rfl⟩) ho
 have h1 : HS t1 p bw bb n (turn (O.setTag v) os (r - 1)) z shapes bm F := by
  refine T.h.turn (f1.mono (by simp)) (fun sh' h' => ?_) ok'
  obtain ⟨t1', e1', h1', _⟩ := (h'.setTag d r v).2 o ho
  rw [e1] at e1'; cases e1'; exact h1'
 obtain ⟨t2, e2, r2, f2, _⟩ := ((T.r1 f1 (by simp)).setTag d r v).2 o ho
 exact ⟨t1, t2, e1, f1, e2, f2, T.make f1 h1 (fun b hb => .inl hb) f2 (fun b hb => by simp [hb]) r2 (fun b hb => .inl hb) (fun b hb => .inl hb) (T.rf.setTag ho)⟩
end
end
end Go.Proofs.YtgkcpceppmppfaaLab
namespace Go.Proofs.YtgkcpceppmppfaaLab
open Go
set_option linter.all false
set_option maxRecDepth 10000
noncomputable section
structure Nd where
 sh : Int
 ln : Int
 tv : V
 to : List Int
def Nd.cells (a : Nd) : List V := [.i a.sh, .i a.ln, a.tv]
def NA (s : St) (v : V) (l : List Nd) : Prop := (l = [] ∧ (v = .nils ∨ ∃ b o c, v = .slice b o 0 c 3)) ∨ ∃ b o c n f, v = .slice b o l.length c 3 ∧ rdOf s b = some (n, f) ∧ o + l.length * 3 ≤ n ∧ ∀ i a, l[i]? = some a → ∀ j, j < 3 → f (o + i * 3 + j) = a.cells[j]?
structure NdOk (s : St) (b0 : Nat) (a : Nd) : Prop where
 to : SL s a.tv (a.to.map .i)
 bk : ∀ b ∈ blkV a.tv, b < b0
 i64 : ∀ x ∈ a.to, -9223372036854775808 ≤ x ∧ x < 9223372036854775808
section
variable {s : St} {v : V} {l : List Nd}
theorem NA.len (h : NA s v l) : uLenS v = some (.i (l.length : Nat)) := by
 rcases h with ⟨rfl, rfl | ⟨b, o, c, rfl⟩⟩ | ⟨b, o, c, n, f, rfl, _⟩ <;> rfl
theorem NA.fr {s' : St} {L : List Nat} (h : NA s v l) (hw : Wf s) (f : Fr s s' L) (hd : ∀ b, b ∈ blkV v → b ∉ L) : NA s' v l := by
 rcases h with h | ⟨b, o, c, n, g, h1, h2, h3⟩
 · exact .inl h
 · subst h1; exact .inr ⟨b, o, c, n, g, rfl, (rd_same (f.same b (rd_lt hw h2) (hd b (by simp [blkV])))).trans h2, h3⟩
theorem NA.at (h : NA s v l) {i : Nat} {a : Nd} (hi : l[i]? = some a) : ∃ b o, bIdx 3 v (.i (i : Nat)) = some (.ptr b o) ∧ ldP (.ptr b o) s = some (.i a.sh) ∧ ldP (.ptr b (o + 1)) s = some (.i a.ln) ∧ ldP (.ptr b (o + 2)) s = some a.tv := by
 have hl := (List.getElem?_eq_some_iff.1 hi).1
 rcases h with ⟨rfl, _⟩ | ⟨b, o, c, n, f, rfl, h2, h3, h4⟩
 · simp at hi
 · have hi3 : i * 3 + 3 ≤ l.length * 3 := by omega
   refine ⟨b, o + i * 3, ?_, ?_, ?_, ?_⟩
   · rw [bIdx_eq (by omega) (by omega)]; simp
   · rw [dLd_rd h2 (by omega)]; exact h4 i a hi 0 (by omega)
   · rw [dLd_rd h2 (by omega)]; exact h4 i a hi 1 (by omega)
   · rw [dLd_rd h2 (by omega)]; exact h4 i a hi 2 (by omega)
end
def shapes0 : List (List Bool) := [[], [true], [true, false], [false, true, true]]
def ndS (a : Nd) : Int := if a.sh < 0 then (if a.sh = -2 then -2 else -1) else a.sh.tmod 4
def ndN (a : Nd) : Nat := if a.sh < 0 then (withinI a.ln 0 6).toNat else ((shapes0[(a.sh.tmod 4).toNat]?).getD []).length
def mkO (w : Int) : List Nd → Nat → List O → List O
 | [], _, os => os
 | a :: l, i, os => if ((lay os).length + 3 + ndN a : Int) ≤ w then mkO w l (i + 1) (os ++ [(newO (ndS a) (ndN a)).setTag ((i : Int) + 1)]) else os
def valS (os : List O) (refs : List Int) (r : Int) (k : Nat) (x : Int) : Int :=
 if refO os shapes0 r k then (if 0 ≤ x then (refs[(x.tmod (refs.length : Nat)).toNat]?).getD 0 else 0) else x
def rowS (refs : List Int) (a : Nd) (r : Int) : Nat → Nat → List O → List O
 | 0, _, os => os
 | f + 1, k, os => if (k : Int) < lenO os r then (match a.to[k]? with | some x => rowS refs a r f (k + 1) (turn (O.setF k (valS os refs r k x)) os (r - 1)) | none => os) else os
@[irreducible] def fuelR : Nat := 20001
theorem fuelR_eq : fuelR = 20001 := by unfold fuelR; rfl
def allS (refs : List Int) : List Nd → List Int → List O → List O
 | a :: l, r :: rs, os => allS refs l rs (rowS refs a r fuelR 0 os)
 | _, _, os => os
def bld (w : Int) (l : List Nd) : List O := allS (starts 1 (mkO w (l.take 30) 0 [])) (l.take 30) (starts 1 (mkO w (l.take 30) 0 [])) (mkO w (l.take 30) 0 [])
theorem starts_last (os : List O) (o : O) : starts 1 (os ++ [o]) = starts 1 os ++ [((1 + (lay os).length : Nat) : Int)] := by
 rw [starts_append]; rfl
theorem at_last (os : List O) (o : O) : at? (os ++ [o]) ((1 + (lay os).length : Nat) : Int) = some o := by
 unfold at?
 rw [show ((1 + (lay os).length : Nat) : Int) - 1 = ((lay os).length : Nat) by omega]
 exact look_of os o []
theorem turn_last (g : O → O) (os : List O) (o : O) : turn g (os ++ [o]) (((1 + (lay os).length : Nat) : Int) - 1) = os ++ [g o] := by
 rw [show ((1 + (lay os).length : Nat) : Int) - 1 = ((lay os).length : Nat) by omega]
 exact turn_of g os o []
theorem starts_turn {g : O → O} (hg : ∀ o, (g o).f.length = o.f.length) : ∀ (os : List O) (a : Nat) (r : Int), starts a (turn g os r) = starts a os
 | [], a, r => rfl
 | o :: os, a, r => by
   have hn : (g o).n = o.n := by simp [O.n, hg]
   unfold turn
   split
   · simp only [starts, hn]
   · simp only [starts, starts_turn hg os]
theorem turn_length (g : O → O) : ∀ (os : List O) (r : Int), (turn g os r).length = os.length
 | [], r => rfl
 | o :: os, r => by
   unfold turn
   split
   · simp
   · simp [turn_length g os]
theorem turn_get {g : O → O} : ∀ {os : List O} {r : Int} {i : Nat} {o' : O}, (turn g os r)[i]? = some o' → ∃ o, os[i]? = some o ∧ (o' = o ∨ o' = g o)
 | [], r, i, o', h => by unfold turn at h; simp at h
 | o :: os, r, i, o', h => by
   unfold turn at h
   split at h
   · cases i with
     | zero => simp at h; subst h; exact ⟨o, rfl, .inr rfl⟩
     | succ i => exact ⟨o', by simpa using h, .inl rfl⟩
   · cases i with
     | zero => simp at h; subst h; exact ⟨o, rfl, .inl rfl⟩
     | succ i =>
       have h' : (turn g os (r - (o.n : Nat)))[i]? = some o' := by simpa using h
       obtain ⟨x, hx, hc⟩ := turn_get h'
       exact ⟨x, by simpa using hx, hc⟩
def Tagged (os : List O) : Prop := ∀ (i : Nat) o, os[i]? = some o → o.tag = (i : Int) + 1
theorem mkO_tag (w : Int) : ∀ (l : List Nd) (i : Nat) (os : List O), os.length = i → Tagged os → Tagged (mkO w l i os) ∧ (mkO w l i os).length ≤ i + l.length
 | [], i, os, hi, h => ⟨h, by simp [mkO]; omega⟩
 | a :: l, i, os, hi, h => by
   unfold mkO
   split
   · have := mkO_tag w l (i + 1) (os ++ [(newO (ndS a) (ndN a)).setTag ((i : Int) + 1)]) (by simp [hi]) (fun j o hj => by
      by_cases c : j < os.length
      · rw [List.getElem?_append_left c] at hj; exact h j o hj
      · have hl := (List.getElem?_eq_some_iff.1 hj).1
        simp at hl
        have : j = os.length := by omega
        subst this
        simp at hj; subst hj
        rw [hi]; rfl)
     exact ⟨this.1, by simp; omega⟩
   · exact ⟨h, by simp; omega⟩
theorem rowS_keep (refs : List Int) (a : Nd) (r : Int) : ∀ (f k : Nat) (os : List O), starts 1 (rowS refs a r f k os) = starts 1 os ∧ (rowS refs a r f k os).length = os.length ∧ (Tagged os → Tagged (rowS refs a r f k os))
 | 0, k, os => ⟨rfl, rfl, fun h => h⟩
 | f + 1, k, os => by
   unfold rowS
   split
   · split
     · rename_i x hx
       obtain ⟨h1, h2, h3⟩ := rowS_keep refs a r f (k + 1) (turn (O.setF k (valS os refs r k x)) os (r - 1))
       refine ⟨h1.trans (starts_turn (fun o => by simp [O.setF]) os 1 _), h2.trans (turn_length _ _ _), fun h => h3 fun i o hi => ?_⟩
       obtain ⟨o2, ho2, hc⟩ := turn_get hi
       rcases hc with rfl | rfl
       · exact h i _ ho2
       · exact h i o2 ho2
     · exact ⟨rfl, rfl, fun h => h⟩
   · exact ⟨rfl, rfl, fun h => h⟩
theorem allS_keep (refs : List Int) : ∀ (l : List Nd) (rs : List Int) (os : List O), starts 1 (allS refs l rs os) = starts 1 os ∧ (allS refs l rs os).length = os.length ∧ (Tagged os → Tagged (allS refs l rs os))
 | [], rs, os => by unfold allS; exact ⟨rfl, rfl, fun h => h⟩
 | a :: l, [], os => by unfold allS; exact ⟨rfl, rfl, fun h => h⟩
 | a :: l, r :: rs, os => by
   unfold allS
   obtain ⟨h1, h2, h3⟩ := rowS_keep refs a r fuelR 0 os
   obtain ⟨k1, k2, k3⟩ := allS_keep refs l rs (rowS refs a r fuelR 0 os)
   exact ⟨k1.trans h1, k2.trans h2, fun h => k3 (h3 h)⟩
theorem bld_facts (w : Int) (l : List Nd) : Tagged (bld w l) ∧ (bld w l).length ≤ 30 := by
 obtain ⟨h1, h2⟩ := mkO_tag w (l.take 30) 0 [] rfl (fun i o h => by simp at h)
 obtain ⟨k1, k2, k3⟩ := allS_keep (starts 1 (mkO w (l.take 30) 0 [])) (l.take 30) (starts 1 (mkO w (l.take 30) 0 [])) (mkO w (l.take 30) 0 [])
 refine ⟨k3 h1, ?_⟩
 unfold bld
 rw [k2]
 simp at h2; omega
end
end Go.Proofs.YtgkcpceppmppfaaLab
namespace Go.Proofs.YtgkcpceppmppfaaLab
open Go
set_option linter.all false
set_option maxRecDepth 10000
noncomputable section
def BuildQ (s : St) (w : Int) (l : List Nd) (r : V) (t : St) : Prop := ∃ p rp bw bb n bm z F FO FS rv, r = .tup [.ptr p 0, .ptr rp 0, rv] ∧ Two s.next t p bw bb n bm rp (bld w l) z shapes0 F FO FS w ∧ GL t rv ((starts 1 (bld w l)).map .i) ∧ Fr s t [] ∧ ∀ b ∈ blkV rv, s.next ≤ b ∧ b ∉ p :: bw :: bb :: bm :: F ∧ b ∉ rp :: (FO ++ FS)
theorem refs_at {os : List O} {i : Nat} {r : Int} (h : (starts 1 os)[i]? = some r) : ∃ o, os[i]? = some o ∧ at? os r = some o := by
 have hl := (List.getElem?_eq_some_iff.1 h).1
 rw [starts_len] at hl
 have ho : os[i]? = some os[i] := List.getElem?_eq_getElem hl
 rw [starts_get _ _ _ hl] at h
 cases h
 exact ⟨_, ho, at_starts ho⟩
theorem refs_root (os : List O) : ∀ r ∈ starts 1 os, (at? os r).isSome := fun r hr => by
 obtain ⟨i, hi⟩ := List.getElem?_of_mem hr
 obtain ⟨o, _, ho⟩ := refs_at hi
 rw [ho]; rfl
section
variable {s : St} {l : List Nd} {w : Int} {lv : V} (hA : NA s lv l) (hok : ∀ a ∈ l, NdOk s s.next a) (hw : Wf s) (hlb : ∀ b ∈ blkV lv, b < s.next)
include hA hok hw hlb
theorem build_row {t : St} {p rp bw bb n bm : Nat} {z : List Int} {F FO FS : List Nat} {os : List O} {refs : List Int} {rv : V} (T : Two s.next t p bw bb n bm rp os z shapes0 F FO FS w) (hf : Fr s t []) (hrefs : starts 1 os = refs) (hg : GL t rv (refs.map .i)) (hoff : ∀ b ∈ blkV rv, s.next ≤ b ∧ b ∉ p :: bw :: bb :: bm :: F ∧ b ∉ rp :: (FO ++ FS)) {i : Nat} {a : Nd} (hai : l[i]? = some a) {r : Int} (hri : refs[i]? = some r) (d : Nat) {e : E} (i0 : g0 e = lv) (i7 : g7 e = .ptr p 0) (i9 : g9 e = .ptr rp 0) (i12 : g12 e = rv) (i17 : g17 e = .i i) :
 rnd (p8_78 (K (d + 5)) e t) (fun e' t' => Two s.next t' p bw bb n bm rp (rowS refs a r 20001 0 os) z shapes0 F FO FS w ∧ Fr s t' [] ∧ GL t' rv (refs.map .i) ∧ g0 e' = lv ∧ g7 e' = .ptr p 0 ∧ g9 e' = .ptr rp 0 ∧ g12 e' = rv ∧ g17 e' = .i i) (fun _ => False) := by
 replace i0 : e.a0.a0 = _ := i0
 replace i7 : e.a0.a7 = _ := i7
 replace i9 : e.a0.a9 = _ := i9
 replace i12 : e.a0.a12 = _ := i12
 replace i17 : e.a1.a1 = _ := i17
 simp -implicitDefEqProofs (maxSteps := 5000000) (disch := first | assumption | omega | (simp only [dz, dl, Nat.zero_add, Nat.reduceAdd, Bool.and_self]; done) | (simp only [dl]; omega)) only [go_sem, fAdd_eq, p8_78.eq_1]
 refine loop_at (Q := fun r => rnd (blkR 5 (blkR 6 r)) _ _) (fun q e' t' => ∃ (k : Nat) (os' : List O), q = 20001 - k ∧ k ≤ 20001 ∧ Two s.next t' p bw bb n bm rp os' z shapes0 F FO FS w ∧ Fr s t' [] ∧ GL t' rv (refs.map .i) ∧ starts 1 os' = refs ∧ rowS refs a r (20001 - k) k os' = rowS refs a r 20001 0 os ∧ g0 e' = lv ∧ g7 e' = .ptr p 0 ∧ g9 e' = .ptr rp 0 ∧ g12 e' = rv ∧ g17 e' = .i i ∧ g18 e' = .i k) ?_ (n := 20001) (by omega) ⟨0, os, by omega, by omega, T, hf, hg, hrefs, rfl, i0, i7, i9, i12, i17, (by first | trivial | rfl | assumption)⟩
 clear i0 i7 i9 i12 i17 T hf hg hrefs e
 rintro q e t1 ⟨k, os', rfl, hk, T, hf, hg, hrefs, hrow, i0, i7, i9, i12, i17, i18⟩
 replace i0 : e.a0.a0 = _ := i0
 replace i7 : e.a0.a7 = _ := i7
 replace i9 : e.a0.a9 = _ := i9
 replace i12 : e.a0.a12 = _ := i12
 replace i17 : e.a1.a1 = _ := i17
 replace i18 : e.a1.a2 = _ := i18
 have hwt := hf.wf
 obtain ⟨q, a1, a2⟩ := (hg.sl hwt).at hwt (j := i) (x := .i r) (by rw [List.getElem?_map, hri]; rfl)
 have elen := T.r.len (d + 3) r
 obtain ⟨b, o, b1, _, _, b2⟩ := (hA.fr hw hf (by simp)).at hai
 have hna := hok a (List.mem_of_getElem? hai)
 have hto := hna.to.fr hw hf (by simp)
 have htl := hto.len
 rw [List.length_map] at htl
 obtain ⟨ob, hob, hat⟩ := refs_at (hrefs ▸ hri)
 have hlenO : lenO os' r = (ob.f.length : Nat) := by unfold lenO; rw [hat]
 have hlay := T.h.lay_le
 have hobn : ob.n ≤ 20000 := by have := lay_lt hat; omega
 have hrl : refs.length ≤ 20000 := by
  have := lay_len3 os'
  rw [← hrefs, starts_len]; omega
 have hgl := hg.len
 rw [List.length_map] at hgl
 by_cases c1 : (k : Int) < lenO os' r
 · have hk999 : k < 20001 := by
    have hn : ob.n = 3 + ob.f.length := rfl
    omega
   by_cases c2 : (k : Int) < ((a.to.length : Nat) : Int)
   · obtain ⟨x, hx⟩ : ∃ x, a.to[k]? = some x := ⟨_, List.getElem?_eq_getElem (by omega)⟩
     obtain ⟨qx, x1, x2⟩ := hto.at hwt (j := k) (x := .i x) (by rw [List.getElem?_map, hx]; rfl)
     have erf := T.r.isRef T.h.ok (d + 3) r (k : Nat)
     have hx64 := hna.i64 x (List.mem_of_getElem? hx)
     have hstep : rowS refs a r (20001 - k) k os' = rowS refs a r (20001 - (k + 1)) (k + 1) (turn (O.setF k (valS os' refs r k x)) os' (r - 1)) := by
      rw [show 20001 - k = (20001 - (k + 1)) + 1 by omega, rowS, if_pos c1, hx]
     have hgk : getO os' r (k : Nat) = some (ob.f[k]'(by omega)) := by
      unfold getO; rw [hat]; simp only
      rw [if_pos (by omega), Int.toNat_natCast]; exact List.getElem?_eq_getElem _
     have fin : ∀ v, v = valS os' refs r k x → -9223372036854775808 ≤ v ∧ v < 9223372036854775808 → (refO os' shapes0 r k && !(decide (v = 0) || (at? os' v).isSome)) = false → ∃ t2 t3, (K (d + 5)).call 41 [.ptr p 0, .i r, .i (k : Nat), .i v] t1 = some (.i 0, t2) ∧ bIdx 1 rv (.i (i : Nat)) = some q ∧ ldP q t2 = some (.i r) ∧ (K (d + 5)).call 42 [.ptr rp 0, .i r, .i (k : Nat), .i v] t2 = some (.i 0, t3) ∧ ∃ m, m < 20001 - k ∧ ∃ (k' : Nat) (os'' : List O), m = 20001 - k' ∧ k' ≤ 20001 ∧ Two s.next t3 p bw bb n bm rp os'' z shapes0 F FO FS w ∧ Fr s t3 [] ∧ GL t3 rv (refs.map .i) ∧ starts 1 os'' = refs ∧ rowS refs a r (20001 - k') k' os'' = rowS refs a r 20001 0 os ∧ k' = k + 1 := fun v hv h64 hc => by
      obtain ⟨t2, t3, e1, f1, e2, f2, T3⟩ := T.setE d h64 hgk hc
      have hn1 := hf.nx
      have g2' := hg.fr hwt f1 (fun b hb => by have := (hoff b hb).2.1; simp at this ⊢; exact this.2.1)
      have g3' := g2'.fr f1.wf f2 (fun b hb => by have := (hoff b hb).2.2; simp at this ⊢; exact this.2.1)
      obtain ⟨q', a1', a2'⟩ := (g2'.sl f1.wf).at f1.wf (j := i) (x := .i r) (by rw [List.getElem?_map, hri]; rfl)
      rw [a1] at a1'; cases a1'
      have F3 : Fr s t3 [] := (hf.trans' f1 (fun b hb => .inr (by simp at hb; subst hb; exact (T.dj b (by simp)).1))).trans' f2 (fun b hb => .inr (T.dr b (by simp [hb])))
      exact ⟨t2, t3, e1, a1, a2', e2, 20001 - (k + 1), by omega, k + 1, _, rfl, by omega, T3, F3, g3', (starts_turn (fun o => by simp [O.setF]) os' 1 _).trans hrefs, by rw [← hrow, hstep, hv], rfl⟩
     cases hb : refO os' shapes0 r (k : Nat) with
     | false =>
       rw [hb] at erf
       obtain ⟨t2, t3, w1, _, w3, w4, m, m1, k', os'', m2, m3, m4, m5, m6, m7, m8, rfl⟩ := fin x (by unfold valS; rw [hb]; rfl) hx64 (by rw [hb]; rfl)
       simp -implicitDefEqProofs (maxSteps := 5000000) (disch := first | assumption | omega | (simp only [dz, dl, Nat.zero_add, Nat.reduceAdd, Bool.and_self]; done) | (simp only [dl]; omega)) only [go_sem, fAdd_eq, i0, i7, i9, i12, i17, i18, a1, a2, elen, c1, b1, b2, htl, c2, x1, x2, erf, w1, w3, w4]
       exact ⟨m, m1, k + 1, os'', m2, m3, m4, m5, m6, m7, m8, (by first | trivial | rfl | assumption), (by first | trivial | rfl | assumption), (by first | trivial | rfl | assumption), (by first | trivial | rfl | assumption), (by first | trivial | rfl | assumption), (by first | trivial | rfl | assumption)⟩
     | true =>
       rw [hb] at erf
       have hr0 : 0 < refs.length := by have := (List.getElem?_eq_some_iff.1 hri).1; omega
       by_cases c0 : 0 ≤ x
       · obtain ⟨ix, hix⟩ : ∃ ix : Nat, x.tmod (refs.length : Nat) = ix := ⟨(x.tmod (refs.length : Nat)).toNat, by have := Int.tmod_nonneg (refs.length : Int) c0; omega⟩
         have hlt := Int.tmod_lt_of_pos x (show (0 : Int) < (refs.length : Nat) by omega)
         rw [hix] at hlt
         obtain ⟨y, hy⟩ : ∃ y, refs[ix]? = some y := ⟨_, List.getElem?_eq_getElem (by omega)⟩
         obtain ⟨qy, y1, y2⟩ := (hg.sl hwt).at hwt (j := ix) (x := .i y) (by rw [List.getElem?_map, hy]; rfl)
         have hys := refs_root os' y (hrefs ▸ List.mem_of_getElem? hy)
         have hyb := obj_b hys
         obtain ⟨t2, t3, w1, _, w3, w4, m, m1, k', os'', m2, m3, m4, m5, m6, m7, m8, rfl⟩ := fin y (by unfold valS; rw [hb, hix, Int.toNat_natCast, hy]; simp [c0]) (by omega) (by rw [hb, hys]; simp)
         have cne : ¬ ((refs.length : Nat) : Int) = 0 := by omega
         simp -implicitDefEqProofs (maxSteps := 5000000) (disch := first | assumption | omega | (simp only [dz, dl, Nat.zero_add, Nat.reduceAdd, Bool.and_self]; done) | (simp only [dl]; omega)) only [go_sem, fAdd_eq, i0, i7, i9, i12, i17, i18, a1, a2, elen, c1, b1, b2, htl, c2, x1, x2, erf, c0, hgl, cne, hix, y1, y2, w1, w3, w4]
         exact ⟨m, m1, k + 1, os'', m2, m3, m4, m5, m6, m7, m8, (by first | trivial | rfl | assumption), (by first | trivial | rfl | assumption), (by first | trivial | rfl | assumption), (by first | trivial | rfl | assumption), (by first | trivial | rfl | assumption), (by first | trivial | rfl | assumption)⟩
       · obtain ⟨t2, t3, w1, _, w3, w4, m, m1, k', os'', m2, m3, m4, m5, m6, m7, m8, rfl⟩ := fin 0 (by unfold valS; rw [hb]; simp [c0]) (by omega) (by rw [hb]; simp)
         simp -implicitDefEqProofs (maxSteps := 5000000) (disch := first | assumption | omega | (simp only [dz, dl, Nat.zero_add, Nat.reduceAdd, Bool.and_self]; done) | (simp only [dl]; omega)) only [go_sem, fAdd_eq, i0, i7, i9, i12, i17, i18, a1, a2, elen, c1, b1, b2, htl, c2, x1, x2, erf, c0, w1, w3, w4]
         exact ⟨m, m1, k + 1, os'', m2, m3, m4, m5, m6, m7, m8, (by first | trivial | rfl | assumption), (by first | trivial | rfl | assumption), (by first | trivial | rfl | assumption), (by first | trivial | rfl | assumption), (by first | trivial | rfl | assumption), (by first | trivial | rfl | assumption)⟩
   · have hnone : a.to[k]? = none := List.getElem?_eq_none (by omega)
     have hend : rowS refs a r (20001 - k) k os' = os' := by
      rw [show 20001 - k = (20001 - (k + 1)) + 1 by omega, rowS, if_pos c1, hnone]
     simp -implicitDefEqProofs (maxSteps := 5000000) (disch := first | assumption | omega | (simp only [dz, dl, Nat.zero_add, Nat.reduceAdd, Bool.and_self]; done) | (simp only [dl]; omega)) only [go_sem, fAdd_eq, i0, i7, i9, i12, i17, i18, a1, a2, elen, c1, b1, b2, htl, c2]
     exact ⟨by rw [← hrow, hend]; exact T, hf, hg, (by first | trivial | rfl | assumption), (by first | trivial | rfl | assumption), (by first | trivial | rfl | assumption), (by first | trivial | rfl | assumption), (by first | trivial | rfl | assumption)⟩
 · have hend : rowS refs a r (20001 - k) k os' = os' := by
    cases h : 20001 - k with
    | zero => rfl
    | succ f => rw [rowS, if_neg c1]
   simp -implicitDefEqProofs (maxSteps := 5000000) (disch := first | assumption | omega | (simp only [dz, dl, Nat.zero_add, Nat.reduceAdd, Bool.and_self]; done) | (simp only [dl]; omega)) only [go_sem, fAdd_eq, i0, i7, i9, i12, i17, i18, a1, a2, elen, c1]
   exact ⟨by rw [← hrow, hend]; exact T, hf, hg, (by first | trivial | rfl | assumption), (by first | trivial | rfl | assumption), (by first | trivial | rfl | assumption), (by first | trivial | rfl | assumption), (by first | trivial | rfl | assumption)⟩
end
end
end Go.Proofs.YtgkcpceppmppfaaLab
namespace Go.Proofs.YtgkcpceppmppfaaLab
open Go
set_option linter.all false
set_option maxRecDepth 10000
noncomputable section
theorem rnd_seq {r : Res} {B : E → St → Res} {N N' : E → St → Prop} {Q : Res → Prop} (h : rnd r N' fun _ => False) (hN : ∀ e s, N' e s → rnd (B e s) N Q) : rnd (seqR r B) N Q := by
 obtain ⟨e, s, rfl, h⟩ := rnd_inv h
 exact hN e s h
section
variable {s : St} {l : List Nd} {w : Int} {lv : V} (hA : NA s lv l) (hok : ∀ a ∈ l, NdOk s s.next a) (hw : Wf s) (hlb : ∀ b ∈ blkV lv, b < s.next)
include hA hok hw hlb
theorem build_sets {t : St} {p rp bw bb n bm : Nat} {z : List Int} {F FO FS : List Nat} {rv : V} (T : Two s.next t p bw bb n bm rp (mkO w (l.take 30) 0 []) z shapes0 F FO FS w) (hf : Fr s t []) (hg : GL t rv ((starts 1 (mkO w (l.take 30) 0 [])).map .i)) (hoff : ∀ b ∈ blkV rv, s.next ≤ b ∧ b ∉ p :: bw :: bb :: bm :: F ∧ b ∉ rp :: (FO ++ FS)) (d : Nat) {e : E} (i0 : g0 e = lv) (i7 : g7 e = .ptr p 0) (i9 : g9 e = .ptr rp 0) (i12 : g12 e = rv) :
 Ret (retR (resV [rT g4, rT g5, rT g6]) (p8_68 (K (d + 5)) e t)) (BuildQ s w l) := by
 have hlenR : (mkO w (l.take 30) 0 []).length ≤ (l.take 30).length := by
  have := (mkO_tag w (l.take 30) 0 [] rfl (fun i o h => by simp at h)).2
  omega
 have hbld : bld w l = allS (starts 1 (mkO w (l.take 30) 0 [])) (l.take 30) (starts 1 (mkO w (l.take 30) 0 [])) (mkO w (l.take 30) 0 []) := rfl
 have hkeep := (allS_keep (starts 1 (mkO w (l.take 30) 0 [])) (l.take 30) (starts 1 (mkO w (l.take 30) 0 [])) (mkO w (l.take 30) 0 [])).1
 generalize hos : mkO w (l.take 30) 0 [] = os at *
 generalize hrs : starts 1 os = refs at *
 have hrl : refs.length = os.length := by rw [← hrs, starts_len]
 have hl30 : (l.take 30).length ≤ 30 := by simp; omega
 replace i0 : e.a0.a0 = _ := i0
 replace i7 : e.a0.a7 = _ := i7
 replace i9 : e.a0.a9 = _ := i9
 replace i12 : e.a0.a12 = _ := i12
 have hgl := hg.len
 rw [List.length_map] at hgl
 simp -implicitDefEqProofs (maxSteps := 5000000) (disch := first | assumption | omega | (simp only [dz, dl, Nat.zero_add, Nat.reduceAdd, Bool.and_self]; done) | (simp only [dl]; omega)) only [go_sem, fAdd_eq, p8_68.eq_1]
 refine loop_at (Q := fun r => Ret (retR _ (seqR (blkR 4 r) _)) _) (fun q e' t' => ∃ (i : Nat) (os' : List O), q = refs.length - i ∧ i ≤ refs.length ∧ Two s.next t' p bw bb n bm rp os' z shapes0 F FO FS w ∧ Fr s t' [] ∧ GL t' rv (refs.map .i) ∧ starts 1 os' = refs ∧ allS refs ((l.take 30).drop i) (refs.drop i) os' = bld w l ∧ g0 e' = lv ∧ g7 e' = .ptr p 0 ∧ g9 e' = .ptr rp 0 ∧ g12 e' = rv ∧ g17 e' = .i i) ?_ (n := refs.length) (by omega) ⟨0, os, by omega, by omega, T, hf, hg, hrs, by rw [List.drop_zero, List.drop_zero, hbld], i0, i7, i9, i12, (by first | trivial | rfl | assumption)⟩
 clear i0 i7 i9 i12 T hf hg hrs e hgl
 rintro q e t1 ⟨i, os', rfl, hi, T, hf, hg, hrs, hall, i0, i7, i9, i12, i17⟩
 replace i0 : e.a0.a0 = _ := i0
 replace i7 : e.a0.a7 = _ := i7
 replace i9 : e.a0.a9 = _ := i9
 replace i12 : e.a0.a12 = _ := i12
 replace i17 : e.a1.a1 = _ := i17
 have hgl := hg.len
 rw [List.length_map] at hgl
 by_cases c : (i : Int) < ((refs.length : Nat) : Int)
 · obtain ⟨r, hr⟩ : ∃ r, refs[i]? = some r := ⟨_, List.getElem?_eq_getElem (by omega)⟩
   obtain ⟨a, ha⟩ : ∃ a, (l.take 30)[i]? = some a := ⟨_, List.getElem?_eq_getElem (by omega)⟩
   have hal : l[i]? = some a := by
    rw [List.getElem?_take] at ha
    split at ha
    · exact ha
    · cases ha
   have hstep : allS refs ((l.take 30).drop i) (refs.drop i) os' = allS refs ((l.take 30).drop (i + 1)) (refs.drop (i + 1)) (rowS refs a r fuelR 0 os') := by
    rw [List.drop_eq_getElem_cons (show i < (l.take 30).length by omega), List.drop_eq_getElem_cons (show i < refs.length by omega), (List.getElem?_eq_some_iff.1 ha).2, (List.getElem?_eq_some_iff.1 hr).2]
    rfl
   have hst : starts 1 (rowS refs a r fuelR 0 os') = refs := (rowS_keep refs a r fuelR 0 os').1.trans hrs
   rw [fuelR_eq] at hstep hst
   simp -implicitDefEqProofs (maxSteps := 5000000) (disch := first | assumption | omega | (simp only [dz, dl, Nat.zero_add, Nat.reduceAdd, Bool.and_self]; done) | (simp only [dl]; omega)) only [go_sem, fAdd_eq, i0, i7, i9, i12, i17, hgl, c]
   refine rnd_seq (build_row hA hok hw hlb T hf hrs hg hoff hal hr d (by first | trivial | rfl | assumption) (by first | trivial | rfl | assumption) (by first | trivial | rfl | assumption) (by first | trivial | rfl | assumption) (by first | trivial | rfl | assumption)) ?_
   rintro e' t' ⟨T', hf', hg', j0, j7, j9, j12, j17⟩
   replace j0 : e'.a0.a0 = _ := j0
   replace j7 : e'.a0.a7 = _ := j7
   replace j9 : e'.a0.a9 = _ := j9
   replace j12 : e'.a0.a12 = _ := j12
   replace j17 : e'.a1.a1 = _ := j17
   simp -implicitDefEqProofs (maxSteps := 5000000) (disch := first | assumption | omega | (simp only [dz, dl, Nat.zero_add, Nat.reduceAdd, Bool.and_self]; done) | (simp only [dl]; omega)) only [go_sem, fAdd_eq, j0, j7, j9, j12, j17]
   exact ⟨refs.length - (i + 1), by omega, i + 1, _, rfl, by omega, T', hf', hg', hst, by rw [← hall, hstep], (by first | trivial | rfl | assumption), (by first | trivial | rfl | assumption), (by first | trivial | rfl | assumption), (by first | trivial | rfl | assumption), (by first | trivial | rfl | assumption)⟩
 · have : i = refs.length := by omega
   subst this
   have hend : allS refs ((l.take 30).drop refs.length) (refs.drop refs.length) os' = os' := by
    rw [List.drop_eq_nil_of_le (Nat.le_refl refs.length)]
    cases (l.take 30).drop refs.length <;> rfl
   rw [hend] at hall
   subst hall
   simp -implicitDefEqProofs (maxSteps := 5000000) (disch := first | assumption | omega | (simp only [dz, dl, Nat.zero_add, Nat.reduceAdd, Bool.and_self]; done) | (simp only [dl]; omega)) only [go_sem, fAdd_eq, i0, i7, i9, i12, i17, hgl, c]
   exact ⟨p, rp, bw, bb, n, bm, z, F, FO, FS, rv, (by first | trivial | rfl | assumption), T, by rw [hrs]; exact hg, hf, hoff⟩
end
end
end Go.Proofs.YtgkcpceppmppfaaLab
namespace Go.Proofs.YtgkcpceppmppfaaLab
open Go
set_option linter.all false
set_option maxRecDepth 10000
noncomputable section
theorem shapes0_at {r : Int} (h0 : 0 ≤ r) (h1 : r < 4) : ∃ l, shapes0[r.toNat]? = some l ∧ l.length ≤ 3 := by
 have : r = 0 ∨ r = 1 ∨ r = 2 ∨ r = 3 := by omega
 rcases this with rfl | rfl | rfl | rfl
 · exact ⟨_, rfl, by simp⟩
 · exact ⟨_, rfl, by simp⟩
 · exact ⟨_, rfl, by simp⟩
 · exact ⟨_, rfl, by simp⟩
section
variable {s : St} {l : List Nd} {w : Int} {lv : V} (hA : NA s lv l) (hok : ∀ a ∈ l, NdOk s s.next a) (hw : Wf s) (hlb : ∀ b ∈ blkV lv, b < s.next)
include hA hok hw hlb
theorem build_objs {t : St} {p rp bw bb n bm : Nat} {z : List Int} {F FO FS : List Nat} (T : Two s.next t p bw bb n bm rp [] z shapes0 F FO FS w) (hf : Fr s t []) (d : Nat) {e : E} (i0 : g0 e = lv) (i7 : g7 e = .ptr p 0) (i9 : g9 e = .ptr rp 0) :
 Ret (retR (resV [rT g4, rT g5, rT g6]) (p8_29 (K (d + 5)) e t)) (BuildQ s w l) := by
 have hlen := hA.len
 have hl30 : (l.take 30).length = min 30 l.length := by simp
 generalize hos0 : mkO w (l.take 30) 0 [] = os0 at *
 replace i0 : e.a0.a0 = _ := i0
 replace i7 : e.a0.a7 = _ := i7
 replace i9 : e.a0.a9 = _ := i9
 simp -implicitDefEqProofs (maxSteps := 5000000) (disch := first | assumption | omega | (simp only [dz, dl, Nat.zero_add, Nat.reduceAdd, Bool.and_self]; done) | (simp only [dl]; omega)) only [go_sem, fAdd_eq, p8_29.eq_1]
 refine loop_at (Q := fun r => Ret (retR _ (seqR (blkR 2 r) _)) _) (fun q e' t' => ∃ (i : Nat) (os : List O) (z' : List Int) (FO' : List Nat) (rv : V), q = (l.take 30).length - i ∧ i ≤ (l.take 30).length ∧ Two s.next t' p bw bb n bm rp os z' shapes0 F FO' FS w ∧ Fr s t' [] ∧ os.length = i ∧ GL t' rv ((starts 1 os).map .i) ∧ (∀ b ∈ blkV rv, s.next ≤ b ∧ b ∉ p :: bw :: bb :: bm :: F ∧ b ∉ rp :: (FO' ++ FS)) ∧ mkO w ((l.take 30).drop i) i os = os0 ∧ g0 e' = lv ∧ g7 e' = .ptr p 0 ∧ g9 e' = .ptr rp 0 ∧ g12 e' = rv ∧ g13 e' = .i i) ?_ (n := (l.take 30).length) (by omega) ⟨0, [], z, FO, .nils, by omega, by omega, T, hf, rfl, .inl ⟨rfl, rfl⟩, by simp [blkV], by rw [List.drop_zero]; exact hos0, i0, i7, i9, (by first | trivial | rfl | assumption), (by first | trivial | rfl | assumption)⟩
 clear i0 i7 i9 T hf e
 rintro q e t1 ⟨i, os, z', FO', rv, rfl, hi, T, hf, hol, hg, hoff, hmk, i0, i7, i9, i12, i13⟩
 replace i0 : e.a0.a0 = _ := i0
 replace i7 : e.a0.a7 = _ := i7
 replace i9 : e.a0.a9 = _ := i9
 replace i12 : e.a0.a12 = _ := i12
 replace i13 : e.a0.a13 = _ := i13
 have hwt := hf.wf
 have fin : os = os0 → ∀ {e : E}, g0 e = lv → g7 e = .ptr p 0 → g9 e = .ptr rp 0 → g12 e = rv → Ret (retR (resV [rT g4, rT g5, rT g6]) (p8_68 (K (d + 5)) e t1)) (BuildQ s w l) := fun he e j0 j7 j9 j12 => by
  subst he
  rw [← hos0] at T hg
  exact build_sets hA hok hw hlb T hf hg hoff d j0 j7 j9 j12
 by_cases cl : (i : Int) < ((l.length : Nat) : Int)
 · by_cases c30 : (i : Int) < 30
   · obtain ⟨a, ha⟩ : ∃ a, (l.take 30)[i]? = some a := ⟨_, List.getElem?_eq_getElem (by omega)⟩
     have hal : l[i]? = some a := by
      rw [List.getElem?_take] at ha
      split at ha
      · exact ha
      · cases ha
     have hdrop : (l.take 30).drop i = a :: (l.take 30).drop (i + 1) := by
      rw [List.drop_eq_getElem_cons (show i < (l.take 30).length by omega), (List.getElem?_eq_some_iff.1 ha).2]
     rw [hdrop] at hmk
     have hNt := hA.fr hw hf (by simp)
     obtain ⟨b, o, b1, b2, b3, _⟩ := hNt.at hal
     have ew := within_eq t1 a.ln 0 6 (by omega) (by omega) (by omega) (d + 4)
     have hwi := withinI_le a.ln 0 6 (by omega)
     obtain ⟨m, hm⟩ : ∃ m : Nat, withinI a.ln 0 6 = m := ⟨(withinI a.ln 0 6).toNat, by omega⟩
     rw [hm] at ew hwi
     have hlay := T.h.lay_le
     have hf0 := hf.nx
     have step : ∀ (t2 t3 : St) (z2 : List Int) (FO2 : List Nat), Fr t1 t2 [p, bw, bb] → Fr t2 t3 (rp :: FO') → Two s.next t3 p bw bb n bm rp (os ++ [newO (ndS a) (ndN a)]) z2 shapes0 F FO2 FS w → (∀ b ∈ FO2, b ∈ FO' ∨ t1.next ≤ b) → ((lay os).length + 3 + ndN a : Int) ≤ w → ∃ t4 t5 t6 t7, (K (d + 5)).call 30 [.ptr p 0, .i ((1 + (lay os).length : Nat) : Int), .i ((i : Int) + 1)] t3 = some (.i 0, t4) ∧ (K (d + 5)).call 39 [.ptr rp 0, .i ((1 + (lay os).length : Nat) : Int), .i ((i : Int) + 1)] t4 = some (.i 0, t5) ∧ t5.new (.cells 1 (ofL [V.i ((1 + (lay os).length : Nat) : Int)])) = t6 ∧ apP 1 rv (.slice t5.next 0 1 (some 1) 1) t6 = some (.slice (t5.next + 1) 0 (os.length + 1) none 1, t7) ∧ ∃ m, m < (l.take 30).length - i ∧ ∃ (i' : Nat) (os' : List O) (z' : List Int) (FO' : List Nat) (rv' : V), m = (l.take 30).length - i' ∧ i' ≤ (l.take 30).length ∧ Two s.next t7 p bw bb n bm rp os' z' shapes0 F FO' FS w ∧ Fr s t7 [] ∧ os'.length = i' ∧ GL t7 rv' ((starts 1 os').map .i) ∧ (∀ b ∈ blkV rv', s.next ≤ b ∧ b ∉ p :: bw :: bb :: bm :: F ∧ b ∉ rp :: (FO' ++ FS)) ∧ mkO w ((l.take 30).drop i') i' os' = os0 ∧ i' = i + 1 ∧ rv' = .slice (t5.next + 1) 0 (os.length + 1) none 1 := by
      intro t2 t3 z2 FO2 f2 f3 T3 hO2 hfit
      obtain ⟨t4, t5, e4, f4, e5, f5, T5⟩ := T3.setTagE (d + 3) ((i : Int) + 1) (at_last os _)
      rw [turn_last] at T5
      have hmk' : mkO w ((l.take 30).drop (i + 1)) (i + 1) (os ++ [(newO (ndS a) (ndN a)).setTag ((i : Int) + 1)]) = os0 := by
       rw [← hmk, mkO, if_pos hfit]
      have g2' := hg.fr hwt f2 (fun b hb => by have := (hoff b hb).2.1; simp at this ⊢; exact ⟨this.1, this.2.1, this.2.2.1⟩)
      have g3' := g2'.fr f2.wf f3 (fun b hb => by have := (hoff b hb).2.2; simp at this ⊢; exact ⟨this.1, this.2.1⟩)
      have hrvlt : ∀ b ∈ blkV rv, b < t1.next := fun b hb => blk_lt hwt hg b hb
      have hnF2 : ∀ b ∈ blkV rv, b ∉ FO2 := fun b hb hm => by
       rcases hO2 b hm with h | h
       · exact (hoff b hb).2.2 (by simp [h])
       · have := hrvlt b hb; omega
      have g4' := g3'.fr f3.wf f4 (fun b hb => by have := (hoff b hb).2.1; simp at this ⊢; exact this.2.1)
      have g5' := g4'.fr f4.wf f5 (fun b hb => hnF2 b hb)
      obtain ⟨t6, t7, e6, e7, hg7, f7, n7⟩ := g5'.push f5.wf (x := .i ((1 + (lay os).length : Nat) : Int)) rfl (fun y hy => by obtain ⟨a, _, rfl⟩ := List.mem_map.1 hy; rfl) (by rw [List.length_map, starts_len]; omega)
      rw [List.length_map, starts_len] at e7 hg7
      have hoff5 : ∀ b ∈ blkV rv, s.next ≤ b ∧ b ∉ p :: bw :: bb :: bm :: F ∧ b ∉ rp :: (FO2 ++ FS) := fun b hb => ⟨(hoff b hb).1, (hoff b hb).2.1, fun hm => by
       simp only [List.mem_cons, List.mem_append] at hm
       rcases hm with h | h | h
       · exact (hoff b hb).2.2 (by simp [h])
       · exact hnF2 b hb h
       · exact (hoff b hb).2.2 (by simp [h])⟩
      have T7 : Two s.next t7 p bw bb n bm rp (os ++ [(newO (ndS a) (ndN a)).setTag ((i : Int) + 1)]) z2 shapes0 F FO2 FS w := by
       refine T5.off f7 ?_ ?_
       · exact fun b hb hm => (hoff5 b hm).2.1 hb
       · exact fun b hb hm => (hoff5 b hm).2.2 hb
      have hn5 : t1.next ≤ t5.next := by have := f2.nx; have := f3.nx; have := f4.nx; have := f5.nx; omega
      have F7 : Fr s t7 [] := ((((hf.trans' f2 (fun b hb => .inr (by simp at hb; exact (T.dj b (by simp; rcases hb with h | h | h <;> simp [h])).1))).trans' f3 (fun b hb => .inr (T.dr b (by simp at hb ⊢; rcases hb with h | h <;> simp [h])))).trans' f4 (fun b hb => .inr (by simp at hb; subst hb; exact (T.dj b (by simp)).1))).trans' f5 (fun b hb => .inr (T3.dr b (by simp [hb])))).trans' f7 (fun b hb => .inr (hoff b hb).1)
      refine ⟨t4, t5, t6, t7, e4, e5, e6, e7, (l.take 30).length - (i + 1), by omega, i + 1, _, z2, FO2, _, rfl, by omega, T7, F7, by simp [hol], ?_, fun b hb => ?_, hmk', rfl, rfl⟩
      · rw [starts_last, List.map_append]
        have e : (starts 1 (os ++ [(newO (ndS a) (ndN a)).setTag ((i : Int) + 1)])).length = os.length + 1 := by rw [starts_len]; simp
        exact hg7
      · simp [blkV] at hb; subst hb
        refine ⟨by omega, fun hm => ?_, fun hm => ?_⟩
        · have := T5.lt _ hm; omega
        · have := T5.ltR _ hm; omega
     by_cases cs : a.sh < 0
     · have hS : ndS a = if a.sh = -2 then -2 else -1 := by unfold ndS; rw [if_pos cs]
       have hN : ndN a = m := by unfold ndN; rw [if_pos cs, hm]; simp
       obtain ⟨q1, q2⟩ := T.arrayE (d + 2) (decide (a.sh = -2)) m (by omega)
       by_cases cf : ((lay os).length + 3 + m : Int) ≤ w
       · obtain ⟨t2, t3, z2, FO2, e2, f2, e3, f3, T3, hO2⟩ := q2 cf
         have hif : (if decide (a.sh = -2) = true then (-2 : Int) else -1) = ndS a := by rw [hS]; by_cases h : a.sh = -2 <;> simp [h]
         rw [hif, ← hN] at T3
         have hNt2 := hNt.fr hwt f2 (fun b hb hm => by
          have := hlb b hb
          have : s.next ≤ b := (T.dj b (by simp at hm ⊢; rcases hm with h | h | h <;> simp [h])).1
          omega)
         obtain ⟨b', o', b1', b2', _⟩ := hNt2.at hal
         rw [b1] at b1'; cases b1'
         obtain ⟨t4, t5, t6, t7, w4, w5, w6, w7, mm, m1, i', os', z3, FO3, rv3, m2, m3, m4, m5, m6, m7, m8, m9, rfl, rfl⟩ := step t2 t3 z2 FO2 f2 f3 T3 hO2 (by rw [hN]; exact cf)
         simp -implicitDefEqProofs (maxSteps := 5000000) (disch := first | assumption | omega | (simp only [dz, dl, Nat.zero_add, Nat.reduceAdd, Bool.and_self]; done) | (simp only [dl]; omega)) only [go_sem, fAdd_eq, i0, i7, i9, i12, i13, hlen, cl, c30, b1, b2, b3, ew, cs, e2, b2', e3, eq_self, w4, w5, w6, w7]
         exact ⟨mm, m1, i + 1, os', z3, FO3, _, m2, m3, m4, m5, m6, m7, m8, m9, (by first | trivial | rfl | assumption), (by first | trivial | rfl | assumption), (by first | trivial | rfl | assumption), rfl, (by first | trivial | rfl | assumption)⟩
       · obtain ⟨e2, e3⟩ := q1 (by omega)
         have c26 : ¬ (26 : Int) = 0 := by omega
         have he : os = os0 := by rw [← hmk, mkO, if_neg (by rw [hN]; exact cf)]
         simp -implicitDefEqProofs (maxSteps := 5000000) (disch := first | assumption | omega | (simp only [dz, dl, Nat.zero_add, Nat.reduceAdd, Bool.and_self]; done) | (simp only [dl]; omega)) only [go_sem, fAdd_eq, i0, i7, i9, i12, i13, hlen, cl, c30, b1, b2, b3, ew, cs, e2, e3, c26]
         exact fin he (by first | trivial | rfl | assumption) (by first | trivial | rfl | assumption) (by first | trivial | rfl | assumption) (by first | trivial | rfl | assumption)
     · have h4 : 0 ≤ a.sh.tmod 4 ∧ a.sh.tmod 4 < 4 := ⟨Int.tmod_nonneg 4 (by omega), Int.tmod_lt_of_pos a.sh (by omega)⟩
       obtain ⟨ls, hls, hls3⟩ := shapes0_at h4.1 h4.2
       have hS : ndS a = a.sh.tmod 4 := by unfold ndS; rw [if_neg cs]
       have hN : ndN a = ls.length := by unfold ndN; rw [if_neg cs, hls]; rfl
       obtain ⟨q1, q2⟩ := T.objectE (d + 2) (a.sh.tmod 4) (by simp [shapes0]) h4.1 hls (by omega)
       have c4 : ¬ (4 : Int) = 0 := by omega
       by_cases cf : ((lay os).length + 3 + ls.length : Int) ≤ w
       · obtain ⟨t2, t3, z2, FO2, e2, f2, e3, f3, T3, hO2⟩ := q2 cf
         rw [← hS, ← hN] at T3
         have hNt2 := hNt.fr hwt f2 (fun b hb hm => by
          have := hlb b hb
          have : s.next ≤ b := (T.dj b (by simp at hm ⊢; rcases hm with h | h | h <;> simp [h])).1
          omega)
         obtain ⟨b', o', b1', b2', _⟩ := hNt2.at hal
         rw [b1] at b1'; cases b1'
         obtain ⟨t4, t5, t6, t7, w4, w5, w6, w7, mm, m1, i', os', z3, FO3, rv3, m2, m3, m4, m5, m6, m7, m8, m9, rfl, rfl⟩ := step t2 t3 z2 FO2 f2 f3 T3 hO2 (by rw [hN]; exact cf)
         simp -implicitDefEqProofs (maxSteps := 5000000) (disch := first | assumption | omega | (simp only [dz, dl, Nat.zero_add, Nat.reduceAdd, Bool.and_self]; done) | (simp only [dl]; omega)) only [go_sem, fAdd_eq, i0, i7, i9, i12, i13, hlen, cl, c30, b1, b2, b3, ew, cs, c4, e2, b2', e3, eq_self, w4, w5, w6, w7]
         exact ⟨mm, m1, i + 1, os', z3, FO3, _, m2, m3, m4, m5, m6, m7, m8, m9, (by first | trivial | rfl | assumption), (by first | trivial | rfl | assumption), (by first | trivial | rfl | assumption), rfl, (by first | trivial | rfl | assumption)⟩
       · obtain ⟨e2, e3⟩ := q1 (by omega)
         have c26 : ¬ (26 : Int) = 0 := by omega
         have he : os = os0 := by rw [← hmk, mkO, if_neg (by rw [hN]; exact cf)]
         simp -implicitDefEqProofs (maxSteps := 5000000) (disch := first | assumption | omega | (simp only [dz, dl, Nat.zero_add, Nat.reduceAdd, Bool.and_self]; done) | (simp only [dl]; omega)) only [go_sem, fAdd_eq, i0, i7, i9, i12, i13, hlen, cl, c30, b1, b2, b3, ew, cs, c4, e2, e3, c26]
         exact fin he (by first | trivial | rfl | assumption) (by first | trivial | rfl | assumption) (by first | trivial | rfl | assumption) (by first | trivial | rfl | assumption)
   · have hend : i = (l.take 30).length := by omega
     have he : os = os0 := by rw [← hmk, hend, List.drop_length]; rfl
     simp -implicitDefEqProofs (maxSteps := 5000000) (disch := first | assumption | omega | (simp only [dz, dl, Nat.zero_add, Nat.reduceAdd, Bool.and_self]; done) | (simp only [dl]; omega)) only [go_sem, fAdd_eq, i0, i7, i9, i12, i13, hlen, cl, c30]
     exact fin he (by first | trivial | rfl | assumption) (by first | trivial | rfl | assumption) (by first | trivial | rfl | assumption) (by first | trivial | rfl | assumption)
 · have hend : i = (l.take 30).length := by omega
   have he : os = os0 := by rw [← hmk, hend, List.drop_length]; rfl
   simp -implicitDefEqProofs (maxSteps := 5000000) (disch := first | assumption | omega | (simp only [dz, dl, Nat.zero_add, Nat.reduceAdd, Bool.and_self]; done) | (simp only [dl]; omega)) only [go_sem, fAdd_eq, i0, i7, i9, i12, i13, hlen, cl]
   exact fin he (by first | trivial | rfl | assumption) (by first | trivial | rfl | assumption) (by first | trivial | rfl | assumption) (by first | trivial | rfl | assumption)
end
end
end Go.Proofs.YtgkcpceppmppfaaLab
namespace Go.Proofs.YtgkcpceppmppfaaLab
open Go
set_option linter.all false
set_option maxRecDepth 10000
noncomputable section
section
variable {b0 : Nat} {t : St} {p bw bb n bm rp : Nat} {os : List O} {z : List Int} {shapes : List (List Bool)} {F FO FS : List Nat} {w : Int} (T : Two b0 t p bw bb n bm rp os z shapes F FO FS w)
include T
theorem Two.shapeE (d : Nat) {v : V} {l : List Bool} (h : SL t v (l.map .bool)) (hv : ∀ b ∈ blkV v, b < t.next ∧ b ∉ p :: bw :: bb :: bm :: F) (hb : l.length ≤ 1000) (hsh : shapes.length ≤ 1000) (hi : idxL l shapes = none) :
 ∃ t1 t2 x F' FS', (K (d + 2)).call 33 [.ptr p 0, v] t = some (.i x, t1) ∧ Fr t t1 (p :: bm :: F) ∧ (K (d + 2)).call 34 [.ptr rp 0, v] t1 = some (.i x, t2) ∧ Fr t1 t2 (rp :: FS) ∧ Two b0 t2 p bw bb n bm rp os z (shapes ++ [l]) F' FO FS' w ∧ (∀ b ∈ F', b ∈ F ∨ t.next ≤ b) ∧ (∀ b ∈ FS', b ∈ FS ∨ t.next ≤ b) := by
 have hw := T.wf
 have hne : ∀ b ∈ blkV v, ∀ x ∈ p :: bw :: bb :: bm :: F, b ≠ x := fun b hb x hx e => (hv b hb).2 (e ▸ hx)
 obtain ⟨x1, t1, e1, hq⟩ := T.h.shape h (fun b hb => ⟨(hv b hb).1, hne b hb p (by simp), hne b hb bm (by simp), fun hm => hne b hb b (by simp [hm]) rfl⟩) (by omega) (by omega) d
 unfold ShapeQ at hq
 rw [hi] at hq
 obtain ⟨rfl, ⟨F', h1, hF⟩, f1⟩ := hq
 have R1 := T.r1 f1 (by intro b hb; simp only [List.mem_cons] at hb ⊢; rcases hb with h | h | h <;> simp [h])
 obtain ⟨x2, t2, e2, hq2⟩ := R1.shapeN (h.fr hw f1 (fun b hb hm => by simp only [List.mem_cons] at hm; rcases hm with h | h | h; exact hne b hb p (by simp) h; exact hne b hb bm (by simp) h; exact hne b hb b (by simp [h]) rfl)) (by omega) (by omega) (d + 1)
 rw [hi] at hq2
 obtain ⟨rfl, FS', r2, hS2, f2⟩ := hq2
 exact ⟨t1, t2, _, F', FS', e1, f1, e2, f2, T.make f1 h1 hF f2 (by intro b hb; simp only [List.mem_cons, List.mem_append] at hb ⊢; exact hb.elim .inl (fun h => .inr (.inr h))) r2 (fun b hb => .inl hb) hS2 (T.rf.more T.h.ok l), hF, fun b hb => (hS2 b hb).imp_right fun h => Nat.le_trans f1.nx h⟩
end
theorem lit0 (id : Nat) : bslP 0 1 [] [] id = some (.slice id 0 0 (some 0) 1, .cells 0 (ofL [])) := rfl
theorem lit2 (id : Nat) : bslP 2 1 [.bool false, .bool false] [(0, 1, .bool true), (1, 1, .bool false)] id = some (.slice id 0 2 (some 2) 1, .cells 2 (ofL [.bool true, .bool false])) := rfl
theorem lit3 (id : Nat) : bslP 3 1 [.bool false, .bool false, .bool false] [(0, 1, .bool false), (1, 1, .bool true), (2, 1, .bool true)] id = some (.slice id 0 3 (some 3) 1, .cells 3 (ofL [.bool false, .bool true, .bool true])) := rfl
theorem lit4 (id a b c d : Nat) : bslP 4 1 [.nils, .nils, .nils, .nils] [(0, 1, .slice a 0 0 (some 0) 1), (1, 1, .slice b 0 1 (some 1) 1), (2, 1, .slice c 0 2 (some 2) 1), (3, 1, .slice d 0 3 (some 3) 1)] id = some (.slice id 0 4 (some 4) 1, .cells 4 (ofL [.slice a 0 0 (some 0) 1, .slice b 0 1 (some 1) 1, .slice c 0 2 (some 2) 1, .slice d 0 3 (some 3) 1])) := rfl
def svs (y : Nat) : List V := [.slice y 0 0 (some 0) 1, .slice (y + 1) 0 1 (some 1) 1, .slice (y + 2) 0 2 (some 2) 1, .slice (y + 3) 0 3 (some 3) 1]
structure Lits (s : St) (y : Nat) : Prop where
 l : s.cl (y + 4) = some (svs y)
 a : s.cl y = some []
 b : s.cl (y + 1) = some [.bool true]
 c : s.cl (y + 2) = some [.bool true, .bool false]
 d : s.cl (y + 3) = some [.bool false, .bool true, .bool true]
theorem Lits.fr {s s' : St} {y : Nat} {L : List Nat} (h : Lits s y) (hw : Wf s) (f : Fr s s' L) (hd : ∀ b ∈ L, b < y ∨ y + 5 ≤ b) : Lits s' y :=
 ⟨f.cl hw h.l (fun hm => by have := hd _ hm; omega), f.cl hw h.a (fun hm => by have := hd _ hm; omega), f.cl hw h.b (fun hm => by have := hd _ hm; omega), f.cl hw h.c (fun hm => by have := hd _ hm; omega), f.cl hw h.d (fun hm => by have := hd _ hm; omega)⟩
theorem Lits.at {s : St} {y : Nat} (h : Lits s y) (hw : Wf s) {j : Nat} (hj : j < 4) : ∃ v l, bIdx 1 (.slice (y + 4) 0 4 (some 4) 1) (.i (j : Nat)) = some (.ptr (y + 4) j) ∧ ldP (.ptr (y + 4) j) s = some v ∧ shapes0[j]? = some l ∧ SL s v (l.map .bool) ∧ (∀ b ∈ blkV v, y ≤ b ∧ b < y + 5) ∧ l.length ≤ 3 ∧ idxL l (shapes0.take j) = none := by
 have hb : bIdx 1 (.slice (y + 4) 0 4 (some 4) 1) (.i (j : Nat)) = some (.ptr (y + 4) j) := by rw [bIdx1_eq (by omega) (by omega)]; simp
 have hld : ∀ v, (svs y)[j]? = some v → ldP (.ptr (y + 4) j) s = some v := fun v hv => dLd_eq hw h.l hv
 have : j = 0 ∨ j = 1 ∨ j = 2 ∨ j = 3 := by omega
 rcases this with rfl | rfl | rfl | rfl
 · exact ⟨_, [], hb, hld _ rfl, rfl, .inl ⟨rfl, .inr ⟨_, _, _, rfl⟩⟩, by simp [blkV], by simp, rfl⟩
 · exact ⟨_, [true], hb, hld _ rfl, rfl, SL.of hw h.b (by simp) (fun i hi => by rw [Nat.zero_add]; rfl), by simp [blkV], by simp, rfl⟩
 · exact ⟨_, [true, false], hb, hld _ rfl, rfl, SL.of hw h.c (by simp) (fun i hi => by rw [Nat.zero_add]; rfl), by simp [blkV], by simp, rfl⟩
 · exact ⟨_, [false, true, true], hb, hld _ rfl, rfl, SL.of hw h.d (by simp) (fun i hi => by rw [Nat.zero_add]; rfl), by simp [blkV], by simp, rfl⟩
theorem build_eq {s : St} {l : List Nd} {lv : V} (hA : NA s lv l) (hok : ∀ a ∈ l, NdOk s s.next a) (hw : Wf s) (hlb : ∀ b ∈ blkV lv, b < s.next) {w : Int} (h1 : 1 ≤ w) (h2 : w ≤ 16384) (d : Nat) :
 Ret ((K (d + 6)).call 8 [lv, .i w] s) (BuildQ s w l) := by
 obtain ⟨s1, e1, hA1, f1, n1, m1⟩ := new_heap hw (d + 4) w h1 h2
 obtain ⟨s2, e2, hR, f2, n2⟩ := new_ref f1.wf (d + 4) w h1 h2
 have H2 := hA1.fr f2 (by simp) (by simp) (by simp)
 have m2 := f2.mp f1.wf m1 (by simp)
 have T0 : Two s.next s2 (s.next + 3) s.next (s.next + 1) (w.toNat + 1) (s.next + 2) s1.next [] (List.replicate w.toNat 0) [] [] [] [] w := by
  refine ⟨⟨⟨_, H2, .inl ⟨rfl, rfl⟩⟩, ⟨_, _, m2⟩, fun o ho => (by cases ho), fun b hb => (by cases hb)⟩, hR, by omega, fun r o ho => (by cases ho), ?_, ?_⟩
  · intro b hb
    simp only [List.mem_cons, List.not_mem_nil, or_false, List.append_nil] at hb ⊢
    omega
  · intro b hb
    simp only [List.mem_cons, List.not_mem_nil, or_false, List.append_nil] at hb
    omega
 have hsep : ∀ b ∈ (s.next + 3) :: s.next :: (s.next + 1) :: (s.next + 2) :: s1.next :: [], b < s2.next := fun b hb => by simp at hb; omega
 obtain ⟨s3, a3, c3, f3, n3⟩ := new_ex (s := s2) (l := []) (n := 0) f2.wf rfl
 obtain ⟨s4, a4, c4, f4, n4⟩ := new_ex (s := s3) (l := [V.bool true]) (n := 1) f3.wf rfl
 obtain ⟨s5, a5, c5, f5, n5⟩ := new_ex (s := s4) (l := [V.bool true, .bool false]) (n := 2) f4.wf rfl
 obtain ⟨s6, a6, c6, f6, n6⟩ := new_ex (s := s5) (l := [V.bool false, .bool true, .bool true]) (n := 3) f5.wf rfl
 generalize hy : s2.next = y at *
 rw [n3] at n4 c4
 rw [n4] at n5 c5
 rw [n5] at n6 c6
 obtain ⟨s7, a7, c7, f7, n7⟩ := new_ex (s := s6) (l := svs y) (n := 4) f6.wf rfl
 rw [n6] at n7 c7
 have hL : Lits s7 y := ⟨c7, f7.cl f6.wf (f6.cl f5.wf (f5.cl f4.wf (f4.cl f3.wf c3 (by simp)) (by simp)) (by simp)) (by simp), f7.cl f6.wf (f6.cl f5.wf (f5.cl f4.wf c4 (by simp)) (by simp)) (by simp), f7.cl f6.wf (f6.cl f5.wf c5 (by simp)) (by simp), f7.cl f6.wf c6 (by simp)⟩
 have T7 := ((((T0.fr f3).fr f4).fr f5).fr f6).fr f7
 have F7 : Fr s s7 [] := ((((f1.trans f2).trans f3).trans f4).trans (f5.trans f6)).trans f7
 clear T0 H2 m2 hA1 m1
 have hrp : (s1.next : Nat) < y := hsep _ (by simp)
 have hp3 : s.next + 3 < y := hsep _ (by simp)
 have hp2 : s.next + 2 < y := hsep _ (by simp)
 have hp1 : s.next + 1 < y := hsep _ (by simp)
 have hp0 : s.next < y := hsep _ (by simp)
 have hl4 : uLenS (.slice (y + 4) 0 4 (some 4) 1) = some (.i 4) := rfl
 generalize s.next + 3 = p at *
 generalize s.next + 2 = bm at *
 generalize s.next + 1 = bb at *
 generalize hbw : s.next = bw at *
 generalize s1.next = rp at *
 have a7' : s6.new (.cells 4 (ofL [V.slice y 0 0 (some 0) 1, .slice (y + 1) 0 1 (some 1) 1, .slice (y + 2) 0 2 (some 2) 1, .slice (y + 3) 0 3 (some 3) 1])) = s7 := a7
 have nn4 : s4.next = y + 2 := n4
 have nn5 : s5.next = y + 3 := n5
 have nn6 : s6.next = y + 4 := n6
 simp -implicitDefEqProofs (maxSteps := 5000000) (disch := first | assumption | omega | (simp only [dz, dl, Nat.zero_add, Nat.reduceAdd, Bool.and_self]; done) | (simp only [dl]; omega)) only [op8, go_sem, fAdd_eq, e1, e2, eq_self, hy, lit0, a3, n3, aBSl_one, a4, nn4, lit2, a5, nn5, lit3, a6, nn6, lit4, a7']
 refine loop_at (Q := fun r => Ret (retR _ (seqR (blkR 0 r) _)) _) (fun q e' t => ∃ (j : Nat) (F FO FS : List Nat), q = 4 - j ∧ j ≤ 4 ∧ Two bw t p bw bb (w.toNat + 1) bm rp [] (List.replicate w.toNat 0) (shapes0.take j) F FO FS w ∧ Lits t y ∧ Fr s t [] ∧ (∀ b ∈ p :: bw :: bb :: bm :: F, b < y ∨ y + 5 ≤ b) ∧ (∀ b ∈ rp :: (FO ++ FS), b < y ∨ y + 5 ≤ b) ∧ g0 e' = lv ∧ g7 e' = .ptr p 0 ∧ g9 e' = .ptr rp 0 ∧ g10 e' = .slice (y + 4) 0 4 (some 4) 1 ∧ g11 e' = .i j) ?_ (n := 4) (by omega) ⟨0, [], [], [], by omega, by omega, T7, hL, F7, fun b hb => .inl ?_, fun b hb => .inl ?_, (by first | trivial | rfl | assumption), (by first | trivial | rfl | assumption), (by first | trivial | rfl | assumption), (by first | trivial | rfl | assumption), (by first | trivial | rfl | assumption)⟩
 · rintro q e t ⟨j, F, FO, FS, rfl, hj, T, hLt, hf, hs1, hs2, i0, i7, i9, i10, i11⟩
   replace i0 : e.a0.a0 = _ := i0
   replace i7 : e.a0.a7 = _ := i7
   replace i9 : e.a0.a9 = _ := i9
   replace i10 : e.a0.a10 = _ := i10
   replace i11 : e.a0.a11 = _ := i11
   have hwt := hf.wf
   by_cases c : (j : Int) < 4
   · obtain ⟨v, ls, b1, b2, b3, b4, b5, b6, b7⟩ := hLt.at hwt (j := j) (by omega)
     have hyt := cl_lt hwt hLt.l
     obtain ⟨t1, t2, x, F', FS', q1, g1', q2, g2', T2, hF, hFS⟩ := T.shapeE (d + 3) b4 (fun b hb => ⟨by have := b5 b hb; omega, fun hm => by have := hs1 b hm; have := b5 b hb; omega⟩) (by omega) (by simp [shapes0]; omega) b7
     have hLt1 := hLt.fr hwt g1' (fun b hb => hs1 b (by simp at hb ⊢; rcases hb with h | h | h <;> simp [h]))
     have hLt2 := hLt1.fr g1'.wf g2' (fun b hb => hs2 b (by simp at hb ⊢; rcases hb with h | h <;> simp [h]))
     obtain ⟨v', ls', b1', b2', b3', _⟩ := hLt1.at g1'.wf (j := j) (by omega)
     have hvv : v' = v := by
      have h1 := hLt.l
      have h2 := hLt1.l
      rw [dLd_at hwt h1 (by simp [svs]; omega)] at b2
      rw [dLd_at g1'.wf h2 (by simp [svs]; omega), b2] at b2'
      cases b2'; rfl
     subst hvv
     have F2 : Fr s t2 [] := (hf.trans' g1' (fun b hb => .inr (by rw [hbw]; exact (T.dj b (by simp at hb ⊢; rcases hb with h | h | h <;> simp [h])).1))).trans' g2' (fun b hb => .inr (by rw [hbw]; exact T.dr b (by simp at hb ⊢; rcases hb with h | h <;> simp [h])))
     have htk : shapes0.take j ++ [ls] = shapes0.take (j + 1) := by rw [List.take_succ, b3]; rfl
     rw [htk] at T2
     simp -implicitDefEqProofs (maxSteps := 5000000) (disch := first | assumption | omega | (simp only [dz, dl, Nat.zero_add, Nat.reduceAdd, Bool.and_self]; done) | (simp only [dl]; omega)) only [go_sem, fAdd_eq, i0, i7, i9, i10, i11, c, hl4, b1, b2, q1, b2', q2]
     refine ⟨4 - (j + 1), by omega, j + 1, F', FO, FS', rfl, by omega, T2, hLt2, F2, fun b hb => ?_, fun b hb => ?_, (by first | trivial | rfl | assumption), (by first | trivial | rfl | assumption), (by first | trivial | rfl | assumption), (by first | trivial | rfl | assumption), (by first | trivial | rfl | assumption)⟩
     · simp only [List.mem_cons] at hb
       rcases hb with h | h | h | h | h
       · exact hs1 b (by simp [h])
       · exact hs1 b (by simp [h])
       · exact hs1 b (by simp [h])
       · exact hs1 b (by simp [h])
       · rcases hF b h with h | h
         · exact hs1 b (by simp [h])
         · exact .inr (by omega)
     · simp only [List.mem_cons, List.mem_append] at hb
       rcases hb with h | h | h
       · exact hs2 b (by simp [h])
       · exact hs2 b (by simp [h])
       · rcases hFS b h with h | h
         · exact hs2 b (by simp [h])
         · exact .inr (by omega)
   · have : j = 4 := by omega
     subst this
     have T' : Two s.next t p bw bb (w.toNat + 1) bm rp [] (List.replicate w.toNat 0) shapes0 F FO FS w := by rw [hbw]; exact T
     simp -implicitDefEqProofs (maxSteps := 5000000) (disch := first | assumption | omega | (simp only [dz, dl, Nat.zero_add, Nat.reduceAdd, Bool.and_self]; done) | (simp only [dl]; omega)) only [go_sem, fAdd_eq, i0, i7, i9, i10, i11, c, hl4]
     exact build_objs hA (by rw [hbw]; exact hok) hw (by rw [hbw]; exact hlb) T' hf d (by first | trivial | rfl | assumption) (by first | trivial | rfl | assumption) (by first | trivial | rfl | assumption)
 · simp only [List.mem_cons, List.not_mem_nil, or_false] at hb
   omega
 · simp only [List.mem_cons, List.not_mem_nil, or_false, List.append_nil] at hb
   omega
end
end Go.Proofs.YtgkcpceppmppfaaLab
namespace Go.Proofs.YtgkcpceppmppfaaLab
open Go
set_option linter.all false
set_option maxRecDepth 10000
noncomputable section
def rootV (refs : List Int) (x : Int) : Int := if x < 0 ∨ refs.length = 0 then 0 else (refs[(x.tmod (refs.length : Nat)).toNat]?).getD 0
def rootsL (l refs : List Int) : List Int := (l.take 12).map (rootV refs)
theorem rootV_at {refs : List Int} {x : Int} (h : ¬(x < 0 ∨ refs.length = 0)) : ∃ ix y : Nat, ∃ z, x.tmod (refs.length : Nat) = (ix : Nat) ∧ refs[ix]? = some z ∧ rootV refs x = z := by
 have h0 : 0 ≤ x := by omega
 have hl : 0 < refs.length := by omega
 obtain ⟨ix, hix⟩ : ∃ ix : Nat, x.tmod (refs.length : Nat) = ix := ⟨(x.tmod (refs.length : Nat)).toNat, by have := Int.tmod_nonneg (refs.length : Int) h0; omega⟩
 have hlt := Int.tmod_lt_of_pos x (show (0 : Int) < (refs.length : Nat) by omega)
 rw [hix] at hlt
 refine ⟨ix, 0, _, hix, List.getElem?_eq_getElem (by omega), ?_⟩
 unfold rootV
 rw [if_neg h, hix, Int.toNat_natCast, List.getElem?_eq_getElem (by omega)]; rfl
theorem rootsL_ok (os : List O) (l : List Int) : RootOk os (rootsL l (starts 1 os)) := fun r hr => by
 obtain ⟨x, _, rfl⟩ := List.mem_map.1 hr
 by_cases h : x < 0 ∨ (starts 1 os).length = 0
 · exact .inl (by unfold rootV; rw [if_pos h])
 · obtain ⟨ix, _, z, _, hz, e⟩ := rootV_at h
   rw [e]
   exact .inr (refs_root os z (List.mem_of_getElem? hz))
theorem rootsL_len (l refs : List Int) : (rootsL l refs).length ≤ 12 := by simp [rootsL]; omega
theorem roots_eq {s : St} (hw : Wf s) {rv fv : V} {l refs : List Int} (hr : SL s rv (l.map .i)) (hf : SL s fv (refs.map .i)) (hfl : refs.length ≤ 100000) (d : Nat) : Ret ((K (d + 1)).call 9 [rv, fv] s) fun v t => GL t v ((rootsL l refs).map .i) ∧ Fr s t [] ∧ ∀ b ∈ blkV v, s.next ≤ b := by
 have h1 := hr.len
 have h2 := hf.len
 rw [List.length_map] at h1 h2
 have h12 : (l.take 12).length = min 12 l.length := by simp
 simp -implicitDefEqProofs (maxSteps := 5000000) (disch := first | assumption | omega | (simp only [dz, dl, Nat.zero_add, Nat.reduceAdd, Bool.and_self]; done) | (simp only [dl]; omega)) only [op9, go_sem, fAdd_eq, h1]
 refine loop_at (Q := fun r => Ret (retR _ (seqR (blkR 0 r) _)) _) (fun q e t => ∃ (j : Nat) (v : V), q = (l.take 12).length - j ∧ j ≤ (l.take 12).length ∧ Fr s t [] ∧ GL t v ((((l.take 12).take j).map (rootV refs)).map .i) ∧ (∀ b ∈ blkV v, s.next ≤ b) ∧ g0 e = rv ∧ g1 e = fv ∧ g5 e = v ∧ g6 e = .i j) ?_ (n := (l.take 12).length) (by omega) ⟨0, .nils, by omega, by omega, Fr.refl hw _, .inl ⟨rfl, rfl⟩, by simp [blkV], (by first | trivial | rfl | assumption), (by first | trivial | rfl | assumption), (by first | trivial | rfl | assumption), (by first | trivial | rfl | assumption)⟩
 rintro q e t ⟨j, v, rfl, hj, ft, hg, hb, i0, i1, i5, i6⟩
 replace i0 : e.a0.a0 = _ := i0
 replace i1 : e.a0.a1 = _ := i1
 replace i5 : e.a0.a5 = _ := i5
 replace i6 : e.a0.a6 = _ := i6
 have hwt := ft.wf
 have fin : j = (l.take 12).length → GL t v ((rootsL l refs).map .i) := fun h => by
  rw [h, List.take_length] at hg; exact hg
 by_cases cl : (j : Int) < ((l.length : Nat) : Int)
 · by_cases c12 : (j : Int) < 12
   · obtain ⟨x, hx⟩ : ∃ x, (l.take 12)[j]? = some x := ⟨_, List.getElem?_eq_getElem (by omega)⟩
     have hxl : l[j]? = some x := by
      rw [List.getElem?_take] at hx
      split at hx
      · exact hx
      · cases hx
     obtain ⟨q, a1, a2⟩ := (hr.fr hw ft (by simp)).at hwt (j := j) (x := .i x) (by rw [List.getElem?_map, hxl]; rfl)
     have hts := take_snoc hx
     have hjl : (((l.take 12).take j).map (rootV refs)).length = j := by simp; omega
     have hnx := ft.nx
     have next : ∀ y, y = rootV refs x → ∃ s1 s2, t.new (.cells 1 (ofL [V.i y])) = s1 ∧ apP 1 v (.slice t.next 0 1 (some 1) 1) s1 = some (.slice (t.next + 1) 0 ((((l.take 12).take j).map (rootV refs)).length + 1) none 1, s2) ∧ ∃ m, m < (l.take 12).length - j ∧ ∃ (j' : Nat) (v' : V), m = (l.take 12).length - j' ∧ j' ≤ (l.take 12).length ∧ Fr s s2 [] ∧ GL s2 v' ((((l.take 12).take j').map (rootV refs)).map .i) ∧ (∀ b ∈ blkV v', s.next ≤ b) ∧ j' = j + 1 ∧ v' = .slice (t.next + 1) 0 ((((l.take 12).take j).map (rootV refs)).length + 1) none 1 := fun y hy => by
      obtain ⟨s1, s2, p1, p2, hg2, f2, n2⟩ := hg.push hwt (x := .i y) rfl (fun z hz => by obtain ⟨a, _, rfl⟩ := List.mem_map.1 hz; rfl) (by rw [List.length_map, hjl]; omega)
      rw [List.length_map] at p2 hg2
      refine ⟨s1, s2, p1, p2, (l.take 12).length - (j + 1), by omega, j + 1, _, rfl, by omega, ft.trans' f2 (fun b hb' => .inr (hb b hb')), ?_, fun b hb' => ?_, rfl, rfl⟩
      · rw [hts, List.map_append, List.map_append, List.map_cons, List.map_nil, List.map_cons, List.map_nil, ← hy]; exact hg2
      · simp [blkV] at hb'; omega
     by_cases c0 : x < 0
     · obtain ⟨s1, s2, p1, p2, m, m1, j', v', m2, m3, m4, m5, m6, rfl, rfl⟩ := next 0 (by unfold rootV; rw [if_pos (.inl c0)])
       simp -implicitDefEqProofs (maxSteps := 5000000) (disch := first | assumption | omega | (simp only [dz, dl, Nat.zero_add, Nat.reduceAdd, Bool.and_self]; done) | (simp only [dl]; omega)) only [go_sem, fAdd_eq, i0, i1, i5, i6, h1, cl, c12, a1, a2, c0, p1, p2]
       exact ⟨m, m1, j + 1, _, m2, m3, m4, m5, m6, (by first | trivial | rfl | assumption), (by first | trivial | rfl | assumption), rfl, (by first | trivial | rfl | assumption)⟩
     · by_cases cr : refs.length = 0
       · obtain ⟨s1, s2, p1, p2, m, m1, j', v', m2, m3, m4, m5, m6, rfl, rfl⟩ := next 0 (by unfold rootV; rw [if_pos (.inr cr)])
         have h2' : uLenS fv = some (.i 0) := by rw [h2, cr]; rfl
         simp -implicitDefEqProofs (maxSteps := 5000000) (disch := first | assumption | omega | (simp only [dz, dl, Nat.zero_add, Nat.reduceAdd, Bool.and_self]; done) | (simp only [dl]; omega)) only [go_sem, fAdd_eq, i0, i1, i5, i6, h1, cl, c12, a1, a2, c0, h2', eq_self, p1, p2]
         exact ⟨m, m1, j + 1, _, m2, m3, m4, m5, m6, (by first | trivial | rfl | assumption), (by first | trivial | rfl | assumption), rfl, (by first | trivial | rfl | assumption)⟩
       · obtain ⟨ix, _, y, hix, hy, hv⟩ := rootV_at (refs := refs) (x := x) (by simp [c0, cr])
         obtain ⟨qy, y1, y2⟩ := (hf.fr hw ft (by simp)).at hwt (j := ix) (x := .i y) (by rw [List.getElem?_map, hy]; rfl)
         obtain ⟨s1, s2, p1, p2, m, m1, j', v', m2, m3, m4, m5, m6, rfl, rfl⟩ := next y hv.symm
         have cne : ¬ ((refs.length : Nat) : Int) = 0 := by omega
         simp -implicitDefEqProofs (maxSteps := 5000000) (disch := first | assumption | omega | (simp only [dz, dl, Nat.zero_add, Nat.reduceAdd, Bool.and_self]; done) | (simp only [dl]; omega)) only [go_sem, fAdd_eq, i0, i1, i5, i6, h1, cl, c12, a1, a2, c0, h2, cne, hix, y1, y2, p1, p2]
         exact ⟨m, m1, j + 1, _, m2, m3, m4, m5, m6, (by first | trivial | rfl | assumption), (by first | trivial | rfl | assumption), rfl, (by first | trivial | rfl | assumption)⟩
   · simp -implicitDefEqProofs (maxSteps := 5000000) (disch := first | assumption | omega | (simp only [dz, dl, Nat.zero_add, Nat.reduceAdd, Bool.and_self]; done) | (simp only [dl]; omega)) only [go_sem, fAdd_eq, i0, i1, i5, i6, h1, cl, c12]
     exact ⟨fin (by omega), ft, hb⟩
 · simp -implicitDefEqProofs (maxSteps := 5000000) (disch := first | assumption | omega | (simp only [dz, dl, Nat.zero_add, Nat.reduceAdd, Bool.and_self]; done) | (simp only [dl]; omega)) only [go_sem, fAdd_eq, i0, i1, i5, i6, h1, cl]
   exact ⟨fin (by omega), ft, hb⟩
end
end Go.Proofs.YtgkcpceppmppfaaLab
namespace Go.Proofs.YtgkcpceppmppfaaLab
open Go
set_option linter.all false
set_option maxRecDepth 10000
noncomputable section
theorem nan76 (x : Int) (s : St) (d : Nat) : (K (d + 1)).call 76 [.i x] s = some (.bool false, s) := by
 rw [op76]
 simp -implicitDefEqProofs (maxSteps := 5000000) (disch := first | assumption | omega | (simp only [dz, dl, Nat.zero_add, Nat.reduceAdd, Bool.and_self]; done) | (simp only [dl]; omega)) only [go_sem, eq_self]
theorem nan70 (x : Int) (s : St) (d : Nat) : (K (d + 1)).call 70 [.i x] s = some (.bool false, s) := by
 rw [op70]
 simp -implicitDefEqProofs (maxSteps := 5000000) (disch := first | assumption | omega | (simp only [dz, dl, Nat.zero_add, Nat.reduceAdd, Bool.and_self]; done) | (simp only [dl]; omega)) only [go_sem, eq_self]
theorem less69 (x y : Int) (s : St) (d : Nat) : (K (d + 2)).call 69 [.i x, .i y] s = some (.bool (decide (x < y)), s) := by
 have e1 := nan76 x s d
 rw [op69]
 simp -implicitDefEqProofs (maxSteps := 5000000) (disch := first | assumption | omega | (simp only [dz, dl, Nat.zero_add, Nat.reduceAdd, Bool.and_self]; done) | (simp only [dl]; omega)) only [go_sem, e1]
theorem shr1 {a : Int} (h0 : 0 ≤ a) (h1 : a < 18446744073709551616) : bSh .shr .u64 (.int .u64 a) (.int .u64 1) = some (.int .u64 (a / 2)) := by
 show some (V.int .u64 (Int.fdiv a (Int.ofNat (Nat.pow 2 (min (1 : Int).toNat IntKind.u64.bits))))) = _
 have e : Int.ofNat (Nat.pow 2 (min (1 : Int).toNat IntKind.u64.bits)) = 2 := rfl
 rw [e, Int.fdiv_eq_ediv_of_nonneg a (by omega)]
theorem cI64 {a : Int} (h0 : 0 ≤ a) (h1 : a < 9223372036854775808) : cInt .i64 (.int .u64 a) = some (.i a) := by
 show some (V.i (w64 a)) = _
 rw [w64_of ⟨by omega, by omega⟩]
theorem search_eq {s : St} (hw : Wf s) {v : V} {l : List Int} (h : SL s v (l.map .i)) (hl : l.length ≤ 900000) (hp : l.Pairwise (· < ·)) (x : Int) (d : Nat) : ∃ i : Nat, (K (d + 3)).call 49 [v, .i x] s = some (.tup [.i i, .bool (decide (x ∈ l))], s) ∧ (x ∈ l → l[i]? = some x) := by
 have hlen := h.len
 rw [List.length_map] at hlen
 have key : Ret ((K (d + 3)).call 49 [v, .i x] s) fun r t => t = s ∧ ∃ i : Nat, r = .tup [.i i, .bool (decide (x ∈ l))] ∧ (x ∈ l → l[i]? = some x) := by
  simp -implicitDefEqProofs (maxSteps := 5000000) (disch := first | assumption | omega | (simp only [dz, dl, Nat.zero_add, Nat.reduceAdd, Bool.and_self]; done) | (simp only [dl]; omega)) only [op49, go_sem, fAdd_eq, hlen]
  refine loop_at (Q := fun r => Ret (retR _ (seqR (blkR 0 r) _)) _) (fun q e t => ∃ i j : Nat, q = j - i ∧ i ≤ j ∧ j ≤ l.length ∧ t = s ∧ (∀ (k : Nat) y, k < i → l[k]? = some y → y < x) ∧ (∀ (k : Nat) y, j ≤ k → l[k]? = some y → x ≤ y) ∧ g0 e = v ∧ g1 e = .i x ∧ g6 e = .i (l.length : Nat) ∧ g7 e = .i i ∧ g8 e = .i j) ?_ (n := l.length) (by omega) ⟨0, l.length, by omega, by omega, by omega, rfl, fun k y hk => absurd hk (Nat.not_lt_zero k), fun k y hk hy => by have := (List.getElem?_eq_some_iff.1 hy).1; omega, (by first | trivial | rfl | assumption), (by first | trivial | rfl | assumption), (by first | trivial | rfl | assumption), (by first | trivial | rfl | assumption), (by first | trivial | rfl | assumption)⟩
  rintro q e t ⟨i, j, rfl, hij, hj, rfl, hlo, hhi, i0, i1, i6, i7, i8⟩
  replace i0 : e.a0.a0 = _ := i0
  replace i1 : e.a0.a1 = _ := i1
  replace i6 : e.a0.a6 = _ := i6
  replace i7 : e.a0.a7 = _ := i7
  replace i8 : e.a0.a8 = _ := i8
  have mono : ∀ (a b : Nat) y z, a < b → l[a]? = some y → l[b]? = some z → y < z := fun a b y z hab ha hb => by
   obtain ⟨x1, x2⟩ := List.getElem?_eq_some_iff.1 ha
   obtain ⟨y1, y2⟩ := List.getElem?_eq_some_iff.1 hb
   have := List.pairwise_iff_getElem.1 hp a b x1 y1 hab
   rwa [x2, y2] at this
  by_cases c : (i : Int) < (j : Nat)
  · have e1 : ((i : Int) + j) / 2 = (((i + j) / 2 : Nat) : Int) := by omega
    have hs := shr1 (a := (i : Int) + j) (by omega) (by omega)
    rw [e1] at hs
    have hc := cI64 (a := (((i + j) / 2 : Nat) : Int)) (by omega) (by omega)
    obtain ⟨m, hm⟩ : ∃ m, (i + j) / 2 = m := ⟨_, rfl⟩
    rw [hm] at hs hc
    have hmi : i ≤ m ∧ m < j := by omega
    obtain ⟨y, hy⟩ : ∃ y, l[m]? = some y := ⟨_, List.getElem?_eq_getElem (by omega)⟩
    obtain ⟨qq, a1, a2⟩ := h.at hw (j := m) (x := .i y) (by rw [List.getElem?_map, hy]; rfl)
    have e2 := less69 y x t d
    by_cases cy : y < x
    · simp -implicitDefEqProofs (maxSteps := 5000000) (disch := first | assumption | omega | (simp only [dz, dl, Nat.zero_add, Nat.reduceAdd, Bool.and_self]; done) | (simp only [dl]; omega)) only [go_sem, fAdd_eq, i0, i1, i6, i7, i8, c, hs, hc, a1, a2, e2, cy]
      exact ⟨j - (m + 1), by omega, m + 1, j, rfl, by omega, hj, (by first | trivial | rfl | assumption), fun k z hk hz => by
       by_cases ek : k = m
       · subst ek; rw [hy] at hz; cases hz; exact cy
       · have := mono k m z y (by omega) hz hy; omega, hhi, (by first | trivial | rfl | assumption), (by first | trivial | rfl | assumption), (by first | trivial | rfl | assumption), (by first | trivial | rfl | assumption), (by first | trivial | rfl | assumption)⟩
    · simp -implicitDefEqProofs (maxSteps := 5000000) (disch := first | assumption | omega | (simp only [dz, dl, Nat.zero_add, Nat.reduceAdd, Bool.and_self]; done) | (simp only [dl]; omega)) only [go_sem, fAdd_eq, i0, i1, i6, i7, i8, c, hs, hc, a1, a2, e2, cy]
      exact ⟨m - i, by omega, i, m, rfl, by omega, by omega, (by first | trivial | rfl | assumption), hlo, fun k z hk hz => by
       by_cases ek : k = m
       · subst ek; rw [hy] at hz; cases hz; omega
       · have := mono m k y z (by omega) hy hz; omega, (by first | trivial | rfl | assumption), (by first | trivial | rfl | assumption), (by first | trivial | rfl | assumption), (by first | trivial | rfl | assumption), (by first | trivial | rfl | assumption)⟩
  · have hij' : i = j := by omega
    subst hij'
    by_cases cl : (i : Int) < ((l.length : Nat) : Int)
    · obtain ⟨y, hy⟩ : ∃ y, l[i]? = some y := ⟨_, List.getElem?_eq_getElem (by omega)⟩
      obtain ⟨qq, a1, a2⟩ := h.at hw (j := i) (x := .i y) (by rw [List.getElem?_map, hy]; rfl)
      have e3 := nan70 y t (d + 1)
      by_cases cy : y = x
      · subst cy
        have hm := List.mem_of_getElem? hy
        simp -implicitDefEqProofs (maxSteps := 5000000) (disch := first | assumption | omega | (simp only [dz, dl, Nat.zero_add, Nat.reduceAdd, Bool.and_self]; done) | (simp only [dl]; omega)) only [go_sem, fAdd_eq, i0, i1, i6, i7, i8, c, cl, a1, a2, eq_self]
        exact ⟨(by first | trivial | rfl | assumption), i, by rw [decide_eq_true hm], fun _ => hy⟩
      · have hm : x ∉ l := fun hm => by
         obtain ⟨k, hk⟩ := List.getElem?_of_mem hm
         rcases Nat.lt_trichotomy k i with h1 | h1 | h1
         · have := hlo k x h1 hk; omega
         · subst h1; rw [hy] at hk; cases hk; exact cy rfl
         · have h2 := mono i k y x h1 hy hk
           have h3 := hhi i y (Nat.le_refl _) hy; omega
        simp -implicitDefEqProofs (maxSteps := 5000000) (disch := first | assumption | omega | (simp only [dz, dl, Nat.zero_add, Nat.reduceAdd, Bool.and_self]; done) | (simp only [dl]; omega)) only [go_sem, fAdd_eq, i0, i1, i6, i7, i8, c, cl, a1, a2, cy, e3]
        exact ⟨(by first | trivial | rfl | assumption), i, by rw [decide_eq_false hm], fun h => absurd h hm⟩
    · have hm : x ∉ l := fun hm => by
       obtain ⟨k, hk⟩ := List.getElem?_of_mem hm
       have := (List.getElem?_eq_some_iff.1 hk).1
       have := hlo k x (by omega) hk; omega
      simp -implicitDefEqProofs (maxSteps := 5000000) (disch := first | assumption | omega | (simp only [dz, dl, Nat.zero_add, Nat.reduceAdd, Bool.and_self]; done) | (simp only [dl]; omega)) only [go_sem, fAdd_eq, i0, i1, i6, i7, i8, c, cl]
      exact ⟨(by first | trivial | rfl | assumption), i, by rw [decide_eq_false hm], fun h => absurd h hm⟩
 obtain ⟨r, t, e1, rfl, i, rfl, h2⟩ := key
 exact ⟨i, e1, h2⟩
end
end Go.Proofs.YtgkcpceppmppfaaLab
namespace Go.Proofs.YtgkcpceppmppfaaLab
open Go
set_option linter.all false
set_option maxRecDepth 10000
noncomputable section
theorem resV_tct {g h i : E → V} {n : Nat} {e : E} {s : St} : resV [rT g, rC true n h, rT i] e s = (ldNP n (h e) s).map fun a => .tup [g e, a, i e] := by
 have e1 : rC true n h e s = ldNP n (h e) s := rfl
 unfold resV
 simp only [evR, e1, rT]
 cases ldNP n (h e) s <;> rfl
theorem reach_kept {os : List O} {shapes : List (List Bool)} {roots keep : List Int} (hRf : RefOk os shapes) (hr : RootOk os roots) (hp : keep.Pairwise (· < ·)) (hm : ∀ x, x ∈ keep ↔ Reach os shapes roots x) : Kept os keep ∧ Clo os shapes keep keep := by
 refine ⟨⟨fun r hr' => ((hm r).1 hr').isSome hRf hr, hp⟩, fun r hr' o ho k x hx hb => ?_⟩
 by_cases h0 : x = 0
 · exact .inl h0
 · exact .inr ((hm x).2 (.step ((hm r).1 hr') ho hx hb h0))
theorem mv_in {os : List O} {keep : List Int} (hK : Kept os keep) {x : Int} {i : Nat} (hi : keep[i]? = some x) : (tos os keep)[i]? = some (mv os keep x) := by
 have hx := hK.inn x (List.mem_of_getElem? hi)
 have h1 := at_pos hx
 have hil := (List.getElem?_eq_some_iff.1 hi).1
 obtain ⟨j, hj⟩ := idxI_mem (List.mem_of_getElem? hi)
 have hj' := idxI_get hj
 have hij : i = j := by
  rcases Nat.lt_trichotomy i j with h | h | h
  · have := hK.get hi hj' h; omega
  · exact h
  · have := hK.get hj' hi h; omega
 subst hij
 unfold mv
 rw [if_neg (by omega), hj]
 simp only
 have : i < (tos os keep).length := by rw [tos_len hK.inn]; exact hil
 rw [List.getElem?_eq_getElem this]; rfl
theorem mv_out {os : List O} {keep : List Int} {x : Int} (h : x ∉ keep) : mv os keep x = 0 := by
 unfold mv
 split
 · rfl
 · cases hi : idxI x keep with
   | none => rfl
   | some i => exact absurd (List.mem_of_getElem? (idxI_get hi)) h
section
variable {s : St} {p bw bb n bm : Nat} {os : List O} {z : List Int} {shapes : List (List Bool)} {F : List Nat} (H : HS s p bw bb n os z shapes bm F)
include H
def RunQ (s : St) (p bw bb n bm : Nat) (os : List O) (shapes : List (List Bool)) (F : List Nat) (roots : List Int) (r : V) (t : St) : Prop := ∃ (keep : List Int) (av : V) (steps : Nat) (z' : List Int), keep.Pairwise (· < ·) ∧ (∀ x, x ∈ keep ↔ Reach os shapes roots x) ∧ r = .tup [av, .agg [.i (keep.length : Nat), .i ((os.length : Nat) - (keep.length : Nat)), .i (wordsL os keep : Nat), .i (steps : Nat)], .i 0] ∧ SL t av ((roots.map (mv os keep)).map .i) ∧ HS t p bw bb n (slid os shapes keep) z' shapes bm F ∧ Fr s t [p, bw, bb] ∧ (∀ b ∈ blkV av, s.next ≤ b) ∧ steps ≤ 2 * roots.length + 2 * (lay os).length + wordsL os keep
theorem HS.run19 (hRf : RefOk os shapes) {v : V} {roots : List Int} (hk : SL s v (roots.map .i)) (hvb : ∀ b ∈ blkV v, b < s.next ∧ b ∉ [p, bw, bb]) (hl : roots.length ≤ 1000) (hr : RootOk os roots) (d : Nat) :
 Ret ((K (d + 8)).call 19 [.ptr p 0, v] s) (RunQ s p bw bb n bm os shapes F roots) := by
 have hw := H.wf
 have hlay := H.lay_le
 have hlen := hk.len
 rw [List.length_map] at hlen
 obtain ⟨s1, e1, c1, f1, n1⟩ := new_ex (s := s) (l := [V.i 0, .i 0, .i 0, .i 0]) (n := 4) hw rfl
 have H1 := H.fr f1 (by simp) (by simp) (by simp) (by simp) (by simp)
 obtain ⟨r2, s2, e2, _, q2⟩ := H1.marked hRf (hk.fr hw f1 (by simp)) (by omega) d
 obtain ⟨m, mb, met, st0, rfl, M, hn, hm, hst, hml⟩ := q2 hr
 have h64 := met64 H (s0 := s) hRf hr hm
 obtain ⟨s3, e3, g3', f3⟩ := M.all hn h64 (by omega) (d + 6)
 generalize hkv : V.slice s2.next 0 met.length none 1 = kv at *
 have hkp := srtI_lt hn
 have hkm : ∀ x, x ∈ srtI met ↔ Reach os shapes roots x := fun x => by rw [(srtI_perm met).mem_iff]; exact hm x
 have hwl := wordsL_perm (os := os) (srtI_perm met).symm
 have hkl := (srtI_perm met).length_eq
 generalize hkeep : srtI met = keep at *
 obtain ⟨hK, hC⟩ := reach_kept hRf hr hkp hkm
 have M3 := M.fr f3
 have H3 := H1.fr M3.f (by simp) (by simp) (by simp) (by simp) (by simp)
 obtain ⟨sh3, hA3, _⟩ := H3.H
 obtain ⟨av, s4, e4, g4', f4, _⟩ := hA3.all (d + 4)
 have l4 := g4'.len
 rw [List.length_map, starts_len] at l4
 have M4 := M3.fr f4
 have H4 := H3.fr f4 (by simp) (by simp) (by simp) (by simp) (by simp)
 have ew := M4.words H4 hn h64 (by omega) (d + 6)
 rw [hwl] at ew
 have lk := g3'.len
 rw [List.length_map] at lk
 have hos3 := lay_len3 os
 have hfits := hK.fits
 have hol := objs_len hK.inn
 have hob3 := lay_len3 (objs os keep)
 obtain ⟨s5, e5, c5, f5, n5⟩ := new_ex (s := s4) (l := [V.i 0, .i 0, .i 0, .i 0]) (n := 4) f4.wf rfl
 obtain ⟨s6, p6, c6, f6, n6⟩ := eSt_exN (s := s5) (b := s4.next) (o := 0) (vs := [V.i (keep.length : Nat), .i ((os.length : Nat) - (keep.length : Nat)), .i (wordsL os keep : Nat), .i 0]) (m := 4) f5.wf c5 rfl (by simp) (by intro v hv; simp at hv; rcases hv with rfl | rfl | rfl | rfl <;> rfl)
 have c6' : s6.cl s4.next = some [V.i (keep.length : Nat), .i ((os.length : Nat) - (keep.length : Nat)), .i (wordsL os keep : Nat), .i 0] := by rw [c6]; simp [putL]
 have F36 : Fr s3 s6 [] := (f4.trans f5).trans' f6 (fun b hb => .inr (by simp at hb; subst hb; exact f4.nx))
 have H6 := H3.fr F36 (by simp) (by simp) (by simp) (by simp) (by simp)
 have g6' := g3'.fr f3.wf F36 (by simp)
 have hkb : ∀ b ∈ blkV kv, s2.next ≤ b ∧ b < s3.next := fun b hb => by
  refine ⟨?_, blk_lt f3.wf g3' b hb⟩
  rw [← hkv] at hb; simp [blkV] at hb; omega
 have hne := H.ne
 have hF1 := f1.nx
 have hF2 := M.f.nx
 have hF3 := f3.nx
 have hF6 := F36.nx
 obtain ⟨r7, s7, e7, _, q7⟩ := H6.slide (g6'.sl F36.wf) (by omega) (fun b hb => ⟨by have := hkb b hb; omega, by have := hkb b hb; simp; omega⟩) (d + 1)
 obtain ⟨tv, z', rfl, g7', H7, f7, hbt⟩ := q7 ⟨hK, hC⟩
 obtain ⟨s8, e8, c8, f8, n8⟩ := new_ex (s := s7) (l := List.replicate roots.length (V.i 0)) (n := roots.length) f7.wf (by simp)
 have H8 := H7.fr f8 (by simp) (by simp) (by simp) (by simp) (by simp)
 have hF7 := f7.nx
 have k8 := (((g6'.fr F36.wf f7 (fun b hb => by have := hkb b hb; simp; omega)).fr f7.wf f8 (by simp)))
 have t8 := g7'.fr f7.wf f8 (by simp)
 have v8 := (((((hk.fr hw f1 (by simp)).fr f1.wf M3.f (by simp)).fr M3.f.wf F36 (by simp)).fr F36.wf f7 (fun b hb => (hvb b hb).2)).fr f7.wf f8 (by simp))
 have hFa : Fr s s6 [] := (f1.trans M3.f).trans F36
 have F8 : Fr s s8 [p, bw, bb] := ((hFa.mono (by simp)).trans f7).trans (f8.mono (by simp))
 have c8s : s8.cl s4.next = some [V.i (keep.length : Nat), .i ((os.length : Nat) - (keep.length : Nat)), .i (wordsL os keep : Nat), .i 0] := f8.cl f7.wf (f7.cl F36.wf c6' (by have := f4.nx; simp; omega)) (by simp)
 obtain ⟨mtv, cm4, _, _⟩ := M4.ex
 have cm6 := f6.cl f5.wf (f5.cl f4.wf cm4 (by simp)) (by have := cl_lt f4.wf cm4; simp; omega)
 have cm8 : s8.cl m = some [.ptr p 0, .map mb, mtv, .i st0] := f8.cl f7.wf (f7.cl F36.wf cm6 (by have := M.hm.1; simp; omega)) (by simp)
 have cR8 : s8.cl s.next = some [V.i 0, .i 0, .i 0, .i 0] := f8.cl f7.wf (f7.cl F36.wf (F36.cl f3.wf (M3.f.cl f1.wf c1 (by simp)) (by simp)) (by simp; omega)) (by simp)
 have hml2 := cl_lt f4.wf cm4
 have hmlo := M.hm.1
 have hs4 : s4.next < s7.next := by have := f4.nx; have := cl_lt F36.wf c6'; omega
 have hrn : ((roots.length : Nat) : Int).toNat = roots.length := Int.toNat_natCast _
 have wb : wordsL os keep ≤ 100000 := by
  have h1 : ∀ l : List Int, (∀ r ∈ l, (at? os r).isSome) → wordsL os l = (lay (objs os l)).length := fun l => by
   induction l with
   | nil => intro _; rfl
   | cons x l ih =>
     intro h
     have hx := h x (by simp)
     obtain ⟨o, ho⟩ := Option.isSome_iff_exists.1 hx
     have hob : objs os (x :: l) = o :: objs os l := by simp [objs, ho]
     rw [hob]
     show _ = (o.ws ++ lay (objs os l)).length
     rw [List.length_append, O.ws_len, ← ih (fun r hr => h r (by simp [hr]))]
     have hl : lenO os x = (o.f.length : Nat) := by unfold lenO; rw [ho]
     simp [wordsL, hl, O.n]
  rw [h1 keep hK.inn]
  omega
 have em0 : ((roots.length : Nat) : Int).toNat * 8 ≤ 16777216 := by omega
 simp -implicitDefEqProofs (maxSteps := 5000000) (disch := first | assumption | omega | (simp only [dz, dl, Nat.zero_add, Nat.reduceAdd, Bool.and_self]; done) | (simp only [dl]; omega)) only [op19, go_sem, fAdd_eq, aAl_eq, e1, e2, e3, lk, e4, l4, ew, e5, p6, e7, eq_self, hlen, aMkS_i, hrn, e8]
 have hmvl : ((roots.map (mv os keep)).map V.i).length = roots.length := by simp
 refine loop_at (Q := fun r => Ret (retR _ (seqR (blkR 0 r) _)) _) (fun q e t => ∃ j : Nat, q = roots.length - j ∧ j ≤ roots.length ∧ Fr s8 t [s7.next] ∧ t.cl s7.next = some (fillL ((roots.map (mv os keep)).map V.i) (.i 0) j roots.length) ∧ g1 e = v ∧ g5 e = .ptr s.next 0 ∧ g7 e = .ptr m 0 ∧ g9 e = kv ∧ g10 e = .ptr s4.next 0 ∧ g11 e = tv ∧ g13 e = .slice s7.next 0 roots.length (some roots.length) 1 ∧ g53 e = v ∧ g54 e = .i (roots.length : Nat) ∧ g55 e = .i j) ?_ (n := roots.length) (by omega) ⟨0, by omega, by omega, Fr.refl f8.wf _, by simpa [fillL] using c8, (by first | trivial | rfl | assumption), (by first | trivial | rfl | assumption), (by first | trivial | rfl | assumption), (by first | trivial | rfl | assumption), (by first | trivial | rfl | assumption), (by first | trivial | rfl | assumption), (by first | trivial | rfl | assumption), (by first | trivial | rfl | assumption), (by first | trivial | rfl | assumption), (by first | trivial | rfl | assumption)⟩
 rintro q e t ⟨j, rfl, hj, ft, ct, i1, i5, i7, i9, i10, i11, i13, i53, i54, i55⟩
 replace i1 : e.a0.a1 = _ := i1
 replace i5 : e.a0.a5 = _ := i5
 replace i7 : e.a0.a7 = _ := i7
 replace i9 : e.a0.a9 = _ := i9
 replace i10 : e.a0.a10 = _ := i10
 replace i11 : e.a0.a11 = _ := i11
 replace i13 : e.a0.a13 = _ := i13
 replace i53 : e.a3.a5 = _ := i53
 replace i54 : e.a3.a6 = _ := i54
 replace i55 : e.a3.a7 = _ := i55
 have hwt := ft.wf
 have ho : s.next ≤ s7.next := by omega
 have vt := v8.fr f8.wf ft (fun b hb => by have := (hvb b hb).1; simp; omega)
 have kt := (k8.fr f8.wf ft (fun b hb => by have := hkb b hb; simp; omega)).sl hwt
 have tt := (t8.fr f8.wf ft (fun b hb => by have := blk_lt f7.wf g7' b hb; simp; omega)).sl hwt
 by_cases c : (j : Int) < ((roots.length : Nat) : Int)
 · obtain ⟨x, hx⟩ : ∃ x, roots[j]? = some x := ⟨_, List.getElem?_eq_getElem (by omega)⟩
   obtain ⟨qq, a1, a2⟩ := vt.at hwt (j := j) (x := .i x) (by rw [List.getElem?_map, hx]; rfl)
   obtain ⟨i, es, hi⟩ := search_eq hwt kt (by omega) hkp x (d + 4)
   have hlj : ((roots.map (mv os keep)).map V.i)[j]? = some (.i (mv os keep x)) := by rw [List.getElem?_map, List.getElem?_map, hx]; rfl
   have hset := fill_set (z := V.i 0) hlj (show j < roots.length by omega)
   by_cases cx : x ∈ keep
   · rw [decide_eq_true cx] at es
     obtain ⟨qy, y1, y2⟩ := tt.at hwt (j := i) (x := .i (mv os keep x)) (by rw [List.getElem?_map, mv_in hK (hi cx)]; rfl)
     obtain ⟨t2, p2, c2, f2, n2⟩ := eSt_ex (s := t) (b := s7.next) (o := j) (v := .i (mv os keep x)) hwt ct (by simp [fillL]; omega) rfl
     rw [hset] at c2
     simp -implicitDefEqProofs (maxSteps := 5000000) (disch := first | assumption | omega | (simp only [dz, dl, Nat.zero_add, Nat.reduceAdd, Bool.and_self]; done) | (simp only [dl]; omega)) only [go_sem, fAdd_eq, i1, i5, i7, i9, i10, i11, i13, i53, i54, i55, c, a1, a2, es, y1, y2, Int.toNat_natCast, Nat.zero_add, p2]
     exact ⟨roots.length - (j + 1), by omega, j + 1, rfl, by omega, ft.trans f2, c2, (by first | trivial | rfl | assumption), (by first | trivial | rfl | assumption), (by first | trivial | rfl | assumption), (by first | trivial | rfl | assumption), (by first | trivial | rfl | assumption), (by first | trivial | rfl | assumption), (by first | trivial | rfl | assumption), (by first | trivial | rfl | assumption), (by first | trivial | rfl | assumption), (by first | trivial | rfl | assumption)⟩
   · rw [decide_eq_false cx] at es
     have hz : fillL ((roots.map (mv os keep)).map V.i) (.i 0) (j + 1) roots.length = fillL ((roots.map (mv os keep)).map V.i) (.i 0) j roots.length := by
      rw [← hset, mv_out cx]
      refine set_self ?_
      unfold fillL
      rw [List.getElem?_append_right (by rw [List.length_take, hmvl]; omega), List.getElem?_replicate, if_pos (by rw [List.length_take, hmvl]; omega)]
     simp -implicitDefEqProofs (maxSteps := 5000000) (disch := first | assumption | omega | (simp only [dz, dl, Nat.zero_add, Nat.reduceAdd, Bool.and_self]; done) | (simp only [dl]; omega)) only [go_sem, fAdd_eq, i1, i5, i7, i9, i10, i11, i13, i53, i54, i55, c, a1, a2, es]
     exact ⟨roots.length - (j + 1), by omega, j + 1, rfl, by omega, ft, by rw [hz]; exact ct, (by first | trivial | rfl | assumption), (by first | trivial | rfl | assumption), (by first | trivial | rfl | assumption), (by first | trivial | rfl | assumption), (by first | trivial | rfl | assumption), (by first | trivial | rfl | assumption), (by first | trivial | rfl | assumption), (by first | trivial | rfl | assumption), (by first | trivial | rfl | assumption), (by first | trivial | rfl | assumption)⟩
 · have hjl : j = roots.length := by omega
   subst hjl
   have hfl : fillL ((roots.map (mv os keep)).map V.i) (.i 0) roots.length roots.length = (roots.map (mv os keep)).map V.i := by
    unfold fillL
    rw [Nat.sub_self, List.take_of_length_le (by omega)]; simp
   rw [hfl] at ct
   have cmt := ft.cl f8.wf cm8 (by have := hs4; have := f4.nx; simp; omega)
   have cSt := ft.cl f8.wf c8s (by simp; omega)
   have cRt := ft.cl f8.wf cR8 (by simp; omega)
   obtain ⟨t2, p2, c2, f2, n2⟩ := eSt_ex (s := t) (b := s4.next) (o := 3) (v := .i ((st0 : Int) + (wordsL os keep : Nat) + (roots.length : Nat))) hwt cSt (by simp) rfl
   simp only [List.set_cons_zero, List.set_cons_succ] at c2
   have eN := dLdN_eq (o := 0) (m := 4) f2.wf c2 (by simp)
   have eN' : ldNP 4 (.ptr s4.next 0) t2 = some (.agg [.i (keep.length : Nat), .i ((os.length : Nat) - (keep.length : Nat)), .i (wordsL os keep : Nat), .i ((st0 : Int) + (wordsL os keep : Nat) + (roots.length : Nat))]) := by rw [eN]; rfl
   have cR2 := f2.cl hwt cRt (by have := f4.nx; simp; omega)
   obtain ⟨t3, p3, c3, f3', n3⟩ := eSt_exN (s := t2) (b := s.next) (o := 0) (vs := [V.i (keep.length : Nat), .i ((os.length : Nat) - (keep.length : Nat)), .i (wordsL os keep : Nat), .i ((st0 : Int) + (wordsL os keep : Nat) + (roots.length : Nat))]) (m := 4) f2.wf cR2 rfl (by simp) (by intro v hv; simp at hv; rcases hv with rfl | rfl | rfl | rfl <;> rfl)
   have eR := dLdN_eq (o := 0) (m := 4) f3'.wf c3 (by simp [putL])
   have eR' : ldNP 4 (.ptr s.next 0) t3 = some (.agg [.i (keep.length : Nat), .i ((os.length : Nat) - (keep.length : Nat)), .i (wordsL os keep : Nat), .i ((st0 : Int) + (wordsL os keep : Nat) + (roots.length : Nat))]) := by rw [eR]; simp [putL]
   have hdF := H.dF
   have FF : Fr s8 t3 [s7.next, s4.next, s.next] := (ft.mono (by simp)).trans ((f2.mono (by simp)).trans (f3'.mono (by simp)))
   have hs4n : s.next ≤ s4.next := by have := f4.nx; omega
   have Ht := H8.fr FF (by simp; omega) (by simp; omega) (by simp; omega) (by simp; omega) (fun b hb => by have := (hdF b hb).2.2.2.1; simp; omega)
   have Ft : Fr s t3 [p, bw, bb] := F8.trans' FF (fun b hb => .inr (by simp at hb; omega))
   have co := f3'.cl f2.wf (f2.cl hwt ct (by simp; omega)) (by simp; omega)
   have hsl : SL t3 (.slice s7.next 0 roots.length (some roots.length) 1) ((roots.map (mv os keep)).map V.i) := by
    have := SL.of (o := 0) (c := some roots.length) (l := (roots.map (mv os keep)).map V.i) f3'.wf co (by simp) (fun i hi => by rw [Nat.zero_add])
    rwa [hmvl] at this
   simp -implicitDefEqProofs (maxSteps := 5000000) (disch := first | assumption | omega | (simp only [dz, dl, Nat.zero_add, Nat.reduceAdd, Bool.and_self]; done) | (simp only [dl]; omega)) only [go_sem, fAdd_eq, i1, i5, i7, i9, i10, i11, i13, i53, i54, i55, c, dLd_at hwt cmt, dLd_at hwt cSt, hlen, p2, eN', p3, resV_tct, eR', Option.map_some]
   refine ⟨keep, _, st0 + wordsL os keep + roots.length, z', hkp, hkm, ?_, hsl, Ht, Ft, fun b hb => by simp [blkV] at hb; omega, by omega⟩
   simp
end
end
end Go.Proofs.YtgkcpceppmppfaaLab
namespace Go.Proofs.YtgkcpceppmppfaaLab
open Go
set_option linter.all false
set_option maxRecDepth 10000
noncomputable section
theorem wordsL_lay {os : List O} : ∀ {l : List Int}, (∀ r ∈ l, (at? os r).isSome) → wordsL os l = (lay (objs os l)).length
 | [], _ => rfl
 | x :: l, h => by
   have ih := wordsL_lay (l := l) fun r hr => h r (by simp [hr])
   have hx := h x (by simp)
   obtain ⟨o, ho⟩ := Option.isSome_iff_exists.1 hx
   have hob : objs os (x :: l) = o :: objs os l := by simp [objs, ho]
   rw [hob]
   show _ = (o.ws ++ lay (objs os l)).length
   rw [List.length_append, O.ws_len, ← ih]
   have hl : lenO os x = (o.f.length : Nat) := by unfold lenO; rw [ho]
   simp [wordsL, hl, O.n]
theorem slid_lay {os : List O} {shapes : List (List Bool)} {keep : List Int} (h : ∀ r ∈ keep, (at? os r).isSome) : (lay (slid os shapes keep)).length = wordsL os keep := by
 rw [wordsL_lay h]; unfold slid; exact lay_map_len _
section
variable {t : St} {p bw bb n bm rp : Nat} {os : List O} {z : List Int} {shapes : List (List Bool)} {F FO FS : List Nat} {w : Int} (H : HS t p bw bb n os z shapes bm F) (R : RR t rp w os shapes FO FS)
include H R
theorem fin4 {av : V} (hg : SL t av ((starts 1 os).map .i)) (d : Nat) {e : E} (i5 : g5 e = .ptr p 0) (i6 : g6 e = .ptr rp 0) (i22 : g22 e = av) : Ret (retR (resV [rT g4]) (p4_69 (K (d + 9)) e t)) fun v t' => v = .bool true := by
 have hw := H.wf
 have hlay := H.lay_le
 have hos := lay_len3 os
 have hlen := hg.len
 rw [List.length_map, starts_len] at hlen
 obtain ⟨sh, hA, hS⟩ := H.H
 replace i5 : e.a0.a5 = _ := i5
 replace i6 : e.a0.a6 = _ := i6
 replace i22 : e.a1.a6 = _ := i22
 simp -implicitDefEqProofs (maxSteps := 5000000) (disch := first | assumption | omega | (simp only [dz, dl, Nat.zero_add, Nat.reduceAdd, Bool.and_self]; done) | (simp only [dl]; omega)) only [go_sem, fAdd_eq, p4_69.eq_1]
 refine loop_at (Q := fun r => Ret (retR _ (seqR (blkR 4 r) _)) _) (fun q e t' => ∃ i : Nat, q = os.length - i ∧ i ≤ os.length ∧ t' = t ∧ g5 e = .ptr p 0 ∧ g6 e = .ptr rp 0 ∧ g22 e = av ∧ g23 e = .i i) ?_ (n := os.length) (by omega) ⟨0, by omega, by omega, rfl, i5, i6, i22, (by first | trivial | rfl | assumption)⟩
 clear i5 i6 i22 e
 rintro q e t' ⟨i, rfl, hi, rfl, i5, i6, i22, i23⟩
 replace i5 : e.a0.a5 = _ := i5
 replace i6 : e.a0.a6 = _ := i6
 replace i22 : e.a1.a6 = _ := i22
 replace i23 : e.a1.a7 = _ := i23
 by_cases c : (i : Int) < ((os.length : Nat) : Int)
 · obtain ⟨r, hr⟩ : ∃ r, (starts 1 os)[i]? = some r := ⟨_, List.getElem?_eq_getElem (by rw [starts_len]; omega)⟩
   obtain ⟨qq, a1, a2⟩ := hg.at hw (j := i) (x := .i r) (by rw [List.getElem?_map, hr]; rfl)
   have et := hA.tag (d + 7) r
   have et2 := R.tag (d + 7) r
   have es := hA.shape (d + 7) r
   have es2 := R.shape (d + 7) r
   have el := R.len (d + 7) r
   have hsee : seesB (some (V.i r)) (.i r) = true := same_i r
   obtain ⟨o, _, hat⟩ := refs_at hr
   have hlO : lenO os r = (o.f.length : Nat) := by unfold lenO; rw [hat]
   rw [hlO] at el
   have hol : o.f.length ≤ 20000 := by
    have := lay_lt hat
    have hn : o.n = 3 + o.f.length := rfl
    omega
   simp -implicitDefEqProofs (maxSteps := 5000000) (disch := first | assumption | omega | (simp only [dz, dl, Nat.zero_add, Nat.reduceAdd, Bool.and_self]; done) | (simp only [dl]; omega)) only [go_sem, fAdd_eq, i5, i6, i22, i23, hlen, c, a1, a2, et, et2, es, es2, hsee, eq_self]
   refine loop_at (Q := fun r => rnd (seqR (blkR 5 (blkR 6 r)) _) _ _) (fun q e t'' => ∃ k : Nat, q = o.f.length - k ∧ k ≤ o.f.length ∧ t'' = t' ∧ g5 e = .ptr p 0 ∧ g6 e = .ptr rp 0 ∧ g22 e = av ∧ g23 e = .i i ∧ g24 e = .i k) ?_ (n := o.f.length) (by omega) ⟨0, by omega, by omega, rfl, (by first | trivial | rfl | assumption), (by first | trivial | rfl | assumption), (by first | trivial | rfl | assumption), (by first | trivial | rfl | assumption), (by first | trivial | rfl | assumption)⟩
   clear i5 i6 i22 i23 e
   rintro q e t'' ⟨k, rfl, hk, rfl, i5, i6, i22, i23, i24⟩
   replace i5 : e.a0.a5 = _ := i5
   replace i6 : e.a0.a6 = _ := i6
   replace i22 : e.a1.a6 = _ := i22
   replace i23 : e.a1.a7 = _ := i23
   replace i24 : e.a1.a8 = _ := i24
   by_cases ck : (k : Int) < ((o.f.length : Nat) : Int)
   · have eg := hA.get (d + 5) r (k : Nat)
     have eg2 := R.get (d + 7) r (k : Nat)
     cases hgo : getO os r (k : Nat) with
     | none =>
       rw [hgo] at eg eg2
       simp only at eg eg2
       simp -implicitDefEqProofs (maxSteps := 5000000) (disch := first | assumption | omega | (simp only [dz, dl, Nat.zero_add, Nat.reduceAdd, Bool.and_self]; done) | (simp only [dl]; omega)) only [go_sem, fAdd_eq, i5, i6, i22, i23, i24, a1, a2, el, ck, eg, eg2, eq_self]
       exact ⟨o.f.length - (k + 1), by omega, k + 1, rfl, by omega, (by first | trivial | rfl | assumption), (by first | trivial | rfl | assumption), (by first | trivial | rfl | assumption), (by first | trivial | rfl | assumption), (by first | trivial | rfl | assumption), (by first | trivial | rfl | assumption)⟩
     | some y =>
       rw [hgo] at eg eg2
       simp only at eg eg2
       simp -implicitDefEqProofs (maxSteps := 5000000) (disch := first | assumption | omega | (simp only [dz, dl, Nat.zero_add, Nat.reduceAdd, Bool.and_self]; done) | (simp only [dl]; omega)) only [go_sem, fAdd_eq, i5, i6, i22, i23, i24, a1, a2, el, ck, eg, eg2, eq_self]
       exact ⟨o.f.length - (k + 1), by omega, k + 1, rfl, by omega, (by first | trivial | rfl | assumption), (by first | trivial | rfl | assumption), (by first | trivial | rfl | assumption), (by first | trivial | rfl | assumption), (by first | trivial | rfl | assumption), (by first | trivial | rfl | assumption)⟩
   · simp -implicitDefEqProofs (maxSteps := 5000000) (disch := first | assumption | omega | (simp only [dz, dl, Nat.zero_add, Nat.reduceAdd, Bool.and_self]; done) | (simp only [dl]; omega)) only [go_sem, fAdd_eq, i5, i6, i22, i23, i24, a1, a2, el, ck]
     exact ⟨os.length - (i + 1), by omega, i + 1, rfl, by omega, (by first | trivial | rfl | assumption), (by first | trivial | rfl | assumption), (by first | trivial | rfl | assumption), (by first | trivial | rfl | assumption), (by first | trivial | rfl | assumption)⟩
 · have ek := op15 (d + 8) t'
   simp -implicitDefEqProofs (maxSteps := 5000000) (disch := first | assumption | omega | (simp only [dz, dl, Nat.zero_add, Nat.reduceAdd, Bool.and_self]; done) | (simp only [dl]; omega)) only [go_sem, fAdd_eq, i5, i6, i22, i23, hlen, c, ek]
end
end
end Go.Proofs.YtgkcpceppmppfaaLab
namespace Go.Proofs.YtgkcpceppmppfaaLab
open Go
set_option linter.all false
set_option maxRecDepth 10000
noncomputable section
section
variable {b0 : Nat} {t : St} {p bw bb n bm rp : Nat} {os : List O} {z : List Int} {shapes : List (List Bool)} {F FO FS FO' : List Nat} {w : Int} {keep X : List Int}
theorem rest4 (H : HS t p bw bb n os z shapes bm F) (hRf : RefOk os shapes) (R : RR t rp w (slid os shapes keep) shapes FO' FS) (hdj : ∀ b ∈ rp :: (FO' ++ FS), b ∉ [p, bw, bb]) (hX : RootOk os X) (hXl : X.length ≤ 12) (hkp : keep.Pairwise (· < ·)) (hkm : ∀ x, x ∈ keep ↔ Reach os shapes X x)
 {xv wv kv : V} (hx : SL t xv (X.map .i)) (hxb : ∀ b ∈ blkV xv, b < t.next ∧ b ∉ [p, bw, bb]) (hwv : SL t wv ((X.map (mv os keep)).map .i)) (hwb : ∀ b ∈ blkV wv, b ∉ [p, bw, bb]) (hkl : uLenS kv = some (.i (keep.length : Nat)))
 (d : Nat) {e : E} (i5 : g5 e = .ptr p 0) (i6 : g6 e = .ptr rp 0) (i8 : g8 e = xv) (i9 : g9 e = .i ((lay os).length : Nat)) (i10 : g10 e = .i (os.length : Nat)) (i11 : g11 e = kv) (i15 : g15 e = wv) : Ret (retR (resV [rT g4]) (p4_53 (K (d + 9)) e t)) fun v t' => v = .bool true := by
 have hw := H.wf
 have hlay := H.lay_le
 have hos := lay_len3 os
 obtain ⟨hK, hC⟩ := reach_kept hRf hX hkp hkm
 obtain ⟨r1, t1, e1, keep2, av, steps, z', hp2, hm2, rfl, hav, H1, f1, hab, hst⟩ := H.run19 hRf hx hxb (by omega) hX (d + 1)
 obtain rfl : keep2 = keep := rising_eq hp2 hkp fun y => by rw [hm2, hkm]
 have R1 := R.fr f1 (fun h => hdj _ (by simp) h) (fun b hb h => hdj b (by simp [hb]) h) (fun b hb h => hdj b (by simp [hb]) h)
 have hsl := slid_lay (shapes := shapes) hK.inn
 have hwl : wordsL os keep2 ≤ (lay os).length := by rw [wordsL_lay hK.inn]; exact hK.fits
 obtain ⟨t2, e2, c2, f2, n2⟩ := new_ex (s := t1) (l := [V.i 0, .i 0, .i 0, .i 0]) (n := 4) f1.wf rfl
 obtain ⟨t3, p3, c3, f3, n3⟩ := eSt_exN (s := t2) (b := t1.next) (o := 0) (vs := [V.i (keep2.length : Nat), .i ((os.length : Nat) - (keep2.length : Nat)), .i (wordsL os keep2 : Nat), .i (steps : Nat)]) (m := 4) f2.wf c2 rfl (by simp) (by intro v hv; simp at hv; rcases hv with rfl | rfl | rfl | rfl <;> rfl)
 have c3' : t3.cl t1.next = some [V.i (keep2.length : Nat), .i ((os.length : Nat) - (keep2.length : Nat)), .i (wordsL os keep2 : Nat), .i (steps : Nat)] := by rw [c3]; simp [putL]
 have F13 : Fr t1 t3 [] := f2.trans' f3 (by simp)
 have H3 := H1.fr F13 (by simp) (by simp) (by simp) (by simp) (by simp)
 have R3 := R1.fr F13 (by simp) (by simp) (by simp)
 have w3 := (hwv.fr hw f1 hwb).fr f1.wf F13 (by simp)
 have a3 := hav.fr f1.wf F13 (by simp)
 have es := same_int f3.wf a3 w3 (by simp; omega) (by simp; omega) (d + 8)
 rw [decide_eq_true rfl] at es
 have eu := R3.used (d + 8)
 rw [hsl] at eu
 obtain ⟨av2, t4, e4, g4', f4, _⟩ := R3.all (d + 8)
 have H4 := H3.fr f4 (by simp) (by simp) (by simp) (by simp) (by simp)
 obtain ⟨sh4, hA4, _⟩ := H4.H
 obtain ⟨av3, t5, e5, g5', f5, _⟩ := hA4.all (d + 6)
 have hlay2 := H4.lay_le
 have hos2 := lay_len3 (slid os shapes keep2)
 have es2 := same_int f5.wf (g5'.sl f5.wf) ((g4'.fr f4.wf f5 (by simp)).sl f5.wf) (by rw [starts_len]; omega) (by rw [starts_len]; omega) (d + 8)
 rw [decide_eq_true rfl] at es2
 have H5 := H4.fr f5 (by simp) (by simp) (by simp) (by simp) (by simp)
 have R5 := (R3.fr f4 (by simp) (by simp) (by simp)).fr f5 (by simp) (by simp) (by simp)
 obtain ⟨sh5, hA5, _⟩ := H5.H
 have eu2 := hA5.hr.fnUsed (d + 8)
 have eu3 := R5.used (d + 8)
 rw [hsl] at eu3
 have hun : ((1 + (lay (slid os shapes keep2)).length : Nat) : Int) - 1 = (wordsL os keep2 : Nat) := by rw [hsl]; omega
 rw [hun] at eu2
 have hxl := hx.len
 rw [List.length_map] at hxl
 have hsee1 : ∀ n : Int, seesB (some (V.i n)) (.i n) = true := fun n => same_i n
 have c26 : ¬ (steps : Int) < 0 := by omega
 have c27 : ¬ 8 * ((((lay os).length : Nat) : Int) + (X.length : Nat)) + 8 < (steps : Nat) := by omega
 replace i5 : e.a0.a5 = _ := i5
 replace i6 : e.a0.a6 = _ := i6
 replace i8 : e.a0.a8 = _ := i8
 replace i9 : e.a0.a9 = _ := i9
 replace i10 : e.a0.a10 = _ := i10
 replace i11 : e.a0.a11 = _ := i11
 replace i15 : e.a0.a15 = _ := i15
 have hkol : keep2.length ≤ 20000 := by
  have := objs_len hK.inn
  have := lay_len3 (objs os keep2)
  have := hK.fits
  omega
 simp -implicitDefEqProofs (maxSteps := 5000000) (disch := first | assumption | omega | (simp only [dz, dl, Nat.zero_add, Nat.reduceAdd, Bool.and_self]; done) | (simp only [dl]; omega)) only [go_sem, fAdd_eq, p4_53.eq_1, i5, i6, i8, i9, i10, i11, i15, e1, aAl_eq, e2, p3, es, dLd_at f3.wf c3', hkl, eq_self, eu, hsee1, hxl, c26, c27, e4, e5, es2, eu2, eu3]
 exact fin4 H5 R5 ((g4'.fr f4.wf f5 (by simp)).sl f5.wf) d (by first | trivial | rfl | assumption) (by first | trivial | rfl | assumption) (by first | trivial | rfl | assumption)
end
end
end Go.Proofs.YtgkcpceppmppfaaLab
namespace Go.Proofs.YtgkcpceppmppfaaLab
open Go
set_option linter.all false
set_option maxRecDepth 10000
noncomputable section
theorem collectRuns_run {s : St} (hw : Wf s) {v0 v1 : V} {l : List Nd} {rl : List Int} (hA : NA s v0 l) (hok : ∀ a ∈ l, NdOk s s.next a) (hlb : ∀ b ∈ blkV v0, b < s.next) (hr : SL s v1 (rl.map .i)) (hrb : ∀ b ∈ blkV v1, b < s.next) (d : Nat) : Ret ((K (d + 10)).call 4 [v0, v1] s) fun v t => v = .bool true := by
 obtain ⟨r1, t1, e1, p, rp, bw, bb, n, bm, z, F, FO, FS, rv, rfl, T, hg, f1, hoff⟩ := build_eq hA hok hw hlb (w := 400) (by omega) (by omega) (d + 3)
 have hfacts := bld_facts 400 l
 generalize bld 400 l = os at *
 have hw1 := f1.wf
 have hlay := T.h.lay_le
 have hos := lay_len3 os
 obtain ⟨xv, t2, e2, g2', f2, hxb⟩ := roots_eq hw1 (hr.fr hw f1 (by simp)) (hg.sl hw1) (by rw [starts_len]; omega) (d + 8)
 have hX := rootsL_ok os rl
 have hXl := rootsL_len rl (starts 1 os)
 generalize rootsL rl (starts 1 os) = X at *
 have T2 := T.fr f2
 have eu := T2.r.used (d + 8)
 obtain ⟨lv, t3, e3, g3', f3, _⟩ := T2.r.all (d + 8)
 have hl3 := g3'.len
 rw [List.length_map, starts_len] at hl3
 have T3 := T2.fr f3
 have hx2 := g2'.sl f2.wf
 have hx3 := hx2.fr f2.wf f3 (by simp)
 obtain ⟨r4, t4, e4, _, q4⟩ := T3.r.mark T3.h.ok T3.rf hx3 (by omega) (d + 6)
 obtain ⟨kv, keep, rfl, hk4, f4, hkb, hkp, hkm⟩ := q4 hX
 obtain ⟨hK, hC⟩ := reach_kept T3.rf hX hkp hkm
 have hol := objs_len hK.inn
 have hob3 := lay_len3 (objs os keep)
 have hfits := hK.fits
 have T4 := T3.fr f4
 have hx4 := hx3.fr f3.wf f4 (by simp)
 have hxlt : ∀ b ∈ blkV xv, t1.next ≤ b ∧ b < t2.next := fun b hb => ⟨hxb b hb, blk_lt f2.wf g2' b hb⟩
 have hklt : ∀ b ∈ blkV kv, t3.next ≤ b ∧ b < t4.next := fun b hb => ⟨hkb b hb, blk_lt f4.wf hk4 b hb⟩
 have hn12 := f2.nx
 have hn23 := f3.nx
 have hn34 := f4.nx
 have hR := T4.ltR
 obtain ⟨r5, t5, e5, _, q5⟩ := T4.r.slide T4.h.ok (hk4.sl f4.wf) (by omega) (fun b hb => (hklt b hb).2) (d + 6)
 obtain ⟨tv, FO5, rfl, g5', R5, hO5, f5, htb⟩ := q5 ⟨hK, hC⟩
 have hP := T.lt
 have hRlt := T.ltR
 have hrp1 : rp < t1.next := hRlt rp (by simp)
 have hdj := T.dj
 have H5 := T4.h.fr f5 (fun h => (hdj p (by simp)).2 (by simp at h; simp [h])) (fun h => (hdj bw (by simp)).2 (by simp at h; simp [h])) (fun h => (hdj bb (by simp)).2 (by simp at h; simp [h])) (fun h => (hdj bm (by simp)).2 (by simp at h; simp [h])) (fun b hb h => (hdj b (by simp [hb])).2 (by simp at h; simp [h]))
 have hk5 := (hk4.fr f4.wf f5 (fun b hb => by have := hklt b hb; simp; omega)).sl f5.wf
 have hx5 := hx4.fr f4.wf f5 (fun b hb => by have := hxlt b hb; simp; omega)
 have ht5 := g5'.sl f5.wf
 have hkl := hk5.len
 have hxl := hx5.len
 rw [List.length_map] at hkl hxl
 have hn45 := f5.nx
 simp -implicitDefEqProofs (maxSteps := 5000000) (disch := first | assumption | omega | (simp only [dz, dl, Nat.zero_add, Nat.reduceAdd, Bool.and_self]; done) | (simp only [dl]; omega)) only [op4, go_sem, fAdd_eq, e1, bNil_ptr, e2, eu, e3, hl3, e4, e5]
 refine loop_at (Q := fun r => Ret (retR _ (seqR (blkR 0 r) _)) _) (fun q e t => ∃ (j : Nat) (wv : V), q = X.length - j ∧ j ≤ X.length ∧ Fr t5 t [] ∧ GL t wv (((X.take j).map (mv os keep)).map .i) ∧ (∀ b ∈ blkV wv, t5.next ≤ b) ∧ g5 e = .ptr p 0 ∧ g6 e = .ptr rp 0 ∧ g8 e = xv ∧ g9 e = .i ((lay os).length : Nat) ∧ g10 e = .i (os.length : Nat) ∧ g11 e = kv ∧ g13 e = tv ∧ g15 e = wv ∧ g16 e = .i j) ?_ (n := X.length) (by omega) ⟨0, .nils, by omega, by omega, Fr.refl f5.wf _, .inl ⟨rfl, rfl⟩, by simp [blkV], (by first | trivial | rfl | assumption), (by first | trivial | rfl | assumption), (by first | trivial | rfl | assumption), (by first | trivial | rfl | assumption), (by first | trivial | rfl | assumption), (by first | trivial | rfl | assumption), (by first | trivial | rfl | assumption), (by first | trivial | rfl | assumption), (by first | trivial | rfl | assumption)⟩
 rintro q e t ⟨j, wv, rfl, hj, ft, hgw, hwb, i5, i6, i8, i9, i10, i11, i13, i15, i16⟩
 replace i5 : e.a0.a5 = _ := i5
 replace i6 : e.a0.a6 = _ := i6
 replace i8 : e.a0.a8 = _ := i8
 replace i9 : e.a0.a9 = _ := i9
 replace i10 : e.a0.a10 = _ := i10
 replace i11 : e.a0.a11 = _ := i11
 replace i13 : e.a0.a13 = _ := i13
 replace i15 : e.a0.a15 = _ := i15
 replace i16 : e.a1.a0 = _ := i16
 have hwt := ft.wf
 have hxt := hx5.fr f5.wf ft (by simp)
 have hkt := hk5.fr f5.wf ft (by simp)
 have htt := ht5.fr f5.wf ft (by simp)
 by_cases c : (j : Int) < ((X.length : Nat) : Int)
 · obtain ⟨x, hxj⟩ : ∃ x, X[j]? = some x := ⟨_, List.getElem?_eq_getElem (by omega)⟩
   obtain ⟨qx, x1, x2⟩ := hxt.at hwt (j := j) (x := .i x) (by rw [List.getElem?_map, hxj]; rfl)
   have hts := take_snoc hxj
   simp -implicitDefEqProofs (maxSteps := 5000000) (disch := first | assumption | omega | (simp only [dz, dl, Nat.zero_add, Nat.reduceAdd, Bool.and_self]; done) | (simp only [dl]; omega)) only [go_sem, fAdd_eq, i5, i6, i8, i9, i10, i11, i13, i15, i16, hxl, c]
   refine loop_at (Q := fun r => rnd (seqR (blkR 1 (seqR (blkR 2 r) _)) _) _ _) (fun q e t' => ∃ (k : Nat) (y : Int), q = keep.length - k ∧ k ≤ keep.length ∧ t' = t ∧ (x ∈ keep.take k → y = mv os keep x) ∧ (x ∉ keep.take k → y = 0) ∧ g5 e = .ptr p 0 ∧ g6 e = .ptr rp 0 ∧ g8 e = xv ∧ g9 e = .i ((lay os).length : Nat) ∧ g10 e = .i (os.length : Nat) ∧ g11 e = kv ∧ g13 e = tv ∧ g15 e = wv ∧ g16 e = .i j ∧ g17 e = .i y ∧ g18 e = .i k) ?_ (n := keep.length) (by omega) ⟨0, 0, by omega, by omega, rfl, by simp, by simp, (by first | trivial | rfl | assumption), (by first | trivial | rfl | assumption), (by first | trivial | rfl | assumption), (by first | trivial | rfl | assumption), (by first | trivial | rfl | assumption), (by first | trivial | rfl | assumption), (by first | trivial | rfl | assumption), (by first | trivial | rfl | assumption), (by first | trivial | rfl | assumption), (by first | trivial | rfl | assumption), (by first | trivial | rfl | assumption)⟩
   clear i5 i6 i8 i9 i10 i11 i13 i15 i16 e
   rintro q e t' ⟨k, y, rfl, hkk, rfl, hy1, hy2, i5, i6, i8, i9, i10, i11, i13, i15, i16, i17, i18⟩
   replace i5 : e.a0.a5 = _ := i5
   replace i6 : e.a0.a6 = _ := i6
   replace i8 : e.a0.a8 = _ := i8
   replace i9 : e.a0.a9 = _ := i9
   replace i10 : e.a0.a10 = _ := i10
   replace i11 : e.a0.a11 = _ := i11
   replace i13 : e.a0.a13 = _ := i13
   replace i15 : e.a0.a15 = _ := i15
   replace i16 : e.a1.a0 = _ := i16
   replace i17 : e.a1.a1 = _ := i17
   replace i18 : e.a1.a2 = _ := i18
   by_cases ck : (k : Int) < ((keep.length : Nat) : Int)
   · obtain ⟨u, hu⟩ : ∃ u, keep[k]? = some u := ⟨_, List.getElem?_eq_getElem (by omega)⟩
     obtain ⟨qu, u1', u2'⟩ := hkt.at hwt (j := k) (x := .i u) (by rw [List.getElem?_map, hu]; rfl)
     have hks := take_snoc hu
     by_cases cu : u = x
     · subst cu
       obtain ⟨qt, b1, b2⟩ := htt.at hwt (j := k) (x := .i (mv os keep u)) (by rw [List.getElem?_map, mv_in hK hu]; rfl)
       simp -implicitDefEqProofs (maxSteps := 5000000) (disch := first | assumption | omega | (simp only [dz, dl, Nat.zero_add, Nat.reduceAdd, Bool.and_self]; done) | (simp only [dl]; omega)) only [go_sem, fAdd_eq, i5, i6, i8, i9, i10, i11, i13, i15, i16, i17, i18, hkl, ck, u1', u2', x1, x2, eq_self, b1, b2]
       exact ⟨keep.length - (k + 1), by omega, k + 1, mv os keep u, rfl, by omega, (by first | trivial | rfl | assumption), fun _ => rfl, fun h => absurd (by rw [hks]; simp) h, (by first | trivial | rfl | assumption), (by first | trivial | rfl | assumption), (by first | trivial | rfl | assumption), (by first | trivial | rfl | assumption), (by first | trivial | rfl | assumption), (by first | trivial | rfl | assumption), (by first | trivial | rfl | assumption), (by first | trivial | rfl | assumption), (by first | trivial | rfl | assumption), (by first | trivial | rfl | assumption), (by first | trivial | rfl | assumption)⟩
     · simp -implicitDefEqProofs (maxSteps := 5000000) (disch := first | assumption | omega | (simp only [dz, dl, Nat.zero_add, Nat.reduceAdd, Bool.and_self]; done) | (simp only [dl]; omega)) only [go_sem, fAdd_eq, i5, i6, i8, i9, i10, i11, i13, i15, i16, i17, i18, hkl, ck, u1', u2', x1, x2, cu]
       have hmem : x ∈ keep.take (k + 1) ↔ x ∈ keep.take k := by
        rw [hks, List.mem_append, List.mem_singleton]
        exact ⟨fun h => h.resolve_right (fun e => cu e.symm), .inl⟩
       exact ⟨keep.length - (k + 1), by omega, k + 1, y, rfl, by omega, (by first | trivial | rfl | assumption), fun h => hy1 (hmem.1 h), fun h => hy2 (fun h' => h (hmem.2 h')), (by first | trivial | rfl | assumption), (by first | trivial | rfl | assumption), (by first | trivial | rfl | assumption), (by first | trivial | rfl | assumption), (by first | trivial | rfl | assumption), (by first | trivial | rfl | assumption), (by first | trivial | rfl | assumption), (by first | trivial | rfl | assumption), (by first | trivial | rfl | assumption), (by first | trivial | rfl | assumption), (by first | trivial | rfl | assumption)⟩
   · have hkeq : k = keep.length := by omega
     subst hkeq
     rw [List.take_length] at hy1 hy2
     have hy : y = mv os keep x := by
      by_cases hm : x ∈ keep
      · exact hy1 hm
      · rw [hy2 hm, mv_out hm]
     obtain ⟨t6, t7, w1, w2, g7', f7, n7⟩ := hgw.push hwt (x := .i y) rfl (fun z hz => by obtain ⟨a, _, rfl⟩ := List.mem_map.1 hz; rfl) (by simp; omega)
     have hn5t := ft.nx
     simp -implicitDefEqProofs (maxSteps := 5000000) (disch := first | assumption | omega | (simp only [dz, dl, Nat.zero_add, Nat.reduceAdd, Bool.and_self]; done) | (simp only [dl]; omega)) only [go_sem, fAdd_eq, i5, i6, i8, i9, i10, i11, i13, i15, i16, i17, i18, hkl, ck, w1, w2]
     refine ⟨X.length - (j + 1), by omega, j + 1, _, rfl, by omega, ft.trans' f7 (fun b hb => .inr (hwb b hb)), ?_, fun b hb => ?_, (by first | trivial | rfl | assumption), (by first | trivial | rfl | assumption), (by first | trivial | rfl | assumption), (by first | trivial | rfl | assumption), (by first | trivial | rfl | assumption), (by first | trivial | rfl | assumption), (by first | trivial | rfl | assumption), rfl, (by first | trivial | rfl | assumption)⟩
     · rw [hts, List.map_append, List.map_append, List.map_cons, List.map_nil, List.map_cons, List.map_nil, ← hy]
       exact g7'
     · simp [blkV] at hb; omega
 · have hjl : j = X.length := by omega
   subst hjl
   rw [List.take_length] at hgw
   simp -implicitDefEqProofs (maxSteps := 5000000) (disch := first | assumption | omega | (simp only [dz, dl, Nat.zero_add, Nat.reduceAdd, Bool.and_self]; done) | (simp only [dl]; omega)) only [go_sem, fAdd_eq, i5, i6, i8, i9, i10, i11, i13, i15, i16, hxl, c]
   have H6 := H5.fr ft (by simp) (by simp) (by simp) (by simp) (by simp)
   have R6 := R5.fr ft (by simp) (by simp) (by simp)
   have hn5t := ft.nx
   have hp1 := hP p (by simp)
   have hbw1 := hP bw (by simp)
   have hbb1 := hP bb (by simp)
   refine rest4 H6 T3.rf R6 (fun b hb => ?_) hX hXl hkp hkm hxt (fun b hb => ⟨by have := hxlt b hb; omega, by have := hxlt b hb; simp; omega⟩) (hgw.sl hwt) (fun b hb => by have := hwb b hb; simp; omega) hkl d (by first | trivial | rfl | assumption) (by first | trivial | rfl | assumption) (by first | trivial | rfl | assumption) (by first | trivial | rfl | assumption) (by first | trivial | rfl | assumption) (by first | trivial | rfl | assumption) (by first | trivial | rfl | assumption)
   simp only [List.mem_cons, List.mem_append] at hb
   have hcase : b ∈ rp :: (FO ++ FS) ∨ t4.next ≤ b := by
    rcases hb with h | h | h
    · exact .inl (by simp [h])
    · exact .inr (hO5 b h)
    · exact .inl (by simp [h])
   rcases hcase with h | h
   · intro hm
     simp only [List.mem_cons, List.not_mem_nil, or_false] at hm
     rcases hm with rfl | rfl | rfl
     · exact (hdj b (by simp)).2 h
     · exact (hdj b (by simp)).2 h
     · exact (hdj b (by simp)).2 h
   · simp; omega
end
end Go.Proofs.YtgkcpceppmppfaaLab
