/- The heap's shapes are numbered as they come. No condition on the program. -/
import Derived.Test.YtjipdnfaokdkbaaHI
namespace Go.Proofs.YtjipdnfaokdkbaaLab
open Go
set_option linter.all false
set_option maxRecDepth 10000
noncomputable section
/-- What 'Shape' leaves. -/
def ShapeQ (s : St) (p bw bb n bm : Nat) (os : List O) (z : List Int) (shapes : List (List Bool)) (F : List Nat) (l : List Bool) (r : V) (s' : St) : Prop := match idxL l shapes with
  | some i => r = .i (i : Nat) ∧ HS s' p bw bb n os z shapes bm F ∧ Fr s s' []
  | none => r = .i (shapes.length : Nat) ∧ (∃ F', HS s' p bw bb n os z (shapes ++ [l]) bm F' ∧ ∀ b ∈ F', b ∈ F ∨ s.next ≤ b) ∧ Fr s s' (p :: bm :: F)
theorem enc_lt (l : List Bool) : ∀ n ∈ enc l, n < 256 := fun n hn => by
  obtain ⟨b, _, rfl⟩ := List.mem_map.1 hn
  split <;> omega
section
variable {s : St} {p bw bb n bm : Nat} {os : List O} {z : List Int} {shapes : List (List Bool)} {F : List Nat} (H : HS s p bw bb n os z shapes bm F)
include H
theorem HS.shape {v : V} {l : List Bool} (h : SL s v (l.map .bool)) (hv : ∀ b ∈ blkV v, b < s.next ∧ b ≠ p ∧ b ≠ bm ∧ b ∉ F) (hb : l.length ≤ 100000) (hsh : shapes.length ≤ 100000) (d : Nat) :
    Ret ((K (d + 2)).call 17 [.ptr p 0, v] s) (ShapeQ s p bw bb n bm os z shapes F l) := by
  have hw := H.wf
  have hlen := h.len
  rw [List.length_map] at hlen
  have t1 : ((l.length : Nat) : Int).toNat = l.length := Int.toNat_natCast _
  obtain ⟨s1, e1, c1, f1, n1⟩ := new_ex (s := s) (l := List.replicate l.length (V.int .u8 0)) (n := l.length) hw (by simp)
  simp -implicitDefEqProofs (maxSteps := 5000000) (disch := first | assumption | omega | (simp only [one_i, one_int, one_bool, one_str, one_ptr, one_nilp, one_nils, one_slice, one_map, one_nilm, one_func, one_iface, same_i, same_bool, same_nils, same_ptr, same_map, same_slice, List.length_cons, List.length_nil, Nat.zero_add, Nat.reduceAdd, allOne_cons, allOne_nil, Bool.and_self]; done) | (simp only [List.length_cons, List.length_nil, List.length_map, List.length_set]; omega)) only [op17, go_sem, fAdd_eq, hlen, t1, e1]
  refine loop_at (Q := fun r => Ret (retR _ (seqR (blkR 0 r) _)) _) (fun m e t => ∃ j : Nat, m = l.length - j ∧ j ≤ l.length ∧ Fr s t [] ∧ t.cl s.next = some (((enc l).take j).map byteV ++ List.replicate (l.length - j) (V.int .u8 0)) ∧ g0 e = .ptr p 0 ∧ g1 e = v ∧ g5 e = .slice s.next 0 l.length (some l.length) 1 ∧ g13 e = v ∧ g14 e = .i (l.length : Nat) ∧ g15 e = .i j) ?_ (n := l.length) (by omega) ⟨0, by omega, by omega, f1, by simpa using c1, (by first | trivial | rfl | assumption), (by first | trivial | rfl | assumption), (by first | trivial | rfl | assumption), (by first | trivial | rfl | assumption), (by first | trivial | rfl | assumption), (by first | trivial | rfl | assumption)⟩
  rintro m e t ⟨j, rfl, hj, ft, ct, i0, i1, i5, i13, i14, i15⟩
  replace i0 : e.a0.a0 = _ := i0
  replace i1 : e.a0.a1 = _ := i1
  replace i5 : e.a0.a5 = _ := i5
  replace i13 : e.a0.a13 = _ := i13
  replace i14 : e.a0.a14 = _ := i14
  replace i15 : e.a0.a15 = _ := i15
  have hwt := ft.wf
  have ht := h.fr hw ft (by simp)
  have henc : (enc l).length = l.length := by simp [enc]
  by_cases c : (j : Int) < ((l.length : Nat) : Int)
  · have hj1 : j < l.length := by omega
    have hjt : ((enc l).take j).length = j := by simp [henc]; omega
    obtain ⟨q1, a1, b1⟩ := ht.at hwt (j := j) (x := .bool l[j]) (by simp [hj1])
    have hset : (((enc l).take j).map byteV ++ List.replicate (l.length - j) (V.int .u8 0)).set j (.int .u8 1) = ((enc l).take j).map byteV ++ V.int .u8 1 :: List.replicate (l.length - (j + 1)) (V.int .u8 0) := by
      rw [List.set_append_right _ _ (by rw [List.length_map, hjt]; omega), List.length_map, hjt, Nat.sub_self, show l.length - j = (l.length - (j + 1)) + 1 by omega, List.replicate_succ, List.set_cons_zero]
    have htk : ((enc l).take (j + 1)).map byteV = ((enc l).take j).map byteV ++ [V.int .u8 (if l[j] = true then 1 else 0)] := by
      rw [List.take_succ]; simp [enc, hj1, byteV]
      cases l[j] <;> rfl
    cases hx : l[j] with
    | false =>
      rw [hx] at b1 htk
      simp -implicitDefEqProofs (maxSteps := 5000000) (disch := first | assumption | omega | (simp only [one_i, one_int, one_bool, one_str, one_ptr, one_nilp, one_nils, one_slice, one_map, one_nilm, one_func, one_iface, same_i, same_bool, same_nils, same_ptr, same_map, same_slice, List.length_cons, List.length_nil, Nat.zero_add, Nat.reduceAdd, allOne_cons, allOne_nil, Bool.and_self]; done) | (simp only [List.length_cons, List.length_nil, List.length_map, List.length_set]; omega)) only [go_sem, fAdd_eq, i0, i1, i5, i13, i14, i15, c, a1, b1]
      refine ⟨l.length - (j + 1), by omega, j + 1, rfl, by omega, ft, ?_, (by first | trivial | rfl | assumption), (by first | trivial | rfl | assumption), (by first | trivial | rfl | assumption), (by first | trivial | rfl | assumption), (by first | trivial | rfl | assumption), (by first | trivial | rfl | assumption)⟩
      rw [htk, ct, show l.length - j = (l.length - (j + 1)) + 1 by omega, List.replicate_succ]; simp
    | true =>
      rw [hx] at b1 htk
      obtain ⟨s2, e2, c2, f2, n2⟩ := eSt_ex (s := t) (o := j) (v := .int .u8 1) hwt ct (by simp [henc]; omega) rfl
      simp -implicitDefEqProofs (maxSteps := 5000000) (disch := first | assumption | omega | (simp only [one_i, one_int, one_bool, one_str, one_ptr, one_nilp, one_nils, one_slice, one_map, one_nilm, one_func, one_iface, same_i, same_bool, same_nils, same_ptr, same_map, same_slice, List.length_cons, List.length_nil, Nat.zero_add, Nat.reduceAdd, allOne_cons, allOne_nil, Bool.and_self]; done) | (simp only [List.length_cons, List.length_nil, List.length_map, List.length_set]; omega)) only [go_sem, fAdd_eq, i0, i1, i5, i13, i14, i15, c, a1, b1, Int.toNat_natCast, e2]
      refine ⟨l.length - (j + 1), by omega, j + 1, rfl, by omega, ft.trans' f2 (fun x hx => .inr (by simp at hx; omega)), ?_, (by first | trivial | rfl | assumption), (by first | trivial | rfl | assumption), (by first | trivial | rfl | assumption), (by first | trivial | rfl | assumption), (by first | trivial | rfl | assumption), (by first | trivial | rfl | assumption)⟩
      rw [c2, hset, htk]; simp
  · have : j = l.length := by omega
    subst this
    have Ht := H.fr ft (by simp) (by simp) (by simp) (by simp) (by simp)
    obtain ⟨sh, hA, hS⟩ := Ht.H
    obtain ⟨bs, cl, hm⟩ := Ht.m
    have h1 := hA.hr.hp
    rw [Nat.sub_self, List.replicate_zero, List.append_nil, ← henc, List.take_length] at ct
    have hB : SL t (.slice s.next 0 l.length (some l.length) 1) ((enc l).map byteV) := by
      have := SL.of (o := 0) (c := some l.length) (l := (enc l).map byteV) hwt ct (by simp) (fun i _ => by rw [Nat.zero_add])
      rwa [List.length_map, henc] at this
    have eB := dBStr_eq (enc_lt l) hB
    have eL := dLk_eq (q := eqKS) (z := .i 0) (ok := true) (x := .str (enc l)) hm
    have hf := findV_mkEs (enc l) (shapes.map enc) 0 0
    rw [idxL_enc] at hf
    unfold ShapeQ
    cases hi : idxL l shapes with
    | some i =>
      rw [hi] at hf
      rw [lkV_some hf] at eL
      simp -implicitDefEqProofs (maxSteps := 5000000) (disch := first | assumption | omega | (simp only [one_i, one_int, one_bool, one_str, one_ptr, one_nilp, one_nils, one_slice, one_map, one_nilm, one_func, one_iface, same_i, same_bool, same_nils, same_ptr, same_map, same_slice, List.length_cons, List.length_nil, Nat.zero_add, Nat.reduceAdd, allOne_cons, allOne_nil, Bool.and_self]; done) | (simp only [List.length_cons, List.length_nil, List.length_map, List.length_set]; omega)) only [go_sem, fAdd_eq, i0, i1, i5, i13, i14, i15, c, dLd_at hwt h1, eB, eL]
      exact ⟨by simp, Ht, ft⟩
    | none =>
      rw [hi] at hf
      rw [lkV_none hf] at eL
      obtain ⟨n1', n2', n3', n4', n5', n6', n7'⟩ := Ht.ne
      obtain ⟨L, F0, hG, hL1, hLl, hF0, hF1, hLe⟩ : ∃ L F0, GL t sh L ∧ (∀ v ∈ L, v.one = true) ∧ L.length = shapes.length ∧ (∀ x ∈ F0, x ∈ F) ∧ (∀ x ∈ F0, x ∉ blkV sh) ∧ ∀ (i : Nat) l, shapes[i]? = some l → ∃ v, L[i]? = some v ∧ BL t F0 v l := by
        rcases hS with ⟨rfl, rfl⟩ | ⟨b, L, F0, rfl, a2, a3, a4, a5, a7, a8, a6⟩
        · exact ⟨[], [], .inl ⟨rfl, rfl⟩, by simp, rfl, by simp, by simp, by simp⟩
        · exact ⟨L, F0, .inr ⟨b, by rw [a4], a3⟩, a5, a4, a7, fun x hx => by simp [blkV]; rintro rfl; exact a8 hx, a6⟩
      have hshF : ∀ b ∈ blkV sh, b ∈ F := by
        rcases hS with ⟨rfl, rfl⟩ | ⟨b, L, _, rfl, a2, _⟩
        · simp [blkV]
        · simp [blkV]; exact a2
      have hsame : sameV 100 sh sh = true := by
        rcases hS with ⟨rfl, rfl⟩ | ⟨b, L, _, rfl, a2, _⟩
        · rfl
        · exact same_slice _ _ _ _ _
      have eS := hG.len
      rw [hLl] at eS
      obtain ⟨t1, m1, mm1, fm1, nm1⟩ := eMu_new (q := eqKS) (x := .str (enc l)) (y := .i (shapes.length : Nat)) hwt hm hf
      have H1 := hA.fr fm1 (by simpa using n1') (by simpa using n2') (by simpa using n3')
      have hv1 := (h.fr hw ft (by simp)).fr hwt fm1 (fun b hb' => by simp; exact (hv b hb').2.2.1)
      obtain ⟨v', t2, e41, hcl, f2⟩ := clone_eq fm1.wf hv1 (by omega) d
      have H2 := H1.fr f2 (by simp) (by simp) (by simp)
      have hG1 := hG.fr hwt fm1 (fun b hb' => by simp; exact (Ht.dF b (hshF b hb')).2.2.2.2)
      have hG2 := hG1.fr fm1.wf f2 (by simp)
      have hv'1 : v'.one = true := by rcases hcl with ⟨rfl, _⟩ | ⟨b, c, rfl, _⟩ <;> rfl
      obtain ⟨t3, t4, e3, e4, hG4, f4, n4⟩ := hG2.push f2.wf (x := v') hv'1 hL1 (by omega)
      rw [hLl] at e4 hG4
      have hdF := fun b hb => Ht.dF b (hshF b hb)
      have H4 := H2.fr f4 (fun hh => (hdF _ hh).1 rfl) (fun hh => (hdF _ hh).2.1 rfl) (fun hh => (hdF _ hh).2.2.1 rfl)
      obtain ⟨t5, e5, c5, f5, n5⟩ := eSt_ex (s := t4) (o := 3) (v := .slice (t2.next + 1) 0 (shapes.length + 1) none 1) H4.hr.wf H4.hr.hp (by simp) rfl
      simp only [List.set_cons_succ, List.set_cons_zero] at c5
      have nx1 : t.next ≤ t1.next := fm1.nx
      have nx2 : t1.next ≤ t2.next := f2.nx
      have nx0 : s.next ≤ t.next := ft.nx
      have F25 : Fr t2 t5 (p :: bm :: F) := (f4.mono (fun b hb' => .inl (by simp; exact .inr (.inr (hshF b hb'))))).trans (f5.mono (by simp))
      have F15 : Fr t1 t5 (p :: bm :: F) := (f2.mono (by simp)).trans F25
      have F05 : Fr t t5 (p :: bm :: F) := (fm1.mono (by simp)).trans F15
      simp -implicitDefEqProofs (maxSteps := 5000000) (disch := first | assumption | omega | (simp only [one_i, one_int, one_bool, one_str, one_ptr, one_nilp, one_nils, one_slice, one_map, one_nilm, one_func, one_iface, same_i, same_bool, same_nils, same_ptr, same_map, same_slice, List.length_cons, List.length_nil, Nat.zero_add, Nat.reduceAdd, allOne_cons, allOne_nil, Bool.and_self]; done) | (simp only [List.length_cons, List.length_nil, List.length_map, List.length_set]; omega)) only [go_sem, fAdd_eq, i0, i1, i5, i13, i14, i15, c, dLd_at hwt h1, dLd_at fm1.wf H1.hr.hp, dLd_at f2.wf H2.hr.hp, eB, eL, eS, m1, e41, e3, e4, e5]
      refine ⟨trivial, ⟨(t2.next + 1) :: (blkV v' ++ F), ⟨⟨.slice (t2.next + 1) 0 (shapes.length + 1) none 1, ⟨⟨f5.wf, c5, ?_, ?_, H4.hr.lw, H4.hr.lb, H4.hr.nn, H4.hr.n1, H4.hr.nx, H4.hr.d1, H4.hr.d2, H4.hr.d3⟩⟩, ?_⟩, ?_, ?_, ?_⟩, ?_⟩, (ft.mono (by simp)).trans F05⟩
      · exact f5.cl H4.hr.wf H4.hr.hw (by simp; exact H4.hr.d1.symm)
      · exact f5.cl H4.hr.wf H4.hr.hb (by simp; exact H4.hr.d2.symm)
      · have c4 : t4.cl (t2.next + 1) = some (L ++ [v']) := by
          rcases hG4 with ⟨h0, _⟩ | ⟨b, hb0, hb1⟩
          · simp at h0
          · injection hb0 with hb0; rw [hb0]; exact hb1
        have hp5 : p < t.next := n5'
        refine .inr ⟨t2.next + 1, L ++ [v'], blkV v' ++ F0, by simp, by simp, f5.cl H4.hr.wf c4 (by simp; omega), by simp [hLl], ?_, ?_, ?_, fun i x hx => ?_⟩
        · intro y hy; rcases List.mem_append.1 hy with hy | hy
          · exact hL1 y hy
          · simp at hy; subst hy; exact hv'1
        · intro y hy; rcases List.mem_append.1 hy with hy | hy
          · simp [hy]
          · simp [hF0 y hy]
        · intro hm'; rcases List.mem_append.1 hm' with hy | hy
          · rcases hcl with ⟨rfl, _⟩ | ⟨b, cc, rfl, _, hb2⟩
            · simp [blkV] at hy
            · simp [blkV] at hy; have := cl_lt f2.wf hb2; omega
          · have := (Ht.dF _ (hF0 _ hy)).2.2.2.1; omega
        · by_cases hi' : i < shapes.length
          · rw [List.getElem?_append_left hi'] at hx
            obtain ⟨y, b1, b2⟩ := hLe i x hx
            refine ⟨y, by rw [List.getElem?_append_left (by omega)]; exact b1, ?_⟩
            have g1' := b2.fr hwt fm1 (fun b hb' => by simp; exact (Ht.dF b (hF0 b hb')).2.2.2.2)
            have g2' := g1'.fr fm1.wf f2 (fun b hb' => by simp)
            have g4' := g2'.fr f2.wf f4 hF1
            exact (g4'.fr H4.hr.wf f5 (fun b hb' => by simp; exact (Ht.dF b (hF0 b hb')).1)).sub (fun b hb' => by simp [hb'])
          · rw [List.getElem?_append_right (by omega)] at hx
            have : i = shapes.length := by have := (List.getElem?_eq_some_iff.1 hx).1; simp at this; omega
            subst this
            simp at hx; subst hx
            refine ⟨v', by rw [List.getElem?_append_right (by omega)]; simp [hLl], ?_⟩
            rcases hcl with ⟨rfl, h0⟩ | ⟨b, cc, rfl, hb1, hb2⟩
            · exact .inl ⟨h0, .inl rfl⟩
            · have g4' := f4.cl f2.wf hb2 (fun hh => by have := (hdF _ hh).2.2.2.1; omega)
              have g5' := f5.cl H4.hr.wf g4' (by simp; omega)
              exact .inr ⟨b, 0, cc, _, rfl, by simp [blkV], g5', by simp, fun k hk => by rw [Nat.zero_add, List.getElem?_map]⟩
      · refine ⟨bs ++ [cl], cl + 1, ?_⟩
        have g2' := f2.mp fm1.wf mm1 (by simp)
        have g4' := f4.mp f2.wf g2' (fun hh => (hdF _ hh).2.2.2.2 rfl)
        have g5' := f5.mp H4.hr.wf g4' (by simp; exact Ne.symm n1')
        rw [g5', List.map_append, mkEs_append]; simp [mkEs]
      · intro o ho
        rcases H.ok o ho with q | q | ⟨q, x, hx, hxl⟩
        · exact .inl q
        · exact .inr (.inl q)
        · exact .inr (.inr ⟨q, x, by rw [List.getElem?_append_left (List.getElem?_eq_some_iff.1 hx).1]; exact hx, hxl⟩)
      · intro b hb'
        have q5 := f5.nx
        simp at hb'
        rcases hb' with rfl | hb' | hb'
        · exact ⟨by omega, by omega, by omega, by omega, by omega⟩
        · rcases hcl with ⟨rfl, _⟩ | ⟨b', cc, rfl, hb1, hb2⟩
          · simp [blkV] at hb'
          · simp [blkV] at hb'; subst hb'
            have := cl_lt f2.wf hb2
            exact ⟨by omega, by omega, by omega, by omega, by omega⟩
        · obtain ⟨d1, d2, d3, d4, d5⟩ := Ht.dF b hb'
          exact ⟨d1, d2, d3, by omega, d5⟩
      · intro b hb'
        simp at hb'
        rcases hb' with rfl | hb' | hb'
        · right; omega
        · rcases hcl with ⟨rfl, _⟩ | ⟨b', cc, rfl, hb1, hb2⟩
          · simp [blkV] at hb'
          · simp [blkV] at hb'; subst hb'; right; omega
        · exact .inl hb'
end
end
end Go.Proofs.YtjipdnfaokdkbaaLab
