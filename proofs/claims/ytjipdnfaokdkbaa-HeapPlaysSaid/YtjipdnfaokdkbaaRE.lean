/- The document's heap: shapes. No condition on the program. -/
import Derived.Test.YtjipdnfaokdkbaaRD
namespace Go.Proofs.YtjipdnfaokdkbaaLab
open Go
set_option linter.all false
set_option maxRecDepth 10000
noncomputable section
theorem BL.sl {s : St} {F : List Nat} {v : V} {l : List Bool} (hw : Wf s) (h : BL s F v l) : SL s v (l.map .bool) := by
  rcases h with ⟨rfl, h⟩ | ⟨b, o, c, M, rfl, h2, h3, h4, h5⟩
  · exact .inl ⟨rfl, h⟩
  · have := SL.of (c := c) (l := l.map V.bool) hw h3 (by simpa using h4) (fun i hi => by rw [List.getElem?_map]; exact h5 i (by simpa using hi))
    rwa [List.length_map] at this
theorem ShR.at {s : St} {F : List Nat} {sh : V} {shapes : List (List Bool)} (hw : Wf s) (h : ShR s F sh shapes) {i : Nat} {l : List Bool} (hi : shapes[i]? = some l) : ∃ q v, bIdx 1 sh (.i (i : Nat)) = some q ∧ ldP q s = some v ∧ SL s v (l.map .bool) := by
  have hlt := (List.getElem?_eq_some_iff.1 hi).1
  rcases h with ⟨h0', rfl⟩ | ⟨b, L, F0, rfl, a2, a3, a4, a5, a7, a8, a6⟩
  · rw [h0'] at hlt; simp at hlt
  · obtain ⟨v, b1, b2⟩ := a6 _ _ hi
    refine ⟨_, v, bIdx1_eq (by omega) (by omega), ?_, b2.sl hw⟩
    rw [Nat.zero_add]; exact dLd_eq hw a3 b1
/-- A new heap of the document's. -/
theorem new_ref {s : St} (hw : Wf s) (d : Nat) (w : Int) (h1 : 1 ≤ w) (h2 : w ≤ 16384) : ∃ s', (K (d + 1)).call 26 [.i w] s = some (.ptr s.next 0, s') ∧ RR s' s.next w [] [] [] [] ∧ Fr s s' [] ∧ s'.next = s.next + 1 := by
  obtain ⟨s1, e1, c1, f1, n1⟩ := new_ex (s := s) (l := [V.i w, .nils, .nils]) (n := 3) hw rfl
  refine ⟨s1, ?_, ⟨f1.wf, ⟨_, _, c1, .inl ⟨rfl, rfl⟩, .inl ⟨rfl, rfl⟩⟩, by simp, by simp, by simp, by simp [lay], by omega, by simp [lay]; omega, by simp, by simp⟩, f1, n1⟩
  rw [op26]
  simp -implicitDefEqProofs (maxSteps := 5000000) (disch := first | assumption | omega | (simp only [one_i, one_int, one_bool, one_str, one_ptr, one_nilp, one_nils, one_slice, one_map, one_nilm, one_func, one_iface, same_i, same_bool, same_nils, same_ptr, same_map, same_slice, List.length_cons, List.length_nil, Nat.zero_add, Nat.reduceAdd, allOne_cons, allOne_nil, Bool.and_self]; done) | (simp only [List.length_cons, List.length_nil, List.length_map, List.length_set]; omega)) only [go_sem, e1]
section
variable {s : St} {rp : Nat} {w : Int} {os : List O} {shapes : List (List Bool)} {FO FS : List Nat} (H : RR s rp w os shapes FO FS)
include H
theorem RR.shapeN {v : V} {l : List Bool} (h : SL s v (l.map .bool)) (hb : l.length ≤ 100000) (hsh : shapes.length ≤ 100000) (d : Nat) :
    Ret ((K (d + 1)).call 28 [.ptr rp 0, v] s) fun r s' => match idxL l shapes with
      | some i => r = .i (i : Nat) ∧ s' = s
      | none => r = .i (shapes.length : Nat) ∧ ∃ FS', RR s' rp w os (shapes ++ [l]) FO FS' ∧ (∀ b ∈ FS', b ∈ FS ∨ s.next ≤ b) ∧ Fr s s' (rp :: FS) := by
  obtain ⟨lV, sh, h1, hO, hS⟩ := H.ex
  have hw := H.wf
  have eS := hS.len
  have hlen := h.len
  rw [List.length_map] at hlen
  simp -implicitDefEqProofs (maxSteps := 5000000) (disch := first | assumption | omega | (simp only [one_i, one_int, one_bool, one_str, one_ptr, one_nilp, one_nils, one_slice, one_map, one_nilm, one_func, one_iface, same_i, same_bool, same_nils, same_ptr, same_map, same_slice, List.length_cons, List.length_nil, Nat.zero_add, Nat.reduceAdd, allOne_cons, allOne_nil, Bool.and_self]; done) | (simp only [List.length_cons, List.length_nil, List.length_map, List.length_set]; omega)) only [op28, go_sem, fAdd_eq]
  refine loop_at (Q := fun r => Ret (retR _ (seqR (blkR 0 r) _)) _) (fun m e t => ∃ j : Nat, m = shapes.length - j ∧ j ≤ shapes.length ∧ s = t ∧ idxL l shapes = (idxL l (shapes.drop j)).map (· + j) ∧ g0 e = .ptr rp 0 ∧ g1 e = v ∧ g5 e = .i j) ?_ (n := shapes.length) (by omega) ⟨0, by omega, by omega, rfl, by simp, (by first | trivial | rfl | assumption), (by first | trivial | rfl | assumption), (by first | trivial | rfl | assumption)⟩
  rintro m e t ⟨j, rfl, hj, rfl, hi, i0, i1, i5⟩
  replace i0 : e.a0.a0 = _ := i0
  replace i1 : e.a0.a1 = _ := i1
  replace i5 : e.a0.a5 = _ := i5
  by_cases c : (j : Int) < ((shapes.length : Nat) : Int)
  · have hoj : shapes[j]? = some shapes[j] := List.getElem?_eq_getElem (by omega)
    obtain ⟨q, v2, a1, a2, hv2⟩ := hS.at hw hoj
    have hl2 := hv2.len
    rw [List.length_map] at hl2
    have hd : shapes.drop j = shapes[j] :: shapes.drop (j + 1) := List.drop_eq_getElem_cons (by omega)
    rw [hd] at hi
    generalize shapes[j] = l2 at *
    simp -implicitDefEqProofs (maxSteps := 5000000) (disch := first | assumption | omega | (simp only [one_i, one_int, one_bool, one_str, one_ptr, one_nilp, one_nils, one_slice, one_map, one_nilm, one_func, one_iface, same_i, same_bool, same_nils, same_ptr, same_map, same_slice, List.length_cons, List.length_nil, Nat.zero_add, Nat.reduceAdd, allOne_cons, allOne_nil, Bool.and_self]; done) | (simp only [List.length_cons, List.length_nil, List.length_map, List.length_set]; omega)) only [go_sem, fAdd_eq, i0, i1, i5, c, dLd_at hw h1, eS, a1, a2, hl2, hlen]
    refine loop_at (Q := fun r => rnd (seqR (blkR 1 (seqR (blkR 2 r) _)) _) _ _) (fun m e t => ∃ k : Nat, m = l.length - k ∧ k ≤ l.length ∧ s = t ∧ (∃ b : Bool, g6 e = .bool b ∧ (b = true → l2.length = l.length ∧ l.take k = l2.take k) ∧ (b = false → l ≠ l2)) ∧ g0 e = .ptr rp 0 ∧ g1 e = v ∧ g5 e = .i j ∧ g7 e = .i k) ?_ (n := l.length) (by omega) ⟨0, by omega, by omega, rfl, ⟨_, rfl, by simp; omega, by simp; rintro hh rfl; exact hh rfl⟩, (by first | trivial | rfl | assumption), (by first | trivial | rfl | assumption), (by first | trivial | rfl | assumption), (by first | trivial | rfl | assumption)⟩
    rintro m e t ⟨k, rfl, hk, rfl, ⟨b, i6, hb1, hb2⟩, i0, i1, i5, i7⟩
    replace i0 : e.a0.a0 = _ := i0
    replace i1 : e.a0.a1 = _ := i1
    replace i5 : e.a0.a5 = _ := i5
    replace i6 : e.a0.a6 = _ := i6
    replace i7 : e.a0.a7 = _ := i7
    cases b with
    | false =>
      have hne := hb2 rfl
      simp -implicitDefEqProofs (maxSteps := 5000000) (disch := first | assumption | omega | (simp only [one_i, one_int, one_bool, one_str, one_ptr, one_nilp, one_nils, one_slice, one_map, one_nilm, one_func, one_iface, same_i, same_bool, same_nils, same_ptr, same_map, same_slice, List.length_cons, List.length_nil, Nat.zero_add, Nat.reduceAdd, allOne_cons, allOne_nil, Bool.and_self]; done) | (simp only [List.length_cons, List.length_nil, List.length_map, List.length_set]; omega)) only [go_sem, fAdd_eq, i0, i1, i5, i6, i7, dLd_at hw h1]
      refine ⟨shapes.length - (j + 1), by omega, j + 1, rfl, by omega, trivial, ?_, (by first | trivial | rfl | assumption), (by first | trivial | rfl | assumption), (by first | trivial | rfl | assumption)⟩
      rw [hi]
      show (if l = l2 then some 0 else (idxL l (shapes.drop (j + 1))).map (· + 1)).map (· + j) = _
      rw [if_neg hne]
      cases idxL l (shapes.drop (j + 1)) with
      | none => rfl
      | some n => simp; omega
    | true =>
      obtain ⟨q1, q2⟩ := hb1 rfl
      by_cases c2 : (k : Int) < ((l.length : Nat) : Int)
      · have hk2 : k < l.length := by omega
        have hk3 : k < l2.length := by omega
        obtain ⟨p1, x1, y1⟩ := h.at hw (j := k) (x := .bool l[k]) (by simp [hk2])
        obtain ⟨p2, x2, y2⟩ := hv2.at hw (j := k) (x := .bool l2[k]) (by simp [hk3])
        simp -implicitDefEqProofs (maxSteps := 5000000) (disch := first | assumption | omega | (simp only [one_i, one_int, one_bool, one_str, one_ptr, one_nilp, one_nils, one_slice, one_map, one_nilm, one_func, one_iface, same_i, same_bool, same_nils, same_ptr, same_map, same_slice, List.length_cons, List.length_nil, Nat.zero_add, Nat.reduceAdd, allOne_cons, allOne_nil, Bool.and_self]; done) | (simp only [List.length_cons, List.length_nil, List.length_map, List.length_set]; omega)) only [go_sem, fAdd_eq, i0, i1, i5, i6, i7, dLd_at hw h1, hlen, c2, a1, a2, x1, y1, x2, y2]
        refine ⟨l.length - (k + 1), by omega, k + 1, rfl, by omega, trivial, ⟨_, rfl, ?_, ?_⟩, (by first | trivial | rfl | assumption), (by first | trivial | rfl | assumption), (by first | trivial | rfl | assumption), (by first | trivial | rfl | assumption)⟩
        · intro hh
          simp at hh
          refine ⟨q1, ?_⟩
          rw [List.take_succ, List.take_succ, q2]; simp [hk2, hk3, hh]
        · intro hh
          simp at hh
          rintro rfl
          exact hh rfl
      · have : k = l.length := by omega
        subst this
        have he : l = l2 := by
          rw [List.take_length, ← q1, List.take_length] at q2
          exact q2
        have hi2 : idxL l shapes = some j := by
          rw [hi]
          show (if l = l2 then some 0 else (idxL l (shapes.drop (j + 1))).map (· + 1)).map (· + j) = _
          rw [if_pos he]; simp
        simp -implicitDefEqProofs (maxSteps := 5000000) (disch := first | assumption | omega | (simp only [one_i, one_int, one_bool, one_str, one_ptr, one_nilp, one_nils, one_slice, one_map, one_nilm, one_func, one_iface, same_i, same_bool, same_nils, same_ptr, same_map, same_slice, List.length_cons, List.length_nil, Nat.zero_add, Nat.reduceAdd, allOne_cons, allOne_nil, Bool.and_self]; done) | (simp only [List.length_cons, List.length_nil, List.length_map, List.length_set]; omega)) only [go_sem, fAdd_eq, i0, i1, i5, i6, i7, dLd_at hw h1, hlen, c2]
        rw [hi2]
        exact ⟨(by first | trivial | rfl | assumption), (by first | trivial | rfl | assumption)⟩
  · have : j = shapes.length := by omega
    subst this
    rw [List.drop_length] at hi
    have hi2 : idxL l shapes = none := by rw [hi]; rfl
    rw [hi2]
    obtain ⟨s1, e1, c1, f1, n1⟩ := new_ex (s := s) (l := []) (n := 0) hw rfl
    have hv1 := h.fr hw f1 (by simp)
    have e0 : ∀ id, bslP 0 1 [] [] id = some (.slice id 0 0 (some 0) 1, .cells 0 (ofL [])) := fun id => rfl
    have hy := hv1.src (fun x hx => by obtain ⟨a, _, rfl⟩ := List.mem_map.1 hx; rfl) (by simp; omega)
    rw [List.length_map] at hy
    obtain ⟨s2, b, cc, e2, cb, hnb, f2⟩ : ∃ s2 b cc, apP 1 (.slice s.next 0 0 (some 0) 1) v s1 = some (.slice b 0 l.length cc 1, s2) ∧ s2.cl b = some (l.map .bool) ∧ s.next ≤ b ∧ Fr s1 s2 [] := by
      by_cases hl : l = []
      · subst hl
        exact ⟨s1, _, _, eAp_zero (b := s.next) (o := 0) (len := 0) (cap := some 0) hy (by omega), c1, Nat.le_refl _, Fr.refl f1.wf _⟩
      · have hpos : 0 < l.length := by cases l; exact absurd rfl hl; simp
        obtain ⟨s2, e2, c2, f2, n2⟩ := eAp_grow (es := 1) (b := s.next) (o := 0) (len := 0) (c := 0) f1.wf hy hpos (by omega) (by omega) c1 (by simp)
        rw [Nat.zero_add] at e2
        exact ⟨s2, _, _, e2, by rw [c2]; simp, by omega, f2⟩
    have f12 := f1.trans f2
    obtain ⟨L, F0, hG, hL1, hLl, hF0, hF1, hLe⟩ : ∃ L F0, GL s sh L ∧ (∀ v ∈ L, v.one = true) ∧ L.length = shapes.length ∧ (∀ x ∈ F0, x ∈ FS) ∧ (∀ x ∈ F0, x ∉ blkV sh) ∧ ∀ (i : Nat) l, shapes[i]? = some l → ∃ v, L[i]? = some v ∧ BL s F0 v l := by
      rcases hS with ⟨rfl, rfl⟩ | ⟨b, L, F0, rfl, a2, a3, a4, a5, a7, a8, a6⟩
      · exact ⟨[], [], .inl ⟨rfl, rfl⟩, by simp, rfl, by simp, by simp, by simp⟩
      · exact ⟨L, F0, .inr ⟨b, by rw [a4], a3⟩, a5, a4, a7, fun x hx => by simp [blkV]; rintro rfl; exact a8 hx, a6⟩
    have hshF : ∀ b ∈ blkV sh, b ∈ FS := by
      rcases hS with ⟨rfl, rfl⟩ | ⟨b, L, _, rfl, a2, _⟩
      · simp [blkV]
      · simp [blkV]; exact a2
    have hsame : sameV 100 sh sh = true := by
      rcases hS with ⟨rfl, rfl⟩ | ⟨b, L, _, rfl, a2, _⟩
      · rfl
      · exact same_slice _ _ _ _ _
    have hrp := cl_lt hw h1
    obtain ⟨s3, s4, e3, e4, hG4, f4, n4⟩ := (hG.fr hw f12 (by simp)).push f2.wf (x := .slice b 0 l.length cc 1) rfl hL1 (by omega)
    rw [hLl] at e4 hG4
    have h1s1 := f1.cl hw h1 (by simp)
    have h1s2 := f12.cl hw h1 (by simp)
    have h14 := f4.cl f2.wf h1s2 (fun hx => H.nS (hshF _ hx))
    obtain ⟨s5, e5, c5, f5, n5⟩ := eSt_ex (s := s4) (o := 2) (v := .slice (s2.next + 1) 0 (shapes.length + 1) none 1) f4.wf h14 (by simp) rfl
    simp only [List.set_cons_succ, List.set_cons_zero] at c5
    have nx1 := f1.nx
    have nx2 := f2.nx
    have hb2 := cl_lt f2.wf cb
    have F05 : Fr s s5 (rp :: FS) := (f12.mono (by simp)).trans ((f4.mono (fun b hb' => .inl (by simp [hshF b hb']))).trans (f5.mono (by simp)))
    have eN : uLenS (.slice (s2.next + 1) 0 (shapes.length + 1) none 1) = some (.i ((shapes.length + 1 : Nat) : Int)) := rfl
    simp -implicitDefEqProofs (maxSteps := 5000000) (disch := first | assumption | omega | (simp only [one_i, one_int, one_bool, one_str, one_ptr, one_nilp, one_nils, one_slice, one_map, one_nilm, one_func, one_iface, same_i, same_bool, same_nils, same_ptr, same_map, same_slice, List.length_cons, List.length_nil, Nat.zero_add, Nat.reduceAdd, allOne_cons, allOne_nil, Bool.and_self]; done) | (simp only [List.length_cons, List.length_nil, List.length_map, List.length_set]; omega)) only [go_sem, fAdd_eq, i0, i1, i5, c, dLd_at hw h1, dLd_at f1.wf h1s1, dLd_at f2.wf h1s2, dLd_at f5.wf c5, eS, e0, e1, e2, e3, e4, e5, hsame, eN]
    refine ⟨by congr 1; omega, (s2.next + 1) :: b :: FS, ⟨f5.wf, ⟨lV, _, c5, hO.fr hw F05 ?_, ?_⟩, H.nO, ?_, ?_, H.sz, H.w0, H.lw, fun x hx => Nat.lt_of_lt_of_le (H.ltO x hx) F05.nx, ?_⟩, ?_, F05⟩
    · intro x hx
      simp only [List.mem_cons]
      rintro (rfl | hh)
      · exact H.nO hx
      · exact H.nOS _ hx hh
    · have c4 : s4.cl (s2.next + 1) = some (L ++ [.slice b 0 l.length cc 1]) := by
        rcases hG4 with ⟨h0, _⟩ | ⟨b, hb0, hb1⟩
        · simp at h0
        · injection hb0 with hb0; rw [hb0]; exact hb1
      refine .inr ⟨s2.next + 1, L ++ [.slice b 0 l.length cc 1], b :: F0, by simp, by simp, f5.cl f4.wf c4 (by simp; omega), by simp [hLl], ?_, ?_, ?_, fun i x hx => ?_⟩
      · intro y hy; rcases List.mem_append.1 hy with hy | hy
        · exact hL1 y hy
        · simp at hy; subst hy; rfl
      · intro y hy; rcases List.mem_cons.1 hy with hy | hy
        · simp [hy]
        · simp [hF0 y hy]
      · intro hm'; rcases List.mem_cons.1 hm' with hy | hy
        · omega
        · have := H.ltS _ (hF0 _ hy); omega
      · by_cases hi' : i < shapes.length
        · rw [List.getElem?_append_left hi'] at hx
          obtain ⟨y, b1, b2⟩ := hLe i x hx
          refine ⟨y, by rw [List.getElem?_append_left (by omega)]; exact b1, ?_⟩
          have g2' := b2.fr hw f12 (fun b hb' => by simp)
          have g4' := g2'.fr f2.wf f4 hF1
          exact (g4'.fr f4.wf f5 (fun b hb' => by simp; rintro rfl; exact H.nS (hF0 _ hb'))).sub (fun b hb' => by simp [hb'])
        · rw [List.getElem?_append_right (by omega)] at hx
          have : i = shapes.length := by have := (List.getElem?_eq_some_iff.1 hx).1; simp at this; omega
          subst this
          simp at hx; subst hx
          refine ⟨.slice b 0 l.length cc 1, by rw [List.getElem?_append_right (by omega)]; simp [hLl], ?_⟩
          have g4' := f4.cl f2.wf cb (fun hh => by have := H.ltS _ (hshF _ hh); omega)
          have g5' := f5.cl f4.wf g4' (by simp; omega)
          exact .inr ⟨b, 0, cc, _, rfl, by simp, g5', by simp, fun k hk => by rw [Nat.zero_add, List.getElem?_map]⟩
    · simp only [List.mem_cons]
      rintro (hh | hh | hh)
      · omega
      · omega
      · exact H.nS hh
    · intro x hx
      have := H.ltO x hx
      simp only [List.mem_cons]
      rintro (hh | hh | hh)
      · omega
      · omega
      · exact H.nOS x hx hh
    · intro x hx
      have := F05.nx
      simp only [List.mem_cons] at hx
      rcases hx with rfl | rfl | hx
      · omega
      · omega
      · have := H.ltS x hx; omega
    · intro x hx
      simp only [List.mem_cons] at hx
      rcases hx with rfl | rfl | hx
      · right; omega
      · right; omega
      · exact .inl hx
end
end
end Go.Proofs.YtjipdnfaokdkbaaLab
