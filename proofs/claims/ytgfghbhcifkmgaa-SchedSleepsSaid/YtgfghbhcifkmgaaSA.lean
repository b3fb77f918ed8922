/- Threads: what they are in memory; the functions that look. No condition on the program. -/
import Derived.Test.YtgfghbhcifkmgaaAt
import Derived.Test.YtgfghbhcifkmgaaLm5
namespace Go.Proofs.YtgfghbhcifkmgaaLab
open Go
set_option linter.all false
set_option maxRecDepth 10000
noncomputable section
structure Th where
  state : Int
  lock : Int
  count : Int
  other : Int
def Th.cells (t : Th) : List V := [.i t.state, .i t.lock, .i t.count, .i t.other]
/-- The threads in memory. -/
structure ThR (s : St) (FT : List Nat) (thV : V) (ths : List Th) (bs : List Nat) : Prop where
  g : GL s thV (bs.map fun b => V.ptr b 0)
  len : bs.length = ths.length
  sub : ∀ b ∈ bs, b ∈ FT
  subV : ∀ b ∈ blkV thV, b ∈ FT
  nd : bs.Nodup
  ne : ∀ b ∈ blkV thV, b ∉ bs
  c : ∀ (i : Nat) b, bs[i]? = some b → ∃ th, ths[i]? = some th ∧ s.cl b = some th.cells
structure SC (s : St) (sp lm : Nat) (ths : List Th) (slV : V) (now slept : Int) (FT : List Nat) : Prop where
  wf : Wf s
  ex : ∃ thV bs, s.cl sp = some [thV, .map lm, slV, .int .u64 now, .i slept] ∧ ThR s FT thV ths bs
  n : sp ∉ FT
  lt : ∀ b ∈ FT, b < s.next
  l8 : ths.length ≤ 8
theorem ThR.fr {s s' : St} {FT l : List Nat} {thV : V} {ths : List Th} {bs : List Nat} (h : ThR s FT thV ths bs) (hw : Wf s) (f : Fr s s' l) (hd : ∀ b ∈ FT, b ∉ l) : ThR s' FT thV ths bs :=
  ⟨h.g.fr hw f (fun b hb => hd b (h.subV b hb)), h.len, h.sub, h.subV, h.nd, h.ne, fun i b hi => by
    obtain ⟨th, h1, h2⟩ := h.c i b hi
    exact ⟨th, h1, f.cl hw h2 (hd b (h.sub b (List.mem_of_getElem? hi)))⟩⟩
theorem SC.fr {s s' : St} {sp lm : Nat} {ths : List Th} {slV : V} {now slept : Int} {FT l : List Nat} (h : SC s sp lm ths slV now slept FT) (f : Fr s s' l) (h1 : sp ∉ l) (h2 : ∀ b ∈ FT, b ∉ l) : SC s' sp lm ths slV now slept FT := by
  obtain ⟨thV, bs, e1, e2⟩ := h.ex
  exact ⟨f.wf, ⟨thV, bs, f.cl h.wf e1 h1, e2.fr h.wf f h2⟩, h.n, fun b hb => Nat.lt_of_lt_of_le (h.lt b hb) f.nx, h.l8⟩
theorem ThR.at {s : St} {FT : List Nat} {thV : V} {ths : List Th} {bs : List Nat} (h : ThR s FT thV ths bs) (hw : Wf s) {i : Nat} {th : Th} (hi : ths[i]? = some th) : ∃ q b, bIdx 1 thV (.i (i : Nat)) = some q ∧ ldP q s = some (.ptr b 0) ∧ s.cl b = some th.cells ∧ bs[i]? = some b ∧ b ∈ FT := by
  have hl := (List.getElem?_eq_some_iff.1 hi).1
  have hl' := h.len
  have hb : bs[i]? = some bs[i] := List.getElem?_eq_getElem (by omega)
  obtain ⟨th', h1, h2⟩ := h.c i _ hb
  rw [hi] at h1; cases h1
  obtain ⟨q, a1, a2⟩ := (h.g.sl hw).at hw (j := i) (x := .ptr bs[i] 0) (by rw [List.getElem?_map, hb]; rfl)
  exact ⟨q, bs[i], a1, a2, h2, hb, h.sub _ (List.mem_of_getElem? hb)⟩
/-- What a thread does. -/
def stO (ths : List Th) (t : Int) : Int := if t < 0 then 0 else match ths[t.toNat]? with | some th => th.state | none => 0
/-- The threads of a state, rising. -/
def inL (st : Int) : List Th → Nat → List Int
  | [], _ => []
  | th :: l, i => if th.state = st then (i : Int) :: inL st l (i + 1) else inL st l (i + 1)
theorem inL_append (st : Int) : ∀ (a b : List Th) (i : Nat), inL st (a ++ b) i = inL st a i ++ inL st b (i + a.length)
  | [], b, i => rfl
  | th :: a, b, i => by
    have := inL_append st a b (i + 1)
    simp only [List.cons_append, inL, this, List.length_cons]
    rw [show i + 1 + a.length = i + (a.length + 1) by omega]
    split <;> simp
theorem inL_len (st : Int) : ∀ (a : List Th) (i : Nat), (inL st a i).length ≤ a.length
  | [], i => Nat.le_refl _
  | th :: a, i => by
    have := inL_len st a (i + 1)
    simp only [inL]
    split <;> simp <;> omega
section
variable {s : St} {sp lm : Nat} {ths : List Th} {slV : V} {now slept : Int} {FT : List Nat} (H : SC s sp lm ths slV now slept FT)
include H
theorem SC.state (d : Nat) (t : Int) : (K (d + 1)).call 14 [.ptr sp 0, .i t] s = some (.i (stO ths t), s) := by
  obtain ⟨thV, bs, h1, hT⟩ := H.ex
  have hw := H.wf
  have hlen := hT.g.len
  rw [List.length_map, hT.len] at hlen
  rw [op14]
  unfold stO
  by_cases c : t < 0
  · simp -implicitDefEqProofs (maxSteps := 5000000) (disch := first | assumption | omega | (simp only [one_i, one_int, one_bool, one_str, one_ptr, one_nilp, one_nils, one_slice, one_map, one_nilm, one_func, one_iface, same_i, same_bool, same_nils, same_ptr, same_map, same_slice, List.length_cons, List.length_nil, Nat.zero_add, Nat.reduceAdd, allOne_cons, allOne_nil, Bool.and_self]; done) | (simp only [List.length_cons, List.length_nil, List.length_map, List.length_set]; omega)) only [go_sem, c, if_true]
  · rw [if_neg c]
    by_cases c2 : (ths.length : Nat) ≤ t
    · rw [List.getElem?_eq_none (by omega)]
      simp -implicitDefEqProofs (maxSteps := 5000000) (disch := first | assumption | omega | (simp only [one_i, one_int, one_bool, one_str, one_ptr, one_nilp, one_nils, one_slice, one_map, one_nilm, one_func, one_iface, same_i, same_bool, same_nils, same_ptr, same_map, same_slice, List.length_cons, List.length_nil, Nat.zero_add, Nat.reduceAdd, allOne_cons, allOne_nil, Bool.and_self]; done) | (simp only [List.length_cons, List.length_nil, List.length_map, List.length_set]; omega)) only [go_sem, c, c2, dLd_at hw h1, hlen]
    · have hi : ths[t.toNat]? = some ths[t.toNat] := List.getElem?_eq_getElem (by omega)
      obtain ⟨q, b, a1, a2, a3, _⟩ := hT.at hw hi
      rw [show ((t.toNat : Nat) : Int) = t by omega] at a1
      rw [hi]
      generalize ths[t.toNat] = th at *
      simp only [Th.cells] at a3
      simp -implicitDefEqProofs (maxSteps := 5000000) (disch := first | assumption | omega | (simp only [one_i, one_int, one_bool, one_str, one_ptr, one_nilp, one_nils, one_slice, one_map, one_nilm, one_func, one_iface, same_i, same_bool, same_nils, same_ptr, same_map, same_slice, List.length_cons, List.length_nil, Nat.zero_add, Nat.reduceAdd, allOne_cons, allOne_nil, Bool.and_self]; done) | (simp only [List.length_cons, List.length_nil, List.length_map, List.length_set]; omega)) only [go_sem, c, c2, dLd_at hw h1, hlen, a1, a2, dLd_at hw a3]
theorem SC.start (d : Nat) (h8 : ths.length < 8) : ∃ s' b, (K (d + 1)).call 12 [.ptr sp 0] s = some (.tup [.i (ths.length : Nat), .i 0], s') ∧ SC s' sp lm (ths ++ [⟨1, 0, 0, 0⟩]) slV now slept ((s.next + 2) :: s.next :: FT) ∧ Fr s s' (sp :: FT) ∧ s'.next = s.next + 3 ∧ b = s.next := by
  obtain ⟨thV, bs, h1, hT⟩ := H.ex
  have hw := H.wf
  have hlen := hT.g.len
  rw [List.length_map, hT.len] at hlen
  obtain ⟨s1, e1, c1, f1, n1⟩ := new_ex (s := s) (l := [V.i 1, .i 0, .i 0, .i 0]) (n := 4) hw rfl
  obtain ⟨s2, s3, e2, e3, hg3, f3, n3⟩ := (hT.g.fr hw f1 (by simp)).push f1.wf (x := .ptr s.next 0) rfl (fun y hy => by obtain ⟨a, _, rfl⟩ := List.mem_map.1 hy; rfl) (by rw [List.length_map, hT.len]; omega)
  rw [List.length_map, hT.len] at e3 hg3
  have hsp := cl_lt hw h1
  have h13 := f3.cl f1.wf (f1.cl hw h1 (by simp)) (fun hm => H.n (hT.subV _ hm))
  obtain ⟨s4, e4, c4, f4, n4⟩ := eSt_ex (s := s3) (o := 0) (v := .slice (s1.next + 1) 0 (ths.length + 1) none 1) f3.wf h13 (by simp) rfl
  simp only [List.set_cons_zero] at c4
  have F4 : Fr s s4 (sp :: FT) := (f1.mono (by simp)).trans ((f3.mono (fun b hb => .inl (by simp [hT.subV b hb]))).trans (f4.mono (by simp)))
  have eN : uLenS (.slice (s1.next + 1) 0 (ths.length + 1) none 1) = some (.i ((ths.length + 1 : Nat) : Int)) := rfl
  have c8 : ¬ (8 : Int) ≤ (ths.length : Nat) := by omega
  refine ⟨s4, s.next, ?_, ⟨f4.wf, ⟨_, bs ++ [s.next], c4, ?_⟩, ?_, ?_, by simp; omega⟩, F4, by omega, rfl⟩
  · rw [op12]
    simp -implicitDefEqProofs (maxSteps := 5000000) (disch := first | assumption | omega | (simp only [one_i, one_int, one_bool, one_str, one_ptr, one_nilp, one_nils, one_slice, one_map, one_nilm, one_func, one_iface, same_i, same_bool, same_nils, same_ptr, same_map, same_slice, List.length_cons, List.length_nil, Nat.zero_add, Nat.reduceAdd, allOne_cons, allOne_nil, Bool.and_self]; done) | (simp only [List.length_cons, List.length_nil, List.length_map, List.length_set]; omega)) only [go_sem, dLd_at hw h1, hlen, c8, dLd_at f4.wf c4, e1, e2, e3, e4, eN]
    simp
  · have hbs : ∀ b ∈ bs, b < s.next := fun b hb => H.lt b (hT.sub b hb)
    refine ⟨?_, by simp [hT.len], ?_, ?_, ?_, ?_, ?_⟩
    · have := hg3.fr f3.wf f4 (fun b hb => by simp [blkV] at hb; subst hb; simp; omega)
      simpa using this
    · intro b hb
      rcases List.mem_append.1 hb with hb | hb
      · simp [hT.sub b hb]
      · simp at hb; simp [hb]
    · intro b hb; simp [blkV] at hb; subst hb; simp; omega
    · rw [List.nodup_append]
      exact ⟨hT.nd, by simp, fun a ha b hb => by simp at hb; have := hbs a ha; omega⟩
    · intro b hb hm
      simp [blkV] at hb; subst hb
      rcases List.mem_append.1 hm with hm | hm
      · have := hbs _ hm; omega
      · simp at hm; omega
    · intro i b hi
      by_cases hl : i < bs.length
      · rw [List.getElem?_append_left hl] at hi
        obtain ⟨th, q1, q2⟩ := hT.c i b hi
        have hm := List.mem_of_getElem? hi
        refine ⟨th, by rw [List.getElem?_append_left (by have := hT.len; omega)]; exact q1, ?_⟩
        have x1 := f1.cl hw q2 (by simp)
        have x3 := f3.cl f1.wf x1 (fun h => hT.ne b h hm)
        exact f4.cl f3.wf x3 (by simp; rintro rfl; exact H.n (hT.sub _ hm))
      · rw [List.getElem?_append_right (by omega)] at hi
        have hi0 : i = bs.length := by have := (List.getElem?_eq_some_iff.1 hi).1; simp at this; omega
        subst hi0
        simp at hi; subst hi
        refine ⟨⟨1, 0, 0, 0⟩, by rw [hT.len, List.getElem?_append_right (by omega)]; simp, ?_⟩
        have x3 := f3.cl f1.wf c1 (fun h => by have := H.lt _ (hT.subV _ h); omega)
        exact f4.cl f3.wf x3 (by simp; omega)
  · simp only [List.mem_cons]
    rintro (h | h | h)
    · omega
    · omega
    · exact H.n h
  · intro b hb
    simp only [List.mem_cons] at hb
    rcases hb with rfl | rfl | hb
    · omega
    · omega
    · have := H.lt b hb; omega
theorem SC.inn (d : Nat) (st : Int) : Ret ((K (d + 1)).call 46 [.ptr sp 0, .i st] s) fun v s' => GL s' v ((inL st ths 0).map .i) ∧ Fr s s' [] ∧ ∀ b ∈ blkV v, s.next ≤ b := by
  obtain ⟨thV, bs, h1, hT⟩ := H.ex
  have hw := H.wf
  have hl8 := H.l8
  have hlen := hT.g.len
  rw [List.length_map, hT.len] at hlen
  simp -implicitDefEqProofs (maxSteps := 5000000) (disch := first | assumption | omega | (simp only [one_i, one_int, one_bool, one_str, one_ptr, one_nilp, one_nils, one_slice, one_map, one_nilm, one_func, one_iface, same_i, same_bool, same_nils, same_ptr, same_map, same_slice, List.length_cons, List.length_nil, Nat.zero_add, Nat.reduceAdd, allOne_cons, allOne_nil, Bool.and_self]; done) | (simp only [List.length_cons, List.length_nil, List.length_map, List.length_set]; omega)) only [op46, go_sem, dLd_at hw h1, hlen]
  refine loop_at (Q := fun r => Ret (retR _ (seqR (blkR 0 r) _)) _) (fun m e t => ∃ (j : Nat) (v : V), m = ths.length - j ∧ j ≤ ths.length ∧ Fr s t [] ∧ GL t v ((inL st (ths.take j) 0).map .i) ∧ (∀ b ∈ blkV v, s.next ≤ b) ∧ g1 e = .i st ∧ g5 e = v ∧ g11 e = thV ∧ g12 e = .i (ths.length : Nat) ∧ g13 e = .i j) ?_ (n := ths.length) (by omega) ⟨0, .nils, by omega, by omega, Fr.refl hw _, .inl ⟨rfl, rfl⟩, by simp [blkV], (by first | trivial | rfl | assumption), (by first | trivial | rfl | assumption), (by first | trivial | rfl | assumption), (by first | trivial | rfl | assumption), (by first | trivial | rfl | assumption)⟩
  rintro m e t ⟨j, v, rfl, hj, ft, hg, hb, i1, i5, i11, i12, i13⟩
  replace i1 : e.a0.a1 = _ := i1
  replace i5 : e.a0.a5 = _ := i5
  replace i11 : e.a0.a11 = _ := i11
  replace i12 : e.a0.a12 = _ := i12
  replace i13 : e.a0.a13 = _ := i13
  have hwt := ft.wf
  have hTt := hT.fr hw ft (by simp)
  by_cases c : (j : Int) < ((ths.length : Nat) : Int)
  · have hoj : ths[j]? = some ths[j] := List.getElem?_eq_getElem (by omega)
    obtain ⟨q, b, a1, a2, a3, _⟩ := hTt.at hwt hoj
    have htk : ths.take (j + 1) = ths.take j ++ [ths[j]] := by rw [List.take_succ, hoj]; rfl
    have hlj : (ths.take j).length = j := by rw [List.length_take]; omega
    generalize ths[j] = th at *
    simp only [Th.cells] at a3
    by_cases c2 : th.state = st
    · obtain ⟨s1, s2, p1, p2, hg2, f2, n2⟩ := hg.push hwt (x := .i (j : Nat)) rfl (fun y hy => by obtain ⟨a, _, rfl⟩ := List.mem_map.1 hy; rfl) (by rw [List.length_map]; have := inL_len st (ths.take j) 0; omega)
      simp -implicitDefEqProofs (maxSteps := 5000000) (disch := first | assumption | omega | (simp only [one_i, one_int, one_bool, one_str, one_ptr, one_nilp, one_nils, one_slice, one_map, one_nilm, one_func, one_iface, same_i, same_bool, same_nils, same_ptr, same_map, same_slice, List.length_cons, List.length_nil, Nat.zero_add, Nat.reduceAdd, allOne_cons, allOne_nil, Bool.and_self]; done) | (simp only [List.length_cons, List.length_nil, List.length_map, List.length_set]; omega)) only [go_sem, i1, i5, i11, i12, i13, c, a1, a2, dLd_at hwt a3, c2, p1, p2]
      refine ⟨ths.length - (j + 1), by omega, j + 1, _, rfl, by omega, ft.trans' f2 (fun x hx => .inr (hb x hx)), ?_, ?_, (by first | trivial | rfl | assumption), rfl, (by first | trivial | rfl | assumption), (by first | trivial | rfl | assumption), (by first | trivial | rfl | assumption)⟩
      · rw [htk, inL_append, hlj]
        simp only [inL, if_pos c2, Nat.zero_add, List.map_append, List.map_cons, List.map_nil]
        exact hg2
      · simp [blkV]; have := ft.nx; omega
    · simp -implicitDefEqProofs (maxSteps := 5000000) (disch := first | assumption | omega | (simp only [one_i, one_int, one_bool, one_str, one_ptr, one_nilp, one_nils, one_slice, one_map, one_nilm, one_func, one_iface, same_i, same_bool, same_nils, same_ptr, same_map, same_slice, List.length_cons, List.length_nil, Nat.zero_add, Nat.reduceAdd, allOne_cons, allOne_nil, Bool.and_self]; done) | (simp only [List.length_cons, List.length_nil, List.length_map, List.length_set]; omega)) only [go_sem, i1, i5, i11, i12, i13, c, a1, a2, dLd_at hwt a3, c2]
      refine ⟨ths.length - (j + 1), by omega, j + 1, v, rfl, by omega, ft, ?_, hb, (by first | trivial | rfl | assumption), (by first | trivial | rfl | assumption), (by first | trivial | rfl | assumption), (by first | trivial | rfl | assumption), (by first | trivial | rfl | assumption)⟩
      rw [htk, inL_append, hlj]
      simp only [inL, if_neg c2, List.append_nil]
      exact hg
  · have : j = ths.length := by omega
    subst this
    rw [List.take_length] at hg
    simp -implicitDefEqProofs (maxSteps := 5000000) (disch := first | assumption | omega | (simp only [one_i, one_int, one_bool, one_str, one_ptr, one_nilp, one_nils, one_slice, one_map, one_nilm, one_func, one_iface, same_i, same_bool, same_nils, same_ptr, same_map, same_slice, List.length_cons, List.length_nil, Nat.zero_add, Nat.reduceAdd, allOne_cons, allOne_nil, Bool.and_self]; done) | (simp only [List.length_cons, List.length_nil, List.length_map, List.length_set]; omega)) only [go_sem, i1, i5, i11, i12, i13, c]
    exact ⟨hg, ft, hb⟩
end
end
end Go.Proofs.YtgfghbhcifkmgaaLab
