/- Threads that sleep; picks. No condition on the program. -/
import Derived.Test.YtgfghbhcifkmgaaSD
namespace Go.Proofs.YtgfghbhcifkmgaaLab
open Go
set_option linter.all false
set_option maxRecDepth 10000
noncomputable section
structure SS (s : St) (sp lm : Nat) (ths : List Th) (sl : List Sl) (now slept : Int) (FT : List Nat) : Prop where
  h : ∃ slV, SC s sp lm ths slV now slept FT ∧ SlR s slV sl ∧ ∀ b ∈ blkV slV, b ≠ sp ∧ b ∉ FT ∧ b < s.next
  nw : 0 ≤ now ∧ now ≤ 1000000000
  sn : 0 ≤ slept ∧ slept ≤ 1000000
  ll : sl.length ≤ 1000
theorem SS.fr {s s' : St} {sp lm : Nat} {ths : List Th} {sl : List Sl} {now slept : Int} {FT : List Nat} (h : SS s sp lm ths sl now slept FT) (f : Fr s s' []) : SS s' sp lm ths sl now slept FT := by
  obtain ⟨slV, h1, h2, h3⟩ := h.h
  exact ⟨⟨slV, h1.fr f (by simp) (by simp), h2.fr f (by simp), fun b hb => ⟨(h3 b hb).1, (h3 b hb).2.1, Nat.lt_of_lt_of_le (h3 b hb).2.2 f.nx⟩⟩, h.nw, h.sn, h.ll⟩
/-- A thread's state turned. -/
theorem ThR.set {s s' : St} {FT : List Nat} {thV : V} {ths : List Th} {bs : List Nat} {i b : Nat} {th th' : Th} (h : ThR s FT thV ths bs) (hw : Wf s) (hb : bs[i]? = some b) (hi : ths[i]? = some th) (f : Fr s s' [b]) (hc : s'.cl b = some th'.cells) : ThR s' FT thV (ths.set i th') bs :=
  ⟨h.g.fr hw f (fun x hx => by simp; rintro rfl; exact h.ne _ hx (List.mem_of_getElem? hb)), by simp [h.len], h.sub, h.subV, h.nd, h.ne, fun j c hj => by
    by_cases e : i = j
    · subst e
      rw [hb] at hj; cases hj
      exact ⟨th', List.getElem?_set_self (List.getElem?_eq_some_iff.1 hi).1, hc⟩
    · obtain ⟨t2, h1, h2⟩ := h.c j c hj
      refine ⟨t2, by rw [List.getElem?_set_ne e]; exact h1, f.cl hw h2 ?_⟩
      simp only [List.mem_singleton]
      rintro rfl
      have hp := List.pairwise_iff_getElem.1 h.nd
      obtain ⟨x1, x2⟩ := List.getElem?_eq_some_iff.1 hb
      obtain ⟨y1, y2⟩ := List.getElem?_eq_some_iff.1 hj
      rcases Nat.lt_or_gt_of_ne e with e | e
      · exact hp i j x1 y1 e (x2.trans y2.symm)
      · exact hp j i y1 x1 e (y2.trans x2.symm)⟩
section
variable {s : St} {sp lm : Nat} {ths : List Th} {sl : List Sl} {now slept : Int} {FT : List Nat} (H : SS s sp lm ths sl now slept FT)
include H
theorem SS.sleep (d : Nat) {i : Nat} {th : Th} (hi : ths[i]? = some th) (n : Int) (hn : n ≤ 1000000) :
    (th.state ≠ 1 → (K (d + 4)).call 20 [.ptr sp 0, .i (i : Nat), .i n] s = some (.i 1, s)) ∧
    (th.state = 1 → n < 1 → (K (d + 4)).call 20 [.ptr sp 0, .i (i : Nat), .i n] s = some (.i 0, s)) ∧
    (th.state = 1 → 1 ≤ n → sl.length < 1000 → slept < 1000000 → ∃ s', (K (d + 4)).call 20 [.ptr sp 0, .i (i : Nat), .i n] s = some (.i 0, s') ∧ SS s' sp lm (ths.set i ⟨4, th.lock, th.count, th.other⟩) (upL (sl.length + 1) (sl ++ [⟨now + n, slept + 1, (i : Nat)⟩]) sl.length) now (slept + 1) FT ∧ (∀ thV x slV y z, s'.cl sp = some [thV, x, slV, y, z] → ∀ b ∈ blkV slV, s.next ≤ b) ∧ ∃ l, Fr s s' l ∧ ∀ b ∈ l, b = sp ∨ b ∈ FT ∨ ∃ slV, b ∈ blkV slV ∧ ∃ thV, s.cl sp = some [thV, .map lm, slV, .int .u64 now, .i slept]) := by
  obtain ⟨slV, HC, hsl, hbl⟩ := H.h
  have hnw := H.nw
  have hsn := H.sn
  have hw := HC.wf
  have hil := (List.getElem?_eq_some_iff.1 hi).1
  have est := HC.state (d + 2) (i : Nat)
  have hst : stO ths (i : Nat) = th.state := by
    unfold stO; rw [if_neg (by omega), Int.toNat_natCast, hi]
  rw [hst] at est
  refine ⟨fun h => ?_, fun h hn1 => ?_, fun h hn1 hll hss => ?_⟩
  · rw [op20]
    simp -implicitDefEqProofs (maxSteps := 5000000) (disch := first | assumption | omega | (simp only [one_i, one_int, one_bool, one_str, one_ptr, one_nilp, one_nils, one_slice, one_map, one_nilm, one_func, one_iface, same_i, same_bool, same_nils, same_ptr, same_map, same_slice, List.length_cons, List.length_nil, Nat.zero_add, Nat.reduceAdd, allOne_cons, allOne_nil, Bool.and_self]; done) | (simp only [List.length_cons, List.length_nil, List.length_map, List.length_set]; omega)) only [go_sem, est, h]
  · rw [h] at est
    rw [op20]
    simp -implicitDefEqProofs (maxSteps := 5000000) (disch := first | assumption | omega | (simp only [one_i, one_int, one_bool, one_str, one_ptr, one_nilp, one_nils, one_slice, one_map, one_nilm, one_func, one_iface, same_i, same_bool, same_nils, same_ptr, same_map, same_slice, List.length_cons, List.length_nil, Nat.zero_add, Nat.reduceAdd, allOne_cons, allOne_nil, Bool.and_self]; done) | (simp only [List.length_cons, List.length_nil, List.length_map, List.length_set]; omega)) only [go_sem, est, hn1, eq_self]
  · rw [h] at est
    obtain ⟨thV, bs, h1, hT⟩ := HC.ex
    obtain ⟨q, b, a1, a2, a3, hb, hbF⟩ := hT.at hw hi
    have hsp := cl_lt hw h1
    simp only [Th.cells] at a3
    have hbsp : b ≠ sp := fun e => HC.n (e ▸ hbF)
    obtain ⟨s1, p1, c1, f1, n1⟩ := eSt_ex (s := s) (b := b) (o := 0) (v := .i 4) hw a3 (by simp) rfl
    simp only [List.set_cons_zero] at c1
    have h11 := f1.cl hw h1 (by simp; exact fun e => hbsp e.symm)
    obtain ⟨s2, p2, c2, f2, n2⟩ := eSt_ex (s := s1) (b := sp) (o := 4) (v := .i (slept + 1)) f1.wf h11 (by simp) rfl
    simp only [List.set_cons_succ, List.set_cons_zero] at c2
    have hT1 := hT.set (th' := ⟨4, th.lock, th.count, th.other⟩) hw hb hi f1 c1
    have hT2 := hT1.fr f1.wf f2 (fun x hx => by simp; rintro rfl; exact HC.n hx)
    have hsl2 := (hsl.fr f1 (fun x hx => by simp; rintro rfl; exact (hbl _ hx).2.1 hbF)).fr f2 (fun x hx => by simp; exact (hbl x hx).1)
    obtain ⟨s3, b', p3, c3, H3, hb1, hb2, f3⟩ := push_eq (s := s2) (q := sp) (o := 2) (x := ⟨now + n, slept + 1, (i : Nat)⟩) f2.wf c2 rfl hsl2 (fun hm => (hbl _ hm).1 rfl) (by omega) (d + 0)
    simp only [List.set_cons_succ, List.set_cons_zero] at c3
    have hT3 := hT2.fr f2.wf f3 (fun x hx => by
      simp only [List.mem_cons]
      rintro (e | e)
      · exact HC.n (e ▸ hx)
      · exact (hbl x e).2.1 hx)
    have hx : Sl.cells ⟨now + n, slept + 1, (i : Nat)⟩ = [.int .u64 (now + n), .i (slept + 1), .i (i : Nat)] := rfl
    rw [hx] at p3
    have hlu : (upL (sl.length + 1) (sl ++ [⟨now + n, slept + 1, (i : Nat)⟩]) sl.length).length = sl.length + 1 := by
      rw [(upL_perm _ _ _).length_eq]; simp
    refine ⟨s3, ?_, ⟨⟨_, ⟨f3.wf, ⟨thV, bs, c3, hT3⟩, HC.n, fun x hx => by have := HC.lt x hx; have := f3.nx; omega, by simp; exact HC.l8⟩, .inr ⟨b', H3⟩, fun x hx => ?_⟩, hnw, by omega, by omega⟩, ?_, b :: sp :: sp :: blkV slV, ?_, ?_⟩
    · rw [op20]
      have hn2 : ¬ n < 1 := by omega
      simp -implicitDefEqProofs (maxSteps := 5000000) (disch := first | assumption | omega | (simp only [one_i, one_int, one_bool, one_str, one_ptr, one_nilp, one_nils, one_slice, one_map, one_nilm, one_func, one_iface, same_i, same_bool, same_nils, same_ptr, same_map, same_slice, List.length_cons, List.length_nil, Nat.zero_add, Nat.reduceAdd, allOne_cons, allOne_nil, Bool.and_self]; done) | (simp only [List.length_cons, List.length_nil, List.length_map, List.length_set]; omega)) only [go_sem, est, eq_self, hn2, dLd_at hw h1, a1, a2, p1, dLd_at f1.wf h11, p2, dLd_at f2.wf c2, p3]
    · simp [blkV] at hx; subst hx
      exact ⟨by omega, fun hm => by have := HC.lt _ hm; omega, hb2⟩
    · intro thV' x slV' y z hc b2 hb2'
      rw [c3] at hc
      simp only [Option.some.injEq, List.cons.injEq, and_true] at hc
      obtain ⟨_, _, rfl, _⟩ := hc
      simp [blkV] at hb2'; omega
    · exact (f1.mono (by simp)).trans ((f2.mono (by simp)).trans (f3.mono (fun y hy => .inl (by simp at hy ⊢; rcases hy with h | h <;> simp [h]))))
    · intro y hy
      simp only [List.mem_cons] at hy
      rcases hy with rfl | rfl | rfl | hy
      · exact .inr (.inl hbF)
      · exact .inl rfl
      · exact .inl rfl
      · exact .inr (.inr ⟨slV, hy, thV, h1⟩)
end
end
end Go.Proofs.YtgfghbhcifkmgaaLab
