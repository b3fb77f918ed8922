/- The law SchedPicks: its run. No condition on the program. -/
import Derived.Test.YtgfghbhcifkmgaaSF
namespace Go.Proofs.YtgfghbhcifkmgaaLab
open Go
set_option linter.all false
set_option maxRecDepth 10000
noncomputable section
/-- A number brought into bounds. -/
def withinI (n lo hi : Int) : Int := lo + (if n.tmod (hi - lo + 1) < 0 then n.tmod (hi - lo + 1) + hi - lo + 1 else n.tmod (hi - lo + 1))
theorem withinI_le (n lo hi : Int) (h : lo ≤ hi) : lo ≤ withinI n lo hi ∧ withinI n lo hi ≤ hi := by
  unfold withinI
  have h1 := Int.lt_tmod_of_pos n (show 0 < hi - lo + 1 by omega)
  have h2 := Int.tmod_lt_of_pos n (show 0 < hi - lo + 1 by omega)
  split <;> omega
theorem within_eq (s : St) (n lo hi : Int) (h0 : 0 ≤ lo) (h1 : lo ≤ hi) (h2 : hi < 1000000000) (d : Nat) : (K (d + 1)).call 11 [.i n, .i lo, .i hi] s = some (.i (withinI n lo hi), s) := by
  have b1 := Int.lt_tmod_of_pos n (show 0 < hi - lo + 1 by omega)
  have b2 := Int.tmod_lt_of_pos n (show 0 < hi - lo + 1 by omega)
  unfold withinI
  rw [op11]
  by_cases c : n.tmod (hi - lo + 1) < 0
  · simp -implicitDefEqProofs (maxSteps := 5000000) (disch := first | assumption | omega | (simp only [one_i, one_int, one_bool, one_str, one_ptr, one_nilp, one_nils, one_slice, one_map, one_nilm, one_func, one_iface, same_i, same_bool, same_nils, same_ptr, same_map, same_slice, List.length_cons, List.length_nil, Nat.zero_add, Nat.reduceAdd, allOne_cons, allOne_nil, Bool.and_self]; done) | (simp only [List.length_cons, List.length_nil, List.length_map, List.length_set]; omega)) only [go_sem, c, if_true]
  · simp -implicitDefEqProofs (maxSteps := 5000000) (disch := first | assumption | omega | (simp only [one_i, one_int, one_bool, one_str, one_ptr, one_nilp, one_nils, one_slice, one_map, one_nilm, one_func, one_iface, same_i, same_bool, same_nils, same_ptr, same_map, same_slice, List.length_cons, List.length_nil, Nat.zero_add, Nat.reduceAdd, allOne_cons, allOne_nil, Bool.and_self]; done) | (simp only [List.length_cons, List.length_nil, List.length_map, List.length_set]; omega)) only [go_sem, c, if_false]
/-- The row of sleepers is not this. -/
def Off (s : St) (sp : Nat) (FT : List Nat) (v : V) : Prop := ∀ b ∈ blkV v, b < s.next ∧ b ≠ sp ∧ b ∉ FT ∧ ∀ thV x slV y z, s.cl sp = some [thV, x, slV, y, z] → b ∉ blkV slV
/-- All ready, or asleep. -/
structure PI (s0 s : St) (sp lm : Nat) (i : Nat) (rv : V) (ths : List Th) (sl : List Sl) (slept : Int) (FT : List Nat) : Prop where
  h : SS s sp lm ths sl 0 slept FT
  len : ths.length = i
  g : GL s rv ((inL 1 ths 0).map .i)
  off : Off s sp FT rv
  rb : ∀ b ∈ blkV rv, s0.next ≤ b
  f : Fr s0 s []
  fs : s0.next ≤ sp ∧ ∀ b ∈ FT, s0.next ≤ b
  fl : ∀ thV x slV y z, s.cl sp = some [thV, x, slV, y, z] → ∀ b ∈ blkV slV, s0.next ≤ b
  sn : slept ≤ i
  sll : sl.length ≤ i
theorem inL_set (st : Int) (th' : Th) : ∀ (a : List Th) (i : Nat), inL st (a ++ [th']) i = inL st a i ++ (if th'.state = st then [((i + a.length : Nat) : Int)] else []) := fun a i => by
  rw [inL_append]
  simp only [inL]
section
variable {s0 s : St} {sp lm i : Nat} {rv : V} {ths : List Th} {sl : List Sl} {slept : Int} {FT : List Nat} (P : PI s0 s sp lm i rv ths sl slept FT)
include P
/-- One more that is ready. -/
theorem PI.ready (d : Nat) (hi : i < 8) : ∃ s1 s2 s3, (K (d + 1)).call 12 [.ptr sp 0] s = some (.tup [.i (i : Nat), .i 0], s1) ∧ s1.new (.cells 1 (ofL [V.i (i : Nat)])) = s2 ∧ apP 1 rv (.slice s1.next 0 1 (some 1) 1) s2 = some (.slice (s1.next + 1) 0 ((inL 1 ths 0).length + 1) none 1, s3) ∧ PI s0 s3 sp lm (i + 1) (.slice (s1.next + 1) 0 ((inL 1 ths 0).length + 1) none 1) (ths ++ [⟨1, 0, 0, 0⟩]) sl slept ((s.next + 2) :: s.next :: FT) := by
  obtain ⟨slV, HC, _, hbl⟩ := P.h.h
  obtain ⟨s1, e1, H1, f1, n1, hcl⟩ := P.h.start d (by have := P.len; omega)
  rw [P.len] at e1
  have hw := HC.wf
  have hin := inL_len 1 ths 0
  have hoff : ∀ b ∈ blkV rv, b ∉ sp :: FT := fun b hb => by
    obtain ⟨h1, h2, h3, h4⟩ := P.off b hb
    simp only [List.mem_cons, not_or]; exact ⟨h2, h3⟩
  obtain ⟨slV1, HC1, _, hbl1⟩ := H1.h
  obtain ⟨s2, s3, e2, e3, hg, f3, n3⟩ := (P.g.fr hw f1 hoff).push f1.wf (x := .i (i : Nat)) rfl (fun y hy => by obtain ⟨a, _, rfl⟩ := List.mem_map.1 hy; rfl) (by rw [List.length_map]; have := HC.l8; omega)
  rw [List.length_map] at e3 hg
  have f3' : Fr s1 s3 (blkV rv) := f3
  have hnb : ∀ b ∈ blkV rv, b < s.next := fun b hb => (P.off b hb).1
  have hsp1 : s0.next ≤ sp := P.fs.1
  -- the scheduler is as it was, behind the list's push
  have hnsp : sp ∉ blkV rv := fun h => (P.off _ h).2.1 rfl
  have hnF : ∀ b ∈ (s.next + 2) :: s.next :: FT, b ∉ blkV rv := fun b hb h => by
    simp only [List.mem_cons] at hb
    rcases hb with e | e | e
    · have := hnb _ h; omega
    · have := hnb _ h; omega
    · exact (P.off _ h).2.2.1 e
  obtain ⟨thV1, bs1, q1, _⟩ := HC1.ex
  obtain ⟨thV0, q0⟩ := hcl _ _ _ _ _ q1
  have hns : ∀ b ∈ blkV slV1, b ∉ blkV rv := fun b hb h => (P.off _ h).2.2.2 _ _ _ _ _ q0 hb
  have hf0 := P.f.nx
  have hq3 : s3.cl sp = some [thV1, .map lm, slV1, .int .u64 0, .i slept] := f3.cl f1.wf q1 hnsp
  refine ⟨s1, s2, s3, e1, e2, e3, ⟨⟨⟨slV1, HC1.fr f3 hnsp hnF, (by obtain ⟨slV2, HC2, hs2, hb2⟩ := H1.h; obtain ⟨thV2, bs2, q2, _⟩ := HC2.ex; rw [q1] at q2; cases q2; exact hs2.fr f3 hns), fun b hb => ⟨(hbl1 b hb).1, (hbl1 b hb).2.1, by have := (hbl1 b hb).2.2; omega⟩⟩, P.h.nw, P.h.sn, P.h.ll⟩, by simp [P.len], ?_, ?_, by simp [blkV]; omega, ?_, ⟨hsp1, ?_⟩, ?_, by have := P.sn; omega, by have := P.sll; omega⟩⟩
  · rw [inL_set]
    simp only [if_true, Nat.zero_add, P.len, List.map_append, List.map_cons, List.map_nil]
    exact hg
  · intro b hb
    simp [blkV] at hb; subst hb
    refine ⟨by omega, by have := cl_lt hw q0; omega, ?_, fun thV x slV y z hc hm => ?_⟩
    · simp only [List.mem_cons, not_or]
      exact ⟨by omega, by omega, fun h => by have := HC.lt _ h; omega⟩
    · rw [hq3] at hc
      simp only [Option.some.injEq, List.cons.injEq, and_true] at hc
      obtain ⟨_, _, rfl, _⟩ := hc
      have := (hbl1 _ hm).2.2; omega
  · exact (P.f.trans' f1 (fun b hb => .inr (by simp only [List.mem_cons] at hb; rcases hb with rfl | hb; exact hsp1; exact P.fs.2 b hb))).trans' f3 (fun b hb => .inr (P.rb b hb))
  · intro b hb
    simp only [List.mem_cons] at hb
    rcases hb with rfl | rfl | hb
    · omega
    · omega
    · exact P.fs.2 b hb
  · intro thV x slV y z hc b hb
    rw [hq3] at hc
    simp only [Option.some.injEq, List.cons.injEq, and_true] at hc
    obtain ⟨_, _, rfl, _⟩ := hc
    exact P.fl _ _ _ _ _ q0 b hb
/-- One more that sleeps. -/
theorem PI.asleep (d : Nat) (hi : i < 8) : ∃ s1 s2, (K (d + 4)).call 12 [.ptr sp 0] s = some (.tup [.i (i : Nat), .i 0], s1) ∧ (K (d + 4)).call 20 [.ptr sp 0, .i (i : Nat), .i 5] s1 = some (.i 0, s2) ∧ Fr s0 s1 [] ∧ PI s0 s2 sp lm (i + 1) rv (ths ++ [⟨4, 0, 0, 0⟩]) (upL (sl.length + 1) (sl ++ [⟨0 + 5, slept + 1, (i : Nat)⟩]) sl.length) (slept + 1) ((s.next + 2) :: s.next :: FT) := by
  obtain ⟨slV, HC, _, hbl⟩ := P.h.h
  obtain ⟨s1, e1, H1, f1, n1, hcl⟩ := P.h.start (d + 3) (by have := P.len; omega)
  rw [P.len] at e1
  have hw := HC.wf
  have hth : (ths ++ [(⟨1, 0, 0, 0⟩ : Th)])[i]? = some ⟨1, 0, 0, 0⟩ := by rw [List.getElem?_append_right (by have := P.len; omega), P.len]; simp
  obtain ⟨s2, e2, H2, hfl2, l, f2, hl⟩ := (H1.sleep d hth 5 (by omega)).2.2 rfl (by omega) (by have := P.sll; omega) (by have := P.sn; omega)
  have hset : (ths ++ [(⟨1, 0, 0, 0⟩ : Th)]).set i ⟨4, 0, 0, 0⟩ = ths ++ [⟨4, 0, 0, 0⟩] := by
    rw [List.set_append_right _ _ (by have := P.len; omega), P.len]; simp
  have hset' : (ths ++ [(⟨1, 0, 0, 0⟩ : Th)]).set i ⟨4, Th.lock ⟨1, 0, 0, 0⟩, Th.count ⟨1, 0, 0, 0⟩, Th.other ⟨1, 0, 0, 0⟩⟩ = ths ++ [⟨4, 0, 0, 0⟩] := hset
  rw [hset'] at H2
  obtain ⟨slV1, HC1, _, hbl1⟩ := H1.h
  obtain ⟨thV1, bs1, q1, _⟩ := HC1.ex
  obtain ⟨thV0, q0⟩ := hcl _ _ _ _ _ q1
  have hf0 := P.f.nx
  have F1 : Fr s0 s1 [] := P.f.trans' f1 (fun b hb => .inr (by simp only [List.mem_cons] at hb; rcases hb with rfl | hb; exact P.fs.1; exact P.fs.2 b hb))
  have hl0 : ∀ b ∈ l, s0.next ≤ b ∧ b ∉ blkV rv := fun b hb => by
    rcases hl b hb with rfl | h | ⟨slV', h, thV', h'⟩
    · exact ⟨P.fs.1, fun hm => (P.off _ hm).2.1 rfl⟩
    · simp only [List.mem_cons] at h
      rcases h with rfl | rfl | h
      · exact ⟨by omega, fun hm => by have := (P.off _ hm).1; omega⟩
      · exact ⟨by omega, fun hm => by have := (P.off _ hm).1; omega⟩
      · exact ⟨P.fs.2 b h, fun hm => (P.off _ hm).2.2.1 h⟩
    · obtain ⟨thV2, q2⟩ := hcl _ _ _ _ _ h'
      exact ⟨P.fl _ _ _ _ _ q2 b h, fun hm => (P.off _ hm).2.2.2 _ _ _ _ _ q2 h⟩
  have hoff1 : ∀ b ∈ blkV rv, b ∉ sp :: FT := fun b hb => by
    obtain ⟨h1, h2, h3, h4⟩ := P.off b hb
    simp only [List.mem_cons, not_or]; exact ⟨h2, h3⟩
  have hg2 := (P.g.fr hw f1 hoff1).fr f1.wf f2 (fun b hb h => (hl0 b h).2 hb)
  have hn2 := f2.nx
  refine ⟨s1, s2, e1, e2, F1, ⟨H2, by simp [P.len], ?_, fun b hb => ?_, P.rb, F1.trans' f2 (fun b hb => .inr (hl0 b hb).1), ⟨P.fs.1, ?_⟩, fun thV x slV y z hc b hb => by have := hfl2 _ _ _ _ _ hc b hb; have := F1.nx; omega, by have := P.sn; omega, ?_⟩⟩
  · rw [inL_set]
    simpa using hg2
  · obtain ⟨h1, h2, h3, h4⟩ := P.off b hb
    refine ⟨by omega, h2, ?_, fun thV x slV y z hc hm => by have := hfl2 _ _ _ _ _ hc b hm; omega⟩
    simp only [List.mem_cons, not_or]
    exact ⟨by omega, by omega, h3⟩
  · intro b hb
    simp only [List.mem_cons] at hb
    rcases hb with rfl | rfl | hb
    · omega
    · omega
    · exact P.fs.2 b hb
  · rw [(upL_perm _ _ _).length_eq]; simp; exact P.sll
end
end
end Go.Proofs.YtgfghbhcifkmgaaLab
