/- The law SchedSleeps: one more thread. No condition on the program. -/
import Derived.Test.YtgfghbhcifkmgaaSR
namespace Go.Proofs.YtgfghbhcifkmgaaLab
open Go
set_option linter.all false
set_option maxRecDepth 10000
noncomputable section
structure QI (s0 s : St) (sp lm wb i : Nat) (ths : List Th) (sl : List Sl) (slept : Int) (FT : List Nat) (B : Nat → List Sl) (vs : List V) : Prop where
  h : SS s sp lm ths sl 0 slept FT
  len : ths.length = i
  ok : okT ths
  hp : isHeap sl
  pm : sl.Perm ((List.range' 1 12).flatMap B)
  bw : BW B i slept
  wW : WB s wb B vs
  off : ∀ b ∈ wbB wb vs, b ∉ sp :: (FT ++ slB s sp)
  f : Fr s0 s []
  fs : ∀ b ∈ sp :: (FT ++ slB s sp), s0.next ≤ b
  fw : ∀ b ∈ wbB wb vs, s0.next ≤ b
  sn : slept ≤ i
  sll : sl.length ≤ i
theorem blen {B : Nat → List Sl} {sl : List Sl} {n m : Nat} (h : sl.Perm ((List.range' 1 12).flatMap B)) (hl : sl.length ≤ m) (h1 : 1 ≤ n) (h2 : n ≤ 12) : (B n).length ≤ m := by
  have h3 : n ∈ List.range' 1 12 := by rw [List.mem_range'_1]; omega
  have h4 := h.length_eq
  have : ∀ l : List Nat, n ∈ l → (B n).length ≤ (l.flatMap B).length := by
    intro l
    induction l with
    | nil => intro h; simp at h
    | cons k l ih =>
      intro h
      rw [List.flatMap_cons, List.length_append]
      rcases List.mem_cons.1 h with rfl | h
      · omega
      · have := ih h; omega
  have := this _ h3
  omega
section
variable {s0 s : St} {sp lm wb i : Nat} {ths : List Th} {sl : List Sl} {slept : Int} {FT : List Nat} {B : Nat → List Sl} {vs : List V} (P : QI s0 s sp lm wb i ths sl slept FT B vs)
include P
/-- One more that does not sleep. -/
theorem QI.one (d : Nat) (hi : i < 8) : ∃ s1, (K (d + 4)).call 12 [.ptr sp 0] s = some (.tup [.i (i : Nat), .i 0], s1) ∧ Fr s0 s1 [] ∧ (ths ++ [(⟨1, 0, 0, 0⟩ : Th)])[i]? = some ⟨1, 0, 0, 0⟩ ∧ QI s0 s1 sp lm wb (i + 1) (ths ++ [⟨1, 0, 0, 0⟩]) sl slept ((s.next + 2) :: s.next :: FT) B vs := by
  obtain ⟨slV, HC, _, hbl⟩ := P.h.h
  have hw := HC.wf
  obtain ⟨s1, e1, H1, f1, n1, hcl⟩ := P.h.start (d + 3) (by have := P.len; omega)
  rw [P.len] at e1
  have hth : (ths ++ [(⟨1, 0, 0, 0⟩ : Th)])[i]? = some ⟨1, 0, 0, 0⟩ := by rw [List.getElem?_append_right (by have := P.len; omega), P.len]; simp
  have hB1 : slB s1 sp = slB s sp := by
    obtain ⟨slV1, HC1, _, _⟩ := H1.h
    obtain ⟨thV1, bs1, q1, _⟩ := HC1.ex
    obtain ⟨thV0, q0⟩ := hcl _ _ _ _ _ q1
    unfold slB; rw [q1, q0]
  have hf0 := P.f.nx
  have hd : ∀ b ∈ wbB wb vs, b ∉ sp :: FT := fun b hb hm => P.off b hb (by simp at hm ⊢; rcases hm with h | h <;> simp [h])
  have F1 : Fr s0 s1 [] := P.f.trans' f1 (fun b hb => .inr (P.fs b (by simp at hb ⊢; rcases hb with h | h <;> simp [h])))
  have hlt := P.wW.lt' hw
  refine ⟨s1, e1, F1, hth, ⟨H1, by simp [P.len], ?_, P.hp, P.pm, P.bw.mono, P.wW.fr hw f1 hd, fun b hb hm => ?_, F1, fun b hb => ?_, P.fw, by have := P.sn; omega, by have := P.sll; omega⟩⟩
  · intro th hm
    rcases List.mem_append.1 hm with hm | hm
    · exact P.ok th hm
    · simp at hm; subst hm; exact .inl rfl
  · rw [hB1] at hm
    have h1 := hlt b hb
    have h2 := P.off b hb
    simp only [List.mem_cons, List.mem_append, not_or] at hm h2
    rcases hm with rfl | (rfl | rfl | hm) | hm
    · exact h2.1 rfl
    · omega
    · omega
    · exact h2.2.1 hm
    · exact h2.2.2 hm
  · rw [hB1] at hb
    have h2 := P.fs b
    simp only [List.mem_cons, List.mem_append] at hb h2
    rcases hb with rfl | (rfl | rfl | hb) | hb
    · exact h2 (.inl rfl)
    · omega
    · omega
    · exact h2 (.inr (.inl hb))
    · exact h2 (.inr (.inr hb))
end
/-- It falls asleep; and is wanted. -/
theorem QI.two {s0 s : St} {sp lm wb i : Nat} {ths : List Th} {sl : List Sl} {slept : Int} {FT : List Nat} {B : Nat → List Sl} {vs : List V} (P : QI s0 s sp lm wb (i + 1) (ths ++ [⟨1, 0, 0, 0⟩]) sl slept FT B vs) (hs : slept ≤ i ∧ sl.length ≤ i) (hB : BW B i slept) (d : Nat) (hi : i < 8) {n : Nat} (h1 : 1 ≤ n) (h2 : n ≤ 12) : ∃ s2 v s3 s4 s5 b', (K (d + 4)).call 20 [.ptr sp 0, .i (i : Nat), .i (n : Nat)] s = some (.i 0, s2) ∧ (K (d + 4)).call 14 [.ptr sp 0, .i (i : Nat)] s2 = some (.i 4, s2) ∧ ldP (.ptr wb n) s2 = some v ∧ s2.new (.cells 1 (ofL [V.i (i : Nat)])) = s3 ∧ apP 1 v (.slice s2.next 0 1 (some 1) 1) s3 = some (b', s4) ∧ stP 1 (.ptr wb n) b' s4 = some (.tup [], s5) ∧ Fr s0 s2 [] ∧ QI s0 s5 sp lm wb (i + 1) (ths ++ [⟨4, 0, 0, 0⟩]) (upL (sl.length + 1) (sl ++ [⟨(n : Nat), slept + 1, (i : Nat)⟩]) sl.length) (slept + 1) FT (updB B n ⟨(n : Nat), slept + 1, (i : Nat)⟩) (vs.set n b') := by
  have hlen : ths.length = i := by have := P.len; simp at this; omega
  have hth : (ths ++ [(⟨1, 0, 0, 0⟩ : Th)])[i]? = some ⟨1, 0, 0, 0⟩ := by rw [List.getElem?_append_right (by omega), hlen]; simp
  obtain ⟨s2, e2, H2, hfl2, l, f2, hl⟩ := (P.h.sleep d hth (n : Nat) (by omega)).2.2 rfl (by omega) (by omega) (by omega)
  have hset : (ths ++ [(⟨1, 0, 0, 0⟩ : Th)]).set i ⟨4, 0, 0, 0⟩ = ths ++ [⟨4, 0, 0, 0⟩] := by
    rw [List.set_append_right _ _ (by omega), hlen]; simp
  have hset' : (ths ++ [(⟨1, 0, 0, 0⟩ : Th)]).set i ⟨4, Th.lock ⟨1, 0, 0, 0⟩, Th.count ⟨1, 0, 0, 0⟩, Th.other ⟨1, 0, 0, 0⟩⟩ = ths ++ [⟨4, 0, 0, 0⟩] := hset
  rw [hset'] at H2
  rw [show (0 : Int) + (n : Nat) = (n : Nat) by omega] at H2
  obtain ⟨slV, HC, _, hbl⟩ := P.h.h
  have hw := HC.wf
  obtain ⟨slV2, HC2, _, hbl2⟩ := H2.h
  have hw2 := HC2.wf
  obtain ⟨thV0, bs0, q0, _⟩ := HC.ex
  obtain ⟨thV2, bs2, q2, _⟩ := HC2.ex
  have hB2 : ∀ b ∈ slB s2 sp, s.next ≤ b := fun b hb => by
    unfold slB at hb; rw [q2] at hb
    exact hfl2 _ _ _ _ _ q2 b hb
  have hlB : ∀ b ∈ l, b ∈ sp :: (FT ++ slB s sp) := fun b hb => by
    rcases hl b hb with rfl | h | ⟨slV', h, thV', h'⟩
    · simp
    · simp [h]
    · have : slB s sp = blkV slV' := by unfold slB; rw [h']
      simp [this, h]
  have hst := HC2.state (d + 3) (i : Nat)
  have hst4 : stO (ths ++ [⟨4, 0, 0, 0⟩]) (i : Nat) = 4 := by
    unfold stO; rw [if_neg (by omega), Int.toNat_natCast, List.getElem?_append_right (by omega), hlen]; simp
  rw [hst4] at hst
  have hW2 := P.wW.fr hw f2 (fun b hb hm => P.off b hb (hlB b hm))
  have F2 : Fr s0 s2 [] := P.f.trans' f2 (fun b hb => .inr (P.fs b (hlB b hb)))
  obtain ⟨v, s3, s4, s5, hv, w1, w2, w3, HW, f5, hnb⟩ := hW2.push hw2 (n := n) (by omega) (by have := blen P.pm P.sll h1 h2; omega) ⟨(n : Nat), slept + 1, (i : Nat)⟩
  have hlt := P.wW.lt' hw
  have hlt2 := hW2.lt' hw2
  have hown := H2.own
  have off2 : ∀ b ∈ wbB wb vs, b ∉ sp :: (FT ++ slB s2 sp) := fun b hb hm => by
    have h1 := hlt b hb
    have h2 := P.off b hb
    simp only [List.mem_cons, List.mem_append, not_or] at hm h2
    rcases hm with rfl | hm | hm
    · exact h2.1 rfl
    · exact h2.2.1 hm
    · have := hB2 b hm; omega
  obtain ⟨H5, hB5⟩ := H2.frL f5 (fun b hb hm => off2 b hm hb)
  have hld : ldP (.ptr wb n) s2 = some v := by rw [dLd_at hw2 hW2.c (by rw [hW2.len]; omega)]; exact hv
  have hn2 := f2.nx
  have hf0 := P.f.nx
  refine ⟨s2, v, s3, s4, s5, _, e2, hst, hld, w1, w2, w3, F2, ⟨H5, by simp [hlen], ?_, push_heap P.hp, ?_, ?_, HW, fun b hb hm => ?_, F2.trans' f5 (fun b hb => .inr (P.fw b hb)), fun b hb => ?_, fun b hb => ?_, by omega, ?_⟩⟩
  · intro th hm
    rcases List.mem_append.1 hm with hm | hm
    · exact P.ok th (by simp [hm])
    · simp at hm; subst hm; exact .inr rfl
  · refine (upL_perm _ _ _).trans ((P.pm.append_right _).trans (updB_perm B n _ _ (List.nodup_range' ..) ?_).symm)
    rw [List.mem_range'_1]; omega
  · exact hB.push h1 h2
  · rw [hB5] at hm
    rcases hnb b hb with h | h
    · exact off2 b h hm
    · have := hown b hm; omega
  · rw [hB5] at hb
    have h3 := P.fs b
    simp only [List.mem_cons, List.mem_append] at hb h3
    rcases hb with rfl | hb | hb
    · exact h3 (.inl rfl)
    · exact h3 (.inr (.inl hb))
    · have := hB2 b hb; omega
  · rcases hnb b hb with h | h
    · exact P.fw b h
    · omega
  · rw [(upL_perm _ _ _).length_eq]; simp; omega
end
end Go.Proofs.YtgfghbhcifkmgaaLab
