/- The law SchedSleeps: what is wanted; its parts. No condition on the program. -/
import Derived.Test.YtgfghbhcifkmgaaSQ
import Derived.Test.YtgfghbhcifkmgaaSG
namespace Go.Proofs.YtgfghbhcifkmgaaLab
open Go
set_option linter.all false
set_option maxRecDepth 10000
noncomputable section
theorem bIdxA_eq {n es b o : Nat} {j : Int} (h0 : 0 ≤ j) (h1 : j < n) : bIdxA n es (.ptr b o) (.i j) = some (.ptr b (o + j.toNat * es)) := by
  have e : bIdxA n es (.ptr b o) (.i j) = Bool.casesOn (motive := fun _ => Option V) (leI 0 j) none (Bool.casesOn (motive := fun _ => Option V) (Nat.blt j.toNat n) none (some (.ptr b (Nat.add o (Nat.mul j.toNat es))))) := rfl
  rw [e, leI_eq, decide_eq_true h0, nblt_eq, decide_eq_true (by omega)]; rfl
/-! Plain facts -/
def updB (B : Nat → List Sl) (n : Nat) (x : Sl) : Nat → List Sl := fun k => if k = n then B n ++ [x] else B k
theorem updB_perm (B : Nat → List Sl) (n : Nat) (x : Sl) : ∀ l : List Nat, l.Nodup → n ∈ l → (l.flatMap (updB B n x)).Perm (l.flatMap B ++ [x])
  | [], _, h => by simp at h
  | k :: l, hd, h => by
    have hd' := List.nodup_cons.1 hd
    rw [List.flatMap_cons, List.flatMap_cons]
    by_cases e : n = k
    · subst e
      have h2 : l.flatMap (updB B n x) = l.flatMap B := by
        have : ∀ j ∈ l, updB B n x j = B j := fun j hj => by
          unfold updB; rw [if_neg (show ¬ j = n by rintro rfl; exact hd'.1 hj)]
        rw [List.flatMap_def, List.flatMap_def, List.map_congr_left this]
      rw [h2]
      unfold updB
      rw [if_pos rfl, List.append_assoc, List.append_assoc]
      exact (List.perm_append_comm).append_left _
    · have hm : n ∈ l := by simpa [e] using h
      have h3 : updB B n x k = B k := by unfold updB; rw [if_neg (fun e' => e e'.symm)]
      rw [h3, List.append_assoc]
      exact (updB_perm B n x l hd'.2 hm).append_left _
structure BW (B : Nat → List Sl) (i : Nat) (slept : Int) : Prop where
  w : ∀ k x, x ∈ B k → x.w = (k : Nat) ∧ 0 ≤ x.t ∧ x.t < (i : Nat) ∧ x.o ≤ slept
  s : ∀ k, (B k).Pairwise fun a b => a.o < b.o
  z : ∀ k, ¬(1 ≤ k ∧ k ≤ 12) → B k = []
theorem BW.srt {B : Nat → List Sl} {i : Nat} {slept : Int} (h : BW B i slept) : ∀ (n k : Nat), Srt ((List.range' k n).flatMap B)
  | 0, k => List.Pairwise.nil
  | n + 1, k => by
    rw [List.range'_succ, List.flatMap_cons]
    refine List.pairwise_append.2 ⟨(h.s k).imp_of_mem fun {a b} ha hb hab => ?_, h.srt n (k + 1), fun a ha b hb => ?_⟩
    · rw [lessS_iff]; exact .inr ⟨by rw [(h.w k a ha).1, (h.w k b hb).1], hab⟩
    · obtain ⟨j, hj, hbj⟩ := List.mem_flatMap.1 hb
      rw [List.mem_range'_1] at hj
      rw [lessS_iff, (h.w k a ha).1, (h.w j b hbj).1]
      exact .inl (by omega)
theorem BW.push {B : Nat → List Sl} {i : Nat} {slept : Int} (h : BW B i slept) {n : Nat} (h1 : 1 ≤ n) (h2 : n ≤ 12) : BW (updB B n ⟨(n : Nat), slept + 1, (i : Nat)⟩) (i + 1) (slept + 1) := by
  refine ⟨fun k x hx => ?_, fun k => ?_, fun k hk => ?_⟩
  · unfold updB at hx
    by_cases e : k = n
    · subst e
      rw [if_pos rfl] at hx
      rcases List.mem_append.1 hx with hx | hx
      · have := h.w k x hx; omega
      · simp at hx; subst hx; simp; omega
    · rw [if_neg e] at hx
      have := h.w k x hx; omega
  · unfold updB
    by_cases e : k = n
    · subst e
      rw [if_pos rfl]
      refine List.pairwise_append.2 ⟨h.s k, List.pairwise_singleton _ _, fun a ha b hb => ?_⟩
      simp at hb; subst hb
      have := (h.w k a ha).2.2.2
      show a.o < slept + 1
      omega
    · rw [if_neg e]; exact h.s k
  · unfold updB
    rw [if_neg (by omega)]; exact h.z k hk
theorem BW.mono {B : Nat → List Sl} {i : Nat} {slept : Int} (h : BW B i slept) : BW B (i + 1) slept := ⟨fun k x hx => by have := h.w k x hx; omega, h.s, h.z⟩
/-! What is wanted, in memory -/
structure WB (s : St) (wb : Nat) (B : Nat → List Sl) (vs : List V) : Prop where
  c : s.cl wb = some vs
  len : vs.length = 20
  g : ∀ k v, vs[k]? = some v → GL s v ((B k).map fun x => V.i x.t)
  lt : ∀ (k : Nat) v b, vs[k]? = some v → b ∈ blkV v → b < s.next ∧ b ≠ wb
  dj : ∀ (j k : Nat) v w b, vs[j]? = some v → vs[k]? = some w → j ≠ k → b ∈ blkV v → b ∉ blkV w
/-- Its blocks. -/
def wbB (wb : Nat) (vs : List V) : List Nat := wb :: vs.flatMap blkV
theorem mem_wbB {wb : Nat} {vs : List V} {k : Nat} {v : V} {b : Nat} (h : vs[k]? = some v) (hb : b ∈ blkV v) : b ∈ wbB wb vs := by
  unfold wbB
  exact List.mem_cons_of_mem _ (List.mem_flatMap.2 ⟨v, List.mem_of_getElem? h, hb⟩)
theorem WB.lt' {s : St} {wb : Nat} {B : Nat → List Sl} {vs : List V} (h : WB s wb B vs) (hw : Wf s) : ∀ b ∈ wbB wb vs, b < s.next := fun b hb => by
  unfold wbB at hb
  rcases List.mem_cons.1 hb with rfl | hb
  · exact cl_lt hw h.c
  · obtain ⟨v, hv, hb⟩ := List.mem_flatMap.1 hb
    obtain ⟨k, hk⟩ := List.getElem?_of_mem hv
    exact (h.lt k v b hk hb).1
theorem WB.fr {s s' : St} {wb : Nat} {B : Nat → List Sl} {vs : List V} {L : List Nat} (h : WB s wb B vs) (hw : Wf s) (f : Fr s s' L) (hd : ∀ b ∈ wbB wb vs, b ∉ L) : WB s' wb B vs :=
  ⟨f.cl hw h.c (hd wb (by simp [wbB])), h.len, fun k v hv => (h.g k v hv).fr hw f (fun b hb => hd b (mem_wbB hv hb)), fun k v b hv hb => ⟨Nat.lt_of_lt_of_le (h.lt k v b hv hb).1 f.nx, (h.lt k v b hv hb).2⟩, h.dj⟩
theorem WB.push {s : St} {wb : Nat} {B : Nat → List Sl} {vs : List V} (h : WB s wb B vs) (hw : Wf s) {n : Nat} (hn : n < 20) (hl : (B n).length ≤ 100000) (x : Sl) :
    ∃ v s1 s2 s3, vs[n]? = some v ∧ s.new (.cells 1 (ofL [V.i x.t])) = s1 ∧ apP 1 v (.slice s.next 0 1 (some 1) 1) s1 = some (.slice (s.next + 1) 0 ((B n).length + 1) none 1, s2) ∧ stP 1 (.ptr wb n) (.slice (s.next + 1) 0 ((B n).length + 1) none 1) s2 = some (.tup [], s3) ∧ WB s3 wb (updB B n x) (vs.set n (.slice (s.next + 1) 0 ((B n).length + 1) none 1)) ∧ Fr s s3 (wbB wb vs) ∧ (∀ b ∈ wbB wb (vs.set n (.slice (s.next + 1) 0 ((B n).length + 1) none 1)), b ∈ wbB wb vs ∨ s.next ≤ b) := by
  obtain ⟨v, hv⟩ : ∃ v, vs[n]? = some v := ⟨_, List.getElem?_eq_getElem (by rw [h.len]; exact hn)⟩
  obtain ⟨s1, s2, e1, e2, hg2, f2, n2⟩ := (h.g n v hv).push hw (x := .i x.t) rfl (fun y hy => by obtain ⟨a, _, rfl⟩ := List.mem_map.1 hy; rfl) (by rw [List.length_map]; omega)
  rw [List.length_map] at e2 hg2
  have hwl := cl_lt hw h.c
  have hc2 := f2.cl hw h.c (fun hm => (h.lt n v wb hv hm).2 rfl)
  obtain ⟨s3, p3, c3, f3, n3⟩ := eSt_ex (s := s2) (b := wb) (o := n) (v := .slice (s.next + 1) 0 ((B n).length + 1) none 1) f2.wf hc2 (by rw [h.len]; exact hn) rfl
  have F3 : Fr s s3 (wbB wb vs) := (f2.mono (fun b hb => .inl (mem_wbB hv hb))).trans (f3.mono (by simp [wbB]))
  have hget : ∀ (k : Nat) w, (vs.set n (.slice (s.next + 1) 0 ((B n).length + 1) none 1))[k]? = some w → (k = n ∧ w = .slice (s.next + 1) 0 ((B n).length + 1) none 1) ∨ (k ≠ n ∧ vs[k]? = some w) := fun k w hk => by
    by_cases e : k = n
    · subst e
      rw [List.getElem?_set_self (by rw [h.len]; exact hn)] at hk
      cases hk; exact .inl ⟨rfl, rfl⟩
    · rw [List.getElem?_set_ne (fun e' => e e'.symm)] at hk
      exact .inr ⟨e, hk⟩
  refine ⟨v, s1, s2, s3, hv, e1, e2, p3, ⟨c3, by simp [h.len], fun k w hk => ?_, fun k w b hk hb => ?_, fun j k v1 w b hj hk hjk hb => ?_⟩, F3, fun b hb => ?_⟩
  · rcases hget k w hk with ⟨rfl, rfl⟩ | ⟨e, hk⟩
    · have := hg2.fr f2.wf f3 (fun b hb => by simp [blkV] at hb; subst hb; simp; omega)
      unfold updB; rw [if_pos rfl]
      simpa using this
    · have := ((h.g k w hk).fr hw f2 (fun b hb => h.dj k n w v b hk hv e hb)).fr f2.wf f3 (fun b hb => by simp; exact (h.lt k w b hk hb).2)
      unfold updB; rw [if_neg e]; exact this
  · rcases hget k w hk with ⟨rfl, rfl⟩ | ⟨e, hk⟩
    · simp [blkV] at hb; subst hb; omega
    · have := h.lt k w b hk hb; omega
  · rcases hget j v1 hj with ⟨rfl, rfl⟩ | ⟨e, hj'⟩
    · rcases hget k w hk with ⟨rfl, rfl⟩ | ⟨e, hk⟩
      · exact absurd rfl hjk
      · simp [blkV] at hb; subst hb
        intro hm; have := (h.lt k w _ hk hm).1; omega
    · rcases hget k w hk with ⟨rfl, rfl⟩ | ⟨e', hk'⟩
      · simp [blkV]; intro h'; have := (h.lt j v1 b hj' hb).1; omega
      · exact h.dj j k v1 w b hj' hk' hjk hb
  · unfold wbB at hb
    rcases List.mem_cons.1 hb with rfl | hb
    · exact .inl (by simp [wbB])
    · obtain ⟨w, hw', hb⟩ := List.mem_flatMap.1 hb
      rcases List.mem_or_eq_of_mem_set hw' with h' | h'
      · exact .inl (by unfold wbB; exact List.mem_cons_of_mem _ (List.mem_flatMap.2 ⟨w, h', hb⟩))
      · subst h'; simp [blkV] at hb; exact .inr (by omega)
end
end Go.Proofs.YtgfghbhcifkmgaaLab
