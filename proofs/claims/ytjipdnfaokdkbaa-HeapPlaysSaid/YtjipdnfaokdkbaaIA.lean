/- The law HeapPlays: its questions, one by one. No condition on the program. -/
import Derived.Test.YtjipdnfaokdkbaaHY
namespace Go.Proofs.YtjipdnfaokdkbaaLab
open Go
set_option linter.all false
set_option maxRecDepth 10000
noncomputable section
structure AskOk (s : St) (a : Ask) : Prop where
  n : -9223372036854775808 ≤ a.n ∧ a.n < 9223372036854775808
  of : -9223372036854775808 ≤ a.of ∧ a.of < 9223372036854775808
  to : -9223372036854775808 ≤ a.to ∧ a.to < 9223372036854775808
  v : -9223372036854775808 ≤ a.v ∧ a.v < 9223372036854775808
  refs : ∃ l : List Bool, SN s a.refs (l.map .bool) ∧ ∀ b ∈ blkV a.refs, b < s.next
  bits : ∃ l : List Bool, SN s a.bits (l.map .bool) ∧ ∀ b ∈ blkV a.bits, b < s.next
def AllQ (s0 : St) (p bw bb n bm rp : Nat) (w : Int) (i : Nat) (t : St) : Prop := ∃ os, TwoE s0.next t p bw bb n bm rp w os i ∧ Fr s0 t []
theorem SN.same {s : St} {v : V} {l : List V} (h : SN s v l) : sameV 100 v v = true := by
  rcases h with ⟨_, rfl | ⟨b, o, rfl⟩⟩ | ⟨b, o, n, f, rfl, _⟩
  · exact same_nils
  · exact same_slice _ _ _ _ _
  · exact same_slice _ _ _ _ _
theorem starts_i64 {os : List O} (h : (lay os).length ≤ 16384) : ∀ y ∈ starts 1 os, -9223372036854775808 ≤ y ∧ y < 9223372036854775808 := fun y hy => by
  obtain ⟨o, ho⟩ := starts_at hy
  have := lay_lt (os := os) (r := y) (o := o) ho
  omega
/-- A question in its turn. -/
structure Turn (s t : St) (p bw bb n bm rp : Nat) (w : Int) (i : Nat) (a : Ask) (X : Nat) (va : V) (os : List O) (z : List Int) (shapes : List (List Bool)) (F FO FS : List Nat) : Prop where
  hw : Wf s
  T : Two s.next t p bw bb n bm rp os z shapes F FO FS w
  ft : Fr s t []
  sh1 : shapes.length ≤ i
  i40 : i ≤ 40
  sh2 : ∀ l ∈ shapes, l.length ≤ 20
  ok : AskOk s a
  c : t.cl X = some a.cells
  xs : s.next ≤ X
  xp : X ∉ p :: bw :: bb :: bm :: F
  xr : X ∉ rp :: (FO ++ FS)
  ga : GL t va ((starts 1 os).map .i)
  gb : ∀ b ∈ blkV va, s.next ≤ b ∧ b ∉ p :: bw :: bb :: bm :: F ∧ b ∉ rp :: (FO ++ FS) ∧ b ≠ X
section
variable {s t : St} {p bw bb n bm rp : Nat} {w : Int} {i : Nat} {a : Ask} {X : Nat} {va : V} {os : List O} {z : List Int} {shapes : List (List Bool)} {F FO FS : List Nat} (U : Turn s t p bw bb n bm rp w i a X va os z shapes F FO FS) {C : Res → Prop} {e : E} (d : Nat)
include U
/-- What is left as it was, from a state on. -/
theorem Turn.fs {t' : St} {l : List Nat} (f : Fr t t' l) (hl : ∀ b ∈ l, s.next ≤ b) : Fr s t' [] := U.ft.trans' f (fun b hb => .inr (hl b hb))
/-- A new object: an array. -/
theorem kind2 (h1 : e.a0.a5 = .ptr p 0) (h2 : e.a0.a7 = .ptr rp 0) (h3 : e.a0.a9 = .ptr X 0)
    (fin : ∀ e' t', e'.a0.a1 = e.a0.a1 → e'.a0.a5 = .ptr p 0 → e'.a0.a7 = .ptr rp 0 → e'.a0.a8 = e.a0.a8 → AllQ s p bw bb n bm rp w (i + 1) t' → C (.nrm e' t')) : C (p6_59 (K (d + 6)) e t) := by
  have hwt := U.T.wf
  have hc := U.c
  simp only [Ask.cells] at hc
  obtain ⟨t1, t2, x, y, q1, f1, q2, f2, os', z', FO', T'⟩ := U.T.array (d + 3) (decide (a.v.tmod 2 = 0)) a.n
  have hc1 := f1.cl hwt hc (fun h => U.xp (by simp at h ⊢; rcases h with h | h | h <;> simp [h]))
  have hc2 := f2.cl f1.wf hc1 (fun h => U.xr (by simp at h ⊢; rcases h with h | h <;> simp [h]))
  have hb1 : ∀ b ∈ [p, bw, bb], s.next ≤ b := fun b hb => (U.T.dj b (by simp at hb ⊢; rcases hb with h | h | h <;> simp [h])).1
  have hb2 : ∀ b ∈ rp :: FO, s.next ≤ b := fun b hb => U.T.dr b (by simp at hb ⊢; rcases hb with h | h <;> simp [h])
  simp -implicitDefEqProofs (maxSteps := 5000000) (disch := first | assumption | omega | (simp only [one_i, one_int, one_bool, one_str, one_ptr, one_nilp, one_nils, one_slice, one_map, one_nilm, one_func, one_iface, same_i, same_bool, same_nils, same_ptr, same_map, same_slice, List.length_cons, List.length_nil, Nat.zero_add, Nat.reduceAdd, allOne_cons, allOne_nil, Bool.and_self]; done) | (simp only [List.length_cons, List.length_nil, List.length_map, List.length_set]; omega)) only [go_sem, ↓p6_41.eq_1, ↓p6_36.eq_1, ↓p6_59.eq_1, ↓p6_80.eq_1, ↓p6_71.eq_1, ↓p6_88.eq_1, ↓p6_121.eq_1, ↓p6_98.eq_1, ↓p6_56.eq_1, ↓p6_130.eq_1, ↓p6_135.eq_1, fAdd_eq, h1, h2, h3, dLd_at hwt hc, dLd_at f1.wf hc1, q1, q2]
  exact fin _ _ (by first | trivial | rfl | assumption) (by first | trivial | rfl | assumption) (by first | trivial | rfl | assumption) (by first | trivial | rfl | assumption) ⟨os', ⟨z', shapes, F, FO', FS, T', by have := U.sh1; omega, U.sh2⟩, (U.fs f1 hb1).trans' f2 (fun b hb => .inr (hb2 b hb))⟩
theorem Turn.c1 {t1 : St} {l : List Nat} (f : Fr t t1 l) (hl : ∀ b ∈ l, b ∈ p :: bw :: bb :: bm :: F) : t1.cl X = some [.i a.kind, .i a.n, .i a.of, .i a.to, a.refs, .i a.v, a.bits] :=
  f.cl U.T.wf U.c (fun h => U.xp (hl _ h))
theorem Turn.b1 {l : List Nat} (hl : ∀ b ∈ l, b ∈ p :: bw :: bb :: bm :: F) : ∀ b ∈ l, s.next ≤ b := fun b hb => (U.T.dj b (hl b hb)).1
theorem Turn.b2 {l : List Nat} (hl : ∀ b ∈ l, b ∈ rp :: (FO ++ FS)) : ∀ b ∈ l, s.next ≤ b := fun b hb => U.T.dr b (hl b hb)
theorem Turn.pick {x : Int} (hx : -9223372036854775808 ≤ x ∧ x < 9223372036854775808) : ∃ r : Int, (K (d + 6)).call 31 [va, .i x] t = some (.i r, t) ∧ -9223372036854775808 ≤ r ∧ r < 9223372036854775808 := by
  have h1 := U.T.size
  have h2 := lay_len3 os
  exact pick_eq U.T.wf (U.ga.sl U.T.wf) (by rw [starts_len]; omega) hx (starts_i64 (by omega)) (d + 4)
/-- A store. -/
theorem kind3 (h1 : e.a0.a5 = .ptr p 0) (h2 : e.a0.a7 = .ptr rp 0) (h3 : e.a0.a9 = .ptr X 0) (h4 : e.a0.a10 = va)
    (fin : ∀ e' t', e'.a0.a1 = e.a0.a1 → e'.a0.a5 = .ptr p 0 → e'.a0.a7 = .ptr rp 0 → e'.a0.a8 = e.a0.a8 → AllQ s p bw bb n bm rp w (i + 1) t' → C (.nrm e' t')) : C (p6_71 (K (d + 6)) e t) := by
  have hwt := U.T.wf
  have hc := U.c
  simp only [Ask.cells] at hc
  obtain ⟨r1, k1, hr1⟩ := Turn.pick U d U.ok.of
  have key : ∀ v : Int, -9223372036854775808 ≤ v ∧ v < 9223372036854775808 → ∀ e2 : E, e2.a0.a5 = .ptr p 0 → e2.a0.a7 = .ptr rp 0 → e2.a0.a9 = .ptr X 0 → e2.a1.a3 = .i r1 → e2.a1.a4 = .i v → e2.a0.a1 = e.a0.a1 → e2.a0.a8 = e.a0.a8 → C (p6_80 (K (d + 6)) e2 t) := by
    intro v hv e2 z5 z7 z9 z19 z20 z1 z8
    obtain ⟨t1, t2, y, q1, f1, q2, f2, os', T'⟩ := U.T.set (d + 1) r1 a.n v hv
    have hc1 := U.c1 f1 (by simp)
    simp -implicitDefEqProofs (maxSteps := 5000000) (disch := first | assumption | omega | (simp only [one_i, one_int, one_bool, one_str, one_ptr, one_nilp, one_nils, one_slice, one_map, one_nilm, one_func, one_iface, same_i, same_bool, same_nils, same_ptr, same_map, same_slice, List.length_cons, List.length_nil, Nat.zero_add, Nat.reduceAdd, allOne_cons, allOne_nil, Bool.and_self]; done) | (simp only [List.length_cons, List.length_nil, List.length_map, List.length_set]; omega)) only [go_sem, ↓p6_41.eq_1, ↓p6_36.eq_1, ↓p6_59.eq_1, ↓p6_80.eq_1, ↓p6_71.eq_1, ↓p6_88.eq_1, ↓p6_121.eq_1, ↓p6_98.eq_1, ↓p6_56.eq_1, ↓p6_130.eq_1, ↓p6_135.eq_1, fAdd_eq, z5, z7, z9, z19, z20, dLd_at hwt hc, dLd_at f1.wf hc1, q1, q2]
    exact fin _ _ z1 (by first | trivial | rfl | assumption) (by first | trivial | rfl | assumption) z8 ⟨os', ⟨z, shapes, F, FO, FS, T', by have := U.sh1; omega, U.sh2⟩, (U.fs f1 (U.b1 (by simp))).trans' f2 (fun b hb => .inr (U.b2 (l := FO) (fun b hb => by simp [hb]) b hb))⟩
  by_cases c : 0 ≤ a.to
  · obtain ⟨r2, k2, hr2⟩ := Turn.pick U d U.ok.to
    simp -implicitDefEqProofs (maxSteps := 5000000) (disch := first | assumption | omega | (simp only [one_i, one_int, one_bool, one_str, one_ptr, one_nilp, one_nils, one_slice, one_map, one_nilm, one_func, one_iface, same_i, same_bool, same_nils, same_ptr, same_map, same_slice, List.length_cons, List.length_nil, Nat.zero_add, Nat.reduceAdd, allOne_cons, allOne_nil, Bool.and_self]; done) | (simp only [List.length_cons, List.length_nil, List.length_map, List.length_set]; omega)) only [go_sem, ↓p6_41.eq_1, ↓p6_36.eq_1, ↓p6_59.eq_1, ↓p6_71.eq_1, ↓p6_88.eq_1, ↓p6_121.eq_1, ↓p6_98.eq_1, ↓p6_56.eq_1, ↓p6_130.eq_1, ↓p6_135.eq_1, fAdd_eq, h1, h2, h3, h4, dLd_at hwt hc, k1, k2, c]
    exact key r2 hr2 _ (by first | trivial | rfl | assumption) (by first | trivial | rfl | assumption) (by first | trivial | rfl | assumption) (by first | trivial | rfl | assumption) (by first | trivial | rfl | assumption) (by first | trivial | rfl | assumption) (by first | trivial | rfl | assumption)
  · simp -implicitDefEqProofs (maxSteps := 5000000) (disch := first | assumption | omega | (simp only [one_i, one_int, one_bool, one_str, one_ptr, one_nilp, one_nils, one_slice, one_map, one_nilm, one_func, one_iface, same_i, same_bool, same_nils, same_ptr, same_map, same_slice, List.length_cons, List.length_nil, Nat.zero_add, Nat.reduceAdd, allOne_cons, allOne_nil, Bool.and_self]; done) | (simp only [List.length_cons, List.length_nil, List.length_map, List.length_set]; omega)) only [go_sem, ↓p6_41.eq_1, ↓p6_36.eq_1, ↓p6_59.eq_1, ↓p6_71.eq_1, ↓p6_88.eq_1, ↓p6_121.eq_1, ↓p6_98.eq_1, ↓p6_56.eq_1, ↓p6_130.eq_1, ↓p6_135.eq_1, fAdd_eq, h1, h2, h3, h4, dLd_at hwt hc, k1, c]
    exact key a.v U.ok.v _ (by first | trivial | rfl | assumption) (by first | trivial | rfl | assumption) (by first | trivial | rfl | assumption) (by first | trivial | rfl | assumption) (by first | trivial | rfl | assumption) (by first | trivial | rfl | assumption) (by first | trivial | rfl | assumption)
/-- A tag. -/
theorem kind4 (h1 : e.a0.a5 = .ptr p 0) (h2 : e.a0.a7 = .ptr rp 0) (h3 : e.a0.a9 = .ptr X 0) (h4 : e.a0.a10 = va)
    (fin : ∀ e' t', e'.a0.a1 = e.a0.a1 → e'.a0.a5 = .ptr p 0 → e'.a0.a7 = .ptr rp 0 → e'.a0.a8 = e.a0.a8 → AllQ s p bw bb n bm rp w (i + 1) t' → C (.nrm e' t')) : C (p6_88 (K (d + 6)) e t) := by
  have hwt := U.T.wf
  have hc := U.c
  simp only [Ask.cells] at hc
  obtain ⟨r1, k1, hr1⟩ := Turn.pick U d U.ok.of
  obtain ⟨t1, t2, y, q1, f1, q2, f2, os', T'⟩ := U.T.setTag (d + 4) r1 a.v
  have hc1 := U.c1 f1 (by simp)
  simp -implicitDefEqProofs (maxSteps := 5000000) (disch := first | assumption | omega | (simp only [one_i, one_int, one_bool, one_str, one_ptr, one_nilp, one_nils, one_slice, one_map, one_nilm, one_func, one_iface, same_i, same_bool, same_nils, same_ptr, same_map, same_slice, List.length_cons, List.length_nil, Nat.zero_add, Nat.reduceAdd, allOne_cons, allOne_nil, Bool.and_self]; done) | (simp only [List.length_cons, List.length_nil, List.length_map, List.length_set]; omega)) only [go_sem, ↓p6_41.eq_1, ↓p6_36.eq_1, ↓p6_59.eq_1, ↓p6_80.eq_1, ↓p6_71.eq_1, ↓p6_88.eq_1, ↓p6_121.eq_1, ↓p6_98.eq_1, ↓p6_56.eq_1, ↓p6_130.eq_1, ↓p6_135.eq_1, fAdd_eq, h1, h2, h3, h4, dLd_at hwt hc, k1, dLd_at f1.wf hc1, q1, q2]
  exact fin _ _ (by first | trivial | rfl | assumption) (by first | trivial | rfl | assumption) (by first | trivial | rfl | assumption) (by first | trivial | rfl | assumption) ⟨os', ⟨z, shapes, F, FO, FS, T', by have := U.sh1; omega, U.sh2⟩, (U.fs f1 (U.b1 (by simp))).trans' f2 (fun b hb => .inr (U.b2 (l := FO) (fun b hb => by simp [hb]) b hb))⟩
/-- A shape, an object of a shape. -/
theorem kind1 (h1 : e.a0.a5 = .ptr p 0) (h2 : e.a0.a7 = .ptr rp 0) (h3 : e.a0.a9 = .ptr X 0)
    (fin : ∀ e' t', e'.a0.a1 = e.a0.a1 → e'.a0.a5 = .ptr p 0 → e'.a0.a7 = .ptr rp 0 → e'.a0.a8 = e.a0.a8 → AllQ s p bw bb n bm rp w (i + 1) t' → C (.nrm e' t')) : C (p6_36 (K (d + 6)) e t) := by
  have hwt := U.T.wf
  have hc := U.c
  have hw := U.hw
  have hsh1 := U.sh1
  have hi40 := U.i40
  simp only [Ask.cells] at hc
  obtain ⟨l, hl, hlb⟩ := U.ok.refs
  have key : ∀ (u : St) (rv : V) (l : List Bool), Fr t u [X] → u.cl X = some [.i a.kind, .i a.n, .i a.of, .i a.to, rv, .i a.v, a.bits] → SN s rv (l.map .bool) → (∀ b ∈ blkV rv, b < s.next) → l.length ≤ 20 → ∀ e2 : E, e2.a0.a5 = .ptr p 0 → e2.a0.a7 = .ptr rp 0 → e2.a0.a9 = .ptr X 0 → e2.a0.a1 = e.a0.a1 → e2.a0.a8 = e.a0.a8 → C (p6_41 (K (d + 6)) e2 u) := by
    intro u rv l fu cu hl hlb hl20 e2 z5 z7 z9 z1 z8
    have hp := U.T.lt
    have Tu : Two s.next u p bw bb n bm rp os z shapes F FO FS w := by
      have h1 : HS u p bw bb n os z shapes bm F := U.T.h.fr fu (fun h => U.xp (by simp at h; simp [h])) (fun h => U.xp (by simp at h; simp [h])) (fun h => U.xp (by simp at h; simp [h])) (fun h => U.xp (by simp at h; simp [h])) (fun b hb h => U.xp (by simp at h; subst h; simp [hb]))
      have h2 : RR u rp w os shapes FO FS := U.T.r.fr fu (fun h => U.xr (by simp at h; simp [h])) (fun b hb h => U.xr (by simp at h; subst h; simp [hb])) (fun b hb h => U.xr (by simp at h; subst h; simp [hb]))
      exact ⟨h1, h2, U.T.nw, U.T.rf, U.T.dj, U.T.dr⟩
    have Fu : Fr s u [] := U.fs fu (by simp; exact U.xs)
    have hsl := hl.sl.fr hw Fu (by simp)
    have hsame := hl.same
    have hbs : ∀ b ∈ blkV rv, b < s.next := hlb
    obtain ⟨t1, t2, x, q1, f1, q2, f2, shapes', F', FS', T2, hcase⟩ := Tu.shape (d + 4) hsl hlb Fu.nx (by omega) (by omega)
    have hsub1 : ∀ b ∈ p :: bm :: F, b ∈ p :: bw :: bb :: bm :: F := fun b hb => by simp only [List.mem_cons] at hb ⊢; rcases hb with h | h | h <;> simp [h]
    have hsub2 : ∀ b ∈ rp :: FS, b ∈ rp :: (FO ++ FS) := fun b hb => by simp only [List.mem_cons, List.mem_append] at hb ⊢; rcases hb with h | h <;> simp [h]
    have cu1 := f1.cl fu.wf cu (fun h => U.xp (hsub1 _ h))
    have cu2 := f2.cl f1.wf cu1 (fun h => U.xr (hsub2 _ h))
    have F1 : Fr s t1 [] := Fu.trans' f1 (fun b hb => .inr (U.b1 hsub1 b hb))
    have F2 : Fr s t2 [] := F1.trans' f2 (fun b hb => .inr (U.b2 hsub2 b hb))
    have hl2 : shapes'.length ≤ i + 1 ∧ ∀ l ∈ shapes', l.length ≤ 20 := by
      rcases hcase with rfl | rfl
      · exact ⟨by omega, U.sh2⟩
      · refine ⟨by simp; omega, fun y hy => ?_⟩
        rcases List.mem_append.1 hy with hy | hy
        · exact U.sh2 y hy
        · simp at hy; subst hy; exact hl20
    obtain ⟨t3, t4, x3, y3, q3, f3, q4, f4, os', z', FO', T4⟩ := T2.object (d + 3) a.n (by omega) (fun l hl => by have := hl2.2 l hl; omega)
    have hsub3 : ∀ b ∈ [p, bw, bb], b ∈ p :: bw :: bb :: bm :: F := fun b hb => by simp at hb ⊢; rcases hb with h | h | h <;> simp [h]
    have cu3 := f3.cl f2.wf cu2 (fun h => U.xp (hsub3 _ h))
    have F3 : Fr s t3 [] := F2.trans' f3 (fun b hb => .inr (U.b1 hsub3 b hb))
    have F4 : Fr s t4 [] := F3.trans' f4 (fun b hb => .inr (T2.dr b (by simp at hb ⊢; rcases hb with h | h <;> simp [h])))
    simp -implicitDefEqProofs (maxSteps := 5000000) (disch := first | assumption | omega | (simp only [one_i, one_int, one_bool, one_str, one_ptr, one_nilp, one_nils, one_slice, one_map, one_nilm, one_func, one_iface, same_i, same_bool, same_nils, same_ptr, same_map, same_slice, List.length_cons, List.length_nil, Nat.zero_add, Nat.reduceAdd, allOne_cons, allOne_nil, Bool.and_self]; done) | (simp only [List.length_cons, List.length_nil, List.length_map, List.length_set]; omega)) only [go_sem, ↓p6_41.eq_1, ↓p6_36.eq_1, ↓p6_59.eq_1, ↓p6_80.eq_1, ↓p6_71.eq_1, ↓p6_88.eq_1, ↓p6_121.eq_1, ↓p6_98.eq_1, ↓p6_56.eq_1, ↓p6_130.eq_1, ↓p6_135.eq_1, fAdd_eq, z5, z7, z9, dLd_at fu.wf cu, dLd_at f1.wf cu1, dLd_at f2.wf cu2, dLd_at f3.wf cu3, q1, q2, q3, q4]
    exact fin _ _ z1 (by first | trivial | rfl | assumption) (by first | trivial | rfl | assumption) z8 ⟨os', ⟨z', shapes', F', FO', FS', T4, hl2⟩, F4⟩
  have hlen := hl.sl.len
  rw [List.length_map] at hlen
  by_cases c : (20 : Int) < ((l.length : Nat) : Int)
  · obtain ⟨v', e1, hv', hbv⟩ := hl.cut (m := 20) (by omega) (by rw [List.length_map]; exact c)
    obtain ⟨t1, e2, c1, f1, n1⟩ := eSt_ex (s := t) (b := X) (o := 4) (v := v') hwt hc (by simp) hv'.sl.one
    simp only [List.set_cons_succ, List.set_cons_zero] at c1
    simp -implicitDefEqProofs (maxSteps := 5000000) (disch := first | assumption | omega | (simp only [one_i, one_int, one_bool, one_str, one_ptr, one_nilp, one_nils, one_slice, one_map, one_nilm, one_func, one_iface, same_i, same_bool, same_nils, same_ptr, same_map, same_slice, List.length_cons, List.length_nil, Nat.zero_add, Nat.reduceAdd, allOne_cons, allOne_nil, Bool.and_self]; done) | (simp only [List.length_cons, List.length_nil, List.length_map, List.length_set]; omega)) only [go_sem, ↓p6_36.eq_1, ↓p6_59.eq_1, ↓p6_80.eq_1, ↓p6_71.eq_1, ↓p6_88.eq_1, ↓p6_121.eq_1, ↓p6_98.eq_1, ↓p6_56.eq_1, ↓p6_130.eq_1, ↓p6_135.eq_1, fAdd_eq, h1, h2, h3, dLd_at hwt hc, hlen, c, e1, e2]
    refine key t1 v' (l.take 20) f1 c1 (by rw [List.map_take]; exact hv') (by rw [hbv]; exact hlb) (by rw [List.length_take]; omega) _ (by first | trivial | rfl | assumption) (by first | trivial | rfl | assumption) (by first | trivial | rfl | assumption) (by first | trivial | rfl | assumption) (by first | trivial | rfl | assumption)
  · simp -implicitDefEqProofs (maxSteps := 5000000) (disch := first | assumption | omega | (simp only [one_i, one_int, one_bool, one_str, one_ptr, one_nilp, one_nils, one_slice, one_map, one_nilm, one_func, one_iface, same_i, same_bool, same_nils, same_ptr, same_map, same_slice, List.length_cons, List.length_nil, Nat.zero_add, Nat.reduceAdd, allOne_cons, allOne_nil, Bool.and_self]; done) | (simp only [List.length_cons, List.length_nil, List.length_map, List.length_set]; omega)) only [go_sem, ↓p6_36.eq_1, ↓p6_59.eq_1, ↓p6_80.eq_1, ↓p6_71.eq_1, ↓p6_88.eq_1, ↓p6_121.eq_1, ↓p6_98.eq_1, ↓p6_56.eq_1, ↓p6_130.eq_1, ↓p6_135.eq_1, fAdd_eq, h1, h2, h3, dLd_at hwt hc, hlen, c]
    exact key t a.refs l (Fr.refl hwt _) hc hl hlb (by omega) _ (by first | trivial | rfl | assumption) (by first | trivial | rfl | assumption) (by first | trivial | rfl | assumption) (by first | trivial | rfl | assumption) (by first | trivial | rfl | assumption)
end
end
end Go.Proofs.YtjipdnfaokdkbaaLab
