/- The program's heap and the document's, side by side: each call. No condition on the program. -/
import Derived.Test.YtjipdnfaokdkbaaHV
namespace Go.Proofs.YtjipdnfaokdkbaaLab
open Go
set_option linter.all false
set_option maxRecDepth 10000
noncomputable section
structure Two (b0 : Nat) (t : St) (p bw bb n bm rp : Nat) (os : List O) (z : List Int) (shapes : List (List Bool)) (F FO FS : List Nat) (w : Int) : Prop where
  h : HS t p bw bb n os z shapes bm F
  r : RR t rp w os shapes FO FS
  nw : (n : Int) = w + 1
  rf : RefOk os shapes
  dj : ∀ b ∈ p :: bw :: bb :: bm :: F, b0 ≤ b ∧ b ∉ rp :: (FO ++ FS)
  dr : ∀ b ∈ rp :: (FO ++ FS), b0 ≤ b
section
variable {b0 : Nat} {t : St} {p bw bb n bm rp : Nat} {os : List O} {z : List Int} {shapes : List (List Bool)} {F FO FS : List Nat} {w : Int} (T : Two b0 t p bw bb n bm rp os z shapes F FO FS w)
include T
theorem Two.wf : Wf t := T.h.wf
theorem Two.lt : ∀ b ∈ p :: bw :: bb :: bm :: F, b < t.next := fun b hb => by
  obtain ⟨_, _, _, n4, n5, n6, n7⟩ := T.h.ne
  simp only [List.mem_cons] at hb
  rcases hb with rfl | rfl | rfl | rfl | hb
  · exact n5
  · exact n6
  · exact n7
  · exact n4
  · exact (T.h.dF b hb).2.2.2.1
theorem Two.ltR : ∀ b ∈ rp :: (FO ++ FS), b < t.next := fun b hb => by
  obtain ⟨lV, sh, h1, _⟩ := T.r.ex
  simp only [List.mem_cons, List.mem_append] at hb
  rcases hb with rfl | hb | hb
  · exact cl_lt T.r.wf h1
  · exact T.r.ltO b hb
  · exact T.r.ltS b hb
/-- What leaves all of it alone. -/
theorem Two.fr {t' : St} (f : Fr t t' []) : Two b0 t' p bw bb n bm rp os z shapes F FO FS w :=
  ⟨T.h.fr f (by simp) (by simp) (by simp) (by simp) (by simp), T.r.fr f (by simp) (by simp) (by simp), T.nw, T.rf, T.dj, T.dr⟩
/-- First the program's is turned. -/
theorem Two.r1 {t1 : St} {l : List Nat} (f : Fr t t1 l) (hl : ∀ b ∈ l, b ∈ p :: bw :: bb :: bm :: F) : RR t1 rp w os shapes FO FS :=
  T.r.fr f (fun h => (T.dj _ (hl _ h)).2 (by simp)) (fun b hb h => (T.dj _ (hl _ h)).2 (by simp [hb])) (fun b hb h => (T.dj _ (hl _ h)).2 (by simp [hb]))
/-- Then the document's. -/
theorem Two.make {t1 t2 : St} {l l2 : List Nat} {os' : List O} {z' : List Int} {shapes' : List (List Bool)} {F' FO' FS' : List Nat} (f : Fr t t1 l) (h' : HS t1 p bw bb n os' z' shapes' bm F') (hF : ∀ b ∈ F', b ∈ F ∨ t.next ≤ b)
    (f2 : Fr t1 t2 l2) (hl2 : ∀ b ∈ l2, b ∈ rp :: (FO ++ FS)) (r' : RR t2 rp w os' shapes' FO' FS') (hO : ∀ b ∈ FO', b ∈ FO ∨ t1.next ≤ b) (hS : ∀ b ∈ FS', b ∈ FS ∨ t1.next ≤ b) (rf : RefOk os' shapes') : Two b0 t2 p bw bb n bm rp os' z' shapes' F' FO' FS' w := by
  have hlt := T.ltR
  have hltP := T.lt
  have hb0 : b0 ≤ t.next := by have := (T.dr rp (by simp)); have := hlt rp (by simp); omega
  have hn1 := f.nx
  have hdj : ∀ b ∈ p :: bw :: bb :: bm :: F', b0 ≤ b ∧ b < t1.next ∧ b ∉ rp :: (FO ++ FS) := fun b hb => by
    by_cases hm : b ∈ p :: bw :: bb :: bm :: F
    · exact ⟨(T.dj b hm).1, Nat.lt_of_lt_of_le (hltP b hm) hn1, (T.dj b hm).2⟩
    · have hm2 : t.next ≤ b ∧ b ∈ F' := by
        simp only [List.mem_cons, not_or] at hb hm
        rcases hb with h | h | h | h | h
        · exact absurd h hm.1
        · exact absurd h hm.2.1
        · exact absurd h hm.2.2.1
        · exact absurd h hm.2.2.2.1
        · exact ⟨(hF b h).resolve_left hm.2.2.2.2, h⟩
      exact ⟨by omega, (h'.dF b hm2.2).2.2.2.1, fun h => by have := hlt b h; omega⟩
  refine ⟨h'.fr f2 ?_ ?_ ?_ ?_ ?_, r', T.nw, rf, fun b hb => ⟨(hdj b hb).1, fun h => ?_⟩, fun b hb => ?_⟩
  · exact fun h => (hdj p (by simp)).2.2 (hl2 _ h)
  · exact fun h => (hdj bw (by simp)).2.2 (hl2 _ h)
  · exact fun h => (hdj bb (by simp)).2.2 (hl2 _ h)
  · exact fun h => (hdj bm (by simp)).2.2 (hl2 _ h)
  · exact fun b hb h => (hdj b (by simp [hb])).2.2 (hl2 _ h)
  · obtain ⟨h1, h2, h3⟩ := hdj b hb
    simp only [List.mem_cons, List.mem_append, not_or] at h h3
    rcases h with h | h | h
    · exact h3.1 h
    · rcases hO b h with h | h
      · exact h3.2.1 h
      · omega
    · rcases hS b h with h | h
      · exact h3.2.2 h
      · omega
  · simp only [List.mem_cons, List.mem_append] at hb
    rcases hb with rfl | hb | hb
    · exact T.dr _ (by simp)
    · rcases hO b hb with h | h
      · exact T.dr b (by simp [h])
      · omega
    · rcases hS b hb with h | h
      · exact T.dr b (by simp [h])
      · omega
/-- Some heaps, side by side. -/
def TwoE (b0 : Nat) (t : St) (p bw bb n bm rp : Nat) (w : Int) (os : List O) (k : Nat) : Prop := ∃ z shapes F FO FS, Two b0 t p bw bb n bm rp os z shapes F FO FS w ∧ shapes.length ≤ k ∧ ∀ l ∈ shapes, l.length ≤ 20
theorem Two.addO {sh : Int} {m : Nat} {t1 : St} {z' : List Int} (f : Fr t t1 [p, bw, bb]) (h' : HS t1 p bw bb n (os ++ [newO sh m]) z' shapes bm F) {t2 : St} {FO' : List Nat} (f2 : Fr t1 t2 (rp :: FO)) (r' : RR t2 rp w (os ++ [newO sh m]) shapes FO' FS) (hO : ∀ b ∈ FO', b ∈ FO ∨ t1.next ≤ b) : Two b0 t2 p bw bb n bm rp (os ++ [newO sh m]) z' shapes F FO' FS w :=
  T.make f h' (fun b hb => .inl hb) f2 (fun b hb => by simp only [List.mem_cons, List.mem_append] at hb ⊢; exact hb.elim .inl (fun h => .inr (.inl h))) r' hO (fun b hb => .inl hb) (T.rf.snoc _ _)
theorem Two.size : (lay os).length + z.length = w ∧ w ≤ 16384 := by
  obtain ⟨sh, hA, _⟩ := T.h.H
  have := hA.size
  have := T.nw
  have := T.r.w0
  omega
theorem Two.array (d : Nat) (b : Bool) (m : Int) : ∃ t1 t2 x y, (K (d + 3)).call 9 [.ptr p 0, .bool b, .i m] t = some (.tup [.i x, .i y], t1) ∧ Fr t t1 [p, bw, bb] ∧ (K (d + 3)).call 30 [.ptr rp 0, .bool b, .i m] t1 = some (.tup [.i x, .i y], t2) ∧ Fr t1 t2 (rp :: FO) ∧ ∃ os' z' FO', Two b0 t2 p bw bb n bm rp os' z' shapes F FO' FS w := by
  obtain ⟨sh, hA, hS⟩ := T.h.H
  have hz := hA.size
  have hnw := T.nw
  have hw := T.wf
  by_cases c1 : m < 0 ∨ 256 < m
  · exact ⟨t, t, _, _, (hA.array d b m).1 c1, Fr.refl hw _, (T.r.array d b m).1 c1, Fr.refl hw _, _, _, _, T⟩
  · by_cases c2 : 1 + (lay os).length + 3 + m ≤ (n : Int)
    · obtain ⟨t1, e1, _, f1, _⟩ := (hA.array d b m).2.2 (by omega) (by omega) c2
      have h1 : HS t1 p bw bb n (os ++ [newO (if b then -2 else -1) m.toNat]) (z.drop (3 + m.toNat)) shapes bm F := by
        refine T.h.turn f1 (fun sh' h' => ?_) ?_
        · obtain ⟨t1', e1', h1', _⟩ := (h'.array d b m).2.2 (by omega) (by omega) c2
          rw [e1] at e1'; cases e1'; exact h1'
        · intro o ho
          rcases List.mem_append.1 ho with ho | ho
          · exact T.h.ok o ho
          · simp at ho; subst ho
            cases b
            · exact .inl rfl
            · exact .inr (.inl rfl)
      obtain ⟨t2, FO', e2, r2, hO, f2⟩ := ((T.r1 f1 (by intro b hb; simp at hb ⊢; rcases hb with h | h | h <;> simp [h])).array d b m).2.2 (by omega) (by omega) (by omega)
      exact ⟨t1, t2, _, _, e1, f1, e2, f2, _, _, _, T.addO f1 h1 f2 r2 hO⟩
    · exact ⟨t, t, _, _, (hA.array d b m).2.1 (by omega) (by omega) (by omega), Fr.refl hw _, (T.r.array d b m).2.1 (by omega) (by omega) (by omega), Fr.refl hw _, _, _, _, T⟩
theorem Two.object (d : Nat) (r : Int) (hsh : shapes.length < 100000) (hlen : ∀ l ∈ shapes, l.length < 20000) : ∃ t1 t2 x y, (K (d + 3)).call 19 [.ptr p 0, .i r] t = some (.tup [.i x, .i y], t1) ∧ Fr t t1 [p, bw, bb] ∧ (K (d + 3)).call 29 [.ptr rp 0, .i r] t1 = some (.tup [.i x, .i y], t2) ∧ Fr t1 t2 (rp :: FO) ∧ ∃ os' z' FO', Two b0 t2 p bw bb n bm rp os' z' shapes F FO' FS w := by
  obtain ⟨sh, hA, hS⟩ := T.h.H
  have hz := hA.size
  have hnw := T.nw
  have hw := T.wf
  by_cases c1 : r < 0 ∨ (shapes.length : Int) ≤ r
  · exact ⟨t, t, _, _, (T.h.object d r hsh).1 c1, Fr.refl hw _, (T.r.object d r hsh).1 c1, Fr.refl hw _, _, _, _, T⟩
  · have hl : shapes[r.toNat]? = some shapes[r.toNat] := List.getElem?_eq_getElem (by omega)
    have hln := hlen _ (List.mem_of_getElem? hl)
    generalize shapes[r.toNat] = l at *
    by_cases c2 : 1 + (lay os).length + 3 + l.length ≤ n
    · obtain ⟨t1, e1, h1, f1, _⟩ := (T.h.object d r hsh).2.2 l (by omega) hl hln c2
      obtain ⟨t2, FO', e2, r2, hO, f2⟩ := ((T.r1 f1 (by intro b hb; simp at hb ⊢; rcases hb with h | h | h <;> simp [h])).object d r hsh).2.2 l (by omega) hl hln (by omega)
      exact ⟨t1, t2, _, _, e1, f1, e2, f2, _, _, _, T.addO f1 h1 f2 r2 hO⟩
    · exact ⟨t, t, _, _, (T.h.object d r hsh).2.1 l (by omega) hl hln (by omega), Fr.refl hw _, (T.r.object d r hsh).2.1 l (by omega) hl hln (by omega), Fr.refl hw _, _, _, _, T⟩
theorem Two.shape (d : Nat) {v : V} {l : List Bool} (h : SL t v (l.map .bool)) (hv : ∀ b ∈ blkV v, b < b0) (hb0 : b0 ≤ t.next) (hb : l.length ≤ 1000) (hsh : shapes.length ≤ 1000) :
    ∃ t1 t2 x, (K (d + 2)).call 17 [.ptr p 0, v] t = some (.i x, t1) ∧ Fr t t1 (p :: bm :: F) ∧ (K (d + 2)).call 28 [.ptr rp 0, v] t1 = some (.i x, t2) ∧ Fr t1 t2 (rp :: FS) ∧ ∃ shapes' F' FS', Two b0 t2 p bw bb n bm rp os z shapes' F' FO FS' w ∧ (shapes' = shapes ∨ shapes' = shapes ++ [l]) := by
  have hltb := T.dj
  have hw := T.wf
  have hne : ∀ b ∈ blkV v, ∀ x ∈ p :: bw :: bb :: bm :: F, b ≠ x := fun b hb x hx e => by have := hv b hb; have := (hltb x hx).1; omega
  obtain ⟨x1, t1, e1, hq⟩ := T.h.shape h (fun b hb => ⟨by have := hv b hb; omega, hne b hb p (by simp), hne b hb bm (by simp), fun hm => hne b hb b (by simp [hm]) rfl⟩) (by omega) (by omega) d
  unfold ShapeQ at hq
  cases hi : idxL l shapes with
  | some i =>
    rw [hi] at hq
    obtain ⟨rfl, h1, f1⟩ := hq
    have T1 := T.fr f1
    obtain ⟨x2, t2, e2, hq2⟩ := T1.r.shapeN (h.fr hw f1 (by simp)) (by omega) (by omega) (d + 1)
    rw [hi] at hq2
    obtain ⟨rfl, rfl⟩ := hq2
    exact ⟨_, _, _, e1, f1.mono (by simp), e2, Fr.refl f1.wf _, _, _, _, T1, .inl rfl⟩
  | none =>
    rw [hi] at hq
    obtain ⟨rfl, ⟨F', h1, hF⟩, f1⟩ := hq
    have R1 := T.r1 f1 (by intro b hb; simp only [List.mem_cons] at hb ⊢; rcases hb with h | h | h <;> simp [h])
    obtain ⟨x2, t2, e2, hq2⟩ := R1.shapeN (h.fr hw f1 (fun b hb hm => by simp only [List.mem_cons] at hm; rcases hm with h | h | h; exact hne b hb p (by simp) h; exact hne b hb bm (by simp) h; exact hne b hb b (by simp [h]) rfl)) (by omega) (by omega) (d + 1)
    rw [hi] at hq2
    obtain ⟨rfl, FS', r2, hS2, f2⟩ := hq2
    exact ⟨t1, t2, _, e1, f1, e2, f2, _, _, _, T.make f1 h1 hF f2 (by intro b hb; simp only [List.mem_cons, List.mem_append] at hb ⊢; exact hb.elim .inl (fun h => .inr (.inr h))) r2 (fun b hb => .inl hb) hS2 (T.rf.more T.h.ok l), .inr rfl⟩
end
end
end Go.Proofs.YtjipdnfaokdkbaaLab
