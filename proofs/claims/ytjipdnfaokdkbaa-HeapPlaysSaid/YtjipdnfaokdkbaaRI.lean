/- What is reached: plain facts; lists that grow and shrink. No condition on the program. -/
import Derived.Test.YtjipdnfaokdkbaaHU
namespace Go.Proofs.YtjipdnfaokdkbaaLab
open Go
set_option linter.all false
set_option maxRecDepth 10000
noncomputable section
inductive Reach (os : List O) (shapes : List (List Bool)) (roots : List Int) : Int → Prop
  | root {r : Int} (h : r ∈ roots) (h0 : ¬ r = 0) : Reach os shapes roots r
  | step {r : Int} {o : O} {k : Nat} {x : Int} (h : Reach os shapes roots r) (ho : at? os r = some o) (hx : o.f[k]? = some x) (hr : refB shapes o k = true) (h0 : ¬ x = 0) : Reach os shapes roots x
/-- References are null or objects. -/
def RefOk (os : List O) (shapes : List (List Bool)) : Prop := ∀ r o, at? os r = some o → ∀ (k : Nat) x, o.f[k]? = some x → refB shapes o k = true → x = 0 ∨ (at? os x).isSome
def RootOk (os : List O) (roots : List Int) : Prop := ∀ r ∈ roots, r = 0 ∨ (at? os r).isSome
theorem Reach.isSome {os : List O} {shapes : List (List Bool)} {roots : List Int} (hR : RefOk os shapes) (hr : RootOk os roots) {r : Int} (h : Reach os shapes roots r) : (at? os r).isSome := by
  induction h with
  | root h h0 => exact (hr _ h).resolve_left h0
  | step _ ho hx hb h0 _ => exact (hR _ _ ho _ _ hx hb).resolve_left h0
/-- What is left to be gone through. -/
def leftW : List O → Nat → List Int → Nat
  | [], _, _ => 0
  | o :: os, a, out => (if (a : Int) ∈ out then 0 else 1 + o.f.length) + leftW os (a + o.n) out
theorem leftW_lt : ∀ (os : List O) (a : Nat) (out : List Int) (r : Int), r < a → leftW os a (out ++ [r]) = leftW os a out
  | [], a, out, r, h => rfl
  | o :: os, a, out, r, h => by
    have : ((a : Int) ∈ out ++ [r]) = ((a : Int) ∈ out) := by
      rw [List.mem_append, List.mem_singleton]; exact propext ⟨fun hh => hh.resolve_right (by omega), .inl⟩
    simp only [leftW, this, leftW_lt os _ out r (show r < ((a + o.n : Nat) : Int) by omega)]
theorem leftW_snoc : ∀ (os : List O) (a : Nat) (out : List Int) (r : Int) (o : O), look os r = some o → r + a ∉ out → leftW os a (out ++ [r + a]) + 1 + o.f.length = leftW os a out
  | [], a, out, r, o, h, _ => by cases h
  | x :: os, a, out, r, o, h, hn => by
    have hp := x.n_pos
    unfold look at h
    by_cases hr : r = 0
    · subst hr
      rw [if_pos rfl] at h; cases h
      rw [Int.zero_add] at hn ⊢
      simp only [leftW]
      rw [if_pos (by simp), if_neg hn, leftW_lt os _ out _ (by omega)]; omega
    · rw [if_neg hr] at h
      have h0 : 0 ≤ r - (x.n : Nat) := by
        by_cases c : r - (x.n : Nat) < 0
        · rw [look_neg _ _ c] at h; cases h
        · omega
      have ih := leftW_snoc os (a + x.n) out (r - (x.n : Nat)) o h (by rw [show r - (x.n : Nat) + ((a + x.n : Nat) : Int) = r + a by omega]; exact hn)
      rw [show r - (x.n : Nat) + ((a + x.n : Nat) : Int) = r + a by omega] at ih
      have : ((a : Int) ∈ out ++ [r + a]) = ((a : Int) ∈ out) := by
        rw [List.mem_append, List.mem_singleton]; exact propext ⟨fun hh => hh.resolve_right (by omega), .inl⟩
      simp only [leftW, this]
      omega
theorem leftW_nil : ∀ (os : List O) (a : Nat), leftW os a [] ≤ (lay os).length
  | [], a => Nat.le_refl _
  | o :: os, a => by
    have := leftW_nil os (a + o.n)
    have hon : o.n = 3 + o.f.length := rfl
    simp only [leftW, List.not_mem_nil, if_false, lay, List.length_append, O.ws_len]
    omega
/-- A list that grows and shrinks. -/
def GP (s : St) (v : V) (l : List V) : Prop := (l = [] ∧ v = .nils) ∨ ∃ b L, v = .slice b 0 l.length none 1 ∧ s.cl b = some L ∧ l <+: L
section
variable {s : St} {v x : V} {l : List V}
theorem GL.gp (h : GL s v l) : GP s v l := by
  rcases h with h | ⟨b, rfl, h2⟩
  · exact .inl h
  · exact .inr ⟨b, l, rfl, h2, List.prefix_refl _⟩
theorem GP.fr {s' : St} {L : List Nat} (h : GP s v l) (hw : Wf s) (f : Fr s s' L) (hd : ∀ b, b ∈ blkV v → b ∉ L) : GP s' v l := by
  rcases h with h | ⟨b, L', rfl, h2, h3⟩
  · exact .inl h
  · exact .inr ⟨b, L', rfl, f.cl hw h2 (hd b (by simp [blkV])), h3⟩
theorem GP.len (h : GP s v l) : uLenS v = some (.i (l.length : Nat)) := by
  rcases h with ⟨rfl, rfl⟩ | ⟨b, L, rfl, _⟩ <;> rfl
theorem GP.sl (hw : Wf s) (h : GP s v l) : SL s v l := by
  rcases h with h | ⟨b, L, rfl, h2, t, rfl⟩
  · exact .inl ⟨h.1, .inl h.2⟩
  · exact SL.of hw h2 (by simp) (fun i hi => by rw [Nat.zero_add, List.getElem?_append_left hi])
theorem GP.push (hw : Wf s) (h : GP s v l) (h1 : x.one = true) (ho : ∀ y ∈ l, y.one = true) (hl : l.length ≤ 100000000) :
    ∃ s1 s2, s.new (.cells 1 (ofL [x])) = s1 ∧ (apP 1 v (.slice s.next 0 1 (some 1) 1) s1 = some (.slice (s.next + 1) 0 (l.length + 1) none 1, s2)) ∧
      GL s2 (.slice (s.next + 1) 0 (l.length + 1) none 1) (l ++ [x]) ∧ Fr s s2 (blkV v) ∧ s2.next = s.next + 2 := by
  obtain ⟨s1, e1, c1, f1, n1⟩ := new_ex (s := s) (l := [x]) (n := 1) hw rfl
  have hy : Src s1 1 (.slice s.next 0 1 (some 1) 1) 1 [x] := Src.full f1.wf c1 rfl (by simpa using h1) (by omega)
  rcases h with ⟨rfl, rfl⟩ | ⟨b, L, rfl, h2, t, rfl⟩
  · obtain ⟨s2, e2, c2, f2, n2⟩ := eAp_nil f1.wf hy (by omega)
    rw [n1] at e2 c2
    exact ⟨s1, s2, e1, e2, .inr ⟨_, rfl, c2⟩, f1.trans f2, by omega⟩
  · have hb := cl_lt hw h2
    obtain ⟨s2, e2, c2, f2, n2⟩ := eAp_move (s := s1) (es := 1) (len := l.length) (o := 0) (b := b) f1.wf hy (by omega) hl (f1.cl hw h2 (by simp)) (by simp)
    rw [n1] at e2 c2
    refine ⟨s1, s2, e1, e2, .inr ⟨s.next + 1, by simp, ?_⟩, (f1.mono (by simp)).trans f2, by omega⟩
    rw [c2]; simp
/-- The last one taken off. -/
theorem GP.pop (h : GP s v (l ++ [x])) : ∃ v', slV 1 v none (some (.i (((l.length + 1 : Nat) : Int) - 1))) none = some v' ∧ GP s v' l ∧ blkV v' = blkV v := by
  rcases h with ⟨h, _⟩ | ⟨b, L, rfl, h2, t, rfl⟩
  · simp at h
  · refine ⟨.slice b 0 l.length none 1, ?_, .inr ⟨b, _, rfl, h2, ?_⟩, rfl⟩
    · rw [pSl_hN (by omega) (by simp; omega)]
      congr 2; omega
    · exact ⟨[x] ++ t, by simp⟩
end
end
end Go.Proofs.YtjipdnfaokdkbaaLab
