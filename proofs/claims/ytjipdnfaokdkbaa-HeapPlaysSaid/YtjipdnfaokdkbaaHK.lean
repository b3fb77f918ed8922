/- New objects of a shape. No condition on the program. -/
import Derived.Test.YtjipdnfaokdkbaaHJ
namespace Go.Proofs.YtjipdnfaokdkbaaLab
open Go
set_option linter.all false
set_option maxRecDepth 10000
noncomputable section
theorem BL.len {s : St} {F : List Nat} {v : V} {l : List Bool} (h : BL s F v l) : uLenS v = some (.i (l.length : Nat)) := by
  rcases h with ⟨rfl, rfl | ⟨b, o, c, rfl⟩⟩ | ⟨b, o, c, M, rfl, _⟩ <;> rfl
section
variable {s : St} {p bw bb n bm : Nat} {os : List O} {z : List Int} {shapes : List (List Bool)} {F : List Nat} (H : HS s p bw bb n os z shapes bm F)
include H
theorem HS.object (d : Nat) (r : Int) (hsh : shapes.length < 100000) :
    ((r < 0 ∨ (shapes.length : Int) ≤ r) → (K (d + 3)).call 19 [.ptr p 0, .i r] s = some (.tup [.i 0, .i 1], s)) ∧
    (∀ l, 0 ≤ r → shapes[r.toNat]? = some l → l.length < 20000 → n < 1 + (lay os).length + 3 + l.length → (K (d + 3)).call 19 [.ptr p 0, .i r] s = some (.tup [.i 0, .i 26], s)) ∧
    (∀ l, 0 ≤ r → shapes[r.toNat]? = some l → l.length < 20000 → 1 + (lay os).length + 3 + l.length ≤ n → ∃ s', (K (d + 3)).call 19 [.ptr p 0, .i r] s = some (.tup [.i ((1 + (lay os).length : Nat) : Int), .i 0], s') ∧ HS s' p bw bb n (os ++ [newO r l.length]) (z.drop (3 + l.length)) shapes bm F ∧ Fr s s' [p, bw, bb] ∧ s'.next = s.next) := by
  obtain ⟨sh, hA, hS⟩ := H.H
  have hw := hA.hr.wf
  have h1 := hA.hr.hp
  have eS : uLenS sh = some (.i (shapes.length : Nat)) := by
    rcases hS with ⟨h0, rfl⟩ | ⟨b, L, F0, rfl, _⟩
    · rw [h0]; rfl
    · rfl
  have key : ∀ l, 0 ≤ r → shapes[r.toNat]? = some l → ∃ q v, bIdx 1 sh (.i r) = some q ∧ ldP q s = some v ∧ uLenS v = some (.i (l.length : Nat)) := fun l h0 hl => by
    have hlt := (List.getElem?_eq_some_iff.1 hl).1
    rcases hS with ⟨h0', rfl⟩ | ⟨b, L, F0, rfl, a2, a3, a4, a5, a7, a8, a6⟩
    · rw [h0'] at hlt; simp at hlt
    · obtain ⟨v, b1, b2⟩ := a6 _ _ hl
      refine ⟨_, v, bIdx1_eq h0 (by omega), ?_, b2.len⟩
      rw [Nat.zero_add]; exact dLd_eq hw a3 b1
  refine ⟨fun h => ?_, fun l h0 hl hlen hn => ?_, fun l h0 hl hlen hn => ?_⟩
  · rw [op19]
    by_cases c : r < 0
    · simp -implicitDefEqProofs (maxSteps := 5000000) (disch := first | assumption | omega | (simp only [one_i, one_int, one_bool, one_str, one_ptr, one_nilp, one_nils, one_slice, one_map, one_nilm, one_func, one_iface, same_i, same_bool, same_nils, same_ptr, same_map, same_slice, List.length_cons, List.length_nil, Nat.zero_add, Nat.reduceAdd, allOne_cons, allOne_nil, Bool.and_self]; done) | (simp only [List.length_cons, List.length_nil, List.length_map, List.length_set]; omega)) only [go_sem, c]
    · have c2 : (shapes.length : Int) ≤ r := by omega
      simp -implicitDefEqProofs (maxSteps := 5000000) (disch := first | assumption | omega | (simp only [one_i, one_int, one_bool, one_str, one_ptr, one_nilp, one_nils, one_slice, one_map, one_nilm, one_func, one_iface, same_i, same_bool, same_nils, same_ptr, same_map, same_slice, List.length_cons, List.length_nil, Nat.zero_add, Nat.reduceAdd, allOne_cons, allOne_nil, Bool.and_self]; done) | (simp only [List.length_cons, List.length_nil, List.length_map, List.length_set]; omega)) only [go_sem, c, c2, dLd_at hw h1, eS]
  · have c : ¬ r < 0 := by omega
    have hlt := (List.getElem?_eq_some_iff.1 hl).1
    have c2 : ¬ (shapes.length : Int) ≤ r := by omega
    obtain ⟨q, v, k1, k2, k3⟩ := key l h0 hl
    have ep := (hA.put d r l.length hlen).1 hn
    rw [op19]
    simp -implicitDefEqProofs (maxSteps := 5000000) (disch := first | assumption | omega | (simp only [one_i, one_int, one_bool, one_str, one_ptr, one_nilp, one_nils, one_slice, one_map, one_nilm, one_func, one_iface, same_i, same_bool, same_nils, same_ptr, same_map, same_slice, List.length_cons, List.length_nil, Nat.zero_add, Nat.reduceAdd, allOne_cons, allOne_nil, Bool.and_self]; done) | (simp only [List.length_cons, List.length_nil, List.length_map, List.length_set]; omega)) only [go_sem, c, c2, dLd_at hw h1, eS, k1, k2, k3, ep]
  · have c : ¬ r < 0 := by omega
    have hlt := (List.getElem?_eq_some_iff.1 hl).1
    have c2 : ¬ (shapes.length : Int) ≤ r := by omega
    obtain ⟨q, v, k1, k2, k3⟩ := key l h0 hl
    obtain ⟨s', ep, _, f, nx⟩ := (hA.put d r l.length hlen).2 hn
    refine ⟨s', ?_, H.turn f (fun sh' h' => ?_) ?_, f, nx⟩
    · rw [op19]
      simp -implicitDefEqProofs (maxSteps := 5000000) (disch := first | assumption | omega | (simp only [one_i, one_int, one_bool, one_str, one_ptr, one_nilp, one_nils, one_slice, one_map, one_nilm, one_func, one_iface, same_i, same_bool, same_nils, same_ptr, same_map, same_slice, List.length_cons, List.length_nil, Nat.zero_add, Nat.reduceAdd, allOne_cons, allOne_nil, Bool.and_self]; done) | (simp only [List.length_cons, List.length_nil, List.length_map, List.length_set]; omega)) only [go_sem, c, c2, dLd_at hw h1, eS, k1, k2, k3, ep]
    · obtain ⟨s2, ep2, h2, _⟩ := (h'.put d r l.length hlen).2 hn
      rw [ep] at ep2
      cases ep2
      exact h2
    · intro o ho
      rcases List.mem_append.1 ho with ho | ho
      · exact H.ok o ho
      · simp at ho; subst ho
        exact .inr (.inr ⟨h0, l, hl, by simp [newO]⟩)
end
end
end Go.Proofs.YtjipdnfaokdkbaaLab
