/- What is read is written as its bytes, plain. -/
import Derived.Test.YtcjhhlbhfkcboaaClean
import Derived.Test.YtcjhhlbhfkcboaaPAf12
namespace Go.Proofs.Ytcjhhlbhfkcboaa.Clean
open Go.RowKit Go.Proofs.YtcjhhlbhfkcboaaW.PrintLast Go.Proofs.YtcjhhlbhfkcboaaW.PrintMore
open Go.Proofs.YtcjhhlbhfkcboaaW.PrintWords hiding encs
open Go.Proofs.Ytcjhhlbhfkcboaa.PA
set_option linter.unusedVariables false
set_option linter.unusedSimpArgs false
theorem enc_instv (i : Nat) (b0 b1 b2 : Int) (hg : g b0 ≠ 0) (r1 : 0 ≤ b1 ∧ b1 < 256) (r2 : 0 ≤ b2 ∧ b2 < 256) : enc1 (instv i b0 b1 b2) = some (([b0, b1, b2] : List Int).take (g b0).toNat) := by
  have e8 : ∀ x : Int, 0 ≤ x ∧ x < 256 → s8 x % 256 = x ∧ -128 ≤ s8 x ∧ s8 x ≤ 127 := fun x hx => by unfold s8; split <;> omega
  have e16 : s16 (b1 * 256 + b2) / 256 % 256 = b1 ∧ s16 (b1 * 256 + b2) % 256 = b2 ∧ -32768 ≤ s16 (b1 * 256 + b2) ∧ s16 (b1 * 256 + b2) ≤ 32767 := by unfold s16; split <;> omega
  unfold instv
  by_cases c1 : b0 = 132
  · subst c1
    rw [if_pos rfl]
    unfold enc1
    rw [if_pos rfl, if_pos ⟨by show 0 ≤ b1 ∧ b1 ≤ 255; omega, (e8 b2 r2).2⟩, g132, (e8 b2 r2).1]; rfl
  rw [if_neg c1]
  by_cases c2 : b0 = 16
  · subst c2
    rw [if_pos rfl]
    unfold enc1
    rw [if_neg (by show ¬(16 : Int) = 132; decide), if_pos rfl, if_pos ⟨rfl, (e8 b1 r1).2⟩, g16, (e8 b1 r1).1]; rfl
  rw [if_neg c2]
  by_cases c3 : b0 = 17
  · subst c3
    rw [if_pos rfl]
    unfold enc1
    rw [if_neg (by show ¬(17 : Int) = 132; decide), if_neg (by show ¬(17 : Int) = 16; decide), if_pos rfl, if_pos ⟨rfl, e16.2.2⟩, g17, e16.1, e16.2.1]; rfl
  rw [if_neg c3]
  by_cases c4 : br b0 = true
  · rw [if_pos c4]
    unfold enc1
    simp only
    rw [if_neg c1, if_neg c2, if_neg c3, if_pos c4, if_pos ⟨trivial, by omega, by omega⟩, br_g c4, show (i : Int) + s16 (b1 * 256 + b2) - i = s16 (b1 * 256 + b2) from by omega, e16.1, e16.2.1]; rfl
  rw [if_neg c4]
  by_cases c5 : g b0 = 3
  · rw [if_pos c5]
    unfold enc1
    simp only
    rw [if_neg c1, if_neg c2, if_neg c3, if_neg c4, if_pos c5, if_pos ⟨trivial, by omega, by omega⟩, c5, show (b1 * 256 + b2) / 256 = b1 from by omega, show (b1 * 256 + b2) % 256 = b2 from by omega]; rfl
  rw [if_neg c5]
  by_cases c6 : g b0 = 2
  · rw [if_pos c6]
    unfold enc1
    simp only
    rw [if_neg c1, if_neg c2, if_neg c3, if_neg c4, if_neg c5, if_pos c6, if_pos ⟨trivial, by omega, by omega⟩, c6]; rfl
  rw [if_neg c6]
  unfold enc1
  simp only
  rw [if_neg c1, if_neg c2, if_neg c3, if_neg c4, if_neg c5, if_neg c6, if_pos ⟨trivial, trivial⟩, show g b0 = 1 from by have := g_cases b0; omega]; rfl
theorem instv_f (i : Nat) (b0 b1 b2 : Int) : (instv i b0 b1 b2).f0 = i ∧ (instv i b0 b1 b2).f1 = b0 := by
  unfold instv
  repeat' split
  all_goals exact ⟨rfl, rfl⟩
theorem rd_byte {l : List Int} (hb : ∀ y ∈ l, 0 ≤ y ∧ y < 256) (i : Int) : 0 ≤ rd l i ∧ rd l i < 256 := getD_byte hb _
theorem take_more {l : List Int} {i n : Nat} (hn : n ≤ 3) (h : i + n ≤ l.length) : l.take i ++ ([rd l i, rd l ((i + 1 : Nat) : Int), rd l ((i + 2 : Nat) : Int)] : List Int).take n = l.take (i + n) := by
  have e : ([rd l i, rd l ((i + 1 : Nat) : Int), rd l ((i + 2 : Nat) : Int)] : List Int).take n = (l.drop i).take n := by
    have hr : ∀ j : Nat, j < l.length → some (rd l (j : Int)) = l[j]? := by
      intro j hj
      unfold rd
      rw [Int.toNat_natCast, List.getD_eq_getElem?_getD, List.getElem?_eq_getElem hj]; rfl
    apply List.ext_getElem?
    intro j
    rw [List.getElem?_take, List.getElem?_take, List.getElem?_drop]
    by_cases hj : j < n
    · rw [if_pos hj, if_pos hj]
      have : j = 0 ∨ j = 1 ∨ j = 2 := by omega
      rcases this with rfl | rfl | rfl
      · exact hr i (by omega)
      · exact hr (i + 1) (by omega)
      · exact hr (i + 2) (by omega)
    · rw [if_neg hj, if_neg hj]
  rw [e, List.take_add]
theorem Dec_l0 (l : List Int) (hb : ∀ y ∈ l, 0 ≤ y ∧ y < 256) (hl : l.length ≤ 1024) : ∀ (k : Nat) (acc : List S32) (i : Nat), i ≤ l.length → l.length - i < k →
    (∃ e at_, e ≠ 0 ∧ code_Decode.l0 k l acc i = some ([], e, at_)) ∨ (∃ m, code_Decode.l0 k l acc i = some (acc ++ m, 0, 0) ∧ encs m (l.take i) = .ok l ∧ m.length ≤ l.length - i)
  | 0, acc, i, hi, hk => by omega
  | k + 1, acc, i, hi, hk => by
    rw [code_Decode.l0]
    by_cases c0 : i < l.length
    · rw [if_pos c0]
      by_cases c1 : code_Size.g (rd l i) = 0
      · rw [if_pos c1]; exact .inl ⟨15, _, by decide, rfl⟩
      rw [if_neg c1]
      by_cases c2 : (l.length : Int) - i < code_Size.g (rd l i)
      · rw [if_pos c2]; exact .inl ⟨10, _, by decide, rfl⟩
      rw [if_neg c2]
      have hgc : g (rd l i) = 0 ∨ g (rd l i) = 1 ∨ g (rd l i) = 2 ∨ g (rd l i) = 3 := g_cases _
      have c1' : g (rd l i) ≠ 0 := c1
      have c2' : ¬(l.length : Int) - i < g (rd l i) := c2
      have hn : (code_Size.g (rd l i)).toNat = (g (rd l i)).toNat := rfl
      rw [hn]
      have hi' : code_Decode.inst l i = instv i (rd l i) (rd l ((i + 1 : Nat) : Int)) (rd l ((i + 2 : Nat) : Int)) := inst_v rfl (fun _ => rfl) (fun _ => rfl) (rd_byte hb _) (rd_byte hb _) (by omega)
      rcases Dec_l0 l hb hl k (acc ++ [code_Decode.inst l i]) (i + (g (rd l i)).toNat) (by omega) (by omega) with ⟨e, at_, h1, h2⟩ | ⟨m, h1, h2, h3⟩
      · exact .inl ⟨e, at_, h1, h2⟩
      · refine .inr ⟨code_Decode.inst l i :: m, by rw [h1]; simp, ?_, by simp only [List.length_cons]; omega⟩
        have hf := instv_f i (rd l i) (rd l ((i + 1 : Nat) : Int)) (rd l ((i + 2 : Nat) : Int))
        rw [encs, hi', hf.1, hf.2, if_neg c1', if_neg (by simp; omega), enc_instv i _ _ _ c1' (rd_byte hb _) (rd_byte hb _)]
        simp only
        rw [take_more (by omega) (by omega)]
        exact h2
    · rw [if_neg c0]
      obtain rfl : i = l.length := by omega
      refine .inr ⟨[], by simp, ?_, by simp⟩
      rw [encs, List.take_length]
/-- Decode: refused, or what is written again is what was read. -/
theorem Dec_f (l : List Int) (hb : ∀ y ∈ l, 0 ≤ y ∧ y < 256) (k : Nat) (hk : 1025 ≤ k) :
    (∃ m e at_, e ≠ 0 ∧ code_Decode.f k l = some (m, e, at_)) ∨ (∃ m, code_Decode.f k l = some (m, 0, 0) ∧ Enc m = (l, 0) ∧ encs m [] = .ok l ∧ m.length ≤ 1024) := by
  unfold code_Decode.f
  rw [if_pos hb]
  by_cases c : 1024 < l.length
  · rw [if_pos c]; exact .inl ⟨_, 3, _, by decide, rfl⟩
  rw [if_neg c]
  rcases Dec_l0 l hb (by omega) k [] 0 (by omega) (by omega) with ⟨e, at_, h1, h2⟩ | ⟨m, h1, h2, h3⟩
  · exact .inl ⟨_, e, at_, h1, h2⟩
  · rw [List.take_zero] at h2
    refine .inr ⟨m, by rw [h1]; simp, ?_, h2, by omega⟩
    unfold Enc
    rw [h2]
    unfold fin
    simp only [if_neg c]
end Go.Proofs.Ytcjhhlbhfkcboaa.Clean
