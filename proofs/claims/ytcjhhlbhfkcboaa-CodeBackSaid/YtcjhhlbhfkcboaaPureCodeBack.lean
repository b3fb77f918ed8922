/- CodeBack, plain. -/
import Derived.Test.YtcjhhlbhfkcboaaCleanBack
import Derived.Test.YtcjhhlbhfkcboaaPAf5
namespace Go.Proofs.Ytcjhhlbhfkcboaa.Pure
open Go.RowKit Go.Proofs.YtcjhhlbhfkcboaaW.PrintLast Go.Proofs.YtcjhhlbhfkcboaaW.PrintMore
open Go.Proofs.YtcjhhlbhfkcboaaW.PrintWords hiding encs
open Go.Proofs.Ytcjhhlbhfkcboaa.PA Go.Proofs.Ytcjhhlbhfkcboaa.Clean
set_option linter.unusedVariables false
theorem Same_l0 (l : List S32) (hl : l.length ≤ 4398046511104) : ∀ (d j k : Nat), j + d = l.length → d < k → api_Inst.l0 k l l (j : Int) = some true
  | 0, j, k, h, hk => by
    obtain ⟨k, rfl⟩ : ∃ k', k = k' + 1 := ⟨k - 1, by omega⟩
    rw [api_Inst.l0, if_neg (by omega)]
  | d + 1, j, k, h, hk => by
    obtain ⟨k, rfl⟩ : ∃ k', k = k' + 1 := ⟨k - 1, by omega⟩
    rw [api_Inst.l0, if_pos (by omega), if_pos (by omega), if_pos (by omega), if_neg (by simp), w64 _ (by omega) (by omega), show (j : Int) + 1 = ((j + 1 : Nat) : Int) from by simp]
    exact Same_l0 l hl d (j + 1) k (by omega) (by omega)
theorem Same_f (l : List S32) (hl : l.length ≤ 4398046511104) (k : Nat) (hk : l.length < k) : api_Inst.f k l l = some true := by
  unfold api_Inst.f
  rw [if_pos rfl]
  exact Same_l0 l hl l.length 0 k (by omega) (by omega)
theorem back_l (l : List S32) (hl : l.length ≤ 4398046511104) (k : Nat) (hk : l.length + 1025 ≤ k) :
    (∃ b, code_Encode.f k l = some (b, 0) ∧ code_Decode.f k b = some (l, 0, 0)) ∨ (∃ e, e ≠ 0 ∧ code_Encode.f k l = some ([], e)) := by
  rw [Encode_f hl k (by omega)]
  cases h : Enc l with
  | mk b e =>
    by_cases c : e = 0
    · subst c
      exact .inl ⟨b, rfl, Dec_Enc h k (by omega)⟩
    · refine .inr ⟨e, c, ?_⟩
      unfold Enc at h
      cases h2 : Clean.encs l [] with
      | error x => rw [h2] at h; unfold fin at h; cases h; rfl
      | ok out =>
        rw [h2] at h; unfold fin at h
        by_cases c2 : 1024 < out.length
        · simp only [if_pos c2] at h; cases h; rfl
        · simp only [if_neg c2] at h; cases h; exact absurd rfl c
theorem tail_l {k : Nat} {l : List S32} (hl : l.length ≤ 4398046511104) (hk : l.length + 1025 ≤ k) :
    ((code_Encode.f k l).bind fun bt115 => (if bt115.2 = 0 then ((code_Decode.f k bt115.1).bind fun bt119 => (if bt119.2.1 = 0 then ((api_Inst.f k bt119.1 l).bind fun t124 => (if t124 = true then ((carafelaw5_known.f k).bind fun t125 => (some t125)) else (some false))) else (some false))) else (if (bt115.1.length : Int) = 0 then ((carafelaw5_known.f k).bind fun t126 => (some t126)) else (some false)))) = some true := by
  rcases back_l l hl k hk with ⟨b, h1, h2⟩ | ⟨e, he, h1⟩
  · rw [h1, Option.bind_some, if_pos rfl, h2, Option.bind_some, if_pos rfl, Same_f l hl k (by omega), Option.bind_some, if_pos rfl, known_f k (by omega)]; rfl
  · rw [h1, Option.bind_some, if_neg he, known_f k (by omega)]; rfl
theorem loop_l0 (b : List Int) (l : List S32) (hl : l.length ≤ 4398046511104) (m : List S32) (hm : m.length ≤ 1024) (hb : b.length ≤ 1024) : ∀ (xs pre : List S32) (out : List Int) (k : Nat), pre ++ xs = m → Clean.encs xs out = .ok b → l.length + 1025 + xs.length < k → carafelaw5_CodeBack.l0 k b l m (out.length : Int) (pre.length : Int) = some true
  | [], pre, out, k, hp, h, hk => by
    obtain ⟨k, rfl⟩ : ∃ k', k = k' + 1 := ⟨k - 1, by omega⟩
    unfold Clean.encs at h
    cases h
    rw [carafelaw5_CodeBack.l0, if_neg (by rw [← hp]; simp), if_pos rfl]
    exact tail_l hl (by simp at hk; omega)
  | x :: xs, pre, out, k, hp, h, hk => by
    obtain ⟨k, rfl⟩ : ∃ k', k = k' + 1 := ⟨k - 1, by omega⟩
    have hlen : m.length = pre.length + (xs.length + 1) := by rw [← hp]; simp
    have hrd : rd_T32 m (pre.length : Int) = x := by
      rw [← hp]; unfold rd_T32
      rw [Int.toNat_natCast, List.getD_eq_getElem?_getD, List.getElem?_append_right (by omega)]; simp
    unfold Clean.encs at h
    by_cases hg : g x.f1 = 0
    · rw [if_pos hg] at h; cases h
    rw [if_neg hg] at h
    by_cases hat : x.f0 = (out.length : Int)
    rotate_left
    · rw [if_pos hat] at h; cases h
    rw [if_neg (by simp [hat])] at h
    cases e1 : enc1 x with
    | none => rw [e1] at h; cases h
    | some c =>
      rw [e1] at h
      simp only at h
      have hlb := (enc1_len hg e1).1
      have hgc := g_cases x.f1
      obtain ⟨_, hgrow, _⟩ := encs_grow _ _ _ h
      have hol : out.length ≤ 1024 := by have := congrArg List.length hgrow; simp at this; omega
      rw [carafelaw5_CodeBack.l0, hrd, if_pos (by omega), if_pos (by omega), if_pos hat, Size_f, Option.bind_some, if_neg (by omega), Option.bind_some, w64 _ (by omega) (by omega), w64 _ (by omega) (by omega), show (out.length : Int) + g x.f1 = ((out ++ c).length : Int) from by simp; omega, show (pre.length : Int) + 1 = ((pre ++ [x]).length : Int) from by simp]
      exact loop_l0 b l hl m hm hb xs (pre ++ [x]) (out ++ c) k (by rw [← hp]; simp) h (by simp at hk; omega)
theorem CodeBack (b : List Int) (l : List S32) (hb : ∀ y ∈ b, 0 ≤ y ∧ y < 256) (hl : l.length ≤ 4398046511104) : ∃ k, carafelaw5_CodeBack.f k b l = some true := by
  refine ⟨l.length + 3000, ?_⟩
  unfold carafelaw5_CodeBack.f
  rcases Dec_f b hb (l.length + 3000) (by omega) with ⟨m, e, at_, he, h1⟩ | ⟨m, h1, h2, h3, h4⟩
  · rw [h1, Option.bind_some, if_neg he]
    exact tail_l hl (by omega)
  · have h5 : b.length ≤ 1024 := (Enc_ok h2).2.1
    have hE : code_Encode.f (l.length + 3000) m = some (b, 0) := by rw [Encode_f (by omega) _ (by omega), h2]
    rw [h1, Option.bind_some, if_pos rfl, hE, Option.bind_some, if_pos rfl, if_pos rfl]
    exact loop_l0 b l hl m h4 h5 m [] [] _ rfl h3 (by omega)
end Go.Proofs.Ytcjhhlbhfkcboaa.Pure
