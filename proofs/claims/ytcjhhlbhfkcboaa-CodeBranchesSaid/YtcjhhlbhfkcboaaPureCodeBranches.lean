/- CodeBranches, plain. -/
import Derived.Test.YtcjhhlbhfkcboaaClean
namespace Go.Proofs.Ytcjhhlbhfkcboaa.Pure
open Go.RowKit Go.Proofs.YtcjhhlbhfkcboaaW.PrintLast Go.Proofs.YtcjhhlbhfkcboaaW.PrintMore
open Go.Proofs.YtcjhhlbhfkcboaaW.PrintWords hiding encs
open Go.Proofs.Ytcjhhlbhfkcboaa.PA Go.Proofs.Ytcjhhlbhfkcboaa.Clean
set_option linter.unusedVariables false
set_option linter.unusedSimpArgs false
theorem up {α : Type} {f : Nat → Option α} (h : ∀ k, LeO (f k) (f (k + 1))) {k k' : Nat} {r : α} (hk : k ≤ k') (e : f k = some r) : f k' = some r := by
  induction k' with
  | zero => obtain rfl : k = 0 := by omega
            exact e
  | succ n ih =>
    by_cases hc : k ≤ n
    · exact h n r (ih hc)
    · obtain rfl : k = n + 1 := by omega
      exact e
theorem known_f (k : Nat) (hk : 10 ≤ k) : carafelaw5_known.f k = some true :=
  up (fun k => carafelaw5_known.mono k) hk (by decide +kernel)
theorem within_lh (a lo hi : Int) (h0 : 0 ≤ lo) (h1 : lo ≤ hi) (h2 : hi ≤ 100000) (ha : (Lit.int .i64 a).wf = true) : ∃ r, carafebook_Within.f a lo hi = some r ∧ lo ≤ r ∧ r ≤ hi := by
  unfold carafebook_Within.f
  have hw : wrap64 (wrap64 (hi - lo) + 1) = hi - lo + 1 := by rw [w64 (hi - lo) (by omega) (by omega), w64 _ (by omega) (by omega)]
  rw [hw, if_neg (by omega)]
  have hm : Int.tmod a (hi - lo + 1) < hi - lo + 1 ∧ -(hi - lo + 1) < Int.tmod a (hi - lo + 1) := by
    have p : 0 < hi - lo + 1 := by omega
    refine ⟨Int.tmod_lt_of_pos _ p, ?_⟩
    have := Int.tmod_lt_of_pos (-a) p
    rw [Int.neg_tmod] at this; omega
  generalize Int.tmod a (hi - lo + 1) = m at hm ⊢
  by_cases hs : m < 0
  · rw [if_pos hs, w64 (m + hi) (by omega) (by omega), w64 (m + hi - lo) (by omega) (by omega), w64 (m + hi - lo + 1) (by omega) (by omega), w64 _ (by omega) (by omega)]
    exact ⟨_, rfl, by omega, by omega⟩
  · rw [if_neg hs, w64 _ (by omega) (by omega)]
    exact ⟨_, rfl, by omega, by omega⟩
def nops (j : Nat) : Nat → List S32
  | 0 => []
  | m + 1 => ⟨(j : Int), 0, 0, 0⟩ :: nops (j + 1) m
theorem nops_len (m j : Nat) : (nops j m).length = m := by
  induction m generalizing j with
  | zero => rfl
  | succ m ih => simp [nops, ih]
theorem nops_app (m j : Nat) : nops j m ++ [⟨((j + m : Nat) : Int), 0, 0, 0⟩] = nops j (m + 1) := by
  induction m generalizing j with
  | zero => rfl
  | succ m ih =>
    have := ih (j + 1)
    rw [show j + 1 + m = j + (m + 1) from by omega] at this
    show ⟨(j : Int), 0, 0, 0⟩ :: (nops (j + 1) m ++ _) = _
    rw [this]; rfl
theorem encs_nops (m : Nat) (ys : List S32) (out : List Int) : encs (nops out.length m ++ ys) out = encs ys (out ++ List.replicate m 0) := by
  induction m generalizing out with
  | zero => simp [nops]
  | succ m ih =>
    show encs (⟨(out.length : Int), 0, 0, 0⟩ :: (nops (out.length + 1) m ++ ys)) out = _
    rw [encs, if_neg (by show g 0 ≠ 0; decide +kernel), if_neg (by simp)]
    have e : enc1 ⟨(out.length : Int), 0, 0, 0⟩ = some [0] := by
      unfold enc1
      rw [if_neg (by show ¬(0 : Int) = 132; decide), if_neg (by show ¬(0 : Int) = 16; decide), if_neg (by show ¬(0 : Int) = 17; decide), if_neg (by show ¬br 0 = true; decide +kernel), if_neg (by show ¬g 0 = 3; decide +kernel), if_neg (by show ¬g 0 = 2; decide +kernel), if_pos ⟨rfl, rfl⟩]
    rw [e]
    simp only
    have := ih (out ++ [0])
    rw [List.length_append, List.length_singleton] at this
    rw [this, List.replicate_succ, List.append_assoc]; rfl
theorem enc_br {n op t : Int} (hb : br op = true) : enc1 ⟨n, op, t, 0⟩ = if n - 32768 ≤ t ∧ t ≤ n + 32767 then some [op, (t - n) / 256 % 256, (t - n) % 256] else none := by
  have h132 : op ≠ 132 ∧ op ≠ 16 ∧ op ≠ 17 := by rcases br_ops hb with rfl | rfl | rfl | rfl | rfl | rfl | rfl | rfl | rfl | rfl | rfl | rfl | rfl | rfl | rfl | rfl | rfl <;> decide
  unfold enc1
  simp only
  rw [if_neg h132.1, if_neg h132.2.1, if_neg h132.2.2, if_pos hb]
  simp only [true_and]
theorem Enc_br (n : Nat) (op t : Int) (hn : n ≤ 200) (hb : br op = true) : Enc (nops 0 n ++ [⟨(n : Int), op, t, 0⟩]) = if (n : Int) - 32768 ≤ t ∧ t ≤ n + 32767 then (List.replicate n 0 ++ [op, (t - n) / 256 % 256, (t - n) % 256], 0) else ([], 1) := by
  unfold Enc
  have := encs_nops n [⟨(n : Int), op, t, 0⟩] []
  rw [List.length_nil] at this
  rw [this, List.nil_append, encs, if_neg (by show ¬g op = 0; rw [br_g hb]; decide), if_neg (by simp), enc_br hb]
  by_cases h : (n : Int) - 32768 ≤ t ∧ t ≤ n + 32767
  · rw [if_pos h, if_pos h]
    simp only [encs, fin]
    rw [if_neg (by simp; omega)]
  · rw [if_neg h, if_neg h]; rfl
theorem rd_last (l : List S32) (x : S32) : rd_T32 (l ++ [x]) (l.length : Int) = x := by
  unfold rd_T32
  rw [Int.toNat_natCast, List.getD_eq_getElem?_getD]; simp
theorem set_last (l : List S32) (x y : S32) : (l ++ [x]).set (l.length : Int).toNat y = l ++ [y] := by
  rw [Int.toNat_natCast, List.set_append_right _ _ (by omega)]; simp
theorem j1_true (k n : Nat) (op t : Int) (hn : n ≤ 200) (hb : br op = true) (hk : 300 ≤ k) : carafelaw5_CodeBranches.j1 (k + 1) (n : Int) (nops 0 n ++ [⟨(n : Int), op, t, 0⟩]) false = some true := by
  have hnl := nops_len n 0
  have hr : ∀ x, rd_T32 (nops 0 n ++ [x]) (n : Int) = x := fun x => by have := rd_last (nops 0 n) x; rwa [hnl] at this
  have hs : ∀ x y, (nops 0 n ++ [x]).set (n : Int).toNat y = nops 0 n ++ [y] := fun x y => by have := set_last (nops 0 n) x y; rwa [hnl] at this
  have hl : ∀ x : S32, (nops 0 n ++ [x]).length = n + 1 := fun x => by simp [hnl]
  have hE : ∀ x : S32, code_Encode.f k (nops 0 n ++ [x]) = some (Enc (nops 0 n ++ [x])) := fun x => Encode_f (by rw [hl]; omega) k (by rw [hl]; omega)
  have e1 := Enc_br n op ((n : Int) + 32768) hn hb
  have e2 := Enc_br n op ((n : Int) - 32769) hn hb
  have e3 := Enc_br n op ((n : Int) - 32768) hn hb
  rw [if_neg (by omega)] at e1 e2
  rw [if_pos (by omega)] at e3
  rw [carafelaw5_CodeBranches.j1]
  rw [if_neg (by decide), if_pos (by omega), if_pos (by rw [hl]; omega)]
  simp only [hr, hs, hE, Option.bind_some]
  rw [w64 ((n : Int) + 32768) (by omega) (by omega), w64 ((n : Int) - 32769) (by omega) (by omega), w64 ((n : Int) - 32768) (by omega) (by omega), e1, e2, e3, known_f k (by omega)]
  rfl
theorem l0_last (k n : Nat) (op t : Int) (hn : n ≤ 200) (ht : 0 ≤ t ∧ t ≤ 1000) (hb : br op = true) (hk : 301 ≤ k) : carafelaw5_CodeBranches.l0 (k + 1) op (n : Int) t (nops 0 n) (n : Int) = some true := by
  have hnl := nops_len n 0
  have hr : ∀ x, rd_T32 (nops 0 n ++ [x]) (n : Int) = x := fun x => by have := rd_last (nops 0 n) x; rwa [hnl] at this
  have hl : ∀ x : S32, (nops 0 n ++ [x]).length = n + 1 := fun x => by simp [hnl]
  have hE : ∀ x : S32, code_Encode.f k (nops 0 n ++ [x]) = some (Enc (nops 0 n ++ [x])) := fun x => Encode_f (by rw [hl]; omega) k (by rw [hl]; omega)
  have he := Enc_br n op t hn hb
  rw [if_pos (by omega)] at he
  have hD := Dec_Enc he k (by rw [hl]; omega)
  rw [carafelaw5_CodeBranches.l0]
  simp only [carafelaw5_i.f, Option.bind_some]
  rw [if_neg (by omega), if_pos (by omega)]
  rw [hE, he, Option.bind_some, hD, Option.bind_some, if_pos rfl, if_pos rfl, if_pos (by rw [hl, w64 _ (by omega) (by omega)]; simp), if_pos (by omega), if_pos (by rw [hl]; omega), if_neg (by rw [hr]; simp), br_f, hb, Option.bind_some]
  rw [Bool.not_true]
  obtain ⟨k, rfl⟩ : ∃ k', k = k' + 1 := ⟨k - 1, by omega⟩
  exact j1_true k n op t hn hb (by omega)
theorem l0_all (op t : Int) (n : Nat) (hn : n ≤ 200) (ht : 0 ≤ t ∧ t ≤ 1000) (hb : br op = true) : ∀ (d j : Nat), j + d = n → carafelaw5_CodeBranches.l0 (302 + d) op (n : Int) t (nops 0 j) (j : Int) = some true
  | 0, j, h => by obtain rfl : j = n := by omega
                  exact l0_last 301 j op t hn ht hb (by omega)
  | d + 1, j, h => by
    have ih := l0_all op t n hn ht hb d (j + 1) (by omega)
    rw [show 302 + (d + 1) = (302 + d) + 1 from rfl, carafelaw5_CodeBranches.l0, if_pos (by omega)]
    simp only [carafelaw5_i.f, Option.bind_some]
    rw [if_pos (by rw [nops_len]; omega), w64 _ (by omega) (by omega), show (j : Int) + 1 = ((j + 1 : Nat) : Int) from by simp]
    have := nops_app j 0
    rw [Nat.zero_add] at this
    rw [this]; exact ih
theorem CodeBranches : carafelaw5_CodeBranches.Pure := by
  intro a0 a1 a2 h0 h1 h2
  obtain ⟨r, e0, r0, r1⟩ := within_lh a0 0 8 (by omega) (by omega) (by omega) h0
  obtain ⟨n, e1, n0, n1⟩ := within_lh a1 0 200 (by omega) (by omega) (by omega) h1
  obtain ⟨t, e2, t0, t1⟩ := within_lh a2 0 1000 (by omega) (by omega) (by omega) h2
  obtain ⟨n, rfl⟩ := Int.eq_ofNat_of_zero_le n0
  refine ⟨302 + n, ?_⟩
  unfold carafelaw5_CodeBranches.f
  simp only [Option.bind_some]
  rw [show wrap64 ((([153, 158, 159, 164, 165, 166, 167, 198, 199] : List Int).length : Int) - 1) = 8 from by decide +kernel, e0, e1, e2]
  simp only [Option.bind_some]
  rw [if_pos r0, if_pos (by show r < 9; omega)]
  refine l0_all _ t n (by omega) ⟨t0, t1⟩ ?_ n 0 (by omega)
  have : r = 0 ∨ r = 1 ∨ r = 2 ∨ r = 3 ∨ r = 4 ∨ r = 5 ∨ r = 6 ∨ r = 7 ∨ r = 8 := by omega
  rcases this with rfl | rfl | rfl | rfl | rfl | rfl | rfl | rfl | rfl <;> decide +kernel
end Go.Proofs.Ytcjhhlbhfkcboaa.Pure
