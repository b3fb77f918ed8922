import Derived.Test.YtcjhhlbhfkcboaaClean
import Derived.Test.YtcjhhlbhfkcboaaPAf16
import Derived.Test.YtcjhhlbhfkcboaaPAf12
import Derived.Test.YtcjhhlbhfkcboaaPAf3
import Derived.Test.YtcjhhlbhfkcboaaRows
import Derived.WalkKit
import Derived.ProofKit
import Derived.OpenShut
import Derived.ShutString
import Derived.ChangeOld
import Derived.Below
import Derived.SizedLaws
import Derived.Test.YtcjhhlbhfkcboaaWSized
section
/- The document's Encode and Decode are the program's, plain. -/
namespace Go.Proofs.Ytcjhhlbhfkcboaa.Clean
open Go.RowKit Go.Proofs.YtcjhhlbhfkcboaaW.PrintLast Go.Proofs.YtcjhhlbhfkcboaaW.PrintMore
open Go.Proofs.YtcjhhlbhfkcboaaW.PrintWords hiding encs
open Go.Proofs.Ytcjhhlbhfkcboaa.PA
set_option linter.unusedVariables false
set_option linter.unusedSimpArgs false
theorem look_none (op : Int) : ∀ (t : List (Int × ByteArray)), (∀ p ∈ t, p.1 ≠ op) → caraferef5_Name.look t op = (⟨#[]⟩ : ByteArray) := by
  intro t
  induction t with
  | nil => intro _; unfold caraferef5_Name.look; rfl
  | cons p ps ih =>
    intro h
    unfold caraferef5_Name.look
    first
    | (rw [if_neg (h p (List.mem_cons_self ..))]; exact ih (fun q hq => h q (List.mem_cons_of_mem _ hq)))
    | (split
       · exact absurd (by first | assumption | (symm; assumption) | simp_all) (h p (List.mem_cons_self ..))
       · exact ih (fun q hq => h q (List.mem_cons_of_mem _ hq)))
theorem br_ref (op : Int) : caraferef5_Decode.br op = br op := by
  have h1 := caraferef5_Decode.br_some op
  have h2 := br_f op
  unfold caraferef5_Branch.f at h1
  unfold code_Branch.f at h2
  rw [h1] at h2
  exact Option.some.inj h2
def sizes : Bool := (List.range 200).all fun i => caraferef5_Decode.sz (i : Int) == g (i : Int)
theorem sizes_ok : sizes = true := by decide +kernel
theorem table_ops : ∀ p ∈ caraferef5_Name.table, 0 ≤ p.1 ∧ p.1 < 200 := by decide +kernel
theorem sz_g (op : Int) : caraferef5_Decode.sz op = g op := by
  by_cases h : 0 ≤ op ∧ op < 200
  · obtain ⟨i, rfl⟩ := Int.eq_ofNat_of_zero_le h.1
    have := List.all_eq_true.1 sizes_ok i (List.mem_range.2 (by omega))
    exact of_decide_eq_true (by simpa using this)
  · have hg : g op = 0 := by
      by_cases c : g op = 0
      · exact c
      · exact absurd (g_byte c) h
    rw [hg]
    have hn : caraferef5_Name.look caraferef5_Name.table op = (⟨#[]⟩ : ByteArray) := look_none op _ (fun p hp e => h (e ▸ table_ops p hp))
    unfold caraferef5_Decode.sz caraferef5_Size.f
    have hb : ∀ c : Int, 0 ≤ c → c < 200 → (op == c) = false := fun c h0 h1 => beq_eq_false_iff_ne.mpr (by omega)
    rw [if_neg (by omega), if_neg (by omega), if_neg (by omega), if_neg (by omega), if_neg (by omega), if_neg (by omega), hb 188 (by omega) (by omega)]
    rw [show (2 : Nat) = 1 + 1 from rfl, caraferef5_Size.j0, if_neg (by decide), if_neg (by omega), if_neg (by omega), if_neg (by omega), if_neg (by omega), if_neg (by omega), if_neg (by omega), if_neg (by omega), if_neg (by omega), if_neg (by omega), if_neg (by omega), if_neg (by omega), if_neg (by omega)]
    have hbr : caraferef5_Decode.br op = false := by
      cases c : caraferef5_Decode.br op with
      | false => rfl
      | true =>
        rw [br_ref] at c
        have := br_ops c
        omega
    rw [caraferef5_Decode.br_some, hbr]
    simp only [Option.bind_some, caraferef5_Name.f, hn]
    decide +kernel
theorem sg_ref (op : Int) : caraferef5_Decode.sg op = decide (op = 16 ∨ op = 17 ∨ br op = true) := by
  have h1 := caraferef5_Decode.sg_some op
  unfold caraferef5_signed.f at h1
  rw [caraferef5_Decode.br_some, br_ref] at h1
  by_cases c1 : op = 16
  · rw [if_pos c1] at h1; rw [← Option.some.inj h1]; simp [c1]
  by_cases c2 : op = 17
  · rw [if_neg c1, if_pos c2] at h1; rw [← Option.some.inj h1]; simp [c2]
  rw [if_neg c1, if_neg c2] at h1
  rw [← Option.some.inj h1]; simp [c1, c2]
theorem one_ref {x : S32} (hg : g x.f1 ≠ 0) (h0 : 0 ≤ x.f0) (h1 : x.f0 ≤ 140737488355328) (hw : -9223372036854775808 ≤ x.f2 ∧ x.f2 ≤ 9223372036854775807) (hfar : x.f0 ≤ 1000000) : ∃ bo, caraferef5_one.f x.f0 x.f1 x.f2 x.f3 = some bo ∧ (match enc1 x with | none => bo.2 = false | some b => bo.2 = true ∧ bo.1 = b) := by
  have hop := g_byte hg
  obtain ⟨f0, f1, f2, f3⟩ := x
  simp only at hg h0 h1 hop hw hfar ⊢
  have hm : f1 % 256 = f1 := by omega
  unfold caraferef5_one.f enc1
  simp only [sz_g, br_ref, sg_ref]
  by_cases c1 : f1 = 132
  · subst c1
    rw [if_pos rfl, if_pos rfl]
    refine ⟨_, rfl, ?_⟩
    by_cases d : (0 ≤ f2 ∧ f2 ≤ 255) ∧ -128 ≤ f3 ∧ f3 ≤ 127
    · rw [if_pos d]; refine ⟨decide_eq_true d, ?_⟩
      show [(132 : Int), f2 % 256, f3 % 256] = _
      rw [show f2 % 256 = f2 from by omega]
    · rw [if_neg d]; exact decide_eq_false d
  rw [if_neg c1, if_neg c1]
  by_cases c2 : f1 = 16
  · subst c2
    rw [if_neg (show ¬br 16 = true by decide +kernel), if_neg (show ¬g 16 = 1 by decide +kernel), if_pos g16, if_pos rfl, if_pos (by simp)]
    refine ⟨_, rfl, ?_⟩
    by_cases d : f3 = 0 ∧ -128 ≤ f2 ∧ f2 ≤ 127
    · rw [if_pos d]; exact ⟨decide_eq_true d, rfl⟩
    · rw [if_neg d]; exact decide_eq_false d
  rw [if_neg c2]
  by_cases c3 : f1 = 17
  · subst c3
    rw [if_neg (show ¬br 17 = true by decide +kernel), if_neg (show ¬g 17 = 1 by decide +kernel), if_neg (show ¬g 17 = 2 by decide +kernel), if_pos g17, if_pos rfl, if_pos (by simp)]
    refine ⟨_, rfl, ?_⟩
    by_cases d : f3 = 0 ∧ -32768 ≤ f2 ∧ f2 ≤ 32767
    · rw [if_pos d]; exact ⟨decide_eq_true d, rfl⟩
    · rw [if_neg d]; exact decide_eq_false d
  rw [if_neg c3]
  by_cases c4 : br f1 = true
  · rw [if_pos c4, if_pos c4]
    by_cases d0 : -1048576 ≤ f2 ∧ f2 ≤ 1048576
    · rw [if_pos d0, w64 (f2 - f0) (by omega) (by omega)]
      refine ⟨_, rfl, ?_⟩
      by_cases d : f3 = 0 ∧ f0 - 32768 ≤ f2 ∧ f2 ≤ f0 + 32767
      · rw [if_pos d]; exact ⟨decide_eq_true (by omega), by show [f1 % 256, _, _] = _; rw [hm]⟩
      · rw [if_neg d]; exact decide_eq_false (by omega)
    · rw [if_neg d0, if_neg (by omega)]; exact ⟨_, rfl, rfl⟩
  rw [if_neg c4, if_neg c4]
  have hs : ¬(f1 = 16 ∨ f1 = 17 ∨ br f1 = true) := by simp [c2, c3, c4]
  rw [decide_eq_false hs]
  simp only [Bool.false_eq_true, if_false]
  rcases g_cases f1 with c | c | c | c
  · exact absurd c hg
  · rw [if_pos c, if_neg (by omega), if_neg (by omega)]
    refine ⟨_, rfl, ?_⟩
    by_cases d : f3 = 0 ∧ f2 = 0
    · rw [if_pos d]; exact ⟨decide_eq_true d, by show [f1 % 256] = _; rw [hm]⟩
    · rw [if_neg d]; exact decide_eq_false d
  · rw [if_neg (by omega), if_pos c, if_neg (by omega), if_pos c]
    refine ⟨_, rfl, ?_⟩
    by_cases d : f3 = 0 ∧ 0 ≤ f2 ∧ f2 ≤ 255
    · rw [if_pos d]; exact ⟨decide_eq_true d, by show [f1 % 256, f2 % 256] = _; rw [hm, show f2 % 256 = f2 from by omega]⟩
    · rw [if_neg d]; exact decide_eq_false d
  · rw [if_neg (by omega), if_neg (by omega), if_pos c, if_pos c]
    refine ⟨_, rfl, ?_⟩
    by_cases d : f3 = 0 ∧ 0 ≤ f2 ∧ f2 ≤ 65535
    · rw [if_pos d]; exact ⟨decide_eq_true d, by show [f1 % 256, f2 / 256 % 256, f2 % 256] = _; rw [hm, show f2 / 256 % 256 = f2 / 256 from by omega]⟩
    · rw [if_neg d]; exact decide_eq_false d
theorem Size_ref (k : Nat) (hk : 2 ≤ k) (op : Int) : caraferef5_Size.f k op = some (g op) := by
  have h2 := (caraferef5_Decode.size_some op).1
  rw [sz_g] at h2
  induction k with
  | zero => omega
  | succ n ih =>
    by_cases hc : n + 1 = 2
    · rw [hc]; exact h2
    · exact caraferef5_Size.mono op n _ (ih (by omega))
theorem Encode_ref_l0 : ∀ (xs pre : List S32) (out : List Int) (k : Nat), xs.length + 2 < k → (out.length : Int) ≤ 3 * pre.length → (pre ++ xs).length ≤ 300000 → (∀ x ∈ xs, -9223372036854775808 ≤ x.f2 ∧ x.f2 ≤ 9223372036854775807) → caraferef5_Encode.l0 k (pre ++ xs) out (pre.length : Int) = some (fin (encs xs out))
  | [], pre, out, k, hk, ho, hl, hw => by
    obtain ⟨k, rfl⟩ : ∃ k', k = k' + 1 := ⟨k - 1, by simp at hk; omega⟩
    rw [caraferef5_Encode.l0, if_neg (by simp)]
    unfold encs fin
    by_cases h : 1024 < out.length
    · rw [if_pos (by omega)]; simp only [if_pos h]
    · rw [if_neg (by omega)]; simp only [if_neg h]
  | x :: xs, pre, out, k, hk, ho, hl, hw => by
    obtain ⟨k, rfl⟩ : ∃ k', k = k' + 1 := ⟨k - 1, by simp at hk; omega⟩
    have hrd : rd_T32 (pre ++ x :: xs) (pre.length : Int) = x := by
      unfold rd_T32
      rw [Int.toNat_natCast, List.getD_eq_getElem?_getD, List.getElem?_append_right (by omega)]; simp
    have hl' := hl
    simp only [List.length_append, List.length_cons] at hl'
    rw [caraferef5_Encode.l0, hrd, if_pos (by simp; omega), if_pos (by omega)]
    unfold encs
    rw [Size_ref k (by simp at hk; omega)]
    simp only [Option.bind_some]
    by_cases hg : g x.f1 = 0
    · rw [if_pos hg, if_pos hg]; rfl
    rw [if_neg hg, if_neg hg]
    by_cases hat : x.f0 = (out.length : Int)
    rotate_left
    · rw [if_neg hat, if_pos hat]; rfl
    rw [if_pos hat, if_neg (by simp [hat])]
    obtain ⟨bo, e, hb⟩ := one_ref (x := x) hg (by omega) (by omega) (hw x (List.mem_cons_self ..)) (by omega)
    rw [e]
    simp only [Option.bind_some]
    cases e1 : enc1 x with
    | none =>
      rw [e1] at hb
      simp only at hb
      rw [if_neg (by rw [hb]; decide)]; rfl
    | some b =>
      rw [e1] at hb
      obtain ⟨h2, rfl⟩ := hb
      rw [if_pos h2]
      have hlb := (enc1_len hg e1).1
      have hgc := g_cases x.f1
      have hap : pre ++ x :: xs = (pre ++ [x]) ++ xs := by simp
      rw [if_pos (by omega), w64 _ (by omega) (by omega), hap, show (pre.length : Int) + 1 = ((pre ++ [x]).length : Int) from by simp]
      exact Encode_ref_l0 xs (pre ++ [x]) (out ++ bo.1) k (by simp at hk; omega) (by simp only [List.length_append, List.length_singleton]; omega) (by rw [← hap]; exact hl) (fun y hy => hw y (List.mem_cons_of_mem _ hy))
theorem Encode_ref {l : List S32} (hl : l.length ≤ 300000) (hw : ∀ x ∈ l, -9223372036854775808 ≤ x.f2 ∧ x.f2 ≤ 9223372036854775807) (k : Nat) (hk : l.length + 2 < k) : caraferef5_Encode.f k l = some (Enc l) := by
  unfold caraferef5_Encode.f Enc
  exact Encode_ref_l0 l [] [] k hk (by simp) hl hw
end Go.Proofs.Ytcjhhlbhfkcboaa.Clean
end

section
/- What is read is written as its bytes, plain. -/
namespace Go.Proofs.Ytcjhhlbhfkcboaa.Clean
open Go.RowKit Go.Proofs.YtcjhhlbhfkcboaaW.PrintLast Go.Proofs.YtcjhhlbhfkcboaaW.PrintMore
open Go.Proofs.YtcjhhlbhfkcboaaW.PrintWords hiding encs
open Go.Proofs.Ytcjhhlbhfkcboaa.PA
set_option linter.unusedVariables false
set_option linter.unusedSimpArgs false
theorem enc_instv (i : Nat) (b0 b1 b2 : Int) (hg : g b0 ≠ 0) (r1 : 0 ≤ b1 ∧ b1 < 256) (r2 : 0 ≤ b2 ∧ b2 < 256) : enc1 (instv i b0 b1 b2) = some (([b0, b1, b2] : List Int).take (g b0).toNat) := by
  have e8 : ∀ x : Int, 0 ≤ x ∧ x < 256 → s8 x % 256 = x ∧ -128 ≤ s8 x ∧ s8 x ≤ 127 := fun x hx => by unfold s8; split <;> omega
  have e16 : s16 (b1 * 256 + b2) / 256 % 256 = b1 ∧ s16 (b1 * 256 + b2) % 256 = b2 ∧ -32768 ≤ s16 (b1 * 256 + b2) ∧ s16 (b1 * 256 + b2) ≤ 32767 := by unfold s16; split <;> omega
  unfold instv
  by_cases c1 : b0 = 132
  · subst c1
    rw [if_pos rfl]
    unfold enc1
    rw [if_pos rfl, if_pos ⟨by show 0 ≤ b1 ∧ b1 ≤ 255; omega, (e8 b2 r2).2⟩, g132, (e8 b2 r2).1]; rfl
  rw [if_neg c1]
  by_cases c2 : b0 = 16
  · subst c2
    rw [if_pos rfl]
    unfold enc1
    rw [if_neg (by show ¬(16 : Int) = 132; decide), if_pos rfl, if_pos ⟨rfl, (e8 b1 r1).2⟩, g16, (e8 b1 r1).1]; rfl
  rw [if_neg c2]
  by_cases c3 : b0 = 17
  · subst c3
    rw [if_pos rfl]
    unfold enc1
    rw [if_neg (by show ¬(17 : Int) = 132; decide), if_neg (by show ¬(17 : Int) = 16; decide), if_pos rfl, if_pos ⟨rfl, e16.2.2⟩, g17, e16.1, e16.2.1]; rfl
  rw [if_neg c3]
  by_cases c4 : br b0 = true
  · rw [if_pos c4]
    unfold enc1
    simp only
    rw [if_neg c1, if_neg c2, if_neg c3, if_pos c4, if_pos ⟨trivial, by omega, by omega⟩, br_g c4, show (i : Int) + s16 (b1 * 256 + b2) - i = s16 (b1 * 256 + b2) from by omega, e16.1, e16.2.1]; rfl
  rw [if_neg c4]
  by_cases c5 : g b0 = 3
  · rw [if_pos c5]
    unfold enc1
    simp only
    rw [if_neg c1, if_neg c2, if_neg c3, if_neg c4, if_pos c5, if_pos ⟨trivial, by omega, by omega⟩, c5, show (b1 * 256 + b2) / 256 = b1 from by omega, show (b1 * 256 + b2) % 256 = b2 from by omega]; rfl
  rw [if_neg c5]
  by_cases c6 : g b0 = 2
  · rw [if_pos c6]
    unfold enc1
    simp only
    rw [if_neg c1, if_neg c2, if_neg c3, if_neg c4, if_neg c5, if_pos c6, if_pos ⟨trivial, by omega, by omega⟩, c6]; rfl
  rw [if_neg c6]
  unfold enc1
  simp only
  rw [if_neg c1, if_neg c2, if_neg c3, if_neg c4, if_neg c5, if_neg c6, if_pos ⟨trivial, trivial⟩, show g b0 = 1 from by have := g_cases b0; omega]; rfl
theorem instv_f (i : Nat) (b0 b1 b2 : Int) : (instv i b0 b1 b2).f0 = i ∧ (instv i b0 b1 b2).f1 = b0 := by
  unfold instv
  repeat' split
  all_goals exact ⟨rfl, rfl⟩
theorem rd_byte {l : List Int} (hb : ∀ y ∈ l, 0 ≤ y ∧ y < 256) (i : Int) : 0 ≤ rd l i ∧ rd l i < 256 := getD_byte hb _
theorem take_more {l : List Int} {i n : Nat} (hn : n ≤ 3) (h : i + n ≤ l.length) : l.take i ++ ([rd l i, rd l ((i + 1 : Nat) : Int), rd l ((i + 2 : Nat) : Int)] : List Int).take n = l.take (i + n) := by
  have e : ([rd l i, rd l ((i + 1 : Nat) : Int), rd l ((i + 2 : Nat) : Int)] : List Int).take n = (l.drop i).take n := by
    have hr : ∀ j : Nat, j < l.length → some (rd l (j : Int)) = l[j]? := by
      intro j hj
      unfold rd
      rw [Int.toNat_natCast, List.getD_eq_getElem?_getD, List.getElem?_eq_getElem hj]; rfl
    apply List.ext_getElem?
    intro j
    rw [List.getElem?_take, List.getElem?_take, List.getElem?_drop]
    by_cases hj : j < n
    · rw [if_pos hj, if_pos hj]
      have : j = 0 ∨ j = 1 ∨ j = 2 := by omega
      rcases this with rfl | rfl | rfl
      · exact hr i (by omega)
      · exact hr (i + 1) (by omega)
      · exact hr (i + 2) (by omega)
    · rw [if_neg hj, if_neg hj]
  rw [e, List.take_add]
theorem Dec_l0 (l : List Int) (hb : ∀ y ∈ l, 0 ≤ y ∧ y < 256) (hl : l.length ≤ 1024) : ∀ (k : Nat) (acc : List S32) (i : Nat), i ≤ l.length → l.length - i < k →
    (∃ e at_, e ≠ 0 ∧ code_Decode.l0 k l acc i = some ([], e, at_)) ∨ (∃ m, code_Decode.l0 k l acc i = some (acc ++ m, 0, 0) ∧ encs m (l.take i) = .ok l ∧ m.length ≤ l.length - i)
  | 0, acc, i, hi, hk => by omega
  | k + 1, acc, i, hi, hk => by
    rw [code_Decode.l0]
    by_cases c0 : i < l.length
    · rw [if_pos c0]
      by_cases c1 : code_Size.g (rd l i) = 0
      · rw [if_pos c1]; exact .inl ⟨15, _, by decide, rfl⟩
      rw [if_neg c1]
      by_cases c2 : (l.length : Int) - i < code_Size.g (rd l i)
      · rw [if_pos c2]; exact .inl ⟨10, _, by decide, rfl⟩
      rw [if_neg c2]
      have hgc : g (rd l i) = 0 ∨ g (rd l i) = 1 ∨ g (rd l i) = 2 ∨ g (rd l i) = 3 := g_cases _
      have c1' : g (rd l i) ≠ 0 := c1
      have c2' : ¬(l.length : Int) - i < g (rd l i) := c2
      have hn : (code_Size.g (rd l i)).toNat = (g (rd l i)).toNat := rfl
      rw [hn]
      have hi' : code_Decode.inst l i = instv i (rd l i) (rd l ((i + 1 : Nat) : Int)) (rd l ((i + 2 : Nat) : Int)) := inst_v rfl (fun _ => rfl) (fun _ => rfl) (rd_byte hb _) (rd_byte hb _) (by omega)
      rcases Dec_l0 l hb hl k (acc ++ [code_Decode.inst l i]) (i + (g (rd l i)).toNat) (by omega) (by omega) with ⟨e, at_, h1, h2⟩ | ⟨m, h1, h2, h3⟩
      · exact .inl ⟨e, at_, h1, h2⟩
      · refine .inr ⟨code_Decode.inst l i :: m, by rw [h1]; simp, ?_, by simp only [List.length_cons]; omega⟩
        have hf := instv_f i (rd l i) (rd l ((i + 1 : Nat) : Int)) (rd l ((i + 2 : Nat) : Int))
        rw [encs, hi', hf.1, hf.2, if_neg c1', if_neg (by simp; omega), enc_instv i _ _ _ c1' (rd_byte hb _) (rd_byte hb _)]
        simp only
        rw [take_more (by omega) (by omega)]
        exact h2
    · rw [if_neg c0]
      obtain rfl : i = l.length := by omega
      refine .inr ⟨[], by simp, ?_, by simp⟩
      rw [encs, List.take_length]
/-- Decode: refused, or what is written again is what was read. -/
theorem Dec_f (l : List Int) (hb : ∀ y ∈ l, 0 ≤ y ∧ y < 256) (k : Nat) (hk : 1025 ≤ k) :
    (∃ m e at_, e ≠ 0 ∧ code_Decode.f k l = some (m, e, at_)) ∨ (∃ m, code_Decode.f k l = some (m, 0, 0) ∧ Enc m = (l, 0) ∧ encs m [] = .ok l ∧ m.length ≤ 1024) := by
  unfold code_Decode.f
  rw [if_pos hb]
  by_cases c : 1024 < l.length
  · rw [if_pos c]; exact .inl ⟨_, 3, _, by decide, rfl⟩
  rw [if_neg c]
  rcases Dec_l0 l hb (by omega) k [] 0 (by omega) (by omega) with ⟨e, at_, h1, h2⟩ | ⟨m, h1, h2, h3⟩
  · exact .inl ⟨_, e, at_, h1, h2⟩
  · rw [List.take_zero] at h2
    refine .inr ⟨m, by rw [h1]; simp, ?_, h2, by omega⟩
    unfold Enc
    rw [h2]
    unfold fin
    simp only [if_neg c]
end Go.Proofs.Ytcjhhlbhfkcboaa.Clean
end

section
/- CodeReads, plain. -/
namespace Go.Proofs.Ytcjhhlbhfkcboaa.Pure
open Go.RowKit Go.Proofs.YtcjhhlbhfkcboaaW.PrintLast Go.Proofs.YtcjhhlbhfkcboaaW.PrintMore
open Go.Proofs.YtcjhhlbhfkcboaaW.PrintWords hiding encs
open Go.Proofs.Ytcjhhlbhfkcboaa.PA Go.Proofs.Ytcjhhlbhfkcboaa.Clean
set_option linter.unusedVariables false
set_option linter.unusedSimpArgs false
theorem SameI_l0 (l : List S32) (hl : l.length ≤ 4398046511104) : ∀ (d j k : Nat), j + d = l.length → d < k → api_Inst.l0 k l l (j : Int) = some true
  | 0, j, k, h, hk => by
    obtain ⟨k, rfl⟩ : ∃ k', k = k' + 1 := ⟨k - 1, by omega⟩
    rw [api_Inst.l0, if_neg (by omega)]
  | d + 1, j, k, h, hk => by
    obtain ⟨k, rfl⟩ : ∃ k', k = k' + 1 := ⟨k - 1, by omega⟩
    rw [api_Inst.l0, if_pos (by omega), if_pos (by omega), if_pos (by omega), if_neg (by simp), w64 _ (by omega) (by omega), show (j : Int) + 1 = ((j + 1 : Nat) : Int) from by simp]
    exact SameI_l0 l hl d (j + 1) k (by omega) (by omega)
theorem SameI_f (l : List S32) (hl : l.length ≤ 4398046511104) (k : Nat) (hk : l.length < k) : api_Inst.f k l l = some true := by
  unfold api_Inst.f
  rw [if_pos rfl]
  exact SameI_l0 l hl l.length 0 k (by omega) (by omega)
theorem SameB_l0 (l : List Int) (hl : l.length ≤ 4398046511104) : ∀ (d j k : Nat), j + d = l.length → d < k → carafebook_Same_byte.l0 k l l (j : Int) = some true
  | 0, j, k, h, hk => by
    obtain ⟨k, rfl⟩ : ∃ k', k = k' + 1 := ⟨k - 1, by omega⟩
    rw [carafebook_Same_byte.l0, if_neg (by omega)]
  | d + 1, j, k, h, hk => by
    obtain ⟨k, rfl⟩ : ∃ k', k = k' + 1 := ⟨k - 1, by omega⟩
    rw [carafebook_Same_byte.l0, if_pos (by omega), if_pos (by omega), if_pos (by omega), if_pos rfl, w64 _ (by omega) (by omega), show (j : Int) + 1 = ((j + 1 : Nat) : Int) from by simp]
    exact SameB_l0 l hl d (j + 1) k (by omega) (by omega)
theorem SameB_f (l : List Int) (hl : l.length ≤ 4398046511104) (k : Nat) (hk : l.length < k) : carafebook_Same_byte.f k l l = some true := by
  unfold carafebook_Same_byte.f
  rw [if_pos rfl]
  exact SameB_l0 l hl l.length 0 k (by omega) (by omega)
theorem Intact_l0 (l : List Int) (m : Int) (hl : l.length ≤ 1100) : ∀ (d j k : Nat), j + d = 80 → d < k → carafebook_Intact_byte.l0 k (l ++ List.replicate 80 m) m ((l.length + j : Nat) : Int) = some true
  | 0, j, k, h, hk => by
    obtain ⟨k, rfl⟩ : ∃ k', k = k' + 1 := ⟨k - 1, by omega⟩
    rw [carafebook_Intact_byte.l0, if_neg (by simp; omega)]
  | d + 1, j, k, h, hk => by
    obtain ⟨k, rfl⟩ : ∃ k', k = k' + 1 := ⟨k - 1, by omega⟩
    have hr : rd (l ++ List.replicate 80 m) ((l.length + j : Nat) : Int) = m := by
      unfold rd
      rw [Int.toNat_natCast, List.getD_eq_getElem?_getD, List.getElem?_append_right (by omega), List.getElem?_replicate, if_pos (by omega)]; rfl
    rw [carafebook_Intact_byte.l0, hr, if_pos (by simp; omega), if_pos (by omega), if_pos rfl, w64 _ (by omega) (by omega), show ((l.length + j : Nat) : Int) + 1 = ((l.length + (j + 1) : Nat) : Int) from by omega]
    exact Intact_l0 l m hl d (j + 1) k (by omega) (by omega)
theorem Intact_f (l : List Int) (m : Int) (hl : l.length ≤ 1100) (k : Nat) (hk : 2000 ≤ k) : carafebook_Intact_byte.f k (l ++ List.replicate 80 m) l m = some true := by
  unfold carafebook_Intact_byte.f
  rw [if_pos (by rw [w64 _ (by omega) (by omega)]; simp), if_pos (by omega), if_pos (by simp; omega), Int.toNat_natCast, List.take_left, SameB_f l (by omega) k (by omega), Option.bind_some]
  obtain ⟨k, rfl⟩ : ∃ k', k = k' + 1 := ⟨k - 1, by omega⟩
  rw [carafebook_Intact_byte.j0, if_neg (by decide)]
  exact Intact_l0 l m hl 80 0 k (by omega) (by omega)
theorem w16_eq (a b : Int) (ha : 0 ≤ a ∧ a < 256) (hb : 0 ≤ b ∧ b < 256) : caraferef5_Decode.w16 a b = s16 (a * 256 + b) := by
  unfold caraferef5_Decode.w16
  rw [or_u16 a b ha.1 ha.2 hb.1 hb.2, wrap_i16, w64 _ (by omega) (by omega)]
  unfold s16; split <;> omega
theorem refinst (l : List Int) (hb : ∀ y ∈ l, 0 ≤ y ∧ y < 256) (i : Nat) (hi : i ≤ 1048576) : caraferef5_Decode.inst l i = code_Decode.inst l i := by
  rw [inst_v (l := l) (i := i) (b0 := rd l i) (b1 := rd l ((i + 1 : Nat) : Int)) (b2 := rd l ((i + 2 : Nat) : Int)) rfl (fun _ => rfl) (fun _ => rfl) (rd_byte hb _) (rd_byte hb _) hi]
  have r1 := rd_byte hb ((i + 1 : Nat) : Int)
  have r2 := rd_byte hb ((i + 2 : Nat) : Int)
  unfold caraferef5_Decode.inst instv caraferef5_Decode.off
  simp only [sz_g, br_ref, sg_ref, w16_eq _ _ r1 r2, i8_eq _ r1.1 r1.2, i8_eq _ r2.1 r2.2, or_i64 _ _ r1.1 (show rd l ((i + 1 : Nat) : Int) < 65536 by omega) r2.1 r2.2]
  generalize rd l ((i + 1 : Nat) : Int) = b1 at r1 ⊢
  generalize rd l ((i + 2 : Nat) : Int) = b2 at r2 ⊢
  generalize rd l (i : Int) = b0
  by_cases c1 : b0 = 132
  · rw [if_pos c1, if_pos c1]
  rw [if_neg c1, if_neg c1]
  by_cases c2 : b0 = 16
  · subst c2
    rw [if_pos g16, if_pos (by simp), if_neg (show ¬br 16 = true by decide +kernel), if_pos rfl]
  rw [if_neg c2]
  by_cases c3 : b0 = 17
  · subst c3
    rw [if_neg (show ¬g 17 = 2 by decide +kernel), if_pos g17, if_pos (by simp), if_neg (show ¬br 17 = true by decide +kernel), if_pos rfl]
  rw [if_neg c3]
  by_cases c4 : br b0 = true
  · have e : wrap64 (s16 (b1 * 256 + b2) + (i : Int)) = i + s16 (b1 * 256 + b2) := by rw [Int.add_comm]; apply w64 <;> unfold s16 <;> split <;> omega
    rw [if_neg (by rw [br_g c4]; decide), if_pos (br_g c4), if_pos (by simp [c4]), if_pos c4, if_pos c4, e]
  rw [if_neg c4]
  have hs : ¬(b0 = 16 ∨ b0 = 17 ∨ br b0 = true) := by simp [c2, c3, c4]
  rw [decide_eq_false hs]
  simp only [Bool.false_eq_true, if_false, if_neg c4]
  rcases g_cases b0 with c | c | c | c <;> rw [c] <;> simp
theorem refl0 (l : List Int) (hb : ∀ y ∈ l, 0 ≤ y ∧ y < 256) (hl : l.length ≤ 1048576) : ∀ (k : Nat) (acc : List S32) (i : Nat), caraferef5_Decode.l0 k l acc i = code_Decode.l0 k l acc i
  | 0, acc, i => rfl
  | k + 1, acc, i => by
    rw [caraferef5_Decode.l0, code_Decode.l0]
    by_cases c0 : i < l.length
    · rw [if_pos c0, if_pos c0, sz_g]
      by_cases c1 : g (rd l i) = 0
      · rw [if_pos c1]; exact (if_pos c1).symm
      rw [if_neg c1, refinst l hb i (by omega), refl0 l hb hl k]
      have c1' : ¬ code_Size.g (rd l i) = 0 := c1
      rw [if_neg c1']
      by_cases c2 : (l.length : Int) < i + g (rd l i)
      · have c2' : (l.length : Int) - i < code_Size.g (rd l i) := by show (l.length : Int) - i < g (rd l i); omega
        rw [if_pos c2, if_pos c2']
      · have c2' : ¬ (l.length : Int) - i < code_Size.g (rd l i) := by show ¬ (l.length : Int) - i < g (rd l i); omega
        rw [if_neg c2, if_neg c2']
    · rw [if_neg c0, if_neg c0]
theorem refDecode (l : List Int) (hb : ∀ y ∈ l, 0 ≤ y ∧ y < 256) (hl : l.length ≤ 1048576) (k : Nat) : caraferef5_Decode.f k l = code_Decode.f k l := by
  unfold caraferef5_Decode.f code_Decode.f
  rw [if_pos hb, if_pos hb, refl0 l hb hl]
theorem reads_g (l : List Int) (hb : ∀ y ∈ l, 0 ≤ y ∧ y < 256) (hl : l.length ≤ 1100) (k : Nat) (hk : 3000 ≤ k) : carafelaw5_CodeReads.g k l = some true := by
  have hR : carafebook_Roomy_byte.f l 165 = some (l ++ List.replicate 80 165) := by unfold carafebook_Roomy_byte.f; rw [if_pos (by omega)]
  have hD : ∃ m e at_, code_Decode.f k l = some (m, e, at_) ∧ m.length ≤ 4398046511104 ∧ m.length < k := by
    unfold code_Decode.f
    rw [if_pos hb]
    by_cases c : 1024 < l.length
    · rw [if_pos c]; exact ⟨_, _, _, rfl, by simp, by simp; omega⟩
    rw [if_neg c]
    rcases Dec_l0 l hb (by omega) k [] 0 (by omega) (by omega) with ⟨e, at_, _, h2⟩ | ⟨m, h1, _, h3⟩
    · exact ⟨_, _, _, h2, by simp, by simp; omega⟩
    · exact ⟨_, _, _, h1, by simp; omega, by simp; omega⟩
  obtain ⟨m, e, at_, h1, h2, h3⟩ := hD
  unfold carafelaw5_CodeReads.g
  rw [hR, Option.bind_some, if_pos (by omega), if_pos (by simp; omega), Int.toNat_natCast, List.take_left, refDecode l hb (by omega), h1, Option.bind_some, Option.bind_some, SameI_f m h2 k h3, Option.bind_some, if_pos rfl, if_pos rfl, if_pos rfl, Intact_f l 165 hl k (by omega), Option.bind_some, if_pos rfl, known_f k (by omega)]
  rfl
theorem CodeReads : carafelaw5_CodeReads.Pure := by
  intro l _ _ hw
  refine ⟨3000, ?_⟩
  rw [carafelaw5_CodeReads.f_eq]
  refine reads_g (l.take 1100) (fun y hy => ?_) (by rw [List.length_take]; omega) 3000 (by omega)
  have := hw y (List.mem_of_mem_take hy)
  simp [Lit.wf, IntKind.min, IntKind.max, IntKind.bits, IntKind.signed] at this
  omega
end Go.Proofs.Ytcjhhlbhfkcboaa.Pure
end

section
-- Written for this claim by a program of our own (myprint).
namespace Go.Proofs.Ytcjhhlbhfkcboaa.codeReads
open Go.ChangeShapes Go.WideShapes Go.ChangeAt Go.RowKit
open Go.ChangeMaps (open_string shut_string)
set_option linter.unusedVariables false
theorem own : ownKnob Try.prog.godebug = none := by kernel_rfl
theorem laidOut : laidOutB Try.prog = true := by kernel_rfl
def IsRow (k : IntKind) (w : World) (a : Option Addr) (len cap : Nat) (zs : List Int) : Prop :=
  (a = none ∧ len = 0 ∧ cap = 0 ∧ zs = []) ∨
  ∃ x, a = some x ∧ len ≤ cap ∧ cap ≤ maxLen ∧ zs.length = cap ∧ (∀ i, i < zs.length → w.cell? (x.add i) = some (.int k (zs.getD i 0))) ∧ ∀ n ∈ zs, (Lit.int k n).wf = true
set_option maxRecDepth 100000 in
theorem lifted (os : Os) (started : os.Started) (H : Type) (enc : TypeId × Value → H) :
    ReturnsInHanded {} Try.checked os 3 .any (Rows.codeReadsSpec.pre6 enc Try.prog Try.f3 Rows.codeReadsRow.domain false) (Rows.codeReadsSpec.post enc Try.prog Try.f3 false true false false) := by
  refine returnsInHanded_of_change_sized (C := Try.checked) own started (by kernel_rfl) Try.func3
    (ChangeSpec.witness6 (enc := enc) (C := Try.checked) false ⟨#[], #[.slice none 0 0], []⟩ 8 (by kernel_rfl) (by kernel_rfl) (by kernel_rfl) (by kernel_rfl)) ?_
  intro W base args ds gs before hval0 hW hcnd hsz0 _
  have hsz : (DataW.weightsEach Try.prog (Try.f3.params.toList ++ Rows.codeReadsSpec.plain.varTypes Try.prog) (ds ++ gs)).all (· ≤ reachBytes) = true := hsz0
  have hval : ∀ (j : Nat) t v, Try.f3.params[j]? = some t → args[j]? = some v → Value.okWide Try.prog W .any base t v := hval0
  have hW' := hW
  obtain ⟨p, q, hA0, hV, rfl, hfz, hnd⟩ := hW
  have hA : DataW.TrodAll enc Try.prog W 0 (fun _ => true) true Try.f3.params.toList args.toList ds p := hA0
  rw [Try.params3] at hA hval hsz
  obtain ⟨v0, vs0, d0, ds0, p0, q0, hargs, rfl, rfl, h0, r0⟩ := trodAll_cons hA
  obtain ⟨rfl, rfl, rfl⟩ := trodAll_nil r0
  obtain rfl : args = #[v0] := by cases args; simp_all
  obtain ⟨rfl, rfl⟩ := trodVars_none hV
  obtain ⟨a0, len0, cap0, rfl⟩ := okWide_slice Try.underlying22 (hval 0 22 v0 rfl rfl)
  have k0 := h0
  have lt0 : ∀ x ∈ p0, x.block < W.heap.size := by obtain ⟨m, hm⟩ := k0; exact DataW.trod_lt m _ _ _ hm
  obtain ⟨z0, w0⟩ : ∃ zs, IsRow .u8 W a0 len0 cap0 zs := by
    obtain ⟨fuel, hf⟩ := h0
    rcases open_ints Try.underlying22 Try.underlying5 (by kernel_rfl) hf with ⟨hcs, _⟩ | ⟨x, l, c, zs, hcs, _, hl, hm, hz, _, hcell, hwz⟩
    · simp [Value.cells] at hcs
      obtain ⟨rfl, rfl, rfl⟩ := hcs
      exact ⟨[], .inl ⟨rfl, rfl, rfl, rfl⟩⟩
    · simp [Value.cells] at hcs
      obtain ⟨rfl, rfl, rfl⟩ := hcs
      exact ⟨zs, .inr ⟨_, rfl, hl, hm, by simpa using hz, hcell, hwz⟩⟩
  have y0 : len0 * 1 ≤ 140737488351232 := Go.Proofs.YtcjhhlbhfkcboaaW.PrintWords.sized_ints hsz (j := 0) (t := 22) rfl rfl Try.underlying22 Try.underlying5 (by kernel_rfl) (by kernel_rfl) h0
  clear hA0 hval0 hsz0 hsz
  refine (PA.carafelaw5_CodeReads.walk Pure.CodeReads a0 len0 cap0 z0 W w0 y0).mono fun e W' ⟨he, bel⟩ => ?_
  subst he
  exact ⟨_, rfl, _, _, _, [], _, [], hW', trodAll_mk1 (shut_bool Try.underlying4 _), (trodAll_cons_mk (Below.trod laidOut (by kernel_rfl) (of_decide_eq_true (by kernel_rfl)) k0 bel lt0) trodAll_mk0), rfl, bel.frame _, fun h => by cases h⟩
theorem over : Rows.codeReadsRow.holds Try.pinned (OpenSpec.ofChange Rows.codeReadsSpec) :=
  OpenClaim.holds_of_wide 3 Try.f3 rfl rfl rfl rfl rfl rfl rfl ⟨rfl, rfl, rfl, rfl, rfl⟩ rfl rfl rfl rfl rfl (by kernel_rfl) Try.func3 (by kernel_rfl)
    (of_decide_eq_true (by kernel_rfl)) (by unfold Func.isWrapper; first | (rw [if_pos (by decide +kernel)]; kernel_rfl) | (rw [if_neg (by decide +kernel)]; exact ⟨rfl, rfl⟩))
    (fun os started H enc _ => lifted os started H enc)
theorem proved : Rows.CodeReadsSaid := over
#print axioms proved
end Go.Proofs.Ytcjhhlbhfkcboaa.codeReads
namespace Go.Proofs.Ytcjhhlbhfkcboaa
/-- The row, under a short name, for the claim. -/
theorem codeReads_holds : Rows.CodeReadsSaid := codeReads.proved
end Go.Proofs.Ytcjhhlbhfkcboaa
end
