/- The document's Encode and Decode are the program's, plain. -/
import Derived.Test.YtcjhhlbhfkcboaaClean
import Derived.Test.YtcjhhlbhfkcboaaPAf16
namespace Go.Proofs.Ytcjhhlbhfkcboaa.Clean
open Go.RowKit Go.Proofs.YtcjhhlbhfkcboaaW.PrintLast Go.Proofs.YtcjhhlbhfkcboaaW.PrintMore
open Go.Proofs.YtcjhhlbhfkcboaaW.PrintWords hiding encs
open Go.Proofs.Ytcjhhlbhfkcboaa.PA
set_option linter.unusedVariables false
set_option linter.unusedSimpArgs false
theorem look_none (op : Int) : ∀ (t : List (Int × ByteArray)), (∀ p ∈ t, p.1 ≠ op) → caraferef5_Name.look t op = (⟨#[]⟩ : ByteArray) := by
  intro t
  induction t with
  | nil => intro _; unfold caraferef5_Name.look; rfl
  | cons p ps ih =>
    intro h
    unfold caraferef5_Name.look
    first
    | (rw [if_neg (h p (List.mem_cons_self ..))]; exact ih (fun q hq => h q (List.mem_cons_of_mem _ hq)))
    | (split
       · exact absurd (by first | assumption | (symm; assumption) | simp_all) (h p (List.mem_cons_self ..))
       · exact ih (fun q hq => h q (List.mem_cons_of_mem _ hq)))
theorem br_ref (op : Int) : caraferef5_Decode.br op = br op := by
  have h1 := caraferef5_Decode.br_some op
  have h2 := br_f op
  unfold caraferef5_Branch.f at h1
  unfold code_Branch.f at h2
  rw [h1] at h2
  exact Option.some.inj h2
def sizes : Bool := (List.range 200).all fun i => caraferef5_Decode.sz (i : Int) == g (i : Int)
theorem sizes_ok : sizes = true := by decide +kernel
theorem table_ops : ∀ p ∈ caraferef5_Name.table, 0 ≤ p.1 ∧ p.1 < 200 := by decide +kernel
theorem sz_g (op : Int) : caraferef5_Decode.sz op = g op := by
  by_cases h : 0 ≤ op ∧ op < 200
  · obtain ⟨i, rfl⟩ := Int.eq_ofNat_of_zero_le h.1
    have := List.all_eq_true.1 sizes_ok i (List.mem_range.2 (by omega))
    exact of_decide_eq_true (by simpa using this)
  · have hg : g op = 0 := by
      by_cases c : g op = 0
      · exact c
      · exact absurd (g_byte c) h
    rw [hg]
    have hn : caraferef5_Name.look caraferef5_Name.table op = (⟨#[]⟩ : ByteArray) := look_none op _ (fun p hp e => h (e ▸ table_ops p hp))
    unfold caraferef5_Decode.sz caraferef5_Size.f
    have hb : ∀ c : Int, 0 ≤ c → c < 200 → (op == c) = false := fun c h0 h1 => beq_eq_false_iff_ne.mpr (by omega)
    rw [if_neg (by omega), if_neg (by omega), if_neg (by omega), if_neg (by omega), if_neg (by omega), if_neg (by omega), hb 188 (by omega) (by omega)]
    rw [show (2 : Nat) = 1 + 1 from rfl, caraferef5_Size.j0, if_neg (by decide), if_neg (by omega), if_neg (by omega), if_neg (by omega), if_neg (by omega), if_neg (by omega), if_neg (by omega), if_neg (by omega), if_neg (by omega), if_neg (by omega), if_neg (by omega), if_neg (by omega), if_neg (by omega)]
    have hbr : caraferef5_Decode.br op = false := by
      cases c : caraferef5_Decode.br op with
      | false => rfl
      | true =>
        rw [br_ref] at c
        have := br_ops c
        omega
    rw [caraferef5_Decode.br_some, hbr]
    simp only [Option.bind_some, caraferef5_Name.f, hn]
    decide +kernel
theorem sg_ref (op : Int) : caraferef5_Decode.sg op = decide (op = 16 ∨ op = 17 ∨ br op = true) := by
  have h1 := caraferef5_Decode.sg_some op
  unfold caraferef5_signed.f at h1
  rw [caraferef5_Decode.br_some, br_ref] at h1
  by_cases c1 : op = 16
  · rw [if_pos c1] at h1; rw [← Option.some.inj h1]; simp [c1]
  by_cases c2 : op = 17
  · rw [if_neg c1, if_pos c2] at h1; rw [← Option.some.inj h1]; simp [c2]
  rw [if_neg c1, if_neg c2] at h1
  rw [← Option.some.inj h1]; simp [c1, c2]
theorem one_ref {x : S32} (hg : g x.f1 ≠ 0) (h0 : 0 ≤ x.f0) (h1 : x.f0 ≤ 140737488355328) (hw : -9223372036854775808 ≤ x.f2 ∧ x.f2 ≤ 9223372036854775807) (hfar : x.f0 ≤ 1000000) : ∃ bo, caraferef5_one.f x.f0 x.f1 x.f2 x.f3 = some bo ∧ (match enc1 x with | none => bo.2 = false | some b => bo.2 = true ∧ bo.1 = b) := by
  have hop := g_byte hg
  obtain ⟨f0, f1, f2, f3⟩ := x
  simp only at hg h0 h1 hop hw hfar ⊢
  have hm : f1 % 256 = f1 := by omega
  unfold caraferef5_one.f enc1
  simp only [sz_g, br_ref, sg_ref]
  by_cases c1 : f1 = 132
  · subst c1
    rw [if_pos rfl, if_pos rfl]
    refine ⟨_, rfl, ?_⟩
    by_cases d : (0 ≤ f2 ∧ f2 ≤ 255) ∧ -128 ≤ f3 ∧ f3 ≤ 127
    · rw [if_pos d]; refine ⟨decide_eq_true d, ?_⟩
      show [(132 : Int), f2 % 256, f3 % 256] = _
      rw [show f2 % 256 = f2 from by omega]
    · rw [if_neg d]; exact decide_eq_false d
  rw [if_neg c1, if_neg c1]
  by_cases c2 : f1 = 16
  · subst c2
    rw [if_neg (show ¬br 16 = true by decide +kernel), if_neg (show ¬g 16 = 1 by decide +kernel), if_pos g16, if_pos rfl, if_pos (by simp)]
    refine ⟨_, rfl, ?_⟩
    by_cases d : f3 = 0 ∧ -128 ≤ f2 ∧ f2 ≤ 127
    · rw [if_pos d]; exact ⟨decide_eq_true d, rfl⟩
    · rw [if_neg d]; exact decide_eq_false d
  rw [if_neg c2]
  by_cases c3 : f1 = 17
  · subst c3
    rw [if_neg (show ¬br 17 = true by decide +kernel), if_neg (show ¬g 17 = 1 by decide +kernel), if_neg (show ¬g 17 = 2 by decide +kernel), if_pos g17, if_pos rfl, if_pos (by simp)]
    refine ⟨_, rfl, ?_⟩
    by_cases d : f3 = 0 ∧ -32768 ≤ f2 ∧ f2 ≤ 32767
    · rw [if_pos d]; exact ⟨decide_eq_true d, rfl⟩
    · rw [if_neg d]; exact decide_eq_false d
  rw [if_neg c3]
  by_cases c4 : br f1 = true
  · rw [if_pos c4, if_pos c4]
    by_cases d0 : -1048576 ≤ f2 ∧ f2 ≤ 1048576
    · rw [if_pos d0, w64 (f2 - f0) (by omega) (by omega)]
      refine ⟨_, rfl, ?_⟩
      by_cases d : f3 = 0 ∧ f0 - 32768 ≤ f2 ∧ f2 ≤ f0 + 32767
      · rw [if_pos d]; exact ⟨decide_eq_true (by omega), by show [f1 % 256, _, _] = _; rw [hm]⟩
      · rw [if_neg d]; exact decide_eq_false (by omega)
    · rw [if_neg d0, if_neg (by omega)]; exact ⟨_, rfl, rfl⟩
  rw [if_neg c4, if_neg c4]
  have hs : ¬(f1 = 16 ∨ f1 = 17 ∨ br f1 = true) := by simp [c2, c3, c4]
  rw [decide_eq_false hs]
  simp only [Bool.false_eq_true, if_false]
  rcases g_cases f1 with c | c | c | c
  · exact absurd c hg
  · rw [if_pos c, if_neg (by omega), if_neg (by omega)]
    refine ⟨_, rfl, ?_⟩
    by_cases d : f3 = 0 ∧ f2 = 0
    · rw [if_pos d]; exact ⟨decide_eq_true d, by show [f1 % 256] = _; rw [hm]⟩
    · rw [if_neg d]; exact decide_eq_false d
  · rw [if_neg (by omega), if_pos c, if_neg (by omega), if_pos c]
    refine ⟨_, rfl, ?_⟩
    by_cases d : f3 = 0 ∧ 0 ≤ f2 ∧ f2 ≤ 255
    · rw [if_pos d]; exact ⟨decide_eq_true d, by show [f1 % 256, f2 % 256] = _; rw [hm, show f2 % 256 = f2 from by omega]⟩
    · rw [if_neg d]; exact decide_eq_false d
  · rw [if_neg (by omega), if_neg (by omega), if_pos c, if_pos c]
    refine ⟨_, rfl, ?_⟩
    by_cases d : f3 = 0 ∧ 0 ≤ f2 ∧ f2 ≤ 65535
    · rw [if_pos d]; exact ⟨decide_eq_true d, by show [f1 % 256, f2 / 256 % 256, f2 % 256] = _; rw [hm, show f2 / 256 % 256 = f2 / 256 from by omega]⟩
    · rw [if_neg d]; exact decide_eq_false d
theorem Size_ref (k : Nat) (hk : 2 ≤ k) (op : Int) : caraferef5_Size.f k op = some (g op) := by
  have h2 := (caraferef5_Decode.size_some op).1
  rw [sz_g] at h2
  induction k with
  | zero => omega
  | succ n ih =>
    by_cases hc : n + 1 = 2
    · rw [hc]; exact h2
    · exact caraferef5_Size.mono op n _ (ih (by omega))
theorem Encode_ref_l0 : ∀ (xs pre : List S32) (out : List Int) (k : Nat), xs.length + 2 < k → (out.length : Int) ≤ 3 * pre.length → (pre ++ xs).length ≤ 300000 → (∀ x ∈ xs, -9223372036854775808 ≤ x.f2 ∧ x.f2 ≤ 9223372036854775807) → caraferef5_Encode.l0 k (pre ++ xs) out (pre.length : Int) = some (fin (encs xs out))
  | [], pre, out, k, hk, ho, hl, hw => by
    obtain ⟨k, rfl⟩ : ∃ k', k = k' + 1 := ⟨k - 1, by simp at hk; omega⟩
    rw [caraferef5_Encode.l0, if_neg (by simp)]
    unfold encs fin
    by_cases h : 1024 < out.length
    · rw [if_pos (by omega)]; simp only [if_pos h]
    · rw [if_neg (by omega)]; simp only [if_neg h]
  | x :: xs, pre, out, k, hk, ho, hl, hw => by
    obtain ⟨k, rfl⟩ : ∃ k', k = k' + 1 := ⟨k - 1, by simp at hk; omega⟩
    have hrd : rd_T32 (pre ++ x :: xs) (pre.length : Int) = x := by
      unfold rd_T32
      rw [Int.toNat_natCast, List.getD_eq_getElem?_getD, List.getElem?_append_right (by omega)]; simp
    have hl' := hl
    simp only [List.length_append, List.length_cons] at hl'
    rw [caraferef5_Encode.l0, hrd, if_pos (by simp; omega), if_pos (by omega)]
    unfold encs
    rw [Size_ref k (by simp at hk; omega)]
    simp only [Option.bind_some]
    by_cases hg : g x.f1 = 0
    · rw [if_pos hg, if_pos hg]; rfl
    rw [if_neg hg, if_neg hg]
    by_cases hat : x.f0 = (out.length : Int)
    rotate_left
    · rw [if_neg hat, if_pos hat]; rfl
    rw [if_pos hat, if_neg (by simp [hat])]
    obtain ⟨bo, e, hb⟩ := one_ref (x := x) hg (by omega) (by omega) (hw x (List.mem_cons_self ..)) (by omega)
    rw [e]
    simp only [Option.bind_some]
    cases e1 : enc1 x with
    | none =>
      rw [e1] at hb
      simp only at hb
      rw [if_neg (by rw [hb]; decide)]; rfl
    | some b =>
      rw [e1] at hb
      obtain ⟨h2, rfl⟩ := hb
      rw [if_pos h2]
      have hlb := (enc1_len hg e1).1
      have hgc := g_cases x.f1
      have hap : pre ++ x :: xs = (pre ++ [x]) ++ xs := by simp
      rw [if_pos (by omega), w64 _ (by omega) (by omega), hap, show (pre.length : Int) + 1 = ((pre ++ [x]).length : Int) from by simp]
      exact Encode_ref_l0 xs (pre ++ [x]) (out ++ bo.1) k (by simp at hk; omega) (by simp only [List.length_append, List.length_singleton]; omega) (by rw [← hap]; exact hl) (fun y hy => hw y (List.mem_cons_of_mem _ hy))
theorem Encode_ref {l : List S32} (hl : l.length ≤ 300000) (hw : ∀ x ∈ l, -9223372036854775808 ≤ x.f2 ∧ x.f2 ≤ 9223372036854775807) (k : Nat) (hk : l.length + 2 < k) : caraferef5_Encode.f k l = some (Enc l) := by
  unfold caraferef5_Encode.f Enc
  exact Encode_ref_l0 l [] [] k hk (by simp) hl hw
end Go.Proofs.Ytcjhhlbhfkcboaa.Clean
