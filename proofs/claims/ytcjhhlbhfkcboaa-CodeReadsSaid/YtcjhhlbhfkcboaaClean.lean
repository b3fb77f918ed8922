/- The plain law of chapter 5: instructions written and read, with no program in sight. -/
import Derived.Laws.BitsAllLaws
import Derived.Laws.BitsLemmas
import Derived.Lib.EndianBits
import Derived.Test.YtcjhhlbhfkcboaaPAf10
import Derived.Test.YtcjhhlbhfkcboaaPAf14
import Derived.Test.YtcjhhlbhfkcboaaPAf15
namespace Go.Proofs.Ytcjhhlbhfkcboaa.Clean
open Go.RowKit Go.Proofs.YtcjhhlbhfkcboaaW.PrintWords Go.Proofs.YtcjhhlbhfkcboaaW.PrintLast Go.Proofs.YtcjhhlbhfkcboaaW.PrintMore
open Go.Proofs.Ytcjhhlbhfkcboaa.PA
set_option linter.unusedVariables false
set_option linter.unusedSimpArgs false

theorem up {α : Type} {f : Nat → Option α} (h : ∀ k, LeO (f k) (f (k + 1))) {k k' : Nat} {r : α} (hk : k ≤ k') (e : f k = some r) : f k' = some r := by
  induction k' with
  | zero => obtain rfl : k = 0 := by omega
            exact e
  | succ n ih =>
    by_cases hc : k ≤ n
    · exact h n r (ih hc)
    · obtain rfl : k = n + 1 := by omega
      exact e
theorem known_f (k : Nat) (hk : 10 ≤ k) : carafelaw5_known.f k = some true :=
  up (fun k => carafelaw5_known.mono k) hk (by decide +kernel)
theorem wrap_i16 (n : Int) : IntKind.i16.wrap n = (n + 32768) % 65536 - 32768 := by
  simp [IntKind.wrap, IntKind.bits, IntKind.signed]; omega
theorem wrap_i8 (n : Int) : IntKind.i8.wrap n = (n + 128) % 256 - 128 := by
  simp [IntKind.wrap, IntKind.bits, IntKind.signed]; omega
theorem or_nat (a b : Nat) (hb : b < 256) : (a * 256) ||| b = a * 256 + b := by
  have := Nat.two_pow_add_eq_or_of_lt (i := 8) (b := b) (by omega) a
  rw [Nat.mul_comm, show (256 : Nat) = 2 ^ 8 from rfl, ← this]
theorem or_i16 (x : Int) (a b : Nat) (ha : a < 256) (hb : b < 256) (hx : x % 65536 = a * 256) : Go.bits .or .i16 x b = IntKind.i16.wrap ((a * 256 + b : Nat) : Int) := by
  show IntKind.i16.wrap ((BitVec.ofInt 16 x ||| BitVec.ofInt 16 (b : Int)).toNat : Int) = _
  rw [BitVec.toNat_or, BitVec.toNat_ofInt, BitVec.toNat_ofInt, show (x % ((2 ^ 16 : Nat) : Int)).toNat = a * 256 from by omega, show (((b : Int) % ((2 ^ 16 : Nat) : Int)).toNat = b) from by omega, or_nat a b hb]
theorem or_u16 (a b : Int) (ha : 0 ≤ a) (ha1 : a < 256) (hb : 0 ≤ b) (hb1 : b < 256) : Go.bits .or .u16 (a * 256) b = a * 256 + b :=
  bits_join .u16 16 (by decide) wraps_u16 8 (a * 256) b (by omega) (by omega) (by omega) hb (by omega) (by omega)
theorem or_i64 (a b : Int) (ha : 0 ≤ a) (ha1 : a < 65536) (hb : 0 ≤ b) (hb1 : b < 256) : Go.bits .or .i64 (a * 256) b = a * 256 + b :=
  bits_join .i64 63 (by decide) (fun n h0 h1 => by rw [IntKind.wrap_i64]; omega) 8 (a * 256) b (by omega) (by omega) (by omega) hb (by omega) (by omega)
theorem and_255 (n : Int) : Go.bits .and .i64 n 255 = n % 256 := by
  have h127 : (BitVec.ofInt 64 255).toNat = 2 ^ 8 - 1 := by decide
  have key : (BitVec.ofInt 64 n &&& BitVec.ofInt 64 255).toNat = (n % ((2 ^ 64 : Nat) : Int)).toNat % 2 ^ 8 := by
    rw [BitVec.toNat_and, BitVec.toNat_ofInt, h127, Nat.and_two_pow_sub_one_eq_mod]
  show IntKind.i64.wrap ((BitVec.ofInt 64 n &&& BitVec.ofInt 64 255).toNat : Nat) = n % 256
  rw [key, IntKind.wrap_i64]
  omega
theorem w64 (n : Int) (h0 : -9223372036854775808 ≤ n) (h1 : n ≤ 9223372036854775807) : wrap64 n = n := by unfold wrap64; omega
def s8 (n : Int) : Int := if n < 128 then n else n - 256
def s16 (n : Int) : Int := if n < 32768 then n else n - 65536
theorem sgn_eq (a b : Int) (ha : 0 ≤ a) (ha1 : a < 256) (hb : 0 ≤ b) (hb1 : b < 256) : code_Decode.sgn a b = s16 (a * 256 + b) := by
  obtain ⟨a, rfl⟩ := Int.eq_ofNat_of_zero_le ha
  obtain ⟨b, rfl⟩ := Int.eq_ofNat_of_zero_le hb
  unfold code_Decode.sgn
  rw [show IntKind.i16.wrap ((b : Nat) : Int) = (b : Int) from by rw [wrap_i16]; omega, or_i16 _ a b (by omega) (by omega) (by simp only [wrap_i16]; omega), wrap_i16, w64 _ (by omega) (by omega)]
  unfold s16
  split <;> omega
theorem i8_eq (a : Int) (ha : 0 ≤ a) (ha1 : a < 256) : wrap64 (IntKind.i8.wrap a) = s8 a := by
  rw [wrap_i8, w64 _ (by omega) (by omega)]; unfold s8; split <;> omega

abbrev g := code_Size.g
abbrev br := code_Decode.br
theorem br_f (op : Int) : code_Branch.f op = some (br op) := by
  unfold br code_Decode.br code_Branch.f
  repeat' split
  all_goals rfl
/-- The bytes of an instruction that stands where it says. -/
def enc1 (x : S32) : Option (List Int) :=
  if x.f1 = 132 then (if (0 ≤ x.f2 ∧ x.f2 ≤ 255) ∧ -128 ≤ x.f3 ∧ x.f3 ≤ 127 then some [132, x.f2, x.f3 % 256] else none)
  else if x.f1 = 16 then (if x.f3 = 0 ∧ -128 ≤ x.f2 ∧ x.f2 ≤ 127 then some [16, x.f2 % 256] else none)
  else if x.f1 = 17 then (if x.f3 = 0 ∧ -32768 ≤ x.f2 ∧ x.f2 ≤ 32767 then some [17, x.f2 / 256 % 256, x.f2 % 256] else none)
  else if br x.f1 = true then (if x.f3 = 0 ∧ x.f0 - 32768 ≤ x.f2 ∧ x.f2 ≤ x.f0 + 32767 then some [x.f1, (x.f2 - x.f0) / 256 % 256, (x.f2 - x.f0) % 256] else none)
  else if g x.f1 = 3 then (if x.f3 = 0 ∧ 0 ≤ x.f2 ∧ x.f2 ≤ 65535 then some [x.f1, x.f2 / 256, x.f2 % 256] else none)
  else if g x.f1 = 2 then (if x.f3 = 0 ∧ 0 ≤ x.f2 ∧ x.f2 ≤ 255 then some [x.f1, x.f2] else none)
  else (if x.f3 = 0 ∧ x.f2 = 0 then some [x.f1] else none)
def encs : List S32 → List Int → Except Int (List Int)
  | [], out => .ok out
  | x :: xs, out => if g x.f1 = 0 then .error 15 else if x.f0 ≠ (out.length : Int) then .error 16 else
    match enc1 x with
    | none => .error 1
    | some b => encs xs (out ++ b)
def fin : Except Int (List Int) → List Int × Int
  | .error e => ([], e)
  | .ok out => if 1024 < out.length then ([], 3) else (out, 0)
def Enc (l : List S32) : List Int × Int := fin (encs l [])

theorem g_cases (op : Int) : g op = 0 ∨ g op = 1 ∨ g op = 2 ∨ g op = 3 := by
  unfold g code_Size.g; repeat' split
  all_goals simp
theorem g_byte {op : Int} (h : g op ≠ 0) : 0 ≤ op ∧ op < 200 := by
  have : op ∈ code_Size.L3 ∨ op ∈ code_Size.L2 ∨ op ∈ code_Size.L1 := by
    unfold g code_Size.g at h
    repeat' split at h
    all_goals simp_all
  rcases this with h | h | h <;> simp only [code_Size.L1, code_Size.L2, code_Size.L3, List.mem_cons, List.not_mem_nil, or_false] at h <;> omega
theorem br_ops {op : Int} (h : br op = true) : op = 198 ∨ op = 199 ∨ op = 153 ∨ op = 154 ∨ op = 155 ∨ op = 156 ∨ op = 157 ∨ op = 158 ∨ op = 159 ∨ op = 160 ∨ op = 161 ∨ op = 162 ∨ op = 163 ∨ op = 164 ∨ op = 165 ∨ op = 166 ∨ op = 167 := by
  have : op = 198 ∨ op = 199 ∨ (153 ≤ op ∧ op ≤ 167) := by
    unfold br code_Decode.br code_Branch.f at h
    repeat' split at h
    all_goals (simp at h; try omega)
  omega
theorem br_g {op : Int} (h : br op = true) : g op = 3 := by
  rcases br_ops h with rfl | rfl | rfl | rfl | rfl | rfl | rfl | rfl | rfl | rfl | rfl | rfl | rfl | rfl | rfl | rfl | rfl <;> decide +kernel
theorem g16 : g 16 = 2 := by decide +kernel
theorem g17 : g 17 = 3 := by decide +kernel
theorem g132 : g 132 = 3 := by decide +kernel

theorem enc1_len {x : S32} {b : List Int} (hg : g x.f1 ≠ 0) (h : enc1 x = some b) : (b.length : Int) = g x.f1 ∧ ∀ y ∈ b, 0 ≤ y ∧ y < 256 := by
  have hop := g_byte hg
  unfold enc1 at h
  by_cases c1 : x.f1 = 132
  · rw [if_pos c1] at h
    split at h
    · obtain rfl := Option.some.inj h
      rw [c1, g132]
      refine ⟨rfl, fun y hy => ?_⟩
      simp only [List.mem_cons, List.not_mem_nil, or_false] at hy
      omega
    · cases h
  rw [if_neg c1] at h
  by_cases c2 : x.f1 = 16
  · rw [if_pos c2] at h
    split at h
    · obtain rfl := Option.some.inj h
      rw [c2, g16]
      refine ⟨rfl, fun y hy => ?_⟩
      simp only [List.mem_cons, List.not_mem_nil, or_false] at hy
      omega
    · cases h
  rw [if_neg c2] at h
  by_cases c3 : x.f1 = 17
  · rw [if_pos c3] at h
    split at h
    · obtain rfl := Option.some.inj h
      rw [c3, g17]
      refine ⟨rfl, fun y hy => ?_⟩
      simp only [List.mem_cons, List.not_mem_nil, or_false] at hy
      omega
    · cases h
  rw [if_neg c3] at h
  by_cases c4 : br x.f1 = true
  · rw [if_pos c4] at h
    split at h
    · obtain rfl := Option.some.inj h
      rw [br_g c4]
      refine ⟨rfl, fun y hy => ?_⟩
      simp only [List.mem_cons, List.not_mem_nil, or_false] at hy
      omega
    · cases h
  rw [if_neg c4] at h
  by_cases c5 : g x.f1 = 3
  · rw [if_pos c5] at h
    split at h
    · obtain rfl := Option.some.inj h
      refine ⟨by rw [c5]; rfl, fun y hy => ?_⟩
      simp only [List.mem_cons, List.not_mem_nil, or_false] at hy
      omega
    · cases h
  rw [if_neg c5] at h
  by_cases c6 : g x.f1 = 2
  · rw [if_pos c6] at h
    split at h
    · obtain rfl := Option.some.inj h
      refine ⟨by rw [c6]; rfl, fun y hy => ?_⟩
      simp only [List.mem_cons, List.not_mem_nil, or_false] at hy
      omega
    · cases h
  rw [if_neg c6] at h
  split at h
  · obtain rfl := Option.some.inj h
    refine ⟨by have := g_cases x.f1; simp only [List.length_cons, List.length_nil]; omega, fun y hy => ?_⟩
    simp only [List.mem_cons, List.not_mem_nil, or_false] at hy
    omega
  · cases h
theorem enc1_head {x : S32} {b : List Int} (hg : g x.f1 ≠ 0) (h : enc1 x = some b) : b.head? = some x.f1 := by
  unfold enc1 at h
  repeat' split at h
  all_goals (first | (obtain rfl := Option.some.inj h; first | rfl | (rw [List.head?_cons]; congr 1; omega)) | cases h)

/-! ### what is written is read -/
theorem rd_app {out b rest : List Int} (j : Nat) (hj : j < b.length) : rd (out ++ b ++ rest) ((out.length + j : Nat) : Int) = b.getD j 0 := by
  unfold rd
  rw [Int.toNat_natCast, List.getD_eq_getElem?_getD, List.getD_eq_getElem?_getD, List.append_assoc, List.getElem?_append_right (by omega), List.getElem?_append_left (by omega)]
  congr 2; omega
def instv (i : Nat) (b0 b1 b2 : Int) : S32 :=
  if b0 = 132 then ⟨i, b0, b1, s8 b2⟩ else
  if b0 = 16 then ⟨i, b0, s8 b1, 0⟩ else
  if b0 = 17 then ⟨i, b0, s16 (b1 * 256 + b2), 0⟩ else
  if br b0 = true then ⟨i, b0, i + s16 (b1 * 256 + b2), 0⟩ else
  if g b0 = 3 then ⟨i, b0, b1 * 256 + b2, 0⟩ else
  if g b0 = 2 then ⟨i, b0, b1, 0⟩ else ⟨i, b0, 0, 0⟩
theorem inst_v {l : List Int} {i : Nat} {b0 b1 b2 : Int} (h0 : rd l i = b0) (h1 : 1 < g b0 → rd l ((i + 1 : Nat) : Int) = b1) (h2 : 2 < g b0 → rd l ((i + 2 : Nat) : Int) = b2) (r1 : 0 ≤ b1 ∧ b1 < 256) (r2 : 0 ≤ b2 ∧ b2 < 256) (hi : i ≤ 1048576) :
    code_Decode.inst l i = instv i b0 b1 b2 := by
  unfold code_Decode.inst instv
  simp only [h0]
  by_cases c1 : b0 = 132
  · rw [if_pos c1, if_pos c1, h1 (by rw [c1, g132]; decide), h2 (by rw [c1, g132]; decide), i8_eq _ r2.1 r2.2]
  rw [if_neg c1, if_neg c1]
  by_cases c2 : b0 = 16
  · rw [if_pos c2, if_pos c2, h1 (by rw [c2, g16]; decide), i8_eq _ r1.1 r1.2]
  rw [if_neg c2, if_neg c2]
  by_cases c3 : b0 = 17
  · rw [if_pos c3, if_pos c3, h1 (by rw [c3, g17]; decide), h2 (by rw [c3, g17]; decide), sgn_eq _ _ r1.1 r1.2 r2.1 r2.2]
  rw [if_neg c3, if_neg c3]
  by_cases c4 : br b0 = true
  · rw [if_pos c4, if_pos c4, h1 (by rw [br_g c4]; decide), h2 (by rw [br_g c4]; decide), sgn_eq _ _ r1.1 r1.2 r2.1 r2.2]
    have : wrap64 ((i : Int) + s16 (b1 * 256 + b2)) = i + s16 (b1 * 256 + b2) := by apply w64 <;> unfold s16 <;> split <;> omega
    rw [this]
  rw [if_neg c4, if_neg c4]
  by_cases c5 : code_Size.g b0 = 3
  · rw [if_pos c5, if_pos c5, h1 (by show 1 < code_Size.g b0; rw [c5]; decide), h2 (by show 2 < code_Size.g b0; rw [c5]; decide), or_i64 _ _ r1.1 (by omega) r2.1 r2.2]
  rw [if_neg c5, if_neg c5]
  by_cases c6 : code_Size.g b0 = 2
  · rw [if_pos c6, if_pos c6, h1 (by show 1 < code_Size.g b0; rw [c6]; decide)]
  rw [if_neg c6, if_neg c6]
theorem instv_enc {f0 f1 f2 f3 : Int} {b : List Int} {i : Nat} (hg : g f1 ≠ 0) (hat : f0 = (i : Int)) (h : enc1 ⟨f0, f1, f2, f3⟩ = some b) : instv i f1 (b.getD 1 0) (b.getD 2 0) = ⟨f0, f1, f2, f3⟩ := by
  subst hat
  unfold enc1 at h
  unfold instv
  simp only at h
  by_cases c1 : f1 = 132
  · rw [if_pos c1] at h ⊢
    split at h
    · obtain rfl := Option.some.inj h
      simp only [List.getD_cons_zero, List.getD_cons_succ, S32.mk.injEq, true_and]
      unfold s8; split <;> omega
    · cases h
  rw [if_neg c1] at h ⊢
  by_cases c2 : f1 = 16
  · rw [if_pos c2] at h ⊢
    split at h
    · obtain rfl := Option.some.inj h
      simp only [List.getD_cons_zero, List.getD_cons_succ, S32.mk.injEq, true_and]
      unfold s8; refine ⟨?_, by omega⟩; split <;> omega
    · cases h
  rw [if_neg c2] at h ⊢
  by_cases c3 : f1 = 17
  · rw [if_pos c3] at h ⊢
    split at h
    · obtain rfl := Option.some.inj h
      simp only [List.getD_cons_zero, List.getD_cons_succ, S32.mk.injEq, true_and]
      unfold s16; refine ⟨?_, by omega⟩; split <;> omega
    · cases h
  rw [if_neg c3] at h ⊢
  by_cases c4 : br f1 = true
  · rw [if_pos c4] at h ⊢
    split at h
    · obtain rfl := Option.some.inj h
      simp only [List.getD_cons_zero, List.getD_cons_succ, S32.mk.injEq, true_and]
      unfold s16; refine ⟨?_, by omega⟩; split <;> omega
    · cases h
  rw [if_neg c4] at h ⊢
  by_cases c5 : g f1 = 3
  · rw [if_pos c5] at h ⊢
    split at h
    · obtain rfl := Option.some.inj h
      simp only [List.getD_cons_zero, List.getD_cons_succ, S32.mk.injEq, true_and]
      refine ⟨?_, by omega⟩; omega
    · cases h
  rw [if_neg c5] at h ⊢
  by_cases c6 : g f1 = 2
  · rw [if_pos c6] at h ⊢
    split at h
    · obtain rfl := Option.some.inj h
      simp only [List.getD_cons_zero, List.getD_cons_succ, S32.mk.injEq, true_and]
      omega
    · cases h
  rw [if_neg c6] at h ⊢
  split at h
  · simp only [S32.mk.injEq, true_and]; omega
  · cases h
theorem getD_byte {b : List Int} (h : ∀ y ∈ b, 0 ≤ y ∧ y < 256) (j : Nat) : 0 ≤ b.getD j 0 ∧ b.getD j 0 < 256 := by
  rw [List.getD_eq_getElem?_getD]
  cases e : b[j]? with
  | none => simp
  | some y => exact h y (List.mem_of_getElem? e)
theorem getD_head {b : List Int} {y : Int} (h : b.head? = some y) : b.getD 0 0 = y := by
  cases b with
  | nil => cases h
  | cons x xs => simpa using h
/-- One round of Decode at bytes that were written. -/
theorem dec_round {x : S32} {out b rest : List Int} {acc : List S32} {k : Nat} (hg : g x.f1 ≠ 0) (hat : x.f0 = (out.length : Int)) (hlen : out.length ≤ 1048576) (h : enc1 x = some b) :
    code_Decode.l0 (k + 1) (out ++ b ++ rest) acc out.length = code_Decode.l0 k (out ++ b ++ rest) (acc ++ [x]) (out ++ b).length := by
  obtain ⟨hl, hbytes⟩ := enc1_len hg h
  have hh := getD_head (enc1_head hg h)
  have hgc := g_cases x.f1
  have h0 : rd (out ++ b ++ rest) (out.length : Int) = x.f1 := by
    have := rd_app (out := out) (b := b) (rest := rest) 0 (by omega)
    rw [hh] at this; simpa using this
  have hi : code_Decode.inst (out ++ b ++ rest) out.length = x := by
    rw [inst_v (b1 := b.getD 1 0) (b2 := b.getD 2 0) h0 (fun hq => rd_app 1 (by omega)) (fun hq => rd_app 2 (by omega)) (getD_byte hbytes 1) (getD_byte hbytes 2) hlen]
    exact instv_enc hg hat h
  rw [code_Decode.l0, h0, if_pos (by simp only [List.length_append]; omega), if_neg hg, if_neg (by show ¬((((out ++ b ++ rest).length : Nat) : Int) - out.length < g x.f1); simp only [List.length_append]; omega), hi, List.length_append, show (code_Size.g x.f1).toNat = b.length from by show (g x.f1).toNat = _; omega]
theorem encs_grow : ∀ (xs : List S32) (out out' : List Int), encs xs out = .ok out' → ∃ b, out' = out ++ b ∧ ((∀ y ∈ out, 0 ≤ y ∧ y < 256) → ∀ y ∈ out', 0 ≤ y ∧ y < 256)
  | [], out, out', h => ⟨[], by unfold encs at h; cases h; simp, by unfold encs at h; cases h; exact id⟩
  | x :: xs, out, out', h => by
    unfold encs at h
    by_cases hg : g x.f1 = 0
    · rw [if_pos hg] at h; cases h
    rw [if_neg hg] at h
    split at h
    · cases h
    split at h
    · cases h
    · next b e =>
      obtain ⟨b', h1, h2⟩ := encs_grow xs (out ++ b) out' h
      refine ⟨b ++ b', by rw [h1, List.append_assoc], fun ho => h2 fun y hy => ?_⟩
      rcases List.mem_append.1 hy with hy | hy
      · exact ho y hy
      · exact (enc1_len hg e).2 y hy
/-- What is written is read. -/
theorem dec_encs : ∀ (xs : List S32) (out out' : List Int) (acc : List S32) (k : Nat), encs xs out = .ok out' → out'.length ≤ 1048576 → xs.length < k → code_Decode.l0 k out' acc out.length = some (acc ++ xs, 0, 0)
  | [], out, out', acc, k, h, hl, hk => by
    unfold encs at h; cases h
    obtain ⟨k, rfl⟩ : ∃ k', k = k' + 1 := ⟨k - 1, by have : 0 < k := hk; omega⟩
    rw [code_Decode.l0, if_neg (by omega), List.append_nil]
  | x :: xs, out, out', acc, k, h, hl, hk => by
    obtain ⟨k, rfl⟩ : ∃ k', k = k' + 1 := ⟨k - 1, by have : 0 < k := by simp at hk; omega
                                                     omega⟩
    unfold encs at h
    by_cases hg : g x.f1 = 0
    · rw [if_pos hg] at h; cases h
    rw [if_neg hg] at h
    by_cases hat : x.f0 = (out.length : Int)
    · rw [if_neg (by simp [hat])] at h
      split at h
      · cases h
      · next b e =>
        obtain ⟨rest, h1, _⟩ := encs_grow xs (out ++ b) out' h
        have ih := dec_encs xs (out ++ b) out' (acc ++ [x]) k h hl (by simp at hk; omega)
        subst h1
        rw [dec_round hg hat (by simp only [List.length_append] at hl; omega) e, ih]
        simp
    · rw [if_pos hat] at h; cases h
theorem encs_err : ∀ (xs : List S32) (out : List Int) (e : Int), encs xs out = .error e → e = 15 ∨ e = 16 ∨ e = 1
  | [], out, e, h => by unfold encs at h; cases h
  | x :: xs, out, e, h => by
    unfold encs at h
    split at h
    · cases h; exact .inl rfl
    split at h
    · cases h; exact .inr (.inl rfl)
    split at h
    · cases h; exact .inr (.inr rfl)
    · exact encs_err xs _ e h
theorem Enc_ok {l : List S32} {b : List Int} (h : Enc l = (b, 0)) : encs l [] = .ok b ∧ b.length ≤ 1024 ∧ ∀ y ∈ b, 0 ≤ y ∧ y < 256 := by
  unfold Enc at h
  cases e : encs l [] with
  | error x =>
    rw [e] at h
    have := encs_err _ _ _ e
    have h2 : x = 0 := congrArg Prod.snd h
    omega
  | ok out =>
    rw [e] at h
    unfold fin at h
    by_cases hc : 1024 < out.length
    · simp only [if_pos hc] at h
      cases h
    · simp only [if_neg hc] at h
      obtain rfl : out = b := congrArg Prod.fst h
      obtain ⟨_, rfl, hb⟩ := encs_grow _ _ _ e
      exact ⟨rfl, by omega, hb (by simp)⟩
theorem Dec_Enc {l : List S32} {b : List Int} (h : Enc l = (b, 0)) (k : Nat) (hk : l.length < k) : code_Decode.f k b = some (l, 0, 0) := by
  obtain ⟨e, hl, hb⟩ := Enc_ok h
  unfold code_Decode.f
  rw [if_pos hb, if_neg (by omega), show (0 : Nat) = ([] : List Int).length from rfl, dec_encs l [] b [] k e (by omega) hk]
  rfl
/-! ### code.Encode is Enc -/
theorem within_f (n lo hi : Int) : code_within.f n lo hi = some (decide (lo ≤ n ∧ n ≤ hi)) := by
  unfold code_within.f
  by_cases h : n ≥ lo
  · rw [if_pos h]; congr 1; simp [h]
  · rw [if_neg h]; congr 1; simp; omega
theorem Size_f (n : Int) : code_Size.f n = some (g n) := rfl
theorem tail3 (a b c : Int) : (([a, b, c] : List Int).set (1 : Int).toNat (rd [a, b, c] 2)).take (2 : Int).toNat = [a, c] := rfl
/-- What Encode makes of the three bytes that one wrote. -/
def cut (op : Int) (b : List Int) : List Int := if g op = 2 then (b.set 1 (rd b 2)).take 2 else b.take (g op).toNat
theorem one_f {x : S32} (hg : g x.f1 ≠ 0) (h0 : 0 ≤ x.f0) (h1 : x.f0 ≤ 140737488355328) : ∃ bo, code_one.f x.f0 x.f1 x.f2 x.f3 = some bo ∧ (match enc1 x with | none => bo.2 = false | some b => bo.2 = true ∧ bo.1.length = 3 ∧ cut x.f1 bo.1 = b) := by
  have hop := g_byte hg
  obtain ⟨f0, f1, f2, f3⟩ := x
  simp only at hg h0 h1 hop ⊢
  have hm : f1 % 256 = f1 := by omega
  unfold code_one.f enc1 cut
  simp only [Size_f, within_f, br_f, Option.bind_some, decide_eq_true_eq]
  by_cases c1 : f1 = 132
  · subst c1
    rw [if_pos rfl, if_pos rfl]
    by_cases d1 : 0 ≤ f2 ∧ f2 ≤ 255
    · rw [if_pos d1]
      by_cases d2 : -128 ≤ f3 ∧ f3 ≤ 127
      · rw [if_pos d2, if_pos ⟨d1, d2⟩, and_255, w64 (f2 * 256) (by omega) (by omega), or_i64 _ _ d1.1 (by omega) (by omega) (by omega)]
        refine ⟨_, rfl, rfl, rfl, ?_⟩
        rw [g132]
        show [(132 : Int) % 256, (f2 * 256 + f3 % 256) / 256 % 256, (f2 * 256 + f3 % 256) % 256] = _
        congr 1; congr 1
        · omega
        · congr 1; omega
      · rw [if_neg d2, if_neg (fun h => d2 h.2)]; exact ⟨_, rfl, rfl⟩
    · rw [if_neg d1, if_neg (fun h => d1 h.1)]; exact ⟨_, rfl, rfl⟩
  rw [if_neg c1, if_neg c1]
  by_cases c2 : f1 = 16
  · subst c2
    rw [if_pos rfl, if_pos rfl]
    by_cases d1 : f3 = 0
    · rw [if_pos d1]
      by_cases d2 : -128 ≤ f2 ∧ f2 ≤ 127
      · rw [if_pos d2, if_pos ⟨d1, d2⟩]
        exact ⟨_, rfl, rfl, rfl, rfl⟩
      · rw [if_neg d2, if_neg (fun h => d2 h.2)]; exact ⟨_, rfl, rfl⟩
    · rw [if_neg d1, if_neg (fun h => d1 h.1)]; exact ⟨_, rfl, rfl⟩
  rw [if_neg c2, if_neg c2]
  by_cases c3 : f1 = 17
  · subst c3
    rw [if_pos rfl, if_pos rfl]
    by_cases d1 : f3 = 0
    · rw [if_pos d1]
      by_cases d2 : -32768 ≤ f2 ∧ f2 ≤ 32767
      · rw [if_pos d2, if_pos ⟨d1, d2⟩]
        exact ⟨_, rfl, rfl, rfl, rfl⟩
      · rw [if_neg d2, if_neg (fun h => d2 h.2)]; exact ⟨_, rfl, rfl⟩
    · rw [if_neg d1, if_neg (fun h => d1 h.1)]; exact ⟨_, rfl, rfl⟩
  rw [if_neg c3, if_neg c3]
  by_cases c4 : br f1 = true
  · rw [if_pos c4, if_pos c4]
    by_cases d1 : f3 = 0
    · rw [if_pos d1, w64 (f0 - 32768) (by omega) (by omega), w64 (f0 + 32768) (by omega) (by omega), w64 (f0 + 32768 - 1) (by omega) (by omega)]
      by_cases d2 : f0 - 32768 ≤ f2 ∧ f2 ≤ f0 + 32767
      · rw [if_pos (by omega), if_pos ⟨d1, d2⟩, w64 (f2 - f0) (by omega) (by omega)]
        refine ⟨_, rfl, rfl, rfl, ?_⟩
        rw [br_g c4, hm]; rfl
      · rw [if_neg (by omega), if_neg (fun h => d2 h.2)]; exact ⟨_, rfl, rfl⟩
    · rw [if_neg d1, if_neg (fun h => d1 h.1)]; exact ⟨_, rfl, rfl⟩
  rw [if_neg c4, if_neg c4]
  by_cases c5 : g f1 = 3
  · rw [if_pos c5, if_pos c5]
    by_cases d1 : f3 = 0
    · rw [if_pos d1]
      by_cases d2 : 0 ≤ f2 ∧ f2 ≤ 65535
      · rw [if_pos d2, if_pos ⟨d1, d2⟩]
        refine ⟨_, rfl, rfl, rfl, ?_⟩
        rw [c5, hm, show f2 / 256 % 256 = f2 / 256 from by omega]; rfl
      · rw [if_neg d2, if_neg (fun h => d2 h.2)]; exact ⟨_, rfl, rfl⟩
    · rw [if_neg d1, if_neg (fun h => d1 h.1)]; exact ⟨_, rfl, rfl⟩
  rw [if_neg c5, if_neg c5]
  by_cases c6 : g f1 = 2
  · rw [if_pos c6, if_pos c6]
    by_cases d1 : f3 = 0
    · rw [if_pos d1]
      by_cases d2 : 0 ≤ f2 ∧ f2 ≤ 255
      · rw [if_pos d2, if_pos ⟨d1, d2⟩]
        refine ⟨_, rfl, rfl, rfl, ?_⟩
        rw [if_pos c6, hm, show f2 % 256 = f2 from by omega]; rfl
      · rw [if_neg d2, if_neg (fun h => d2 h.2)]; exact ⟨_, rfl, rfl⟩
    · rw [if_neg d1, if_neg (fun h => d1 h.1)]; exact ⟨_, rfl, rfl⟩
  rw [if_neg c6, if_neg c6]
  have g1 : g f1 = 1 := by have := g_cases f1; omega
  by_cases d1 : f3 = 0
  · rw [if_pos d1]
    by_cases d2 : f2 = 0
    · rw [if_pos d2, if_pos ⟨d1, d2⟩]
      refine ⟨_, rfl, rfl, rfl, ?_⟩
      rw [if_neg c6, g1, hm]; rfl
    · rw [if_neg d2, if_neg (fun h => d2 h.2)]; exact ⟨_, rfl, rfl⟩
  · rw [if_neg d1, if_neg (fun h => d1 h.1)]; exact ⟨_, rfl, rfl⟩
theorem Encode_l0 : ∀ (xs pre : List S32) (out : List Int) (k : Nat), xs.length < k → (out.length : Int) ≤ 3 * pre.length → (pre ++ xs).length ≤ 4398046511104 → code_Encode.l0 k out (pre ++ xs) ((pre ++ xs).length : Int) (pre.length : Int) = some (fin (encs xs out))
  | [], pre, out, k, hk, ho, hl => by
    obtain ⟨k, rfl⟩ : ∃ k', k = k' + 1 := ⟨k - 1, by simp at hk; omega⟩
    rw [code_Encode.l0, if_neg (by simp)]
    unfold encs fin
    by_cases h : 1024 < out.length
    · rw [if_pos (by omega)]; simp only [if_pos h]
    · rw [if_neg (by omega)]; simp only [if_neg h]
  | x :: xs, pre, out, k, hk, ho, hl => by
    obtain ⟨k, rfl⟩ : ∃ k', k = k' + 1 := ⟨k - 1, by simp at hk; omega⟩
    have hrd : rd_T32 (pre ++ x :: xs) (pre.length : Int) = x := by
      unfold rd_T32
      rw [Int.toNat_natCast, List.getD_eq_getElem?_getD, List.getElem?_append_right (by omega)]; simp
    simp only [List.length_append, List.length_cons] at hl
    rw [code_Encode.l0, hrd, if_pos (by simp; omega), if_pos (by omega), if_pos (by simp; omega)]
    unfold encs
    rw [Size_f]
    simp only [Option.bind_some]
    by_cases hg : g x.f1 = 0
    · rw [if_pos hg, if_pos hg]; rfl
    rw [if_neg hg, if_neg hg]
    by_cases hat : x.f0 = (out.length : Int)
    rotate_left
    · rw [if_neg hat, if_pos hat]; rfl
    rw [if_pos hat, if_neg (by simp [hat])]
    obtain ⟨bo, e, hb⟩ := one_f (x := x) hg (by omega) (by omega)
    rw [e]
    simp only [Option.bind_some]
    cases e1 : enc1 x with
    | none =>
      rw [e1] at hb
      simp only at hb
      rw [if_neg (by rw [hb]; decide)]; rfl
    | some b =>
      rw [e1] at hb
      obtain ⟨h2, h3, h4⟩ := hb
      rw [if_pos h2]
      have hlb := (enc1_len hg e1).1
      have hgc := g_cases x.f1
      unfold cut at h4
      have next : ∀ y, y = b → (if out.length + y.length < 140737488355328 then code_Encode.l0 k (out ++ y) (pre ++ x :: xs) ((pre ++ x :: xs).length : Int) (wrap64 ((pre.length : Int) + 1)) else none) = some (fin (encs xs (out ++ b))) := by
        rintro y rfl
        have hap : pre ++ x :: xs = (pre ++ [x]) ++ xs := by simp
        rw [if_pos (by omega), w64 _ (by omega) (by omega), hap, show (pre.length : Int) + 1 = ((pre ++ [x]).length : Int) from by simp]
        exact Encode_l0 xs (pre ++ [x]) (out ++ y) k (by simp at hk; omega) (by simp only [List.length_append, List.length_singleton]; omega) (by rw [← hap]; simp only [List.length_append, List.length_cons]; omega)
      by_cases c2 : g x.f1 = 2
      · rw [if_pos c2] at h4
        rw [if_pos c2, if_pos (by omega), if_pos (by omega), if_pos (by omega), if_pos (by omega), c2]
        exact next _ h4
      · rw [if_neg c2] at h4
        rw [if_neg c2, if_pos (by omega), if_pos (by omega)]
        exact next _ h4
theorem Encode_f {l : List S32} (hl : l.length ≤ 4398046511104) (k : Nat) (hk : l.length < k) : code_Encode.f k l = some (Enc l) := by
  unfold code_Encode.f Enc
  exact Encode_l0 l [] [] k hk (by simp) hl
end Go.Proofs.Ytcjhhlbhfkcboaa.Clean
