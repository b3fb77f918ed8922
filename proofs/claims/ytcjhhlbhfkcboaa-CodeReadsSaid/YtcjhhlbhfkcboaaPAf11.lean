-- Written for this claim by a program of our own (myprint).
import Derived.Test.YtcjhhlbhfkcboaaPA0
import Derived.Test.YtcjhhlbhfkcboaaPAf29
import Derived.Test.YtcjhhlbhfkcboaaPAf30
import Derived.Test.YtcjhhlbhfkcboaaPAf27
import Derived.Test.YtcjhhlbhfkcboaaPAf34
import Derived.Test.YtcjhhlbhfkcboaaAid
import Derived.Test.YtcjhhlbhfkcboaaPAf27
import Derived.Test.YtcjhhlbhfkcboaaPAf30
import Derived.Test.YtcjhhlbhfkcboaaPAf34
import Derived.Handy
import Derived.Deep.RegionHeld3
import Derived.Test.YtcjhhlbhfkcboaaLex
namespace Go.Proofs.Ytcjhhlbhfkcboaa.PA
open Go.RowKit Go.Proofs.YtcjhhlbhfkcboaaW.PrintWords Go.Proofs.YtcjhhlbhfkcboaaW.PrintLast Go.Proofs.YtcjhhlbhfkcboaaW.PrintMore
attribute [local go_sem] max2_int min2_int max_two min_two max_three min_three max_four min_four   -- for this text's walks alone
set_option linter.unusedVariables false
set_option linter.unusedSimpArgs false

/-! ### caraferef5_Decode: function 11 -/
open Go.Proofs.YtcjhhlbhfkcboaaLex
open Go.Proofs.Ytcjhhlbhfkcboaa.Aid
def caraferef5_Decode.sz (b : Int) : Int := (caraferef5_Size.f 2 b).getD 0
def caraferef5_Decode.br (b0 : Int) : Bool := (caraferef5_Branch.f b0).getD false
def caraferef5_Decode.sg (b0 : Int) : Bool := (caraferef5_signed.f b0).getD false
abbrev caraferef5_Decode.w16 (b1 b2 : Int) : Int := wrap64 (IntKind.i16.wrap (Go.bits .or .u16 (b1 * 256) b2))
def caraferef5_Decode.off (b0 A : Int) (i : Nat) : Int := if caraferef5_Decode.br b0 = true then wrap64 (A + i) else A
def caraferef5_Decode.inst (l : List Int) (i : Nat) : S32 :=
  let b0 := rd l i; let b1 := rd l ((i + 1 : Nat) : Int); let b2 := rd l ((i + 2 : Nat) : Int)
  if b0 = 132 then ⟨i, b0, b1, wrap64 (IntKind.i8.wrap b2)⟩ else
  if caraferef5_Decode.sz b0 = 2 then (if caraferef5_Decode.sg b0 = true then ⟨i, b0, caraferef5_Decode.off b0 (wrap64 (IntKind.i8.wrap b1)) i, 0⟩ else ⟨i, b0, caraferef5_Decode.off b0 b1 i, 0⟩) else
  if caraferef5_Decode.sz b0 = 3 then (if caraferef5_Decode.sg b0 = true then ⟨i, b0, caraferef5_Decode.off b0 (caraferef5_Decode.w16 b1 b2) i, 0⟩ else ⟨i, b0, caraferef5_Decode.off b0 (Go.bits .or .i64 (b1 * 256) b2) i, 0⟩) else
  ⟨i, b0, caraferef5_Decode.off b0 0 i, 0⟩
def caraferef5_Decode.l0 : Nat → List Int → List S32 → Nat → Option (List S32 × Int × Int)
  | 0, _, _, _ => none
  | k + 1, l, acc, i =>
    if i < l.length then
      if caraferef5_Decode.sz (rd l i) = 0 then some ([], 15, (i : Int)) else
      if (l.length : Int) < i + caraferef5_Decode.sz (rd l i) then some ([], 10, (i : Int)) else
      caraferef5_Decode.l0 k l (acc ++ [caraferef5_Decode.inst l i]) (i + (caraferef5_Decode.sz (rd l i)).toNat)
    else some (acc, 0, 0)
def caraferef5_Decode.f (k : Nat) (l0 : List Int) : Option (List S32 × Int × Int) :=
  if (∀ x ∈ l0, 0 ≤ x ∧ x < 256) then (if 1024 < l0.length then some ([], 3, 0) else caraferef5_Decode.l0 k l0 [] 0) else none
theorem caraferef5_Decode.mono_l : ∀ k l acc i, LeO (caraferef5_Decode.l0 k l acc i) (caraferef5_Decode.l0 (k + 1) l acc i)
  | 0, _, _, _ => fun r h => by simp [caraferef5_Decode.l0] at h
  | k + 1, l, acc, i => by
    unfold caraferef5_Decode.l0
    repeat' first
      | (with_reducible exact LeO.refl _)
      | (with_reducible refine LeO.ite ?_ ?_)
      | exact caraferef5_Decode.mono_l k _ _ _
theorem caraferef5_Decode.mono : ∀ a0 k, LeO (caraferef5_Decode.f k a0) (caraferef5_Decode.f (k + 1) a0) := by
  intro a0 k
  unfold caraferef5_Decode.f
  repeat' first
    | (with_reducible exact LeO.refl _)
    | (with_reducible refine LeO.ite ?_ ?_)
    | exact caraferef5_Decode.mono_l k _ _ _
theorem caraferef5_Decode.ex_ite {α : Type} {c : Prop} [Decidable c] {x y : Option α} {p : α → Prop} (hx : ∃ r, x = some r ∧ p r) (hy : ∃ r, y = some r ∧ p r) : ∃ r, (if c then x else y) = some r ∧ p r := by
  by_cases h : c
  · rw [if_pos h]; exact hx
  · rw [if_neg h]; exact hy
theorem caraferef5_Decode.ex_bind {α β : Type} {x : Option α} {f : α → Option β} {p : β → Prop} (hx : ∃ r, x = some r ∧ True) (hf : ∀ r, ∃ s, f r = some s ∧ p s) : ∃ s, x.bind f = some s ∧ p s := by
  obtain ⟨r, rfl, _⟩ := hx; exact hf r
theorem caraferef5_Decode.size_some (b : Int) : caraferef5_Size.f 2 b = some (caraferef5_Decode.sz b) ∧ (caraferef5_Decode.sz b = 0 ∨ caraferef5_Decode.sz b = 1 ∨ caraferef5_Decode.sz b = 2 ∨ caraferef5_Decode.sz b = 3) := by
  have : ∃ r, caraferef5_Size.f 2 b = some r ∧ (r = 0 ∨ r = 1 ∨ r = 2 ∨ r = 3) := by
    unfold caraferef5_Size.f caraferef5_Size.j0 caraferef5_Branch.f caraferef5_Name.f
    generalize caraferef5_Name.look caraferef5_Name.table b = nm
    simp only [Option.bind_some]
    repeat' (first | exact ⟨_, rfl, .inl rfl⟩ | exact ⟨_, rfl, .inr (.inl rfl)⟩ | exact ⟨_, rfl, .inr (.inr (.inl rfl))⟩ | exact ⟨_, rfl, .inr (.inr (.inr rfl))⟩ | exact ⟨_, rfl, trivial⟩ | refine caraferef5_Decode.ex_ite ?_ ?_ | refine caraferef5_Decode.ex_bind ?_ (fun _ => ?_))
  obtain ⟨r, h, hr⟩ := this
  unfold caraferef5_Decode.sz
  rw [h]; exact ⟨rfl, hr⟩
theorem caraferef5_Decode.br_some (b : Int) : caraferef5_Branch.f b = some (caraferef5_Decode.br b) := by
  unfold caraferef5_Decode.br caraferef5_Branch.f
  repeat' split
  all_goals rfl
theorem caraferef5_Decode.sg_some (b : Int) : caraferef5_signed.f b = some (caraferef5_Decode.sg b) := by
  unfold caraferef5_Decode.sg caraferef5_signed.f
  rw [caraferef5_Decode.br_some]
  repeat' split
  all_goals rfl
theorem caraferef5_Decode.br_true (b : Int) (h : caraferef5_Decode.br b = true) : caraferef5_Decode.sz b = 3 ∧ caraferef5_Decode.sg b = true := by
  have : b = 198 ∨ b = 199 ∨ (153 ≤ b ∧ b ≤ 167) := by
    unfold caraferef5_Decode.br caraferef5_Branch.f at h
    repeat' split at h
    all_goals (simp at h; try omega)
  have : b = 198 ∨ b = 199 ∨ b = 153 ∨ b = 154 ∨ b = 155 ∨ b = 156 ∨ b = 157 ∨ b = 158 ∨ b = 159 ∨ b = 160 ∨ b = 161 ∨ b = 162 ∨ b = 163 ∨ b = 164 ∨ b = 165 ∨ b = 166 ∨ b = 167 := by omega
  rcases this with rfl | rfl | rfl | rfl | rfl | rfl | rfl | rfl | rfl | rfl | rfl | rfl | rfl | rfl | rfl | rfl | rfl <;> exact ⟨by decide +kernel, by decide +kernel⟩
theorem caraferef5_Decode.wp_at {P : Program} {c : Code} {Q : Exit → Act → World → Prop} {a : Act} {W : World} (R : World → Prop) (hR : R W) (h : ∀ W2, R W2 → Code.wp P c Q a W2) : Code.wp P c Q a W := h W hR
theorem caraferef5_Decode.rd_mem (l : List Int) (i : Nat) (h : i < l.length) : rd l i ∈ l := by
  unfold rd; rw [Int.toNat_natCast, List.getD_eq_getElem?_getD, List.getElem?_eq_getElem h]; exact List.getElem_mem h
def caraferef5_Decode.Post (r1 : List S32) (r2 r3 : Int) (w : World) (e : Ending) (w' : World) : Prop := ∃ v0_ : Value, e = .returned (.tuple #[v0_, .int .i64 r2, .int .i64 r3]) ∧ Kd.R k32 32 w' w.heap.size (fun _ => True) v0_ r1 ∧ Below w.heap.size w w'
set_option maxHeartbeats 400000 in
theorem caraferef5_Decode.long (l : List Int) (A : Option Addr) (c : Nat) (w : World) (h : 1024 < l.length) (hm : l.length ≤ 9223372036854775807) : Calls Try.prog 11 #[.slice A l.length c] w (caraferef5_Decode.Post [] 3 0 w) := by
  go_enter Try.func11, Try.ntmps11
  go_wp2
  go_ret3
  exact ⟨_, rfl, Kd.R_nil _ _ _ _ _, Below.refl _ _⟩
/-- What the round knows behind the call of Size: the instruction's block, the bytes, what was collected. -/
def caraferef5_Decode.Here (w W : World) (gb bk of : Nat) (l : List Int) (v5 : Value) (acc : List S32) (cells : Array Value) : Prop :=
  W.heap[gb]? = some (.cells cells 32 (0, 0)) ∧ w.heap.size ≤ gb ∧ (bk < w.heap.size) ∧ (∀ j : Nat, j < l.length → W.cell? ⟨bk, of + j, none⟩ = some (.int .u8 (rd l j))) ∧ Kd.R k32 32 W w.heap.size (fun k => k ≠ gb) v5 acc ∧ Below w.heap.size w W
theorem caraferef5_Decode.Here.set {w W : World} {gb bk of : Nat} {l : List Int} {v5 : Value} {acc : List S32} {cells : Array Value} (h : caraferef5_Decode.Here w W gb bk of l v5 acc cells) (j : Nat) (v : Value) : caraferef5_Decode.Here w (W.setCell ⟨gb, j, none⟩ v) gb bk of l v5 acc (cells.setIfInBounds j v) := by
  obtain ⟨h1, h2, h3, h4, h5, h6⟩ := h
  exact ⟨blk_put h1 j v rfl, h2, h3, fun i hi => (cell_far (p := ⟨gb, j, none⟩) (show bk ≠ gb by omega) v).trans (h4 i hi), Kd.R_far h5 (fun k hk => hk) v, below_set h6 h2⟩
theorem caraferef5_Decode.Here.drewN {w W : World} {gb bk of : Nat} {l : List Int} {v5 : Value} {acc : List S32} {cells : Array Value} (h : caraferef5_Decode.Here w W gb bk of l v5 acc cells) (n : Nat) : caraferef5_Decode.Here w (W.drewN n) gb bk of l v5 acc cells :=
  ⟨h.1, h.2.1, h.2.2.1, h.2.2.2.1, Kd.R_drewN h.2.2.2.2.1 n, pw_below_drewN h.2.2.2.2.2 n⟩
set_option maxHeartbeats 12800000 in
set_option maxRecDepth 100000 in
theorem caraferef5_Decode.walk (l : List Int) (A : Option Addr) (bk of : Nat) (c : Nat) (w : World) (r1 : List S32) (r2 r3 : Int) (k0 : Nat) (hA : l = [] ∨ A = some ⟨bk, of, none⟩) (hr : Kd.C (Kd.int .u8) w A l.length l) (hc : l.length ≤ c) (hlen : l.length ≤ 1024) (hb : Aside0 (∀ x ∈ l, 0 ≤ x ∧ x < 256))
    (hd0 : Aside0 (caraferef5_Decode.l0 k0 l [] 0 = some (r1, r2, r3))) :
    Calls Try.prog 11 #[.slice A l.length c] w (caraferef5_Decode.Post r1 r2 r3 w) := by
  have hu32 := Try.underlying32
  have HR := Aside0.mk hr
  have HA := Aside0.mk hA
  clear hr hA
  go_enter Try.func11, Try.ntmps11
  go_wp2_with fail
  go_loopw [5, 6] (fun v5 v6 wr => ∃ (acc : List S32) (i kq : Nat), v6 = .int .i64 i ∧ i ≤ l.length ∧ acc.length ≤ i ∧ Aside0 (caraferef5_Decode.l0 kq l acc i = some (r1, r2, r3)) ∧ Aside0 (Kd.R k32 32 wr w.heap.size (fun _ => True) v5 acc) ∧ Aside0 (Below w.heap.size w wr)) (fun _ v6 _ => l.length - (intOf v6).toNat)
  case atStart => exact ⟨[], 0, k0, rfl, Nat.zero_le _, Nat.le_refl _, hd0, ⟨Kd.R_nil _ _ _ _ _⟩, ⟨Below.refl _ _⟩⟩
  case round =>
    clear hd0
    obtain ⟨acc, i, kq, rfl, hi, hac, HD, HO, HB⟩ := hrel
    cases kq with
    | zero => exact absurd HD.out (by simp [caraferef5_Decode.l0])
    | succ kq =>
    have HD1 := HD.out
    clear HD
    unfold caraferef5_Decode.l0 at HD1
    by_cases hlt : i < l.length
    · rw [if_pos hlt] at HD1
      obtain rfl : A = some ⟨bk, of, none⟩ := HA.out.resolve_left (by rintro rfl; simp at hlt)
      clear HA
      have bat0 : ∀ j : Nat, j < l.length → w.cell? ⟨bk, of + j, none⟩ = some (.int .u8 (rd l j)) := by
        intro j hj
        obtain ⟨ad', e, h⟩ := Kd.at_int HR.out (j : Int) (by omega) (by omega)
        cases e
        rw [Int.toNat_natCast, show (Addr.mk bk of none).add j = ⟨bk, of + j, none⟩ from by simp [Addr.add]] at h
        exact h
      have hbk : bk < w.heap.size := World.block_lt_of_cell? w _ (bat0 i hlt)
      have h0 := (HB.out.cell hbk).trans (bat0 i hlt)
      have hm0 := hb.out (rd l i) (caraferef5_Decode.rd_mem l i hlt)
      obtain ⟨b0, hbe⟩ : ∃ b : Int, rd l i = b := ⟨_, rfl⟩
      rw [hbe] at HD1 h0 hm0
      obtain ⟨hb0, hb1⟩ := hm0
      have BR : Aside0 (∀ w, Calls Try.prog 30 #[.int .i64 b0] w fun e w' => e = .returned (.bool (caraferef5_Decode.br b0)) ∧ Drawn0 w w') := ⟨fun w => caraferef5_Branch.calls b0 _ w (caraferef5_Decode.br_some b0)⟩
      have SG : Aside0 (∀ w, Calls Try.prog 34 #[.int .i64 b0] w fun e w' => e = .returned (.bool (caraferef5_Decode.sg b0)) ∧ Drawn0 w w') := ⟨fun w => caraferef5_signed.calls b0 _ w (caraferef5_Decode.sg_some b0)⟩
      obtain ⟨n, hn⟩ : ∃ n, caraferef5_Decode.sz b0 = n := ⟨_, rfl⟩
      have S : Aside0 (∀ w, Calls Try.prog 27 #[.int .i64 b0] w fun e w' => e = .returned (.int .i64 n) ∧ Below w.heap.size w w') := ⟨fun w => caraferef5_Size.calls 2 b0 n w (by rw [(caraferef5_Decode.size_some b0).1, hn])⟩
      have n03 : 0 ≤ n ∧ n ≤ 3 := by have := (caraferef5_Decode.size_some b0).2; omega
      rw [hn] at HD1
      obtain ⟨n0, n3⟩ := n03
      replace hbe := Aside0.mk hbe
      replace hn := Aside0.mk hn
      replace HD1 := Aside0.mk HD1
      replace bat0 := Aside0.mk bat0
      go_wp2_with fail
      refine (S.out _).mono ?_
      rintro e w1 ⟨rfl, hbs⟩
      clear S
      -- what is known behind the call
      have HH := Aside0.mk (show caraferef5_Decode.Here w w1 wr.heap.size bk of l u5 acc #[.int .i64 i, .int .i64 b0, .int .i64 0, .int .i64 0] from by
        have hB1 : Below w.heap.size w w1 := below_step (below_alloc HB.out _) hbs
        have hO1 : Kd.R k32 32 (wr.alloc (.cells #[.int .i64 i, .int .i64 b0, .int .i64 0, .int .i64 0] 32)) w.heap.size (fun k => True ∧ k ≠ wr.heap.size) u5 acc := Kd.R_alloc (Kd.R_elderB HO.out wr.heap.size (Nat.le_refl _)) _
        exact ⟨(hbs.block wr.heap.size (by simp)).trans (blk_new wr _), HB.out.size, hbk, fun j hj => (hB1.cell hbk).trans (bat0.out j hj), Kd.R_mono (Kd.R_below hO1 hbs) (fun _ hk => hk.2), hB1⟩)
      clear hbs HO HB h0
      obtain ⟨gb, hgb⟩ : ∃ gb, wr.heap.size = gb := ⟨_, rfl⟩
      rw [hgb] at HH ⊢
      clear hgb
      have q1 : w1.cell? ⟨gb, 1, none⟩ = some (.int .i64 b0) := (blk_cell HH.out.1 1).trans rfl
      by_cases z0 : n = 0
      · subst z0
        have HD2 := HD1.out
        rw [if_pos rfl] at HD2
        simp only [Option.some.injEq, Prod.mk.injEq] at HD2
        obtain ⟨rfl, rfl, rfl⟩ := HD2
        clear HD1 q1
        go_wp2
        go_ret3
        exact ⟨_, rfl, Kd.R_nil _ _ _ _ _, HH.out.2.2.2.2.2⟩
      have zz : (n == 0) = false := beq_eq_false_iff_ne.mpr z0
      by_cases z1 : (l.length : Int) < i + n
      · have HD2 := HD1.out
        rw [if_neg z0, if_pos z1] at HD2
        have z3 : decide ((l.length : Int) < i + n) = true := decide_eq_true z1
        simp only [Option.some.injEq, Prod.mk.injEq] at HD2
        obtain ⟨rfl, rfl, rfl⟩ := HD2
        clear HD1 z0 z1
        go_wp2
        go_ret3
        exact ⟨_, rfl, Kd.R_nil _ _ _ _ _, HH.out.2.2.2.2.2⟩
      have HD := Aside0.mk (show caraferef5_Decode.l0 kq l (acc ++ [caraferef5_Decode.inst l i]) (i + n.toNat) = some (r1, r2, r3) from by have h := HD1.out; rw [if_neg z0, if_neg z1] at h; exact h)
      clear HD1 z0
      have z3 : decide ((l.length : Int) < i + n) = false := decide_eq_false z1
      have qf : ∀ j, w1.frozen? ⟨gb, j, none⟩ = false := fun j => blk_frozen HH.out.1 j
      have q2 : w1.cell? ⟨gb, 2, none⟩ = some (.int .i64 0) := (blk_cell HH.out.1 2).trans rfl
      have q3 : w1.cell? ⟨gb, 3, none⟩ = some (.int .i64 0) := (blk_cell HH.out.1 3).trans rfl
      have qf2 := qf 2
      have qf3 := qf 3
      clear qf
      by_cases c132 : b0 = 132
      · subst c132
        obtain rfl : n = 3 := by rw [← hn.out]; decide +kernel
        replace BR : Aside0 (∀ w, Calls Try.prog 30 #[.int .i64 132] w fun e w' => e = .returned (.bool false) ∧ Drawn0 w w') := ⟨fun w => caraferef5_Branch.calls 132 _ w (by decide +kernel)⟩
        clear SG
        obtain ⟨b1, hb1e⟩ : ∃ b : Int, rd l ((i + 1 : Nat) : Int) = b := ⟨_, rfl⟩
        have hb1m := hb.out (rd l ((i + 1 : Nat) : Int)) (caraferef5_Decode.rd_mem l (i + 1) (by omega))
        have h1 := HH.out.2.2.2.1 (i + 1) (by omega)
        rw [hb1e] at hb1m h1
        obtain ⟨hb10, hb11⟩ := hb1m
        have hne1 : bk ≠ gb := by have := HH.out.2.1; omega
        have n1 : ∀ j v, (w1.setCell ⟨gb, j, none⟩ v).cell? ⟨bk, of + (i + 1), none⟩ = some (.int .u8 b1) := fun j v => (cell_far (p := ⟨gb, j, none⟩) hne1 v).trans h1
        clear hne1
        replace hb1e := Aside0.mk hb1e
        have iw1 : IntKind.i64.wrap ((i : Int) + 1) = (i : Int) + 1 := by rw [IntKind.wrap_i64]; omega
        have g1 : (0 : Int) ≤ (i : Int) + 1 := by omega
        have gg1 : (i : Int) + 1 < (l.length : Int) := by omega
        have e1 : ((i : Int) + 1).toNat = i + 1 := by omega
        obtain ⟨b2, hb2e⟩ : ∃ b : Int, rd l ((i + 2 : Nat) : Int) = b := ⟨_, rfl⟩
        have hb2m := hb.out (rd l ((i + 2 : Nat) : Int)) (caraferef5_Decode.rd_mem l (i + 2) (by omega))
        have h2 := HH.out.2.2.2.1 (i + 2) (by omega)
        rw [hb2e] at hb2m h2
        obtain ⟨hb20, hb21⟩ := hb2m
        have hne2 : bk ≠ gb := by have := HH.out.2.1; omega
        have n2 : ∀ j v, (w1.setCell ⟨gb, j, none⟩ v).cell? ⟨bk, of + (i + 2), none⟩ = some (.int .u8 b2) := fun j v => (cell_far (p := ⟨gb, j, none⟩) hne2 v).trans h2
        clear hne2
        replace hb2e := Aside0.mk hb2e
        have iw2 : IntKind.i64.wrap ((i : Int) + 2) = (i : Int) + 2 := by rw [IntKind.wrap_i64]; omega
        have g2 : (0 : Int) ≤ (i : Int) + 2 := by omega
        have gg2 : (i : Int) + 2 < (l.length : Int) := by omega
        have e2 : ((i : Int) + 2).toNat = i + 2 := by omega
        go_wp2_with fail
        refine (BR.out _).mono ?_
        rintro e w2 ⟨rfl, ⟨nd2, rfl⟩⟩
        go_upto_region 25 with (fail)
        refine caraferef5_Decode.wp_at (fun W => caraferef5_Decode.Here w W gb bk of l u5 acc #[.int .i64 ((i : Int)), .int .i64 (132), .int .i64 (b1), .int .i64 (wrap64 (IntKind.i8.wrap b2))]) (by first | exact (((HH.out.set 2 (.int .i64 b1)).set 3 (.int .i64 (wrap64 (IntKind.i8.wrap b2)))).drewN _) | exact ((HH.out.set 2 _).set 3 _) | exact (((HH.out.drewN _).set 2 _).set 3 _)) (fun W2 HE => ?_)
        replace HE := Aside0.mk HE
        clear HH q1 q2 q3 qf2 qf3
        have q0 : W2.cell? ⟨gb, 0, none⟩ = some (.int .i64 ((i : Int))) := (blk_cell HE.out.1 0).trans rfl
        have q1 : W2.cell? ⟨gb, 1, none⟩ = some (.int .i64 (132)) := (blk_cell HE.out.1 1).trans rfl
        have q2 : W2.cell? ⟨gb, 2, none⟩ = some (.int .i64 (b1)) := (blk_cell HE.out.1 2).trans rfl
        have q3 : W2.cell? ⟨gb, 3, none⟩ = some (.int .i64 (wrap64 (IntKind.i8.wrap b2))) := (blk_cell HE.out.1 3).trans rfl
        have HF := Aside0.mk (show caraferef5_Decode.l0 kq l (acc ++ [⟨(i : Int), 132, b1, wrap64 (IntKind.i8.wrap b2)⟩]) (i + 3) = some (r1, r2, r3) from by have h := HD.out; rw [show caraferef5_Decode.inst l i = ⟨(i : Int), 132, b1, wrap64 (IntKind.i8.wrap b2)⟩ from by (unfold caraferef5_Decode.inst; rw [hbe.out, hb1e.out, hb2e.out, if_pos rfl])] at h; exact h)
        have hac2 : (acc.length + 1) * 32 ≤ 140737488355328 := by omega
        go_wp2_with (((with_reducible refine gate_builtin (b := .append) (xs := #[.tmp 132, .tmp 134]) rfl ?_); at_builtin; refine Kd.R_append k32 (w0 := w) w.heap.size rfl (.tmp 132) (.tmp 134) 24 32 (.agg #[(.int .i64 0), (.int .i64 0), (.int .i64 0), (.int .i64 0)]) 32 rfl Try.underlying24 info32 rfl (by decide) (by omega) u5 acc (⟨(i : Int), 132, b1, wrap64 (IntKind.i8.wrap b2)⟩ : S32) [.int .i64 ((i : Int)), .int .i64 (132), .int .i64 (b1), .int .i64 (wrap64 (IntKind.i8.wrap b2))] (fun k => k ≠ gb) (fun _ => False) rfl (by first | (go_simp; done) | (go_simp; rfl)) (k32_mkM _ _ _ (⟨(i : Int), 132, b1, wrap64 (IntKind.i8.wrap b2)⟩ : S32)) (fun _ hk => hk.elim) (fun k hk => by have := blk_lt HE.out.1; omega) HE.out.2.2.2.2.1 HE.out.2.2.2.2.2 (below_size HE.out.2.2.2.2.2) hac2 ?_; intro v1 w9 hown1 hb9 hg1 hat1; have HO3 := Aside0.mk (Kd.R_mono hown1 (fun _ _ => trivial)); have HB3 := Aside0.mk hb9; clear hown1 hb9 hg1 hat1))
        go_roundw
        case rel => exact ⟨_, i + 3, kq, by go_num, by omega, by rw [List.length_append, List.length_singleton]; omega, HF, HO3, HB3⟩
        case measure => simp [intOf]; omega
      have k132 : (b0 == 132) = false := beq_eq_false_iff_ne.mpr c132
      by_cases zb : caraferef5_Decode.br b0 = true
      · obtain ⟨zs, zg⟩ := caraferef5_Decode.br_true b0 zb
        obtain rfl : n = 3 := by rw [← hn.out, zs]
        rw [zb] at BR
        rw [zg] at SG
        obtain ⟨b1, hb1e⟩ : ∃ b : Int, rd l ((i + 1 : Nat) : Int) = b := ⟨_, rfl⟩
        have hb1m := hb.out (rd l ((i + 1 : Nat) : Int)) (caraferef5_Decode.rd_mem l (i + 1) (by omega))
        have h1 := HH.out.2.2.2.1 (i + 1) (by omega)
        rw [hb1e] at hb1m h1
        obtain ⟨hb10, hb11⟩ := hb1m
        have hne1 : bk ≠ gb := by have := HH.out.2.1; omega
        have n1 : ∀ j v, (w1.setCell ⟨gb, j, none⟩ v).cell? ⟨bk, of + (i + 1), none⟩ = some (.int .u8 b1) := fun j v => (cell_far (p := ⟨gb, j, none⟩) hne1 v).trans h1
        clear hne1
        replace hb1e := Aside0.mk hb1e
        have iw1 : IntKind.i64.wrap ((i : Int) + 1) = (i : Int) + 1 := by rw [IntKind.wrap_i64]; omega
        have g1 : (0 : Int) ≤ (i : Int) + 1 := by omega
        have gg1 : (i : Int) + 1 < (l.length : Int) := by omega
        have e1 : ((i : Int) + 1).toNat = i + 1 := by omega
        obtain ⟨b2, hb2e⟩ : ∃ b : Int, rd l ((i + 2 : Nat) : Int) = b := ⟨_, rfl⟩
        have hb2m := hb.out (rd l ((i + 2 : Nat) : Int)) (caraferef5_Decode.rd_mem l (i + 2) (by omega))
        have h2 := HH.out.2.2.2.1 (i + 2) (by omega)
        rw [hb2e] at hb2m h2
        obtain ⟨hb20, hb21⟩ := hb2m
        have hne2 : bk ≠ gb := by have := HH.out.2.1; omega
        have n2 : ∀ j v, (w1.setCell ⟨gb, j, none⟩ v).cell? ⟨bk, of + (i + 2), none⟩ = some (.int .u8 b2) := fun j v => (cell_far (p := ⟨gb, j, none⟩) hne2 v).trans h2
        clear hne2
        replace hb2e := Aside0.mk hb2e
        have iw2 : IntKind.i64.wrap ((i : Int) + 2) = (i : Int) + 2 := by rw [IntKind.wrap_i64]; omega
        have g2 : (0 : Int) ≤ (i : Int) + 2 := by omega
        have gg2 : (i : Int) + 2 < (l.length : Int) := by omega
        have e2 : ((i : Int) + 2).toNat = i + 2 := by omega
        go_wp2_with fail
        refine (SG.out _).mono ?_
        rintro e w2 ⟨rfl, ⟨nd1, rfl⟩⟩
        go_wp2_with fail
        refine wp_region_lex_lit (cls (fun s => if s 17 = true then w1.setCell ⟨gb, 2, none⟩ (.int .i64 (IntKind.i64.wrap (IntKind.i16.wrap (Go.bits .or .u16 (IntKind.u16.wrap (IntKind.u16.wrap b1 * 256)) (IntKind.u16.wrap b2))))) else w1)) (by kernel_rfl) (by kernel_rfl) (by kernel_rfl) ?_ ?_
        (focus (first | exact cls_drew rfl | exact cls_drewN rfl))
        iterate 17 (refine lex_yes (v := ?_) ?_ (quiet_v ?_ ?_) ?_; rotate_left; (focus rfl); (focus ((intro s; simp); done)); (focus ((intro s n; (by_cases hs1 : s 17 = true <;> simp only [hs1, if_true, if_false, Bool.false_eq_true]) <;> (go_simp; first | done | with_reducible rfl | (refine And.intro ?_ ?_ <;> rfl))); done)); (try simp only [Act.put, List.setIfInBounds_toArray, List.set_cons_zero, List.set_cons_succ]))
        (refine lex_yes ?_ (turns_s ?_) ?_; (focus rfl); (focus ((intro s n hs; simp only [hs, Bool.false_or, BEq.rfl, if_true, Bool.false_eq_true, if_false]; go_simp; rfl); done)); (try simp only [Act.put, List.setIfInBounds_toArray, List.set_cons_zero, List.set_cons_succ]))
        refine lex_nil ?_
        refine cls_end (w := w1.setCell ⟨gb, 2, none⟩ (.int .i64 (IntKind.i64.wrap (IntKind.i16.wrap (Go.bits .or .u16 (IntKind.u16.wrap (IntKind.u16.wrap b1 * 256)) (IntKind.u16.wrap b2)))))) [17] (by rfl) (fun s hs => by rw [if_pos (hs 17 (by decide))]) (fun m => ?_)
        have qs : (w1.setCell ⟨gb, 2, none⟩ (.int .i64 (IntKind.i64.wrap (IntKind.i16.wrap (Go.bits .or .u16 (IntKind.u16.wrap (IntKind.u16.wrap b1 * 256)) (IntKind.u16.wrap b2)))))).cell? ⟨gb, 2, none⟩ = some (.int .i64 (IntKind.i64.wrap (IntKind.i16.wrap (Go.bits .or .u16 (IntKind.u16.wrap (IntKind.u16.wrap b1 * 256)) (IntKind.u16.wrap b2))))) := (blk_cell (HH.out.set 2 _).1 2).trans rfl
        have qo : (w1.setCell ⟨gb, 2, none⟩ (.int .i64 (IntKind.i64.wrap (IntKind.i16.wrap (Go.bits .or .u16 (IntKind.u16.wrap (IntKind.u16.wrap b1 * 256)) (IntKind.u16.wrap b2)))))).cell? ⟨gb, 1, none⟩ = some (.int .i64 b0) := (blk_cell (HH.out.set 2 _).1 1).trans rfl
        have qg : (w1.setCell ⟨gb, 2, none⟩ (.int .i64 (IntKind.i64.wrap (IntKind.i16.wrap (Go.bits .or .u16 (IntKind.u16.wrap (IntKind.u16.wrap b1 * 256)) (IntKind.u16.wrap b2)))))).frozen? ⟨gb, 2, none⟩ = false := blk_frozen (HH.out.set 2 _).1 2
        go_wp2_with fail
        refine (BR.out _).mono ?_
        rintro e w2 ⟨rfl, ⟨nd2, rfl⟩⟩
        go_upto_region 25 with (fail)
        refine caraferef5_Decode.wp_at (fun W => caraferef5_Decode.Here w W gb bk of l u5 acc #[.int .i64 ((i : Int)), .int .i64 (b0), .int .i64 (caraferef5_Decode.off b0 (caraferef5_Decode.w16 b1 b2) i), .int .i64 (0)]) (by unfold caraferef5_Decode.off; rw [if_pos zb]; exact (((HH.out.set 2 _).drewN _).set 2 _)) (fun W2 HE => ?_)
        replace HE := Aside0.mk HE
        clear HH q1 q2 q3 qf2 qf3
        have q0 : W2.cell? ⟨gb, 0, none⟩ = some (.int .i64 ((i : Int))) := (blk_cell HE.out.1 0).trans rfl
        have q1 : W2.cell? ⟨gb, 1, none⟩ = some (.int .i64 (b0)) := (blk_cell HE.out.1 1).trans rfl
        have q2 : W2.cell? ⟨gb, 2, none⟩ = some (.int .i64 (caraferef5_Decode.off b0 (caraferef5_Decode.w16 b1 b2) i)) := (blk_cell HE.out.1 2).trans rfl
        have q3 : W2.cell? ⟨gb, 3, none⟩ = some (.int .i64 (0)) := (blk_cell HE.out.1 3).trans rfl
        have HF := Aside0.mk (show caraferef5_Decode.l0 kq l (acc ++ [⟨(i : Int), b0, caraferef5_Decode.off b0 (caraferef5_Decode.w16 b1 b2) i, 0⟩]) (i + 3) = some (r1, r2, r3) from by have h := HD.out; rw [show caraferef5_Decode.inst l i = ⟨(i : Int), b0, caraferef5_Decode.off b0 (caraferef5_Decode.w16 b1 b2) i, 0⟩ from by (unfold caraferef5_Decode.inst; rw [hbe.out, hb1e.out, hb2e.out, if_neg c132, if_neg (by rw [zs]; decide), if_pos zs, if_pos zg])] at h; exact h)
        have hac2 : (acc.length + 1) * 32 ≤ 140737488355328 := by omega
        go_wp2_with (((with_reducible refine gate_builtin (b := .append) (xs := #[.tmp 132, .tmp 134]) rfl ?_); at_builtin; refine Kd.R_append k32 (w0 := w) w.heap.size rfl (.tmp 132) (.tmp 134) 24 32 (.agg #[(.int .i64 0), (.int .i64 0), (.int .i64 0), (.int .i64 0)]) 32 rfl Try.underlying24 info32 rfl (by decide) (by omega) u5 acc (⟨(i : Int), b0, caraferef5_Decode.off b0 (caraferef5_Decode.w16 b1 b2) i, 0⟩ : S32) [.int .i64 ((i : Int)), .int .i64 (b0), .int .i64 (caraferef5_Decode.off b0 (caraferef5_Decode.w16 b1 b2) i), .int .i64 (0)] (fun k => k ≠ gb) (fun _ => False) rfl (by first | (go_simp; done) | (go_simp; rfl)) (k32_mkM _ _ _ (⟨(i : Int), b0, caraferef5_Decode.off b0 (caraferef5_Decode.w16 b1 b2) i, 0⟩ : S32)) (fun _ hk => hk.elim) (fun k hk => by have := blk_lt HE.out.1; omega) HE.out.2.2.2.2.1 HE.out.2.2.2.2.2 (below_size HE.out.2.2.2.2.2) hac2 ?_; intro v1 w9 hown1 hb9 hg1 hat1; have HO3 := Aside0.mk (Kd.R_mono hown1 (fun _ _ => trivial)); have HB3 := Aside0.mk hb9; clear hown1 hb9 hg1 hat1))
        go_roundw
        case rel => exact ⟨_, i + 3, kq, by go_num, by omega, by rw [List.length_append, List.length_singleton]; omega, HF, HO3, HB3⟩
        case measure => simp [intOf]; omega
      have zb2 : caraferef5_Decode.br b0 = false := Bool.eq_false_iff.mpr zb
      have hoff : ∀ A, caraferef5_Decode.off b0 A i = A := fun A => by unfold caraferef5_Decode.off; rw [if_neg zb]
      rw [zb2] at BR
      have n123 : n = 1 ∨ n = 2 ∨ n = 3 := by have := beq_eq_false_iff_ne.mp zz; omega
      rcases n123 with rfl | rfl | rfl
      · clear SG
        go_wp2_with fail
        refine (BR.out _).mono ?_
        rintro e w2 ⟨rfl, ⟨nd2, rfl⟩⟩
        go_upto_region 25 with (fail)
        refine caraferef5_Decode.wp_at (fun W => caraferef5_Decode.Here w W gb bk of l u5 acc #[.int .i64 ((i : Int)), .int .i64 (b0), .int .i64 (0), .int .i64 (0)]) (by first | exact HH.out.drewN _ | exact HH.out) (fun W2 HE => ?_)
        replace HE := Aside0.mk HE
        clear HH q1 q2 q3 qf2 qf3
        have q0 : W2.cell? ⟨gb, 0, none⟩ = some (.int .i64 ((i : Int))) := (blk_cell HE.out.1 0).trans rfl
        have q1 : W2.cell? ⟨gb, 1, none⟩ = some (.int .i64 (b0)) := (blk_cell HE.out.1 1).trans rfl
        have q2 : W2.cell? ⟨gb, 2, none⟩ = some (.int .i64 (0)) := (blk_cell HE.out.1 2).trans rfl
        have q3 : W2.cell? ⟨gb, 3, none⟩ = some (.int .i64 (0)) := (blk_cell HE.out.1 3).trans rfl
        have HF := Aside0.mk (show caraferef5_Decode.l0 kq l (acc ++ [⟨(i : Int), b0, 0, 0⟩]) (i + 1) = some (r1, r2, r3) from by have h := HD.out; rw [show caraferef5_Decode.inst l i = ⟨(i : Int), b0, 0, 0⟩ from by (have zs := hn.out; unfold caraferef5_Decode.inst; rw [hbe.out, if_neg c132, if_neg (by rw [zs]; decide), if_neg (by rw [zs]; decide), hoff])] at h; exact h)
        have hac2 : (acc.length + 1) * 32 ≤ 140737488355328 := by omega
        go_wp2_with (((with_reducible refine gate_builtin (b := .append) (xs := #[.tmp 132, .tmp 134]) rfl ?_); at_builtin; refine Kd.R_append k32 (w0 := w) w.heap.size rfl (.tmp 132) (.tmp 134) 24 32 (.agg #[(.int .i64 0), (.int .i64 0), (.int .i64 0), (.int .i64 0)]) 32 rfl Try.underlying24 info32 rfl (by decide) (by omega) u5 acc (⟨(i : Int), b0, 0, 0⟩ : S32) [.int .i64 ((i : Int)), .int .i64 (b0), .int .i64 (0), .int .i64 (0)] (fun k => k ≠ gb) (fun _ => False) rfl (by first | (go_simp; done) | (go_simp; rfl)) (k32_mkM _ _ _ (⟨(i : Int), b0, 0, 0⟩ : S32)) (fun _ hk => hk.elim) (fun k hk => by have := blk_lt HE.out.1; omega) HE.out.2.2.2.2.1 HE.out.2.2.2.2.2 (below_size HE.out.2.2.2.2.2) hac2 ?_; intro v1 w9 hown1 hb9 hg1 hat1; have HO3 := Aside0.mk (Kd.R_mono hown1 (fun _ _ => trivial)); have HB3 := Aside0.mk hb9; clear hown1 hb9 hg1 hat1))
        go_roundw
        case rel => exact ⟨_, i + 1, kq, by go_num, by omega, by rw [List.length_append, List.length_singleton]; omega, HF, HO3, HB3⟩
        case measure => simp [intOf]; omega
      · cases zg : caraferef5_Decode.sg b0 with
        | true =>
          rw [zg] at SG
          obtain ⟨b1, hb1e⟩ : ∃ b : Int, rd l ((i + 1 : Nat) : Int) = b := ⟨_, rfl⟩
          have hb1m := hb.out (rd l ((i + 1 : Nat) : Int)) (caraferef5_Decode.rd_mem l (i + 1) (by omega))
          have h1 := HH.out.2.2.2.1 (i + 1) (by omega)
          rw [hb1e] at hb1m h1
          obtain ⟨hb10, hb11⟩ := hb1m
          have hne1 : bk ≠ gb := by have := HH.out.2.1; omega
          have n1 : ∀ j v, (w1.setCell ⟨gb, j, none⟩ v).cell? ⟨bk, of + (i + 1), none⟩ = some (.int .u8 b1) := fun j v => (cell_far (p := ⟨gb, j, none⟩) hne1 v).trans h1
          clear hne1
          replace hb1e := Aside0.mk hb1e
          have iw1 : IntKind.i64.wrap ((i : Int) + 1) = (i : Int) + 1 := by rw [IntKind.wrap_i64]; omega
          have g1 : (0 : Int) ≤ (i : Int) + 1 := by omega
          have gg1 : (i : Int) + 1 < (l.length : Int) := by omega
          have e1 : ((i : Int) + 1).toNat = i + 1 := by omega
          go_wp2_with fail
          refine (SG.out _).mono ?_
          rintro e w2 ⟨rfl, ⟨nd1, rfl⟩⟩
          go_wp2_with fail
          refine (BR.out _).mono ?_
          rintro e w2 ⟨rfl, ⟨nd2, rfl⟩⟩
          go_upto_region 25 with (fail)
          refine caraferef5_Decode.wp_at (fun W => caraferef5_Decode.Here w W gb bk of l u5 acc #[.int .i64 ((i : Int)), .int .i64 (b0), .int .i64 (wrap64 (IntKind.i8.wrap b1)), .int .i64 (0)]) (by first | exact (HH.out.set 2 _).drewN _ | exact ((HH.out.drewN _).set 2 _) | exact ((HH.out.drewN _).set 2 _).drewN _) (fun W2 HE => ?_)
          replace HE := Aside0.mk HE
          clear HH q1 q2 q3 qf2 qf3
          have q0 : W2.cell? ⟨gb, 0, none⟩ = some (.int .i64 ((i : Int))) := (blk_cell HE.out.1 0).trans rfl
          have q1 : W2.cell? ⟨gb, 1, none⟩ = some (.int .i64 (b0)) := (blk_cell HE.out.1 1).trans rfl
          have q2 : W2.cell? ⟨gb, 2, none⟩ = some (.int .i64 (wrap64 (IntKind.i8.wrap b1))) := (blk_cell HE.out.1 2).trans rfl
          have q3 : W2.cell? ⟨gb, 3, none⟩ = some (.int .i64 (0)) := (blk_cell HE.out.1 3).trans rfl
          have HF := Aside0.mk (show caraferef5_Decode.l0 kq l (acc ++ [⟨(i : Int), b0, wrap64 (IntKind.i8.wrap b1), 0⟩]) (i + 2) = some (r1, r2, r3) from by have h := HD.out; rw [show caraferef5_Decode.inst l i = ⟨(i : Int), b0, wrap64 (IntKind.i8.wrap b1), 0⟩ from by (have zs := hn.out; unfold caraferef5_Decode.inst; rw [hbe.out, hb1e.out, if_neg c132, if_pos zs, if_pos zg, hoff])] at h; exact h)
          have hac2 : (acc.length + 1) * 32 ≤ 140737488355328 := by omega
          go_wp2_with (((with_reducible refine gate_builtin (b := .append) (xs := #[.tmp 132, .tmp 134]) rfl ?_); at_builtin; refine Kd.R_append k32 (w0 := w) w.heap.size rfl (.tmp 132) (.tmp 134) 24 32 (.agg #[(.int .i64 0), (.int .i64 0), (.int .i64 0), (.int .i64 0)]) 32 rfl Try.underlying24 info32 rfl (by decide) (by omega) u5 acc (⟨(i : Int), b0, wrap64 (IntKind.i8.wrap b1), 0⟩ : S32) [.int .i64 ((i : Int)), .int .i64 (b0), .int .i64 (wrap64 (IntKind.i8.wrap b1)), .int .i64 (0)] (fun k => k ≠ gb) (fun _ => False) rfl (by first | (go_simp; done) | (go_simp; rfl)) (k32_mkM _ _ _ (⟨(i : Int), b0, wrap64 (IntKind.i8.wrap b1), 0⟩ : S32)) (fun _ hk => hk.elim) (fun k hk => by have := blk_lt HE.out.1; omega) HE.out.2.2.2.2.1 HE.out.2.2.2.2.2 (below_size HE.out.2.2.2.2.2) hac2 ?_; intro v1 w9 hown1 hb9 hg1 hat1; have HO3 := Aside0.mk (Kd.R_mono hown1 (fun _ _ => trivial)); have HB3 := Aside0.mk hb9; clear hown1 hb9 hg1 hat1))
          go_roundw
          case rel => exact ⟨_, i + 2, kq, by go_num, by omega, by rw [List.length_append, List.length_singleton]; omega, HF, HO3, HB3⟩
          case measure => simp [intOf]; omega
        | false =>
          rw [zg] at SG
          obtain ⟨b1, hb1e⟩ : ∃ b : Int, rd l ((i + 1 : Nat) : Int) = b := ⟨_, rfl⟩
          have hb1m := hb.out (rd l ((i + 1 : Nat) : Int)) (caraferef5_Decode.rd_mem l (i + 1) (by omega))
          have h1 := HH.out.2.2.2.1 (i + 1) (by omega)
          rw [hb1e] at hb1m h1
          obtain ⟨hb10, hb11⟩ := hb1m
          have hne1 : bk ≠ gb := by have := HH.out.2.1; omega
          have n1 : ∀ j v, (w1.setCell ⟨gb, j, none⟩ v).cell? ⟨bk, of + (i + 1), none⟩ = some (.int .u8 b1) := fun j v => (cell_far (p := ⟨gb, j, none⟩) hne1 v).trans h1
          clear hne1
          replace hb1e := Aside0.mk hb1e
          have iw1 : IntKind.i64.wrap ((i : Int) + 1) = (i : Int) + 1 := by rw [IntKind.wrap_i64]; omega
          have g1 : (0 : Int) ≤ (i : Int) + 1 := by omega
          have gg1 : (i : Int) + 1 < (l.length : Int) := by omega
          have e1 : ((i : Int) + 1).toNat = i + 1 := by omega
          go_wp2_with fail
          refine (SG.out _).mono ?_
          rintro e w2 ⟨rfl, ⟨nd1, rfl⟩⟩
          go_wp2_with fail
          refine (BR.out _).mono ?_
          rintro e w2 ⟨rfl, ⟨nd2, rfl⟩⟩
          go_upto_region 25 with (fail)
          refine caraferef5_Decode.wp_at (fun W => caraferef5_Decode.Here w W gb bk of l u5 acc #[.int .i64 ((i : Int)), .int .i64 (b0), .int .i64 (b1), .int .i64 (0)]) (by first | exact (HH.out.set 2 _).drewN _ | exact ((HH.out.drewN _).set 2 _) | exact ((HH.out.drewN _).set 2 _).drewN _) (fun W2 HE => ?_)
          replace HE := Aside0.mk HE
          clear HH q1 q2 q3 qf2 qf3
          have q0 : W2.cell? ⟨gb, 0, none⟩ = some (.int .i64 ((i : Int))) := (blk_cell HE.out.1 0).trans rfl
          have q1 : W2.cell? ⟨gb, 1, none⟩ = some (.int .i64 (b0)) := (blk_cell HE.out.1 1).trans rfl
          have q2 : W2.cell? ⟨gb, 2, none⟩ = some (.int .i64 (b1)) := (blk_cell HE.out.1 2).trans rfl
          have q3 : W2.cell? ⟨gb, 3, none⟩ = some (.int .i64 (0)) := (blk_cell HE.out.1 3).trans rfl
          have HF := Aside0.mk (show caraferef5_Decode.l0 kq l (acc ++ [⟨(i : Int), b0, b1, 0⟩]) (i + 2) = some (r1, r2, r3) from by have h := HD.out; rw [show caraferef5_Decode.inst l i = ⟨(i : Int), b0, b1, 0⟩ from by (have zs := hn.out; unfold caraferef5_Decode.inst; rw [hbe.out, hb1e.out, if_neg c132, if_pos zs, if_neg (by rw [zg]; decide), hoff])] at h; exact h)
          have hac2 : (acc.length + 1) * 32 ≤ 140737488355328 := by omega
          go_wp2_with (((with_reducible refine gate_builtin (b := .append) (xs := #[.tmp 132, .tmp 134]) rfl ?_); at_builtin; refine Kd.R_append k32 (w0 := w) w.heap.size rfl (.tmp 132) (.tmp 134) 24 32 (.agg #[(.int .i64 0), (.int .i64 0), (.int .i64 0), (.int .i64 0)]) 32 rfl Try.underlying24 info32 rfl (by decide) (by omega) u5 acc (⟨(i : Int), b0, b1, 0⟩ : S32) [.int .i64 ((i : Int)), .int .i64 (b0), .int .i64 (b1), .int .i64 (0)] (fun k => k ≠ gb) (fun _ => False) rfl (by first | (go_simp; done) | (go_simp; rfl)) (k32_mkM _ _ _ (⟨(i : Int), b0, b1, 0⟩ : S32)) (fun _ hk => hk.elim) (fun k hk => by have := blk_lt HE.out.1; omega) HE.out.2.2.2.2.1 HE.out.2.2.2.2.2 (below_size HE.out.2.2.2.2.2) hac2 ?_; intro v1 w9 hown1 hb9 hg1 hat1; have HO3 := Aside0.mk (Kd.R_mono hown1 (fun _ _ => trivial)); have HB3 := Aside0.mk hb9; clear hown1 hb9 hg1 hat1))
          go_roundw
          case rel => exact ⟨_, i + 2, kq, by go_num, by omega, by rw [List.length_append, List.length_singleton]; omega, HF, HO3, HB3⟩
          case measure => simp [intOf]; omega
      · cases zg : caraferef5_Decode.sg b0 with
        | true =>
          rw [zg] at SG
          obtain ⟨b1, hb1e⟩ : ∃ b : Int, rd l ((i + 1 : Nat) : Int) = b := ⟨_, rfl⟩
          have hb1m := hb.out (rd l ((i + 1 : Nat) : Int)) (caraferef5_Decode.rd_mem l (i + 1) (by omega))
          have h1 := HH.out.2.2.2.1 (i + 1) (by omega)
          rw [hb1e] at hb1m h1
          obtain ⟨hb10, hb11⟩ := hb1m
          have hne1 : bk ≠ gb := by have := HH.out.2.1; omega
          have n1 : ∀ j v, (w1.setCell ⟨gb, j, none⟩ v).cell? ⟨bk, of + (i + 1), none⟩ = some (.int .u8 b1) := fun j v => (cell_far (p := ⟨gb, j, none⟩) hne1 v).trans h1
          clear hne1
          replace hb1e := Aside0.mk hb1e
          have iw1 : IntKind.i64.wrap ((i : Int) + 1) = (i : Int) + 1 := by rw [IntKind.wrap_i64]; omega
          have g1 : (0 : Int) ≤ (i : Int) + 1 := by omega
          have gg1 : (i : Int) + 1 < (l.length : Int) := by omega
          have e1 : ((i : Int) + 1).toNat = i + 1 := by omega
          obtain ⟨b2, hb2e⟩ : ∃ b : Int, rd l ((i + 2 : Nat) : Int) = b := ⟨_, rfl⟩
          have hb2m := hb.out (rd l ((i + 2 : Nat) : Int)) (caraferef5_Decode.rd_mem l (i + 2) (by omega))
          have h2 := HH.out.2.2.2.1 (i + 2) (by omega)
          rw [hb2e] at hb2m h2
          obtain ⟨hb20, hb21⟩ := hb2m
          have hne2 : bk ≠ gb := by have := HH.out.2.1; omega
          have n2 : ∀ j v, (w1.setCell ⟨gb, j, none⟩ v).cell? ⟨bk, of + (i + 2), none⟩ = some (.int .u8 b2) := fun j v => (cell_far (p := ⟨gb, j, none⟩) hne2 v).trans h2
          clear hne2
          replace hb2e := Aside0.mk hb2e
          have iw2 : IntKind.i64.wrap ((i : Int) + 2) = (i : Int) + 2 := by rw [IntKind.wrap_i64]; omega
          have g2 : (0 : Int) ≤ (i : Int) + 2 := by omega
          have gg2 : (i : Int) + 2 < (l.length : Int) := by omega
          have e2 : ((i : Int) + 2).toNat = i + 2 := by omega
          go_wp2_with fail
          refine (SG.out _).mono ?_
          rintro e w2 ⟨rfl, ⟨nd1, rfl⟩⟩
          go_wp2_with fail
          refine wp_region_lex_lit (cls (fun s => if s 17 = true then w1.setCell ⟨gb, 2, none⟩ (.int .i64 (IntKind.i64.wrap (IntKind.i16.wrap (Go.bits .or .u16 (IntKind.u16.wrap (IntKind.u16.wrap b1 * 256)) (IntKind.u16.wrap b2))))) else w1)) (by kernel_rfl) (by kernel_rfl) (by kernel_rfl) ?_ ?_
          (focus (first | exact cls_drew rfl | exact cls_drewN rfl))
          iterate 17 (refine lex_yes (v := ?_) ?_ (quiet_v ?_ ?_) ?_; rotate_left; (focus rfl); (focus ((intro s; simp); done)); (focus ((intro s n; (by_cases hs1 : s 17 = true <;> simp only [hs1, if_true, if_false, Bool.false_eq_true]) <;> (go_simp; first | done | with_reducible rfl | (refine And.intro ?_ ?_ <;> rfl))); done)); (try simp only [Act.put, List.setIfInBounds_toArray, List.set_cons_zero, List.set_cons_succ]))
          (refine lex_yes ?_ (turns_s ?_) ?_; (focus rfl); (focus ((intro s n hs; simp only [hs, Bool.false_or, BEq.rfl, if_true, Bool.false_eq_true, if_false]; go_simp; rfl); done)); (try simp only [Act.put, List.setIfInBounds_toArray, List.set_cons_zero, List.set_cons_succ]))
          refine lex_nil ?_
          refine cls_end (w := w1.setCell ⟨gb, 2, none⟩ (.int .i64 (IntKind.i64.wrap (IntKind.i16.wrap (Go.bits .or .u16 (IntKind.u16.wrap (IntKind.u16.wrap b1 * 256)) (IntKind.u16.wrap b2)))))) [17] (by rfl) (fun s hs => by rw [if_pos (hs 17 (by decide))]) (fun m => ?_)
          have qo : (w1.setCell ⟨gb, 2, none⟩ (.int .i64 (IntKind.i64.wrap (IntKind.i16.wrap (Go.bits .or .u16 (IntKind.u16.wrap (IntKind.u16.wrap b1 * 256)) (IntKind.u16.wrap b2)))))).cell? ⟨gb, 1, none⟩ = some (.int .i64 b0) := (blk_cell (HH.out.set 2 _).1 1).trans rfl
          go_wp2_with fail
          refine (BR.out _).mono ?_
          rintro e w2 ⟨rfl, ⟨nd2, rfl⟩⟩
          go_upto_region 25 with (fail)
          refine caraferef5_Decode.wp_at (fun W => caraferef5_Decode.Here w W gb bk of l u5 acc #[.int .i64 ((i : Int)), .int .i64 (b0), .int .i64 (caraferef5_Decode.w16 b1 b2), .int .i64 (0)]) ((HH.out.set 2 _).drewN _) (fun W2 HE => ?_)
          replace HE := Aside0.mk HE
          clear HH q1 q2 q3 qf2 qf3
          have q0 : W2.cell? ⟨gb, 0, none⟩ = some (.int .i64 ((i : Int))) := (blk_cell HE.out.1 0).trans rfl
          have q1 : W2.cell? ⟨gb, 1, none⟩ = some (.int .i64 (b0)) := (blk_cell HE.out.1 1).trans rfl
          have q2 : W2.cell? ⟨gb, 2, none⟩ = some (.int .i64 (caraferef5_Decode.w16 b1 b2)) := (blk_cell HE.out.1 2).trans rfl
          have q3 : W2.cell? ⟨gb, 3, none⟩ = some (.int .i64 (0)) := (blk_cell HE.out.1 3).trans rfl
          have HF := Aside0.mk (show caraferef5_Decode.l0 kq l (acc ++ [⟨(i : Int), b0, caraferef5_Decode.w16 b1 b2, 0⟩]) (i + 3) = some (r1, r2, r3) from by have h := HD.out; rw [show caraferef5_Decode.inst l i = ⟨(i : Int), b0, caraferef5_Decode.w16 b1 b2, 0⟩ from by (have zs := hn.out; unfold caraferef5_Decode.inst; rw [hbe.out, hb1e.out, hb2e.out, if_neg c132, if_neg (by rw [zs]; decide), if_pos zs, if_pos zg, hoff])] at h; exact h)
          have hac2 : (acc.length + 1) * 32 ≤ 140737488355328 := by omega
          go_wp2_with (((with_reducible refine gate_builtin (b := .append) (xs := #[.tmp 132, .tmp 134]) rfl ?_); at_builtin; refine Kd.R_append k32 (w0 := w) w.heap.size rfl (.tmp 132) (.tmp 134) 24 32 (.agg #[(.int .i64 0), (.int .i64 0), (.int .i64 0), (.int .i64 0)]) 32 rfl Try.underlying24 info32 rfl (by decide) (by omega) u5 acc (⟨(i : Int), b0, caraferef5_Decode.w16 b1 b2, 0⟩ : S32) [.int .i64 ((i : Int)), .int .i64 (b0), .int .i64 (caraferef5_Decode.w16 b1 b2), .int .i64 (0)] (fun k => k ≠ gb) (fun _ => False) rfl (by first | (go_simp; done) | (go_simp; rfl)) (k32_mkM _ _ _ (⟨(i : Int), b0, caraferef5_Decode.w16 b1 b2, 0⟩ : S32)) (fun _ hk => hk.elim) (fun k hk => by have := blk_lt HE.out.1; omega) HE.out.2.2.2.2.1 HE.out.2.2.2.2.2 (below_size HE.out.2.2.2.2.2) hac2 ?_; intro v1 w9 hown1 hb9 hg1 hat1; have HO3 := Aside0.mk (Kd.R_mono hown1 (fun _ _ => trivial)); have HB3 := Aside0.mk hb9; clear hown1 hb9 hg1 hat1))
          go_roundw
          case rel => exact ⟨_, i + 3, kq, by go_num, by omega, by rw [List.length_append, List.length_singleton]; omega, HF, HO3, HB3⟩
          case measure => simp [intOf]; omega
        | false =>
          rw [zg] at SG
          obtain ⟨b1, hb1e⟩ : ∃ b : Int, rd l ((i + 1 : Nat) : Int) = b := ⟨_, rfl⟩
          have hb1m := hb.out (rd l ((i + 1 : Nat) : Int)) (caraferef5_Decode.rd_mem l (i + 1) (by omega))
          have h1 := HH.out.2.2.2.1 (i + 1) (by omega)
          rw [hb1e] at hb1m h1
          obtain ⟨hb10, hb11⟩ := hb1m
          have hne1 : bk ≠ gb := by have := HH.out.2.1; omega
          have n1 : ∀ j v, (w1.setCell ⟨gb, j, none⟩ v).cell? ⟨bk, of + (i + 1), none⟩ = some (.int .u8 b1) := fun j v => (cell_far (p := ⟨gb, j, none⟩) hne1 v).trans h1
          clear hne1
          replace hb1e := Aside0.mk hb1e
          have iw1 : IntKind.i64.wrap ((i : Int) + 1) = (i : Int) + 1 := by rw [IntKind.wrap_i64]; omega
          have g1 : (0 : Int) ≤ (i : Int) + 1 := by omega
          have gg1 : (i : Int) + 1 < (l.length : Int) := by omega
          have e1 : ((i : Int) + 1).toNat = i + 1 := by omega
          obtain ⟨b2, hb2e⟩ : ∃ b : Int, rd l ((i + 2 : Nat) : Int) = b := ⟨_, rfl⟩
          have hb2m := hb.out (rd l ((i + 2 : Nat) : Int)) (caraferef5_Decode.rd_mem l (i + 2) (by omega))
          have h2 := HH.out.2.2.2.1 (i + 2) (by omega)
          rw [hb2e] at hb2m h2
          obtain ⟨hb20, hb21⟩ := hb2m
          have hne2 : bk ≠ gb := by have := HH.out.2.1; omega
          have n2 : ∀ j v, (w1.setCell ⟨gb, j, none⟩ v).cell? ⟨bk, of + (i + 2), none⟩ = some (.int .u8 b2) := fun j v => (cell_far (p := ⟨gb, j, none⟩) hne2 v).trans h2
          clear hne2
          replace hb2e := Aside0.mk hb2e
          have iw2 : IntKind.i64.wrap ((i : Int) + 2) = (i : Int) + 2 := by rw [IntKind.wrap_i64]; omega
          have g2 : (0 : Int) ≤ (i : Int) + 2 := by omega
          have gg2 : (i : Int) + 2 < (l.length : Int) := by omega
          have e2 : ((i : Int) + 2).toNat = i + 2 := by omega
          go_wp2_with fail
          refine (SG.out _).mono ?_
          rintro e w2 ⟨rfl, ⟨nd1, rfl⟩⟩
          go_wp2_with fail
          refine wp_region_lex_lit (cls (fun s => if s 15 = true then w1.setCell ⟨gb, 2, none⟩ (.int .i64 (Go.bits .or .i64 (IntKind.i64.wrap (IntKind.i64.wrap b1 * 256)) (IntKind.i64.wrap b2))) else w1)) (by kernel_rfl) (by kernel_rfl) (by kernel_rfl) ?_ ?_
          (focus (first | exact cls_drew rfl | exact cls_drewN rfl))
          iterate 15 (refine lex_yes (v := ?_) ?_ (quiet_v ?_ ?_) ?_; rotate_left; (focus rfl); (focus ((intro s; simp); done)); (focus ((intro s n; (by_cases hs1 : s 15 = true <;> simp only [hs1, if_true, if_false, Bool.false_eq_true]) <;> (go_simp; first | done | with_reducible rfl | (refine And.intro ?_ ?_ <;> rfl))); done)); (try simp only [Act.put, List.setIfInBounds_toArray, List.set_cons_zero, List.set_cons_succ]))
          (refine lex_yes ?_ (turns_s ?_) ?_; (focus rfl); (focus ((intro s n hs; simp only [hs, Bool.false_or, BEq.rfl, if_true, Bool.false_eq_true, if_false]; go_simp; rfl); done)); (try simp only [Act.put, List.setIfInBounds_toArray, List.set_cons_zero, List.set_cons_succ]))
          refine lex_nil ?_
          refine cls_end (w := w1.setCell ⟨gb, 2, none⟩ (.int .i64 (Go.bits .or .i64 (IntKind.i64.wrap (IntKind.i64.wrap b1 * 256)) (IntKind.i64.wrap b2)))) [15] (by rfl) (fun s hs => by rw [if_pos (hs 15 (by decide))]) (fun m => ?_)
          have qo : (w1.setCell ⟨gb, 2, none⟩ (.int .i64 (Go.bits .or .i64 (IntKind.i64.wrap (IntKind.i64.wrap b1 * 256)) (IntKind.i64.wrap b2)))).cell? ⟨gb, 1, none⟩ = some (.int .i64 b0) := (blk_cell (HH.out.set 2 _).1 1).trans rfl
          go_wp2_with fail
          refine (BR.out _).mono ?_
          rintro e w2 ⟨rfl, ⟨nd2, rfl⟩⟩
          go_upto_region 25 with (fail)
          refine caraferef5_Decode.wp_at (fun W => caraferef5_Decode.Here w W gb bk of l u5 acc #[.int .i64 ((i : Int)), .int .i64 (b0), .int .i64 (Go.bits .or .i64 (b1 * 256) b2), .int .i64 (0)]) ((HH.out.set 2 _).drewN _) (fun W2 HE => ?_)
          replace HE := Aside0.mk HE
          clear HH q1 q2 q3 qf2 qf3
          have q0 : W2.cell? ⟨gb, 0, none⟩ = some (.int .i64 ((i : Int))) := (blk_cell HE.out.1 0).trans rfl
          have q1 : W2.cell? ⟨gb, 1, none⟩ = some (.int .i64 (b0)) := (blk_cell HE.out.1 1).trans rfl
          have q2 : W2.cell? ⟨gb, 2, none⟩ = some (.int .i64 (Go.bits .or .i64 (b1 * 256) b2)) := (blk_cell HE.out.1 2).trans rfl
          have q3 : W2.cell? ⟨gb, 3, none⟩ = some (.int .i64 (0)) := (blk_cell HE.out.1 3).trans rfl
          have HF := Aside0.mk (show caraferef5_Decode.l0 kq l (acc ++ [⟨(i : Int), b0, Go.bits .or .i64 (b1 * 256) b2, 0⟩]) (i + 3) = some (r1, r2, r3) from by have h := HD.out; rw [show caraferef5_Decode.inst l i = ⟨(i : Int), b0, Go.bits .or .i64 (b1 * 256) b2, 0⟩ from by (have zs := hn.out; unfold caraferef5_Decode.inst; rw [hbe.out, hb1e.out, hb2e.out, if_neg c132, if_neg (by rw [zs]; decide), if_pos zs, if_neg (by rw [zg]; decide), hoff])] at h; exact h)
          have hac2 : (acc.length + 1) * 32 ≤ 140737488355328 := by omega
          go_wp2_with (((with_reducible refine gate_builtin (b := .append) (xs := #[.tmp 132, .tmp 134]) rfl ?_); at_builtin; refine Kd.R_append k32 (w0 := w) w.heap.size rfl (.tmp 132) (.tmp 134) 24 32 (.agg #[(.int .i64 0), (.int .i64 0), (.int .i64 0), (.int .i64 0)]) 32 rfl Try.underlying24 info32 rfl (by decide) (by omega) u5 acc (⟨(i : Int), b0, Go.bits .or .i64 (b1 * 256) b2, 0⟩ : S32) [.int .i64 ((i : Int)), .int .i64 (b0), .int .i64 (Go.bits .or .i64 (b1 * 256) b2), .int .i64 (0)] (fun k => k ≠ gb) (fun _ => False) rfl (by first | (go_simp; done) | (go_simp; rfl)) (k32_mkM _ _ _ (⟨(i : Int), b0, Go.bits .or .i64 (b1 * 256) b2, 0⟩ : S32)) (fun _ hk => hk.elim) (fun k hk => by have := blk_lt HE.out.1; omega) HE.out.2.2.2.2.1 HE.out.2.2.2.2.2 (below_size HE.out.2.2.2.2.2) hac2 ?_; intro v1 w9 hown1 hb9 hg1 hat1; have HO3 := Aside0.mk (Kd.R_mono hown1 (fun _ _ => trivial)); have HB3 := Aside0.mk hb9; clear hown1 hb9 hg1 hat1))
          go_roundw
          case rel => exact ⟨_, i + 3, kq, by go_num, by omega, by rw [List.length_append, List.length_singleton]; omega, HF, HO3, HB3⟩
          case measure => simp [intOf]; omega
    · have HD2 := HD1
      rw [if_neg hlt] at HD2
      simp only [Option.some.injEq, Prod.mk.injEq] at HD2
      obtain ⟨rfl, rfl, rfl⟩ := HD2
      clear HD1
      go_wp2
      go_ret3
      exact ⟨_, rfl, HO.out, HB.out⟩
theorem caraferef5_Decode.calls (k : Nat) (A0 : Option Addr) (c0 : Nat) (l0 : List Int) (r1 : List (S32)) (r2 : Int) (r3 : Int) (w : World) (hr0 : Kd.C (Kd.int .u8) w A0 l0.length l0) (hc0 : l0.length ≤ c0) (h : caraferef5_Decode.f k l0 = some (r1, r2, r3)) :
    Calls Try.prog 11 #[.slice A0 l0.length c0] w fun e w' => ∃ v0_ : Value, e = .returned (.tuple #[v0_, .int .i64 r2, .int .i64 r3]) ∧ Kd.R k32 32 w' w.heap.size (fun _ => True) v0_ r1 ∧ Below w.heap.size w w' := by
  unfold caraferef5_Decode.f at h
  by_cases hb : ∀ x ∈ l0, 0 ≤ x ∧ x < 256
  · rw [if_pos hb] at h
    by_cases hl : 1024 < l0.length
    · rw [if_pos hl] at h
      simp only [Option.some.injEq, Prod.mk.injEq] at h
      obtain ⟨rfl, rfl, rfl⟩ := h
      exact caraferef5_Decode.long l0 A0 c0 w hl hr0.2.1
    · rw [if_neg hl] at h
      by_cases he : l0 = []
      · exact caraferef5_Decode.walk l0 A0 0 0 c0 w r1 r2 r3 k (.inl he) hr0 hc0 (by omega) ⟨hb⟩ ⟨h⟩
      · have hp : 0 < l0.length := List.length_pos_iff.mpr he
        obtain ⟨ad, rfl, hcell⟩ := Kd.at_int hr0 0 (by omega) (by omega)
        obtain ⟨bk, of, sp⟩ := ad
        obtain rfl : sp = none := by
          cases sp with
          | none => rfl
          | some s => simp [World.cell?, Addr.add] at hcell; split at hcell <;> simp at hcell
        exact caraferef5_Decode.walk l0 _ bk of c0 w r1 r2 r3 k (.inr rfl) hr0 hc0 (by omega) ⟨hb⟩ ⟨h⟩
  · rw [if_neg hb] at h; cases h

end Go.Proofs.Ytcjhhlbhfkcboaa.PA
