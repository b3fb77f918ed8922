-- Written for this claim by a program of our own (myprint).
import Derived.Test.YtcjhhlbhfkcboaaPA0
import Derived.Test.YtcjhhlbhfkcboaaPAf17
import Derived.Test.YtcjhhlbhfkcboaaPAf26
import Derived.Test.YtcjhhlbhfkcboaaPAf33
import Derived.Handy
import Derived.Deep.RegionHeld3
import Derived.Test.YtcjhhlbhfkcboaaLex
namespace Go.Proofs.Ytcjhhlbhfkcboaa.PA
open Go.RowKit Go.Proofs.YtcjhhlbhfkcboaaW.PrintWords Go.Proofs.YtcjhhlbhfkcboaaW.PrintLast Go.Proofs.YtcjhhlbhfkcboaaW.PrintMore
attribute [local go_sem] max2_int min2_int max_two min_two max_three min_three max_four min_four   -- for this text's walks alone
set_option linter.unusedVariables false
set_option linter.unusedSimpArgs false

/-! ### code_Decode: function 10 -/
open Go.Proofs.YtcjhhlbhfkcboaaLex
def code_Decode.sgn (a b : Int) : Int := wrap64 (Go.bits .or .i16 (IntKind.i16.wrap ((IntKind.i16.wrap a) * 256)) (IntKind.i16.wrap b))
def code_Decode.br (b0 : Int) : Bool := (code_Branch.f b0).getD false
def code_Decode.inst (l : List Int) (i : Nat) : S32 :=
  let b0 := rd l i; let b1 := rd l ((i + 1 : Nat) : Int); let b2 := rd l ((i + 2 : Nat) : Int)
  if b0 = 132 then ⟨i, b0, b1, wrap64 (IntKind.i8.wrap b2)⟩ else
  if b0 = 16 then ⟨i, b0, wrap64 (IntKind.i8.wrap b1), 0⟩ else
  if b0 = 17 then ⟨i, b0, code_Decode.sgn b1 b2, 0⟩ else
  if code_Decode.br b0 = true then ⟨i, b0, wrap64 (i + code_Decode.sgn b1 b2), 0⟩ else
  if code_Size.g b0 = 3 then ⟨i, b0, Go.bits .or .i64 (b1 * 256) b2, 0⟩ else
  if code_Size.g b0 = 2 then ⟨i, b0, b1, 0⟩ else ⟨i, b0, 0, 0⟩
def code_Decode.l0 : Nat → List Int → List S32 → Nat → Option (List S32 × Int × Int)
  | 0, _, _, _ => none
  | k + 1, l, acc, i =>
    if i < l.length then
      if code_Size.g (rd l i) = 0 then some ([], 15, (i : Int)) else
      if (l.length : Int) - i < code_Size.g (rd l i) then some ([], 10, (i : Int)) else
      code_Decode.l0 k l (acc ++ [code_Decode.inst l i]) (i + (code_Size.g (rd l i)).toNat)
    else some (acc, 0, 0)
def code_Decode.f (k : Nat) (l0 : List Int) : Option (List S32 × Int × Int) :=
  if (∀ x ∈ l0, 0 ≤ x ∧ x < 256) then (if 1024 < l0.length then some ([], 3, 0) else code_Decode.l0 k l0 [] 0) else none
theorem code_Decode.mono_l : ∀ k l acc i, LeO (code_Decode.l0 k l acc i) (code_Decode.l0 (k + 1) l acc i)
  | 0, _, _, _ => fun r h => by simp [code_Decode.l0] at h
  | k + 1, l, acc, i => by
    unfold code_Decode.l0
    repeat' first
      | (with_reducible exact LeO.refl _)
      | (with_reducible refine LeO.ite ?_ ?_)
      | exact code_Decode.mono_l k _ _ _
theorem code_Decode.mono : ∀ a0 k, LeO (code_Decode.f k a0) (code_Decode.f (k + 1) a0) := by
  intro a0 k
  unfold code_Decode.f
  repeat' first
    | (with_reducible exact LeO.refl _)
    | (with_reducible refine LeO.ite ?_ ?_)
    | exact code_Decode.mono_l k _ _ _
theorem code_Decode.size_cases (b : Int) : code_Size.g b = 0 ∨ code_Size.g b = 1 ∨ code_Size.g b = 2 ∨ code_Size.g b = 3 := by
  unfold code_Size.g
  repeat' split
  all_goals simp
theorem code_Decode.br_three (b : Int) (h : code_Decode.br b = true) : code_Size.g b = 3 := by
  have : b = 198 ∨ b = 199 ∨ (153 ≤ b ∧ b ≤ 167) := by
    unfold code_Decode.br code_Branch.f at h
    repeat' split at h
    all_goals (simp at h; try omega)
  have h3 : b ∈ code_Size.L3 := by
    unfold code_Size.L3
    simp only [List.mem_cons, List.not_mem_nil, or_false]
    omega
  unfold code_Size.g
  rw [if_pos h3]
theorem code_Decode.br_some (b : Int) : code_Branch.f b = some (code_Decode.br b) := by
  unfold code_Decode.br code_Branch.f
  repeat' split
  all_goals rfl
theorem code_Decode.rd_mem (l : List Int) (i : Nat) (h : i < l.length) : rd l i ∈ l := by
  unfold rd; rw [Int.toNat_natCast, List.getD_eq_getElem?_getD, List.getElem?_eq_getElem h]; exact List.getElem_mem h
def code_Decode.Post (r1 : List S32) (r2 r3 : Int) (w : World) (e : Ending) (w' : World) : Prop := ∃ v0_ : Value, e = .returned (.tuple #[v0_, .int .i64 r2, .int .i64 r3]) ∧ Kd.R k32 32 w' w.heap.size (fun _ => True) v0_ r1 ∧ Below w.heap.size w w'
set_option maxHeartbeats 400000 in
theorem code_Decode.long (l : List Int) (A : Option Addr) (c : Nat) (w : World) (h : 1024 < l.length) (hm : l.length ≤ 9223372036854775807) : Calls Try.prog 10 #[.slice A l.length c] w (code_Decode.Post [] 3 0 w) := by
  go_enter Try.func10, Try.ntmps10
  go_wp2
  go_ret3
  exact ⟨_, rfl, Kd.R_nil _ _ _ _ _, Below.refl _ _⟩
set_option maxHeartbeats 6400000 in
set_option maxRecDepth 100000 in
theorem code_Decode.walk (l : List Int) (A : Option Addr) (bk of : Nat) (c : Nat) (w : World) (r1 : List S32) (r2 r3 : Int) (k0 : Nat) (hA : l = [] ∨ A = some ⟨bk, of, none⟩) (hr : Kd.C (Kd.int .u8) w A l.length l) (hc : l.length ≤ c) (hlen : l.length ≤ 1024) (hb : Aside0 (∀ x ∈ l, 0 ≤ x ∧ x < 256))
    (hd0 : Aside0 (code_Decode.l0 k0 l [] 0 = some (r1, r2, r3))) :
    Calls Try.prog 10 #[.slice A l.length c] w (code_Decode.Post r1 r2 r3 w) := by
  have hu32 := Try.underlying32
  have HR := Aside0.mk hr
  have HA := Aside0.mk hA
  clear hr hA
  go_enter Try.func10, Try.ntmps10
  go_wp2_with fail
  go_loopw [5, 6] (fun v5 v6 wr => ∃ (acc : List S32) (i kq : Nat), v6 = .int .i64 i ∧ i ≤ l.length ∧ acc.length ≤ i ∧ Aside0 (code_Decode.l0 kq l acc i = some (r1, r2, r3)) ∧ Aside0 (Kd.R k32 32 wr w.heap.size (fun _ => True) v5 acc) ∧ Aside0 (Below w.heap.size w wr)) (fun _ v6 _ => l.length - (intOf v6).toNat)
  case atStart => exact ⟨[], 0, k0, rfl, Nat.zero_le _, Nat.le_refl _, hd0, ⟨Kd.R_nil _ _ _ _ _⟩, ⟨Below.refl _ _⟩⟩
  case round =>
    clear hd0
    obtain ⟨acc, i, kq, rfl, hi, hac, HD, HO, HB⟩ := hrel
    cases kq with
    | zero => exact absurd HD.out (by simp [code_Decode.l0])
    | succ kq =>
    have HD1 := HD.out
    clear HD
    unfold code_Decode.l0 at HD1
    by_cases hlt : i < l.length
    · rw [if_pos hlt] at HD1
      obtain rfl : A = some ⟨bk, of, none⟩ := HA.out.resolve_left (by rintro rfl; simp at hlt)
      clear HA
      have bat : ∀ j : Nat, j < l.length → wr.cell? ⟨bk, of + j, none⟩ = some (.int .u8 (rd l j)) := by
        intro j hj
        obtain ⟨ad', e, h⟩ := Kd.at_int HR.out (j : Int) (by omega) (by omega)
        cases e
        rw [Int.toNat_natCast, show (Addr.mk bk of none).add j = ⟨bk, of + j, none⟩ from by simp [Addr.add]] at h
        exact (HB.out.cell (World.block_lt_of_cell? w _ h)).trans h
      have bat2 : ∀ j : Nat, j < l.length → ∃ b : Int, 0 ≤ b ∧ b < 256 ∧ rd l j = b ∧ wr.cell? ⟨bk, of + j, none⟩ = some (.int .u8 b) ∧ ∀ o : Obj, (wr.alloc o).cell? ⟨bk, of + j, none⟩ = some (.int .u8 b) := by
        intro j hj
        have h := bat j hj
        have hm := hb.out (rd l j) (code_Decode.rd_mem l j hj)
        exact ⟨_, hm.1, hm.2, rfl, h, fun o => (World.cell?_alloc_some wr _ o (by rw [h]; rfl)).trans h⟩
      clear bat
      replace bat2 := Aside0.mk bat2
      obtain ⟨b0, hb0, hb1, hbe, h0, n0⟩ := bat2.out i hlt
      rw [hbe] at HD1
      by_cases z0 : code_Size.g b0 = 0
      · rw [if_pos z0] at HD1
        have S : Aside0 (∀ w, Calls Try.prog 17 #[.int .i64 b0] w fun e w' => e = .returned (.int .i64 0) ∧ Drawn0 w w') := ⟨fun w => code_Size.calls b0 0 w (by rw [code_Size.f, z0])⟩
        simp only [Option.some.injEq, Prod.mk.injEq] at HD1
        obtain ⟨rfl, rfl, rfl⟩ := HD1
        clear z0 hbe n0 bat2
        go_wp2_with fail
        refine (S.out _).mono ?_
        rintro e w' ⟨rfl, ⟨nd, rfl⟩⟩
        go_wp2
        go_ret3
        exact ⟨_, rfl, Kd.R_nil _ _ _ _ _, pw_below_drewN (below_alloc HB.out _) _⟩
      rw [if_neg z0] at HD1
      by_cases z1 : (l.length : Int) - i < code_Size.g b0
      · rw [if_pos z1] at HD1
        obtain ⟨n, hn⟩ : ∃ n, code_Size.g b0 = n := ⟨_, rfl⟩
        have S : Aside0 (∀ w, Calls Try.prog 17 #[.int .i64 b0] w fun e w' => e = .returned (.int .i64 n) ∧ Drawn0 w w') := ⟨fun w => code_Size.calls b0 n w (by rw [code_Size.f, hn])⟩
        rw [hn] at z1 z0
        have z2 : (n == 0) = false := beq_eq_false_iff_ne.mpr z0
        have z3 : decide ((l.length : Int) - i < n) = true := decide_eq_true z1
        simp only [Option.some.injEq, Prod.mk.injEq] at HD1
        obtain ⟨rfl, rfl, rfl⟩ := HD1
        clear z0 z1 hn hbe n0 bat2
        go_wp2_with fail
        refine (S.out _).mono ?_
        rintro e w' ⟨rfl, ⟨nd, rfl⟩⟩
        go_wp2
        go_ret3
        exact ⟨_, rfl, Kd.R_nil _ _ _ _ _, pw_below_drewN (below_alloc HB.out _) _⟩
      rw [if_neg z1] at HD1
      have HD := Aside0.mk HD1
      clear HD1
      have z0' := z0
      clear z0
      by_cases c132 : b0 = 132
      · subst c132
        have zs : code_Size.g 132 = 3 := by decide
        rw [zs] at z1
        have S : Aside0 (∀ w, Calls Try.prog 17 #[.int .i64 132] w fun e w' => e = .returned (.int .i64 3) ∧ Drawn0 w w') := ⟨fun w => code_Size.calls 132 3 w (by decide)⟩
        obtain ⟨b1, hb10, hb11, hb1e, h1, n1⟩ := bat2.out (i + 1) (by omega)
        have w1 : IntKind.i64.wrap ((i : Int) + 1) = (i : Int) + 1 := by rw [IntKind.wrap_i64]; omega
        have g1 : (0 : Int) ≤ (i : Int) + 1 := by omega
        have gg1 : (i : Int) + 1 < (l.length : Int) := by omega
        have e1 : ((i : Int) + 1).toNat = i + 1 := by omega
        obtain ⟨b2, hb20, hb21, hb2e, h2, n2⟩ := bat2.out (i + 2) (by omega)
        have w2 : IntKind.i64.wrap ((i : Int) + 2) = (i : Int) + 2 := by rw [IntKind.wrap_i64]; omega
        have g2 : (0 : Int) ≤ (i : Int) + 2 := by omega
        have gg2 : (i : Int) + 2 < (l.length : Int) := by omega
        have e2 : ((i : Int) + 2).toNat = i + 2 := by omega
        have HF := Aside0.mk (show code_Decode.l0 kq l (acc ++ [⟨i, 132, b1, wrap64 (IntKind.i8.wrap b2)⟩]) (i + 3) = some (r1, r2, r3) from by have h := HD.out; rw [zs, code_Decode.inst, hbe, if_pos rfl, hb1e, hb2e] at h; exact h)
        clear HD hbe bat2 hb1e hb2e
        go_wp2_with fail
        refine (S.out _).mono ?_
        rintro e w' ⟨rfl, ⟨nd, rfl⟩⟩
        go_wp2_with fail
        refine wp_region_lex_lit (cls (fun s => wr.alloc (.cells #[.int .i64 i, .int .i64 132, .int .i64 (if s 14 = true then IntKind.i64.wrap b1 else 0), .int .i64 (if s 16 = true then IntKind.i64.wrap (IntKind.i8.wrap b2) else 0)] 32))) (by kernel_rfl) (by kernel_rfl) (by kernel_rfl) ?_ ?_
        (focus (first | exact cls_drew rfl | exact cls_drewN rfl))
        iterate 14 (refine lex_yes (v := ?_) ?_ (quiet_v ?_ ?_) ?_; rotate_left; (focus rfl); (focus ((intro s; simp); done)); (focus ((intro s n; (by_cases h14 : s 14 = true <;> by_cases h16 : s 16 = true <;> simp only [h14, h16, if_true, if_false, Bool.false_eq_true]) <;> (go_simp; first | done | with_reducible rfl | (refine And.intro ?_ ?_ <;> rfl))); done)); (try simp only [Act.put, List.setIfInBounds_toArray, List.set_cons_zero, List.set_cons_succ]))
        (refine lex_yes ?_ (turns_s ?_) ?_; (focus rfl); (focus ((intro s n hs; simp only [hs, Bool.false_or, BEq.rfl, if_true, Bool.false_eq_true, if_false]; go_simp; exact set_new _ _ _ _ _ _); done)); (try simp only [Act.put, List.setIfInBounds_toArray, List.set_cons_zero, List.set_cons_succ]))
        (refine lex_yes (v := ?_) ?_ (quiet_v ?_ ?_) ?_; rotate_left; (focus rfl); (focus ((intro s; simp); done)); (focus ((intro s n; (by_cases h14 : s 14 = true <;> by_cases h16 : s 16 = true <;> simp only [h14, h16, if_true, if_false, Bool.false_eq_true]) <;> (go_simp; first | done | with_reducible rfl | (refine And.intro ?_ ?_ <;> rfl))); done)); (try simp only [Act.put, List.setIfInBounds_toArray, List.set_cons_zero, List.set_cons_succ]))
        (refine lex_yes ?_ (turns_s ?_) ?_; (focus rfl); (focus ((intro s n hs; simp only [hs, Bool.false_or, BEq.rfl, if_true, Bool.false_eq_true, if_false]; go_simp; exact set_new _ _ _ _ _ _); done)); (try simp only [Act.put, List.setIfInBounds_toArray, List.set_cons_zero, List.set_cons_succ]))
        refine lex_nil ?_
        refine cls_end (w := wr.alloc (.cells #[.int .i64 i, .int .i64 132, .int .i64 (IntKind.i64.wrap b1), .int .i64 (IntKind.i64.wrap (IntKind.i8.wrap b2))] 32)) [14, 16] (by rfl) (fun s hs => by rw [if_pos (hs 14 (by decide)), if_pos (hs 16 (by decide))]) (fun m => ?_)
        have HO2 := Aside0.mk (show Kd.R k32 32 ((wr.alloc (.cells #[.int .i64 ((i : Int)), .int .i64 (132), .int .i64 (b1), .int .i64 (wrap64 (IntKind.i8.wrap b2))] 32)).drewN (m)) w.heap.size (fun _ => True) u5 acc from Kd.R_drewN (Kd.R_alloc HO.out _) _)
        have HB2 := Aside0.mk (show Below w.heap.size w ((wr.alloc (.cells #[.int .i64 ((i : Int)), .int .i64 (132), .int .i64 (b1), .int .i64 (wrap64 (IntKind.i8.wrap b2))] 32)).drewN (m)) from pw_below_drewN (below_alloc HB.out _) _)
        have hac2 : (acc.length + 1) * 32 ≤ 140737488355328 := by omega
        go_wp2_with (((with_reducible refine gate_builtin (b := .append) (xs := #[.tmp 131, .tmp 133]) rfl ?_); at_builtin; refine Kd.R_append k32 (w0 := w) w.heap.size rfl (.tmp 131) (.tmp 133) 24 32 (.agg #[(.int .i64 0), (.int .i64 0), (.int .i64 0), (.int .i64 0)]) 32 rfl Try.underlying24 info32 rfl (by decide) (by omega) u5 acc (⟨(i : Int), 132, b1, wrap64 (IntKind.i8.wrap b2)⟩ : S32) [.int .i64 ((i : Int)), .int .i64 (132), .int .i64 (b1), .int .i64 (wrap64 (IntKind.i8.wrap b2))] (fun _ => True) (fun _ => False) rfl (by first | (go_simp; done) | (go_simp; rfl)) (k32_mkM _ _ _ (⟨(i : Int), 132, b1, wrap64 (IntKind.i8.wrap b2)⟩ : S32)) (fun _ hk => hk.elim) (fun _ _ => trivial) HO2.out HB2.out (below_size HB2.out) hac2 ?_; intro v1 w1 hown1 hb1 hg1 hat1; have HO3 := Aside0.mk hown1; have HB3 := Aside0.mk hb1; clear hown1 hb1 hg1 hat1))
        go_roundw
        case rel => exact ⟨_, i + 3, kq, by go_num, by omega, by rw [List.length_append, List.length_singleton]; omega, HF, HO3, HB3⟩
        case measure => simp [intOf]; omega
      by_cases c16 : b0 = 16
      · subst c16
        have zs : code_Size.g 16 = 2 := by decide
        rw [zs] at z1
        have S : Aside0 (∀ w, Calls Try.prog 17 #[.int .i64 16] w fun e w' => e = .returned (.int .i64 2) ∧ Drawn0 w w') := ⟨fun w => code_Size.calls 16 2 w (by decide)⟩
        obtain ⟨b1, hb10, hb11, hb1e, h1, n1⟩ := bat2.out (i + 1) (by omega)
        have w1 : IntKind.i64.wrap ((i : Int) + 1) = (i : Int) + 1 := by rw [IntKind.wrap_i64]; omega
        have g1 : (0 : Int) ≤ (i : Int) + 1 := by omega
        have gg1 : (i : Int) + 1 < (l.length : Int) := by omega
        have e1 : ((i : Int) + 1).toNat = i + 1 := by omega
        have HF := Aside0.mk (show code_Decode.l0 kq l (acc ++ [⟨i, 16, wrap64 (IntKind.i8.wrap b1), 0⟩]) (i + 2) = some (r1, r2, r3) from by have h := HD.out; rw [zs, code_Decode.inst, hbe, if_neg (by decide), if_pos rfl, hb1e] at h; exact h)
        clear HD hbe bat2 hb1e
        go_wp2_with fail
        refine (S.out _).mono ?_
        rintro e w' ⟨rfl, ⟨nd, rfl⟩⟩
        go_upto_region 24 with (fail)
        rw [set_new]
        simp only [List.setIfInBounds_toArray, List.set_cons_zero, List.set_cons_succ]
        have HO2 := Aside0.mk (show Kd.R k32 32 ((wr.alloc (.cells #[.int .i64 ((i : Int)), .int .i64 (16), .int .i64 (wrap64 (IntKind.i8.wrap b1)), .int .i64 (0)] 32)).drewN (nd)) w.heap.size (fun _ => True) u5 acc from Kd.R_drewN (Kd.R_alloc HO.out _) _)
        have HB2 := Aside0.mk (show Below w.heap.size w ((wr.alloc (.cells #[.int .i64 ((i : Int)), .int .i64 (16), .int .i64 (wrap64 (IntKind.i8.wrap b1)), .int .i64 (0)] 32)).drewN (nd)) from pw_below_drewN (below_alloc HB.out _) _)
        have hac2 : (acc.length + 1) * 32 ≤ 140737488355328 := by omega
        go_wp2_with (((with_reducible refine gate_builtin (b := .append) (xs := #[.tmp 131, .tmp 133]) rfl ?_); at_builtin; refine Kd.R_append k32 (w0 := w) w.heap.size rfl (.tmp 131) (.tmp 133) 24 32 (.agg #[(.int .i64 0), (.int .i64 0), (.int .i64 0), (.int .i64 0)]) 32 rfl Try.underlying24 info32 rfl (by decide) (by omega) u5 acc (⟨(i : Int), 16, wrap64 (IntKind.i8.wrap b1), 0⟩ : S32) [.int .i64 ((i : Int)), .int .i64 (16), .int .i64 (wrap64 (IntKind.i8.wrap b1)), .int .i64 (0)] (fun _ => True) (fun _ => False) rfl (by first | (go_simp; done) | (go_simp; rfl)) (k32_mkM _ _ _ (⟨(i : Int), 16, wrap64 (IntKind.i8.wrap b1), 0⟩ : S32)) (fun _ hk => hk.elim) (fun _ _ => trivial) HO2.out HB2.out (below_size HB2.out) hac2 ?_; intro v1 w1 hown1 hb1 hg1 hat1; have HO3 := Aside0.mk hown1; have HB3 := Aside0.mk hb1; clear hown1 hb1 hg1 hat1))
        go_roundw
        case rel => exact ⟨_, i + 2, kq, by go_num, by omega, by rw [List.length_append, List.length_singleton]; omega, HF, HO3, HB3⟩
        case measure => simp [intOf]; omega
      by_cases c17 : b0 = 17
      · subst c17
        have zs : code_Size.g 17 = 3 := by decide
        rw [zs] at z1
        have S : Aside0 (∀ w, Calls Try.prog 17 #[.int .i64 17] w fun e w' => e = .returned (.int .i64 3) ∧ Drawn0 w w') := ⟨fun w => code_Size.calls 17 3 w (by decide)⟩
        obtain ⟨b1, hb10, hb11, hb1e, h1, n1⟩ := bat2.out (i + 1) (by omega)
        have w1 : IntKind.i64.wrap ((i : Int) + 1) = (i : Int) + 1 := by rw [IntKind.wrap_i64]; omega
        have g1 : (0 : Int) ≤ (i : Int) + 1 := by omega
        have gg1 : (i : Int) + 1 < (l.length : Int) := by omega
        have e1 : ((i : Int) + 1).toNat = i + 1 := by omega
        obtain ⟨b2, hb20, hb21, hb2e, h2, n2⟩ := bat2.out (i + 2) (by omega)
        have w2 : IntKind.i64.wrap ((i : Int) + 2) = (i : Int) + 2 := by rw [IntKind.wrap_i64]; omega
        have g2 : (0 : Int) ≤ (i : Int) + 2 := by omega
        have gg2 : (i : Int) + 2 < (l.length : Int) := by omega
        have e2 : ((i : Int) + 2).toNat = i + 2 := by omega
        have HF := Aside0.mk (show code_Decode.l0 kq l (acc ++ [⟨i, 17, code_Decode.sgn b1 b2, 0⟩]) (i + 3) = some (r1, r2, r3) from by have h := HD.out; rw [zs, code_Decode.inst, hbe, if_neg (by decide), if_neg (by decide), if_pos rfl, hb1e, hb2e] at h; exact h)
        clear HD hbe bat2 hb1e hb2e
        have SG : Aside0 (∀ w, Calls Try.prog 33 #[.int .u8 b1, .int .u8 b2] w fun e w' => e = .returned (.int .i64 (code_Decode.sgn b1 b2)) ∧ Drawn0 w w') := ⟨fun w => code_signed.calls b1 b2 _ w rfl⟩
        go_wp2_with fail
        refine (S.out _).mono ?_
        rintro e w' ⟨rfl, ⟨nd, rfl⟩⟩
        go_wp2_with fail
        refine wp_region_lex_lit (cls (fun s => wr.alloc (.cells #[.int .i64 i, .int .i64 17, .int .i64 (if s 12 = true then code_Decode.sgn b1 b2 else 0), .int .i64 (0)] 32))) (by kernel_rfl) (by kernel_rfl) (by kernel_rfl) ?_ ?_
        (focus (first | exact cls_drew rfl | exact cls_drewN rfl))
        iterate 10 (refine lex_yes (v := ?_) ?_ (quiet_v ?_ ?_) ?_; rotate_left; (focus rfl); (focus ((intro s; simp); done)); (focus ((intro s n; (by_cases hs1 : s 12 = true <;> simp only [hs1, if_true, if_false, Bool.false_eq_true]) <;> (go_simp; first | done | with_reducible rfl | (refine And.intro ?_ ?_ <;> rfl))); done)); (try simp only [Act.put, List.setIfInBounds_toArray, List.set_cons_zero, List.set_cons_succ]))
        (refine lex_yes (v := ?_) ?_ (quiet_c (f := ?_) (args := ?_) ?_ ?_ ?_) ?_; rotate_left; (focus rfl); rotate_left 2; (focus ((intro s; simp); done)); (focus ((intro s n; (by_cases hs1 : s 12 = true <;> simp only [hs1, if_true, if_false, Bool.false_eq_true]) <;> (go_simp; first | done | with_reducible rfl | (refine And.intro ?_ ?_ <;> rfl))); done)); (focus (intro s n; refine (SG.out _).mono ?_; rintro e9 w9 ⟨rfl, m9, rfl⟩; refine And.intro ?_ ?_; rfl; exact ⟨m9, rfl⟩)); (try simp only [Act.put, List.setIfInBounds_toArray, List.set_cons_zero, List.set_cons_succ]))
        (refine lex_yes (v := ?_) ?_ (quiet_v ?_ ?_) ?_; rotate_left; (focus rfl); (focus ((intro s; simp); done)); (focus ((intro s n; (by_cases hs1 : s 12 = true <;> simp only [hs1, if_true, if_false, Bool.false_eq_true]) <;> (go_simp; first | done | with_reducible rfl | (refine And.intro ?_ ?_ <;> rfl))); done)); (try simp only [Act.put, List.setIfInBounds_toArray, List.set_cons_zero, List.set_cons_succ]))
        (refine lex_yes ?_ (turns_s ?_) ?_; (focus rfl); (focus ((intro s n hs; simp only [hs, Bool.false_or, BEq.rfl, if_true, Bool.false_eq_true, if_false]; go_simp; exact set_new _ _ _ _ _ _); done)); (try simp only [Act.put, List.setIfInBounds_toArray, List.set_cons_zero, List.set_cons_succ]))
        refine lex_nil ?_
        refine cls_end (w := wr.alloc (.cells #[.int .i64 i, .int .i64 17, .int .i64 (code_Decode.sgn b1 b2), .int .i64 (0)] 32)) [12] (by rfl) (fun s hs => by rw [if_pos (hs 12 (by decide))]) (fun m => ?_)
        have HO2 := Aside0.mk (show Kd.R k32 32 ((wr.alloc (.cells #[.int .i64 ((i : Int)), .int .i64 (17), .int .i64 (code_Decode.sgn b1 b2), .int .i64 (0)] 32)).drewN (m)) w.heap.size (fun _ => True) u5 acc from Kd.R_drewN (Kd.R_alloc HO.out _) _)
        have HB2 := Aside0.mk (show Below w.heap.size w ((wr.alloc (.cells #[.int .i64 ((i : Int)), .int .i64 (17), .int .i64 (code_Decode.sgn b1 b2), .int .i64 (0)] 32)).drewN (m)) from pw_below_drewN (below_alloc HB.out _) _)
        have hac2 : (acc.length + 1) * 32 ≤ 140737488355328 := by omega
        go_wp2_with (((with_reducible refine gate_builtin (b := .append) (xs := #[.tmp 131, .tmp 133]) rfl ?_); at_builtin; refine Kd.R_append k32 (w0 := w) w.heap.size rfl (.tmp 131) (.tmp 133) 24 32 (.agg #[(.int .i64 0), (.int .i64 0), (.int .i64 0), (.int .i64 0)]) 32 rfl Try.underlying24 info32 rfl (by decide) (by omega) u5 acc (⟨(i : Int), 17, code_Decode.sgn b1 b2, 0⟩ : S32) [.int .i64 ((i : Int)), .int .i64 (17), .int .i64 (code_Decode.sgn b1 b2), .int .i64 (0)] (fun _ => True) (fun _ => False) rfl (by first | (go_simp; done) | (go_simp; rfl)) (k32_mkM _ _ _ (⟨(i : Int), 17, code_Decode.sgn b1 b2, 0⟩ : S32)) (fun _ hk => hk.elim) (fun _ _ => trivial) HO2.out HB2.out (below_size HB2.out) hac2 ?_; intro v1 w1 hown1 hb1 hg1 hat1; have HO3 := Aside0.mk hown1; have HB3 := Aside0.mk hb1; clear hown1 hb1 hg1 hat1))
        go_roundw
        case rel => exact ⟨_, i + 3, kq, by go_num, by omega, by rw [List.length_append, List.length_singleton]; omega, HF, HO3, HB3⟩
        case measure => simp [intOf]; omega
      have k132 : (b0 == 132) = false := beq_eq_false_iff_ne.mpr c132
      have k16 : (b0 == 16) = false := beq_eq_false_iff_ne.mpr c16
      have k17 : (b0 == 17) = false := beq_eq_false_iff_ne.mpr c17
      by_cases zb : code_Decode.br b0 = true
      · have zs := code_Decode.br_three b0 zb
        rw [zs] at z1
        have S : Aside0 (∀ w, Calls Try.prog 17 #[.int .i64 b0] w fun e w' => e = .returned (.int .i64 3) ∧ Drawn0 w w') := ⟨fun w => code_Size.calls b0 3 w (by rw [code_Size.f, zs])⟩
        have BR : Aside0 (∀ w, Calls Try.prog 26 #[.int .i64 b0] w fun e w' => e = .returned (.bool true) ∧ Drawn0 w w') := ⟨fun w => code_Branch.calls b0 true w (by rw [code_Decode.br_some, zb])⟩
        obtain ⟨b1, hb10, hb11, hb1e, h1, n1⟩ := bat2.out (i + 1) (by omega)
        have w1 : IntKind.i64.wrap ((i : Int) + 1) = (i : Int) + 1 := by rw [IntKind.wrap_i64]; omega
        have g1 : (0 : Int) ≤ (i : Int) + 1 := by omega
        have gg1 : (i : Int) + 1 < (l.length : Int) := by omega
        have e1 : ((i : Int) + 1).toNat = i + 1 := by omega
        obtain ⟨b2, hb20, hb21, hb2e, h2, n2⟩ := bat2.out (i + 2) (by omega)
        have w2 : IntKind.i64.wrap ((i : Int) + 2) = (i : Int) + 2 := by rw [IntKind.wrap_i64]; omega
        have g2 : (0 : Int) ≤ (i : Int) + 2 := by omega
        have gg2 : (i : Int) + 2 < (l.length : Int) := by omega
        have e2 : ((i : Int) + 2).toNat = i + 2 := by omega
        have HF := Aside0.mk (show code_Decode.l0 kq l (acc ++ [⟨i, b0, wrap64 (i + code_Decode.sgn b1 b2), 0⟩]) (i + 3) = some (r1, r2, r3) from by have h := HD.out; rw [zs, code_Decode.inst, hbe, if_neg c132, if_neg c16, if_neg c17, if_pos zb, hb1e, hb2e] at h; exact h)
        clear HD hbe bat2 hb1e hb2e
        have SG : Aside0 (∀ w, Calls Try.prog 33 #[.int .u8 b1, .int .u8 b2] w fun e w' => e = .returned (.int .i64 (code_Decode.sgn b1 b2)) ∧ Drawn0 w w') := ⟨fun w => code_signed.calls b1 b2 _ w rfl⟩
        go_wp2_with fail
        refine (S.out _).mono ?_
        rintro e w' ⟨rfl, ⟨nd, rfl⟩⟩
        go_wp2_with fail
        refine (BR.out _).mono ?_
        rintro e w' ⟨rfl, ⟨nd2, rfl⟩⟩
        go_wp2_with fail
        refine wp_region_lex_lit (cls (fun s => wr.alloc (.cells #[.int .i64 i, .int .i64 b0, .int .i64 (if s 14 = true then IntKind.i64.wrap (i + code_Decode.sgn b1 b2) else 0), .int .i64 (0)] 32))) (by kernel_rfl) (by kernel_rfl) (by kernel_rfl) ?_ ?_
        (focus (first | exact cls_drew rfl | exact cls_drewN rfl))
        iterate 11 (refine lex_yes (v := ?_) ?_ (quiet_v ?_ ?_) ?_; rotate_left; (focus rfl); (focus ((intro s; simp); done)); (focus ((intro s n; (by_cases hs1 : s 14 = true <;> simp only [hs1, if_true, if_false, Bool.false_eq_true]) <;> (go_simp; first | done | with_reducible rfl | (refine And.intro ?_ ?_ <;> rfl))); done)); (try simp only [Act.put, List.setIfInBounds_toArray, List.set_cons_zero, List.set_cons_succ]))
        (refine lex_yes (v := ?_) ?_ (quiet_c (f := ?_) (args := ?_) ?_ ?_ ?_) ?_; rotate_left; (focus rfl); rotate_left 2; (focus ((intro s; simp); done)); (focus ((intro s n; (by_cases hs1 : s 14 = true <;> simp only [hs1, if_true, if_false, Bool.false_eq_true]) <;> (go_simp; first | done | with_reducible rfl | (refine And.intro ?_ ?_ <;> rfl))); done)); (focus (intro s n; refine (SG.out _).mono ?_; rintro e9 w9 ⟨rfl, m9, rfl⟩; refine And.intro ?_ ?_; rfl; exact ⟨m9, rfl⟩)); (try simp only [Act.put, List.setIfInBounds_toArray, List.set_cons_zero, List.set_cons_succ]))
        iterate 2 (refine lex_yes (v := ?_) ?_ (quiet_v ?_ ?_) ?_; rotate_left; (focus rfl); (focus ((intro s; simp); done)); (focus ((intro s n; (by_cases hs1 : s 14 = true <;> simp only [hs1, if_true, if_false, Bool.false_eq_true]) <;> (go_simp; first | done | with_reducible rfl | (refine And.intro ?_ ?_ <;> rfl))); done)); (try simp only [Act.put, List.setIfInBounds_toArray, List.set_cons_zero, List.set_cons_succ]))
        (refine lex_yes ?_ (turns_s ?_) ?_; (focus rfl); (focus ((intro s n hs; simp only [hs, Bool.false_or, BEq.rfl, if_true, Bool.false_eq_true, if_false]; go_simp; exact set_new _ _ _ _ _ _); done)); (try simp only [Act.put, List.setIfInBounds_toArray, List.set_cons_zero, List.set_cons_succ]))
        refine lex_nil ?_
        refine cls_end (w := wr.alloc (.cells #[.int .i64 i, .int .i64 b0, .int .i64 (IntKind.i64.wrap (i + code_Decode.sgn b1 b2)), .int .i64 (0)] 32)) [14] (by rfl) (fun s hs => by rw [if_pos (hs 14 (by decide))]) (fun m => ?_)
        have HO2 := Aside0.mk (show Kd.R k32 32 ((wr.alloc (.cells #[.int .i64 ((i : Int)), .int .i64 (b0), .int .i64 (wrap64 (i + code_Decode.sgn b1 b2)), .int .i64 (0)] 32)).drewN (m)) w.heap.size (fun _ => True) u5 acc from Kd.R_drewN (Kd.R_alloc HO.out _) _)
        have HB2 := Aside0.mk (show Below w.heap.size w ((wr.alloc (.cells #[.int .i64 ((i : Int)), .int .i64 (b0), .int .i64 (wrap64 (i + code_Decode.sgn b1 b2)), .int .i64 (0)] 32)).drewN (m)) from pw_below_drewN (below_alloc HB.out _) _)
        have hac2 : (acc.length + 1) * 32 ≤ 140737488355328 := by omega
        go_wp2_with (((with_reducible refine gate_builtin (b := .append) (xs := #[.tmp 131, .tmp 133]) rfl ?_); at_builtin; refine Kd.R_append k32 (w0 := w) w.heap.size rfl (.tmp 131) (.tmp 133) 24 32 (.agg #[(.int .i64 0), (.int .i64 0), (.int .i64 0), (.int .i64 0)]) 32 rfl Try.underlying24 info32 rfl (by decide) (by omega) u5 acc (⟨(i : Int), b0, wrap64 (i + code_Decode.sgn b1 b2), 0⟩ : S32) [.int .i64 ((i : Int)), .int .i64 (b0), .int .i64 (wrap64 (i + code_Decode.sgn b1 b2)), .int .i64 (0)] (fun _ => True) (fun _ => False) rfl (by first | (go_simp; done) | (go_simp; rfl)) (k32_mkM _ _ _ (⟨(i : Int), b0, wrap64 (i + code_Decode.sgn b1 b2), 0⟩ : S32)) (fun _ hk => hk.elim) (fun _ _ => trivial) HO2.out HB2.out (below_size HB2.out) hac2 ?_; intro v1 w1 hown1 hb1 hg1 hat1; have HO3 := Aside0.mk hown1; have HB3 := Aside0.mk hb1; clear hown1 hb1 hg1 hat1))
        go_roundw
        case rel => exact ⟨_, i + 3, kq, by go_num, by omega, by rw [List.length_append, List.length_singleton]; omega, HF, HO3, HB3⟩
        case measure => simp [intOf]; omega
      replace zb := Bool.eq_false_iff.mpr zb
      rcases code_Decode.size_cases b0 with zs | zs | zs | zs
      · exact absurd zs z0'
      · rw [zs] at z1
        have S : Aside0 (∀ w, Calls Try.prog 17 #[.int .i64 b0] w fun e w' => e = .returned (.int .i64 1) ∧ Drawn0 w w') := ⟨fun w => code_Size.calls b0 1 w (by rw [code_Size.f, zs])⟩
        have BR : Aside0 (∀ w, Calls Try.prog 26 #[.int .i64 b0] w fun e w' => e = .returned (.bool false) ∧ Drawn0 w w') := ⟨fun w => code_Branch.calls b0 false w (by rw [code_Decode.br_some, zb])⟩
        have HF := Aside0.mk (show code_Decode.l0 kq l (acc ++ [⟨i, b0, 0, 0⟩]) (i + 1) = some (r1, r2, r3) from by have h := HD.out; rw [zs, code_Decode.inst, hbe, if_neg c132, if_neg c16, if_neg c17, if_neg (by rw [zb]; decide), if_neg (by rw [zs]; decide), if_neg (by rw [zs]; decide)] at h; exact h)
        clear HD hbe bat2
        go_wp2_with fail
        refine (S.out _).mono ?_
        rintro e w' ⟨rfl, ⟨nd, rfl⟩⟩
        go_wp2_with fail
        refine (BR.out _).mono ?_
        rintro e w' ⟨rfl, ⟨nd2, rfl⟩⟩
        have HO2 := Aside0.mk (show Kd.R k32 32 ((wr.alloc (.cells #[.int .i64 ((i : Int)), .int .i64 (b0), .int .i64 (0), .int .i64 (0)] 32)).drewN (nd + nd2)) w.heap.size (fun _ => True) u5 acc from Kd.R_drewN (Kd.R_alloc HO.out _) _)
        have HB2 := Aside0.mk (show Below w.heap.size w ((wr.alloc (.cells #[.int .i64 ((i : Int)), .int .i64 (b0), .int .i64 (0), .int .i64 (0)] 32)).drewN (nd + nd2)) from pw_below_drewN (below_alloc HB.out _) _)
        have hac2 : (acc.length + 1) * 32 ≤ 140737488355328 := by omega
        go_wp2_with (((with_reducible refine gate_builtin (b := .append) (xs := #[.tmp 131, .tmp 133]) rfl ?_); at_builtin; refine Kd.R_append k32 (w0 := w) w.heap.size rfl (.tmp 131) (.tmp 133) 24 32 (.agg #[(.int .i64 0), (.int .i64 0), (.int .i64 0), (.int .i64 0)]) 32 rfl Try.underlying24 info32 rfl (by decide) (by omega) u5 acc (⟨(i : Int), b0, 0, 0⟩ : S32) [.int .i64 ((i : Int)), .int .i64 (b0), .int .i64 (0), .int .i64 (0)] (fun _ => True) (fun _ => False) rfl (by first | (go_simp; done) | (go_simp; rfl)) (k32_mkM _ _ _ (⟨(i : Int), b0, 0, 0⟩ : S32)) (fun _ hk => hk.elim) (fun _ _ => trivial) HO2.out HB2.out (below_size HB2.out) hac2 ?_; intro v1 w1 hown1 hb1 hg1 hat1; have HO3 := Aside0.mk hown1; have HB3 := Aside0.mk hb1; clear hown1 hb1 hg1 hat1))
        go_roundw
        case rel => exact ⟨_, i + 1, kq, by go_num, by omega, by rw [List.length_append, List.length_singleton]; omega, HF, HO3, HB3⟩
        case measure => simp [intOf]; omega
      · rw [zs] at z1
        have S : Aside0 (∀ w, Calls Try.prog 17 #[.int .i64 b0] w fun e w' => e = .returned (.int .i64 2) ∧ Drawn0 w w') := ⟨fun w => code_Size.calls b0 2 w (by rw [code_Size.f, zs])⟩
        have BR : Aside0 (∀ w, Calls Try.prog 26 #[.int .i64 b0] w fun e w' => e = .returned (.bool false) ∧ Drawn0 w w') := ⟨fun w => code_Branch.calls b0 false w (by rw [code_Decode.br_some, zb])⟩
        obtain ⟨b1, hb10, hb11, hb1e, h1, n1⟩ := bat2.out (i + 1) (by omega)
        have w1 : IntKind.i64.wrap ((i : Int) + 1) = (i : Int) + 1 := by rw [IntKind.wrap_i64]; omega
        have g1 : (0 : Int) ≤ (i : Int) + 1 := by omega
        have gg1 : (i : Int) + 1 < (l.length : Int) := by omega
        have e1 : ((i : Int) + 1).toNat = i + 1 := by omega
        have HF := Aside0.mk (show code_Decode.l0 kq l (acc ++ [⟨i, b0, b1, 0⟩]) (i + 2) = some (r1, r2, r3) from by have h := HD.out; rw [zs, code_Decode.inst, hbe, if_neg c132, if_neg c16, if_neg c17, if_neg (by rw [zb]; decide), if_neg (by rw [zs]; decide), if_pos zs, hb1e] at h; exact h)
        clear HD hbe bat2 hb1e
        go_wp2_with fail
        refine (S.out _).mono ?_
        rintro e w' ⟨rfl, ⟨nd, rfl⟩⟩
        go_wp2_with fail
        refine (BR.out _).mono ?_
        rintro e w' ⟨rfl, ⟨nd2, rfl⟩⟩
        go_upto_region 24 with (fail)
        rw [set_new]
        simp only [List.setIfInBounds_toArray, List.set_cons_zero, List.set_cons_succ]
        have HO2 := Aside0.mk (show Kd.R k32 32 ((wr.alloc (.cells #[.int .i64 ((i : Int)), .int .i64 (b0), .int .i64 (b1), .int .i64 (0)] 32)).drewN (nd + nd2)) w.heap.size (fun _ => True) u5 acc from Kd.R_drewN (Kd.R_alloc HO.out _) _)
        have HB2 := Aside0.mk (show Below w.heap.size w ((wr.alloc (.cells #[.int .i64 ((i : Int)), .int .i64 (b0), .int .i64 (b1), .int .i64 (0)] 32)).drewN (nd + nd2)) from pw_below_drewN (below_alloc HB.out _) _)
        have hac2 : (acc.length + 1) * 32 ≤ 140737488355328 := by omega
        go_wp2_with (((with_reducible refine gate_builtin (b := .append) (xs := #[.tmp 131, .tmp 133]) rfl ?_); at_builtin; refine Kd.R_append k32 (w0 := w) w.heap.size rfl (.tmp 131) (.tmp 133) 24 32 (.agg #[(.int .i64 0), (.int .i64 0), (.int .i64 0), (.int .i64 0)]) 32 rfl Try.underlying24 info32 rfl (by decide) (by omega) u5 acc (⟨(i : Int), b0, b1, 0⟩ : S32) [.int .i64 ((i : Int)), .int .i64 (b0), .int .i64 (b1), .int .i64 (0)] (fun _ => True) (fun _ => False) rfl (by first | (go_simp; done) | (go_simp; rfl)) (k32_mkM _ _ _ (⟨(i : Int), b0, b1, 0⟩ : S32)) (fun _ hk => hk.elim) (fun _ _ => trivial) HO2.out HB2.out (below_size HB2.out) hac2 ?_; intro v1 w1 hown1 hb1 hg1 hat1; have HO3 := Aside0.mk hown1; have HB3 := Aside0.mk hb1; clear hown1 hb1 hg1 hat1))
        go_roundw
        case rel => exact ⟨_, i + 2, kq, by go_num, by omega, by rw [List.length_append, List.length_singleton]; omega, HF, HO3, HB3⟩
        case measure => simp [intOf]; omega
      · rw [zs] at z1
        have S : Aside0 (∀ w, Calls Try.prog 17 #[.int .i64 b0] w fun e w' => e = .returned (.int .i64 3) ∧ Drawn0 w w') := ⟨fun w => code_Size.calls b0 3 w (by rw [code_Size.f, zs])⟩
        have BR : Aside0 (∀ w, Calls Try.prog 26 #[.int .i64 b0] w fun e w' => e = .returned (.bool false) ∧ Drawn0 w w') := ⟨fun w => code_Branch.calls b0 false w (by rw [code_Decode.br_some, zb])⟩
        obtain ⟨b1, hb10, hb11, hb1e, h1, n1⟩ := bat2.out (i + 1) (by omega)
        have w1 : IntKind.i64.wrap ((i : Int) + 1) = (i : Int) + 1 := by rw [IntKind.wrap_i64]; omega
        have g1 : (0 : Int) ≤ (i : Int) + 1 := by omega
        have gg1 : (i : Int) + 1 < (l.length : Int) := by omega
        have e1 : ((i : Int) + 1).toNat = i + 1 := by omega
        obtain ⟨b2, hb20, hb21, hb2e, h2, n2⟩ := bat2.out (i + 2) (by omega)
        have w2 : IntKind.i64.wrap ((i : Int) + 2) = (i : Int) + 2 := by rw [IntKind.wrap_i64]; omega
        have g2 : (0 : Int) ≤ (i : Int) + 2 := by omega
        have gg2 : (i : Int) + 2 < (l.length : Int) := by omega
        have e2 : ((i : Int) + 2).toNat = i + 2 := by omega
        have HF := Aside0.mk (show code_Decode.l0 kq l (acc ++ [⟨i, b0, Go.bits .or .i64 (b1 * 256) b2, 0⟩]) (i + 3) = some (r1, r2, r3) from by have h := HD.out; rw [zs, code_Decode.inst, hbe, if_neg c132, if_neg c16, if_neg c17, if_neg (by rw [zb]; decide), if_pos zs, hb1e, hb2e] at h; exact h)
        clear HD hbe bat2 hb1e hb2e
        go_wp2_with fail
        refine (S.out _).mono ?_
        rintro e w' ⟨rfl, ⟨nd, rfl⟩⟩
        go_wp2_with fail
        refine (BR.out _).mono ?_
        rintro e w' ⟨rfl, ⟨nd2, rfl⟩⟩
        go_wp2_with fail
        refine wp_region_lex_lit (cls (fun s => wr.alloc (.cells #[.int .i64 i, .int .i64 b0, .int .i64 (if s 15 = true then Go.bits .or .i64 (IntKind.i64.wrap (IntKind.i64.wrap b1 * 256)) (IntKind.i64.wrap b2) else 0), .int .i64 (0)] 32))) (by kernel_rfl) (by kernel_rfl) (by kernel_rfl) ?_ ?_
        (focus (first | exact cls_drew rfl | exact cls_drewN rfl))
        iterate 15 (refine lex_yes (v := ?_) ?_ (quiet_v ?_ ?_) ?_; rotate_left; (focus rfl); (focus ((intro s; simp); done)); (focus ((intro s n; (by_cases hs1 : s 15 = true <;> simp only [hs1, if_true, if_false, Bool.false_eq_true]) <;> (go_simp; first | done | with_reducible rfl | (refine And.intro ?_ ?_ <;> rfl))); done)); (try simp only [Act.put, List.setIfInBounds_toArray, List.set_cons_zero, List.set_cons_succ]))
        (refine lex_yes ?_ (turns_s ?_) ?_; (focus rfl); (focus ((intro s n hs; simp only [hs, Bool.false_or, BEq.rfl, if_true, Bool.false_eq_true, if_false]; go_simp; exact set_new _ _ _ _ _ _); done)); (try simp only [Act.put, List.setIfInBounds_toArray, List.set_cons_zero, List.set_cons_succ]))
        refine lex_nil ?_
        refine cls_end (w := wr.alloc (.cells #[.int .i64 i, .int .i64 b0, .int .i64 (Go.bits .or .i64 (IntKind.i64.wrap (IntKind.i64.wrap b1 * 256)) (IntKind.i64.wrap b2)), .int .i64 (0)] 32)) [15] (by rfl) (fun s hs => by rw [if_pos (hs 15 (by decide))]) (fun m => ?_)
        have HO2 := Aside0.mk (show Kd.R k32 32 ((wr.alloc (.cells #[.int .i64 ((i : Int)), .int .i64 (b0), .int .i64 (Go.bits .or .i64 (b1 * 256) b2), .int .i64 (0)] 32)).drewN (m)) w.heap.size (fun _ => True) u5 acc from Kd.R_drewN (Kd.R_alloc HO.out _) _)
        have HB2 := Aside0.mk (show Below w.heap.size w ((wr.alloc (.cells #[.int .i64 ((i : Int)), .int .i64 (b0), .int .i64 (Go.bits .or .i64 (b1 * 256) b2), .int .i64 (0)] 32)).drewN (m)) from pw_below_drewN (below_alloc HB.out _) _)
        have hac2 : (acc.length + 1) * 32 ≤ 140737488355328 := by omega
        go_wp2_with (((with_reducible refine gate_builtin (b := .append) (xs := #[.tmp 131, .tmp 133]) rfl ?_); at_builtin; refine Kd.R_append k32 (w0 := w) w.heap.size rfl (.tmp 131) (.tmp 133) 24 32 (.agg #[(.int .i64 0), (.int .i64 0), (.int .i64 0), (.int .i64 0)]) 32 rfl Try.underlying24 info32 rfl (by decide) (by omega) u5 acc (⟨(i : Int), b0, Go.bits .or .i64 (b1 * 256) b2, 0⟩ : S32) [.int .i64 ((i : Int)), .int .i64 (b0), .int .i64 (Go.bits .or .i64 (b1 * 256) b2), .int .i64 (0)] (fun _ => True) (fun _ => False) rfl (by first | (go_simp; done) | (go_simp; rfl)) (k32_mkM _ _ _ (⟨(i : Int), b0, Go.bits .or .i64 (b1 * 256) b2, 0⟩ : S32)) (fun _ hk => hk.elim) (fun _ _ => trivial) HO2.out HB2.out (below_size HB2.out) hac2 ?_; intro v1 w1 hown1 hb1 hg1 hat1; have HO3 := Aside0.mk hown1; have HB3 := Aside0.mk hb1; clear hown1 hb1 hg1 hat1))
        go_roundw
        case rel => exact ⟨_, i + 3, kq, by go_num, by omega, by rw [List.length_append, List.length_singleton]; omega, HF, HO3, HB3⟩
        case measure => simp [intOf]; omega
    · rw [if_neg hlt] at HD1
      simp only [Option.some.injEq, Prod.mk.injEq] at HD1
      obtain ⟨rfl, rfl, rfl⟩ := HD1
      go_wp2
      go_ret3
      exact ⟨_, rfl, HO.out, HB.out⟩
theorem code_Decode.calls (k : Nat) (A0 : Option Addr) (c0 : Nat) (l0 : List Int) (r1 : List (S32)) (r2 : Int) (r3 : Int) (w : World) (hr0 : Kd.C (Kd.int .u8) w A0 l0.length l0) (hc0 : l0.length ≤ c0) (h : code_Decode.f k l0 = some (r1, r2, r3)) :
    Calls Try.prog 10 #[.slice A0 l0.length c0] w fun e w' => ∃ v0_ : Value, e = .returned (.tuple #[v0_, .int .i64 r2, .int .i64 r3]) ∧ Kd.R k32 32 w' w.heap.size (fun _ => True) v0_ r1 ∧ Below w.heap.size w w' := by
  unfold code_Decode.f at h
  by_cases hb : ∀ x ∈ l0, 0 ≤ x ∧ x < 256
  · rw [if_pos hb] at h
    by_cases hl : 1024 < l0.length
    · rw [if_pos hl] at h
      simp only [Option.some.injEq, Prod.mk.injEq] at h
      obtain ⟨rfl, rfl, rfl⟩ := h
      exact code_Decode.long l0 A0 c0 w hl hr0.2.1
    · rw [if_neg hl] at h
      by_cases he : l0 = []
      · exact code_Decode.walk l0 A0 0 0 c0 w r1 r2 r3 k (.inl he) hr0 hc0 (by omega) ⟨hb⟩ ⟨h⟩
      · have hp : 0 < l0.length := List.length_pos_iff.mpr he
        obtain ⟨ad, rfl, hcell⟩ := Kd.at_int hr0 0 (by omega) (by omega)
        obtain ⟨bk, of, sp⟩ := ad
        obtain rfl : sp = none := by
          cases sp with
          | none => rfl
          | some s => simp [World.cell?, Addr.add] at hcell; split at hcell <;> simp at hcell
        exact code_Decode.walk l0 _ bk of c0 w r1 r2 r3 k (.inr rfl) hr0 hc0 (by omega) ⟨hb⟩ ⟨h⟩
  · rw [if_neg hb] at h; cases h

end Go.Proofs.Ytcjhhlbhfkcboaa.PA
