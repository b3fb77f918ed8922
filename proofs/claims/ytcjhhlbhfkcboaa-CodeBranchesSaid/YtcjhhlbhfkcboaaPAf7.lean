-- Written for this claim by a program of our own (myprint).
import Derived.Test.YtcjhhlbhfkcboaaPA0
import Derived.Test.YtcjhhlbhfkcboaaPAq1
import Derived.Test.YtcjhhlbhfkcboaaPAf26
import Derived.Test.YtcjhhlbhfkcboaaPAf10
import Derived.Test.YtcjhhlbhfkcboaaPAf25
import Derived.Test.YtcjhhlbhfkcboaaPAf14
import Derived.Test.YtcjhhlbhfkcboaaPAf15
import Derived.Test.YtcjhhlbhfkcboaaPAf24
namespace Go.Proofs.Ytcjhhlbhfkcboaa.PA
open Go.RowKit Go.Proofs.YtcjhhlbhfkcboaaW.PrintWords Go.Proofs.YtcjhhlbhfkcboaaW.PrintLast Go.Proofs.YtcjhhlbhfkcboaaW.PrintMore
attribute [local go_sem] max2_int min2_int max_two min_two max_three min_three max_four min_four   -- for this text's walks alone
set_option linter.unusedVariables false
set_option linter.unusedSimpArgs false

attribute [local go_sem high] eqA32
/-! ### carafelaw5_CodeBranches: function 7 -/
mutual
def carafelaw5_CodeBranches.l0 : Nat → Int → Int → Int → List (S32) → Int → Option (Bool)
  | 0, _, _, _, _, _ => none
  | k + 1, x8, x9, x10, x11, x12 => if x12 < x9 then ((carafelaw5_i.f x12 0 0 0).bind fun bt108 => (if x11.length < 4398046511104 then (carafelaw5_CodeBranches.l0 k x8 x9 x10 (x11 ++ [(⟨bt108.1, bt108.2.1, bt108.2.2.1, bt108.2.2.2⟩ : S32)]) (wrap64 (x12 + 1))) else (none))) else ((carafelaw5_i.f x9 x8 x10 0).bind fun bt115 => (if x11.length < 4398046511104 then ((some (x11 ++ [(⟨bt115.1, bt115.2.1, bt115.2.2.1, bt115.2.2.2⟩ : S32)] : List (S32))).bind fun y119 => ((code_Encode.f k y119).bind fun bt122 => ((code_Decode.f k bt122.1).bind fun bt126 => (if bt122.2 = 0 then (if bt126.2.1 = 0 then (if (bt126.1.length : Int) = (wrap64 (x9 + 1)) then (if 0 ≤ x9 then (if x9 < (bt126.1.length : Int) then ((carafelaw5_i.f x9 x8 x10 0).bind fun bt132 => (if (!(((rd_T32 bt126.1 x9).f0) == bt132.1) || (!(((rd_T32 bt126.1 x9).f1) == bt132.2.1) || (!(((rd_T32 bt126.1 x9).f2) == bt132.2.2.1) || (!(((rd_T32 bt126.1 x9).f3) == bt132.2.2.2))))) = true then (carafelaw5_CodeBranches.j1 k x9 y119 true) else ((code_Branch.f x8).bind fun t136 => (carafelaw5_CodeBranches.j1 k x9 y119 (!t136))))) else (none)) else (none)) else (carafelaw5_CodeBranches.j1 k x9 y119 true)) else (carafelaw5_CodeBranches.j1 k x9 y119 true)) else (carafelaw5_CodeBranches.j1 k x9 y119 true))))) else (none)))
def carafelaw5_CodeBranches.j1 : Nat → Int → List (S32) → Bool → Option (Bool)
  | 0, _, _, _ => none
  | k + 1, x9, x11, x93 => if x93 = true then (some false) else (if 0 ≤ x9 then (if x9 < (x11.length : Int) then ((some (x11.set (x9 : Int).toNat (⟨(rd_T32 x11 x9).f0, (rd_T32 x11 x9).f1, wrap64 (x9 + 32768), (rd_T32 x11 x9).f3⟩ : S32) : List (S32))).bind fun y137 => ((code_Encode.f k y137).bind fun bt138 => ((some (y137.set (x9 : Int).toNat (⟨(rd_T32 y137 x9).f0, (rd_T32 y137 x9).f1, wrap64 (x9 - 32769), (rd_T32 y137 x9).f3⟩ : S32) : List (S32))).bind fun y142 => ((code_Encode.f k y142).bind fun bt143 => ((code_Encode.f k (y142.set (x9 : Int).toNat (⟨(rd_T32 y142 x9).f0, (rd_T32 y142 x9).f1, wrap64 (x9 - 32768), (rd_T32 y142 x9).f3⟩ : S32))).bind fun bt148 => (if bt138.2 = 1 then (if bt143.2 = 1 then (if bt148.2 = 0 then ((carafelaw5_known.f k).bind fun t152 => (some t152)) else (some false)) else (some false)) else (some false))))))) else (none)) else (none))
end
def carafelaw5_CodeBranches.f (k : Nat) (a0 : Int) (a1 : Int) (a2 : Int) : Option (Bool) := (some (([153, 158, 159, 164, 165, 166, 167, 198, 199] : List Int) : List Int)).bind fun y101 => ((carafebook_Within.f a0 0 (wrap64 ((y101.length : Int) - 1))).bind fun t104 => (if 0 ≤ t104 then (if t104 < (y101.length : Int) then ((carafebook_Within.f a1 0 200).bind fun t106 => ((carafebook_Within.f a2 0 1000).bind fun t107 => (carafelaw5_CodeBranches.l0 k (rd y101 t104) t106 t107 ([] : List (S32)) 0))) else (none)) else (none)))
theorem carafelaw5_CodeBranches.mono_l : ∀ k, (∀ y0 y1 y2 y3 y4, LeO (carafelaw5_CodeBranches.l0 k y0 y1 y2 y3 y4) (carafelaw5_CodeBranches.l0 (k + 1) y0 y1 y2 y3 y4)) ∧ (∀ y0 y1 y2, LeO (carafelaw5_CodeBranches.j1 k y0 y1 y2) (carafelaw5_CodeBranches.j1 (k + 1) y0 y1 y2))
  | 0 => ⟨fun _ _ _ _ _ r h => by simp [carafelaw5_CodeBranches.l0] at h, fun _ _ _ r h => by simp [carafelaw5_CodeBranches.j1] at h⟩
  | k + 1 => by
    obtain ⟨ih0, ih1⟩ := carafelaw5_CodeBranches.mono_l k
    refine ⟨?_, ?_⟩
    · intro y0 y1 y2 y3 y4
      unfold carafelaw5_CodeBranches.l0
      repeat' first
      | (with_reducible exact ih0 _ _ _ _ _)
      | (with_reducible exact ih1 _ _ _)
      | (with_reducible exact carafelaw5_known.mono _)
      | (with_reducible exact code_Decode.mono _ _)
      | (with_reducible exact code_Encode.mono _ _)
      | (with_reducible exact LeO.refl _)
      | (with_reducible exact LeO.none _)
      | (with_reducible refine LeO.ite ?_ ?_)
      | (with_reducible refine LeO.bind ?_ (fun _ => ?_))
      | exact ih0 _ _ _ _ _
      | exact ih1 _ _ _
      | exact carafelaw5_known.mono _
      | exact code_Decode.mono _ _
      | exact code_Encode.mono _ _
      | exact LeO.none _
      | refine LeO.ite ?_ ?_
      | refine LeO.bind ?_ (fun _ => ?_)
    · intro y0 y1 y2
      unfold carafelaw5_CodeBranches.j1
      repeat' first
      | (with_reducible exact ih0 _ _ _ _ _)
      | (with_reducible exact ih1 _ _ _)
      | (with_reducible exact carafelaw5_known.mono _)
      | (with_reducible exact code_Decode.mono _ _)
      | (with_reducible exact code_Encode.mono _ _)
      | (with_reducible exact LeO.refl _)
      | (with_reducible exact LeO.none _)
      | (with_reducible refine LeO.ite ?_ ?_)
      | (with_reducible refine LeO.bind ?_ (fun _ => ?_))
      | exact ih0 _ _ _ _ _
      | exact ih1 _ _ _
      | exact carafelaw5_known.mono _
      | exact code_Decode.mono _ _
      | exact code_Encode.mono _ _
      | exact LeO.none _
      | refine LeO.ite ?_ ?_
      | refine LeO.bind ?_ (fun _ => ?_)
theorem carafelaw5_CodeBranches.mono : ∀ a0 a1 a2 k, LeO (carafelaw5_CodeBranches.f k a0 a1 a2) (carafelaw5_CodeBranches.f (k + 1) a0 a1 a2) := by
  intro a0 a1 a2 k
  obtain ⟨ih0, ih1⟩ := carafelaw5_CodeBranches.mono_l k
  unfold carafelaw5_CodeBranches.f
  repeat' first
      | (with_reducible exact ih0 _ _ _ _ _)
      | (with_reducible exact ih1 _ _ _)
      | (with_reducible exact carafelaw5_known.mono _)
      | (with_reducible exact code_Decode.mono _ _)
      | (with_reducible exact code_Encode.mono _ _)
      | (with_reducible exact LeO.refl _)
      | (with_reducible exact LeO.none _)
      | (with_reducible refine LeO.ite ?_ ?_)
      | (with_reducible refine LeO.bind ?_ (fun _ => ?_))
      | exact ih0 _ _ _ _ _
      | exact ih1 _ _ _
      | exact carafelaw5_known.mono _
      | exact code_Decode.mono _ _
      | exact code_Encode.mono _ _
      | exact LeO.none _
      | refine LeO.ite ?_ ?_
      | refine LeO.bind ?_ (fun _ => ?_)
def carafelaw5_CodeBranches.T13 : Bool × List (List Nat × List Nat) := (true, [([], []), ([0], [0]), ([1], [1]), ([2], [2]), ([3, 2], [2, 3]), ([2, 4], [2, 4]), ([5, 2], [5]), ([6], [6]), ([7, 6], [6, 7]), ([6], [6]), ([9, 6], [6, 9]), ([8, 10, 6], [6, 8, 10]), ([6, 11], [6, 11]), ([12, 6], [12]), ([13], [13]), ([13], [13]), ([14, 15, 13], [13, 14, 15]), ([16, 13], [13, 16]), ([13], [13]), ([13], [13]), ([13], [13]), ([18, 19, 20, 13, 13], [13, 18, 19, 20]), ([17, 21, 13], [13, 17, 21]), ([13, 22], [13, 22]), ([23, 21], [23]), ([24], [24]), ([25, 24, 24], [24, 25]), ([26, 24], [24, 26]), ([24, 27], [24, 27])])
def carafelaw5_CodeBranches.B13 : List Nat := [0, 1, 3, 7, 15, 31, 63, 127, 255, 127, 639, 2047, 4095, 8191, 16383, 16383, 65535, 131071, 16383, 16383, 16383, 1851391, 4194303, 8388607, 16777215, 33554431, 67108863, 134217727, 268435455]
theorem carafelaw5_CodeBranches.tab13 : rtab .any (opsOf Try.f7 13) = carafelaw5_CodeBranches.T13 := by kernel_rfl
theorem carafelaw5_CodeBranches.bits13 : waitsOk carafelaw5_CodeBranches.T13.2 carafelaw5_CodeBranches.B13 = true := by kernel_rfl
set_option maxHeartbeats 8000000 in
set_option maxRecDepth 100000 in
theorem carafelaw5_CodeBranches.calls (k : Nat) (a0 : Int) (a1 : Int) (a2 : Int) (r : Bool) (w : World) (h : carafelaw5_CodeBranches.f k a0 a1 a2 = some r) :
    Calls Try.prog 7 #[.int .i64 a0, .int .i64 a1, .int .i64 a2] w fun e w' => e = .returned (.bool r) ∧ Below w.heap.size w w' := by
  have hu32 := Try.underlying32
  have HB := Aside0.mk (Below.refl w.heap.size w)
  have H : ((some (([153, 158, 159, 164, 165, 166, 167, 198, 199] : List Int) : List Int)).bind fun y101 => ((carafebook_Within.f a0 0 (wrap64 ((y101.length : Int) - 1))).bind fun t104 => (if 0 ≤ t104 then (if t104 < (y101.length : Int) then ((carafebook_Within.f a1 0 200).bind fun t106 => ((carafebook_Within.f a2 0 1000).bind fun t107 => (carafelaw5_CodeBranches.l0 k (rd y101 t104) t106 t107 ([] : List (S32)) 0))) else (none)) else (none)))) = some r := h
  clear h
  obtain ⟨y101, hy101⟩ : ∃ y_ : List Int, y_ = (([153, 158, 159, 164, 165, 166, 167, 198, 199] : List Int)) := ⟨_, rfl⟩
  replace H : ((carafebook_Within.f a0 0 (wrap64 ((y101.length : Int) - 1))).bind fun t104 => (if 0 ≤ t104 then (if t104 < (y101.length : Int) then ((carafebook_Within.f a1 0 200).bind fun t106 => ((carafebook_Within.f a2 0 1000).bind fun t107 => (carafelaw5_CodeBranches.l0 k (rd y101 t104) t106 t107 ([] : List (S32)) 0))) else (none)) else (none))) = some r := by first | (rw [hy101]; with_reducible exact H) | (have H2_ := (Option.bind_some _ _).symm.trans H; rw [hy101]; with_reducible exact H2_) | (have H2_ := (Option.bind_some _ _).symm.trans H; with_reducible exact H2_) | with_reducible exact H | (rw [hy101]; exact H) | exact H
  have Ny101 := Aside0.mk hy101
  clear hy101
  replace H := Option.bind_eq_some_iff.mp H
  obtain ⟨t104, A40, H⟩ := H
  replace H : (if 0 ≤ t104 then (if t104 < (y101.length : Int) then ((carafebook_Within.f a1 0 200).bind fun t106 => ((carafebook_Within.f a2 0 1000).bind fun t107 => (carafelaw5_CodeBranches.l0 k (rd y101 t104) t106 t107 ([] : List (S32)) 0))) else (none)) else (none)) = some r := H
  have A4 := Aside0.mk A40
  clear A40
  by_cases c5 : 0 ≤ t104
  · rw [if_pos c5] at H
    have c5b0 : decide (0 ≤ t104) = true := decide_eq_true c5
    clear c5
    by_cases c6 : t104 < (y101.length : Int)
    · rw [if_pos c6] at H
      have c6b0 : decide (t104 < (y101.length : Int)) = true := decide_eq_true c6
      clear c6
      replace H := Option.bind_eq_some_iff.mp H
      obtain ⟨t106, A70, H⟩ := H
      replace H : ((carafebook_Within.f a2 0 1000).bind fun t107 => (carafelaw5_CodeBranches.l0 k (rd y101 t104) t106 t107 ([] : List (S32)) 0)) = some r := H
      have A7 := Aside0.mk A70
      clear A70
      replace H := Option.bind_eq_some_iff.mp H
      obtain ⟨t107, A80, H⟩ := H
      replace H : (carafelaw5_CodeBranches.l0 k (rd y101 t104) t106 t107 ([] : List (S32)) 0) = some r := H
      have A8 := Aside0.mk A80
      clear A80
      have H' := Aside0.mk H
      clear H
      go_enter Try.func7, Try.ntmps7
      go_wp2_with (first | ((with_reducible refine gate_dst (N := 24) rfl ?_); (try (refine gate_guard (by rfl) ?_; dsimp only)); refine Kd.R_lit (Kd.int .i64) _ 3 ?hg (N := 24) ?hd (xs := ([153, 158, 159, 164, 165, 166, 167, 198, 199] : List Int)) (inner := [.int .i64 153, .int .i64 158, .int .i64 159, .int .i64 164, .int .i64 165, .int .i64 166, .int .i64 167, .int .i64 198, .int .i64 199]) (ok := fun _ => True) (okp := fun _ => True) ?hr ?hp (fun _ hk => hk) trivial (Below.refl _ _) (Nat.le_refl _) (by simp) ?_; (case hd => rfl); (case hg => rfl); (case hr => first | (go_simp; done) | (go_simp; rfl)); (case hp => exact (Reps.one (show Kd.M (Kd.int .i64) _ _ _ 153 [.int .i64 153] from rfl) (Reps.one (show Kd.M (Kd.int .i64) _ _ _ 158 [.int .i64 158] from rfl) (Reps.one (show Kd.M (Kd.int .i64) _ _ _ 159 [.int .i64 159] from rfl) (Reps.one (show Kd.M (Kd.int .i64) _ _ _ 164 [.int .i64 164] from rfl) (Reps.one (show Kd.M (Kd.int .i64) _ _ _ 165 [.int .i64 165] from rfl) (Reps.one (show Kd.M (Kd.int .i64) _ _ _ 166 [.int .i64 166] from rfl) (Reps.one (show Kd.M (Kd.int .i64) _ _ _ 167 [.int .i64 167] from rfl) (Reps.one (show Kd.M (Kd.int .i64) _ _ _ 198 [.int .i64 198] from rfl) (Reps.one (show Kd.M (Kd.int .i64) _ _ _ 199 [.int .i64 199] from rfl) (Reps.none _ _))))))))))); intro v102 w9 ho10 hb hg_ hnew_; clear hg_ hnew_; (first | rw [← Ny101.out] at ho10 | (simp only [Int.reduceToNat] at ho10; rw [← Ny101.out] at ho10)); have n0_ := Aside0.mk (Kd.R_lower ho10 (below_size (by repeat (first | (with_reducible first | exact HB.out | apply below_alloc | apply pw_below_drewN | apply below_drew1) | exact HB.out)))); have n1_ := Aside0.mk (below_step (by repeat (first | (with_reducible first | exact HB.out | apply below_alloc | apply pw_below_drewN | apply below_drew1) | exact HB.out)) hb); clear HB; have HO103 := n0_; have HB := n1_; clear n0_ n1_; clear hb ho10; obtain ⟨Ao11, co11, eo11⟩ := Kd.R_slice HO103.out; subst eo11) | ((with_reducible refine gate_callee (f := 24) rfl ?_); refine goesL_ (some 30) rfl rfl Try.func24 (by kernel_rfl) rfl #[.int .i64 a0, .int .i64 0, .int .i64 (wrap64 ((y101.length : Int) - 1))] rfl (by (try simp only [List.map_toArray, List.map_cons, List.map_nil]); first | done | rfl | (simp only [List.length_drop, List.length_take]; rfl)) ?_; (with_reducible refine (carafebook_Within.calls a0 0 (wrap64 ((y101.length : Int) - 1)) t104 _ A4.out).mono ?_); rintro e w' ⟨rfl, ⟨nd, rfl⟩⟩; refine ⟨_, rfl, ?_⟩; have p105 : 0 ≤ (t104 : Int) := of_decide_eq_true (by first | (with_reducible assumption) | assumption); have q105 : t104 < (y101.length : Int) := of_decide_eq_true (by first | (with_reducible assumption) | assumption); obtain ⟨ad105, e105, hx105_0⟩ := Kd.at_int (Kd.R_reads' HO103.out).2.2 t104 p105 q105; cases e105; replace p105 := eq_true p105; replace q105 := eq_true q105) | ((with_reducible refine gate_callee (f := 24) rfl ?_); refine goesL_ (some 34) rfl rfl Try.func24 (by kernel_rfl) rfl #[.int .i64 a1, .int .i64 0, .int .i64 200] rfl (by (try simp only [List.map_toArray, List.map_cons, List.map_nil]); first | done | rfl | (simp only [List.length_drop, List.length_take]; rfl)) ?_; (with_reducible refine (carafebook_Within.calls a1 0 200 t106 _ A7.out).mono ?_); rintro e w' ⟨rfl, ⟨nd, rfl⟩⟩; refine ⟨_, rfl, ?_⟩) | ((with_reducible refine gate_callee (f := 24) rfl ?_); refine goesL_ (some 36) rfl rfl Try.func24 (by kernel_rfl) rfl #[.int .i64 a2, .int .i64 0, .int .i64 1000] rfl (by (try simp only [List.map_toArray, List.map_cons, List.map_nil]); first | done | rfl | (simp only [List.length_drop, List.length_take]; rfl)) ?_; (with_reducible refine (carafebook_Within.calls a2 0 1000 t107 _ A8.out).mono ?_); rintro e w' ⟨rfl, ⟨nd, rfl⟩⟩; refine ⟨_, rfl, ?_⟩))
      go_loopg [11, 12] k (fun kq v11 v12 w' => ∃ (x11_1 : List (S32)) (x12_1 : Int), v12 = .int .i64 x12_1 ∧ Aside0 (carafelaw5_CodeBranches.l0 kq (rd y101 t104) t106 t107 x11_1 x12_1 = some r) ∧ Aside0 (kq ≤ k) ∧ Aside0 (Kd.R k32 32 w' w.heap.size (fun _ => True) v11 x11_1) ∧ Aside0 (Below w.heap.size w w'))
      case atStart => exact ⟨(([] : List (S32))), (0), (by first | rfl | (simp; done) | (simp [*]; done)), H', ⟨Nat.le_refl _⟩, ⟨by first | exact Kd.R_nil _ _ _ _ _ | exact Kd.N_nil _ _ _ _ _ | exact Kd.V_nil _ _ _ _ _ | exact Kd.Q_nil _ _ _ _ _ | exact Kd.S_nil _ _ _ _ _⟩, ⟨by repeat (first | (with_reducible first | exact HB.out | apply below_alloc | apply pw_below_drewN | apply below_drew1) | exact HB.out)⟩⟩
      case round =>
        clear H'
        try clear p1
        try clear q1
        try clear hx1
        try clear c2
        try clear p2
        try clear c5
        try clear c5b0
        try clear c6
        try clear c6b0
        try clear p6
        try clear c7
        try clear p10
        try clear q10
        try clear hx10
        try clear hx105_0
        try clear p105
        try clear q105
        obtain ⟨x11_1, x12_1, rfl, HA, HK1, HO_11, HB⟩ := hrel
        cases gk with
        | zero => exact absurd HA.out (by simp [carafelaw5_CodeBranches.l0])
        | succ k1 =>
          have H := HA.out
          clear HA
          simp only [carafelaw5_CodeBranches.l0] at H
          by_cases c12 : x12_1 < t106
          · rw [if_pos c12] at H
            have c12b0 : decide (x12_1 < t106) = true := decide_eq_true c12
            clear c12
            replace H := Option.bind_eq_some_iff.mp H
            obtain ⟨⟨t108, t109, t110, t111⟩, A130, H⟩ := H
            replace H : (if x11_1.length < 4398046511104 then (carafelaw5_CodeBranches.l0 k1 (rd y101 t104) t106 t107 (x11_1 ++ [(⟨t108, t109, t110, t111⟩ : S32)]) (wrap64 (x12_1 + 1))) else (none)) = some r := H
            have A13 := Aside0.mk A130
            clear A130
            by_cases c14 : x11_1.length < 4398046511104
            · rw [if_pos c14] at H
              have LMc14 := Aside0.mk c14
              clear c14
              obtain ⟨y112, hy112⟩ : ∃ y_ : List (S32), y_ = (x11_1 ++ [(⟨t108, t109, t110, t111⟩ : S32)]) := ⟨_, rfl⟩
              replace H : (carafelaw5_CodeBranches.l0 k1 (rd y101 t104) t106 t107 y112 (wrap64 (x12_1 + 1))) = some r := by first | (rw [hy112]; with_reducible exact H) | (have H2_ := (Option.bind_some _ _).symm.trans H; rw [hy112]; with_reducible exact H2_) | (have H2_ := (Option.bind_some _ _).symm.trans H; with_reducible exact H2_) | with_reducible exact H | (rw [hy112]; exact H) | exact H
              have Ny112 := Aside0.mk hy112
              clear hy112
              have H' := Aside0.mk H
              clear H
              go_wp2_with (first | ((with_reducible refine gate_callee (f := 25) rfl ?_); refine goesL_ (some 44) rfl rfl Try.func25 (by kernel_rfl) rfl #[.int .i64 x12_1, .int .i64 0, .int .i64 0, .int .i64 0] rfl (by (try simp only [List.map_toArray, List.map_cons, List.map_nil]); first | done | rfl | (simp only [List.length_drop, List.length_take]; rfl)) ?_; (with_reducible refine (carafelaw5_i.calls x12_1 0 0 0 t108 t109 t110 t111 _ A13.out).mono ?_); rintro e w15 ⟨rfl, hb⟩; refine ⟨_, rfl, ?_⟩; have n0_ := Aside0.mk (Kd.R_below (by (with_reducible repeat (first | apply Kd.R_alloc | apply Kd.R_drewN | apply Kd.R_drew)); exact HO_11.out) hb); have n1_ := Aside0.mk (below_step (by repeat (first | (with_reducible first | exact HB.out | apply below_alloc | apply pw_below_drewN | apply below_drew1) | exact HB.out)) hb); clear HO_11; clear HB; have HO_11 := n0_; have HB := n1_; clear n0_ n1_; (try clear hb); (try clear hb2); (try clear hk); (try clear hi)) | ((with_reducible refine gate_builtin (b := .append) (xs := #[.tmp 42, .tmp 45]) rfl ?_); (try (refine gate_guard (by rfl) ?_; dsimp only)); at_builtin; refine Kd.R_append k32 (w0 := w) w.heap.size rfl (.tmp 42) (.tmp 45) 24 32 (.agg #[(.int .i64 0), (.int .i64 0), (.int .i64 0), (.int .i64 0)]) 32 rfl Try.underlying24 info32 rfl (by decide) (by omega) u11 x11_1 (⟨t108, t109, t110, t111⟩ : S32) [.int .i64 t108, .int .i64 t109, .int .i64 t110, .int .i64 t111] (fun _ => True) (fun _ => False) rfl rfl ?aP (fun _ hk => hk.elim) ?aF ?aO ?aB ?aS ?aL ?_; (case aP => exact k32_mkM _ _ _ (⟨t108, t109, t110, t111⟩ : S32)); (case aB => exact (by repeat (first | (with_reducible first | exact HB.out | apply below_alloc | apply pw_below_drewN | apply below_drew1) | exact HB.out))); (case aF => exact (fun _ _ => trivial)); (case aO => exact (by (with_reducible repeat (first | apply Kd.R_alloc | apply Kd.R_drewN | apply Kd.R_drew)); exact HO_11.out)); (case aS => exact (below_size (by repeat (first | (with_reducible first | exact HB.out | apply below_alloc | apply pw_below_drewN | apply below_drew1) | exact HB.out)))); (case aL => have := LMc14.out; omega); intro v113 w16 ho hb hg hat; rw [← Ny112.out] at ho; have n0_ := Aside0.mk (hb); have n1_ := Aside0.mk (ho); clear HB; clear HO_11; have HB := n0_; have HO114 := n1_; clear n0_ n1_; clear ho hb hg hat))
              go_roundg k1
              case measure => have := HK1.out; omega
              case rel => exact ⟨(y112), (wrap64 (x12_1 + 1)), (by first | rfl | (simp; done) | (simp [*]; done)), H', ⟨by have := HK1.out; omega⟩, ⟨by (with_reducible repeat (first | apply Kd.R_alloc | apply Kd.R_drewN | apply Kd.R_drew)); exact HO114.out⟩, ⟨by repeat (first | (with_reducible first | exact HB.out | apply below_alloc | apply pw_below_drewN | apply below_drew1) | exact HB.out)⟩⟩
            · rw [if_neg c14] at H
              exact absurd H (by simp)
          · rw [if_neg c12] at H
            have c12b0 : decide (x12_1 < t106) = false := decide_eq_false c12
            clear c12
            replace H := Option.bind_eq_some_iff.mp H
            obtain ⟨⟨t115, t116, t117, t118⟩, A170, H⟩ := H
            replace H : (if x11_1.length < 4398046511104 then ((some (x11_1 ++ [(⟨t115, t116, t117, t118⟩ : S32)] : List (S32))).bind fun y119 => ((code_Encode.f k1 y119).bind fun bt122 => ((code_Decode.f k1 bt122.1).bind fun bt126 => (if bt122.2 = 0 then (if bt126.2.1 = 0 then (if (bt126.1.length : Int) = (wrap64 (t106 + 1)) then (if 0 ≤ t106 then (if t106 < (bt126.1.length : Int) then ((carafelaw5_i.f t106 (rd y101 t104) t107 0).bind fun bt132 => (if (!(((rd_T32 bt126.1 t106).f0) == bt132.1) || (!(((rd_T32 bt126.1 t106).f1) == bt132.2.1) || (!(((rd_T32 bt126.1 t106).f2) == bt132.2.2.1) || (!(((rd_T32 bt126.1 t106).f3) == bt132.2.2.2))))) = true then (carafelaw5_CodeBranches.j1 k1 t106 y119 true) else ((code_Branch.f (rd y101 t104)).bind fun t136 => (carafelaw5_CodeBranches.j1 k1 t106 y119 (!t136))))) else (none)) else (none)) else (carafelaw5_CodeBranches.j1 k1 t106 y119 true)) else (carafelaw5_CodeBranches.j1 k1 t106 y119 true)) else (carafelaw5_CodeBranches.j1 k1 t106 y119 true))))) else (none)) = some r := H
            have A17 := Aside0.mk A170
            clear A170
            by_cases c18 : x11_1.length < 4398046511104
            · rw [if_pos c18] at H
              have LMc18 := Aside0.mk c18
              clear c18
              obtain ⟨y119, hy119⟩ : ∃ y_ : List (S32), y_ = (x11_1 ++ [(⟨t115, t116, t117, t118⟩ : S32)]) := ⟨_, rfl⟩
              replace H : ((code_Encode.f k1 y119).bind fun bt122 => ((code_Decode.f k1 bt122.1).bind fun bt126 => (if bt122.2 = 0 then (if bt126.2.1 = 0 then (if (bt126.1.length : Int) = (wrap64 (t106 + 1)) then (if 0 ≤ t106 then (if t106 < (bt126.1.length : Int) then ((carafelaw5_i.f t106 (rd y101 t104) t107 0).bind fun bt132 => (if (!(((rd_T32 bt126.1 t106).f0) == bt132.1) || (!(((rd_T32 bt126.1 t106).f1) == bt132.2.1) || (!(((rd_T32 bt126.1 t106).f2) == bt132.2.2.1) || (!(((rd_T32 bt126.1 t106).f3) == bt132.2.2.2))))) = true then (carafelaw5_CodeBranches.j1 k1 t106 y119 true) else ((code_Branch.f (rd y101 t104)).bind fun t136 => (carafelaw5_CodeBranches.j1 k1 t106 y119 (!t136))))) else (none)) else (none)) else (carafelaw5_CodeBranches.j1 k1 t106 y119 true)) else (carafelaw5_CodeBranches.j1 k1 t106 y119 true)) else (carafelaw5_CodeBranches.j1 k1 t106 y119 true)))) = some r := by first | (rw [hy119]; with_reducible exact H) | (have H2_ := (Option.bind_some _ _).symm.trans H; rw [hy119]; with_reducible exact H2_) | (have H2_ := (Option.bind_some _ _).symm.trans H; with_reducible exact H2_) | with_reducible exact H | (rw [hy119]; exact H) | exact H
              have Ny119 := Aside0.mk hy119
              clear hy119
              replace H := Option.bind_eq_some_iff.mp H
              obtain ⟨⟨t122, t123⟩, A190, H⟩ := H
              replace H : ((code_Decode.f k1 t122).bind fun bt126 => (if t123 = 0 then (if bt126.2.1 = 0 then (if (bt126.1.length : Int) = (wrap64 (t106 + 1)) then (if 0 ≤ t106 then (if t106 < (bt126.1.length : Int) then ((carafelaw5_i.f t106 (rd y101 t104) t107 0).bind fun bt132 => (if (!(((rd_T32 bt126.1 t106).f0) == bt132.1) || (!(((rd_T32 bt126.1 t106).f1) == bt132.2.1) || (!(((rd_T32 bt126.1 t106).f2) == bt132.2.2.1) || (!(((rd_T32 bt126.1 t106).f3) == bt132.2.2.2))))) = true then (carafelaw5_CodeBranches.j1 k1 t106 y119 true) else ((code_Branch.f (rd y101 t104)).bind fun t136 => (carafelaw5_CodeBranches.j1 k1 t106 y119 (!t136))))) else (none)) else (none)) else (carafelaw5_CodeBranches.j1 k1 t106 y119 true)) else (carafelaw5_CodeBranches.j1 k1 t106 y119 true)) else (carafelaw5_CodeBranches.j1 k1 t106 y119 true))) = some r := H
              have A19 := Aside0.mk A190
              clear A190
              replace H := Option.bind_eq_some_iff.mp H
              obtain ⟨⟨t126, t127, t128⟩, A200, H⟩ := H
              replace H : (if t123 = 0 then (if t127 = 0 then (if (t126.length : Int) = (wrap64 (t106 + 1)) then (if 0 ≤ t106 then (if t106 < (t126.length : Int) then ((carafelaw5_i.f t106 (rd y101 t104) t107 0).bind fun bt132 => (if (!(((rd_T32 t126 t106).f0) == bt132.1) || (!(((rd_T32 t126 t106).f1) == bt132.2.1) || (!(((rd_T32 t126 t106).f2) == bt132.2.2.1) || (!(((rd_T32 t126 t106).f3) == bt132.2.2.2))))) = true then (carafelaw5_CodeBranches.j1 k1 t106 y119 true) else ((code_Branch.f (rd y101 t104)).bind fun t136 => (carafelaw5_CodeBranches.j1 k1 t106 y119 (!t136))))) else (none)) else (none)) else (carafelaw5_CodeBranches.j1 k1 t106 y119 true)) else (carafelaw5_CodeBranches.j1 k1 t106 y119 true)) else (carafelaw5_CodeBranches.j1 k1 t106 y119 true)) = some r := H
              have A20 := Aside0.mk A200
              clear A200
              have HC21 := Aside0.mk H
              clear H
              go_upto_region 13 with (first | ((with_reducible refine gate_callee (f := 25) rfl ?_); refine goesL_ (some 51) rfl rfl Try.func25 (by kernel_rfl) rfl #[.int .i64 t106, .int .i64 (rd y101 t104), .int .i64 t107, .int .i64 0] rfl (by (try simp only [List.map_toArray, List.map_cons, List.map_nil]); first | done | rfl | (simp only [List.length_drop, List.length_take]; rfl)) ?_; (with_reducible refine (carafelaw5_i.calls t106 (rd y101 t104) t107 0 t115 t116 t117 t118 _ A17.out).mono ?_); rintro e w22 ⟨rfl, hb⟩; refine ⟨_, rfl, ?_⟩; have n0_ := Aside0.mk (Kd.R_below (by (with_reducible repeat (first | apply Kd.R_alloc | apply Kd.R_drewN | apply Kd.R_drew)); exact HO_11.out) hb); have n1_ := Aside0.mk (below_step (by repeat (first | (with_reducible first | exact HB.out | apply below_alloc | apply pw_below_drewN | apply below_drew1) | exact HB.out)) hb); clear HO_11; clear HB; have HO_11 := n0_; have HB := n1_; clear n0_ n1_; (try clear hb); (try clear hb2); (try clear hk); (try clear hi)) | ((with_reducible refine gate_builtin (b := .append) (xs := #[.tmp 47, .tmp 52]) rfl ?_); (try (refine gate_guard (by rfl) ?_; dsimp only)); at_builtin; refine Kd.R_append k32 (w0 := w) w.heap.size rfl (.tmp 47) (.tmp 52) 24 32 (.agg #[(.int .i64 0), (.int .i64 0), (.int .i64 0), (.int .i64 0)]) 32 rfl Try.underlying24 info32 rfl (by decide) (by omega) u11 x11_1 (⟨t115, t116, t117, t118⟩ : S32) [.int .i64 t115, .int .i64 t116, .int .i64 t117, .int .i64 t118] (fun _ => True) (fun _ => False) rfl rfl ?aP (fun _ hk => hk.elim) ?aF ?aO ?aB ?aS ?aL ?_; (case aP => exact k32_mkM _ _ _ (⟨t115, t116, t117, t118⟩ : S32)); (case aB => exact (by repeat (first | (with_reducible first | exact HB.out | apply below_alloc | apply pw_below_drewN | apply below_drew1) | exact HB.out))); (case aF => exact (fun _ _ => trivial)); (case aO => exact (by (with_reducible repeat (first | apply Kd.R_alloc | apply Kd.R_drewN | apply Kd.R_drew)); exact HO_11.out)); (case aS => exact (below_size (by repeat (first | (with_reducible first | exact HB.out | apply below_alloc | apply pw_below_drewN | apply below_drew1) | exact HB.out)))); (case aL => have := LMc18.out; omega); intro v120 w23 ho hb hg hat; rw [← Ny119.out] at ho; have n0_ := Aside0.mk (hb); have n1_ := Aside0.mk (ho); clear HB; clear HO_11; have HB := n0_; have HO121 := n1_; clear n0_ n1_; clear ho hb hg hat; obtain ⟨Ao24, co24, eo24⟩ := Kd.R_slice HO121.out; subst eo24) | ((with_reducible refine gate_callee (f := 15) rfl ?_); refine goesL_ (some 56) rfl rfl Try.func15 (by kernel_rfl) rfl #[.slice Ao24 y119.length co24] rfl (by (try simp only [List.map_toArray, List.map_cons, List.map_nil]); first | done | rfl | (simp only [List.length_drop, List.length_take]; rfl)) ?_; (with_reducible refine (code_Encode.calls k1 _ _ y119 t122 t123 _ ?side1 ?side2 A19.out).mono ?_); (case side1 => repeat (first | exact (Kd.R_reads' HO121.out).2.2 | (with_reducible refine Kd.C_alloc ?_ _) | (with_reducible refine Kd.C_drewN ?_ _) | (with_reducible refine Kd.C_drew ?_))); (case side2 => exact (Kd.R_reads' HO121.out).2.1); rintro e w25 ⟨v124, rfl, ho0, hb⟩; refine ⟨_, rfl, ?_⟩; have n0_ := Aside0.mk (Kd.R_below (by (with_reducible repeat (first | apply Kd.R_alloc | apply Kd.R_drewN | apply Kd.R_drew)); exact HO121.out) hb); have n1_ := Aside0.mk (Kd.R_lower ho0 (below_size (by repeat (first | (with_reducible first | exact HB.out | apply below_alloc | apply pw_below_drewN | apply below_drew1) | exact HB.out)))); have n2_ := Aside0.mk (below_step (by repeat (first | (with_reducible first | exact HB.out | apply below_alloc | apply pw_below_drewN | apply below_drew1) | exact HB.out)) hb); clear HO121; clear HB; have HO121 := n0_; have HO125 := n1_; have HB := n2_; clear n0_ n1_ n2_; (try clear hb); (try clear hb2); (try clear hk); (try clear hi); (try clear ho0); obtain ⟨Ao26, co26, eo26⟩ := Kd.R_slice HO125.out; subst eo26) | ((with_reducible refine gate_callee (f := 10) rfl ?_); refine goesL_ (some 61) rfl rfl Try.func10 (by kernel_rfl) rfl #[.slice Ao26 t122.length co26] rfl (by (try simp only [List.map_toArray, List.map_cons, List.map_nil]); first | done | rfl | (simp only [List.length_drop, List.length_take]; rfl)) ?_; (with_reducible refine (code_Decode.calls k1 _ _ t122 t126 t127 t128 _ ?side1 ?side2 A20.out).mono ?_); (case side1 => repeat (first | exact (Kd.R_reads' HO125.out).2.2 | (with_reducible refine Kd.C_alloc ?_ _) | (with_reducible refine Kd.C_drewN ?_ _) | (with_reducible refine Kd.C_drew ?_))); (case side2 => exact (Kd.R_reads' HO125.out).2.1); rintro e w27 ⟨v129, rfl, ho0, hb⟩; refine ⟨_, rfl, ?_⟩; have n0_ := Aside0.mk (Kd.R_elder' (by (with_reducible repeat (first | apply Kd.R_alloc | apply Kd.R_drewN | apply Kd.R_drew)); exact HO121.out) (Kd.R_base ho0) hb); have n1_ := Aside0.mk (Kd.R_below (by (with_reducible repeat (first | apply Kd.R_alloc | apply Kd.R_drewN | apply Kd.R_drew)); exact HO125.out) hb); have n2_ := Aside0.mk (Kd.R_lower (Kd.R_new' ho0 (Kd.R_lt (by (with_reducible repeat (first | apply Kd.R_alloc | apply Kd.R_drewN | apply Kd.R_drew)); exact HO121.out))) (below_size (by repeat (first | (with_reducible first | exact HB.out | apply below_alloc | apply pw_below_drewN | apply below_drew1) | exact HB.out)))); have n3_ := Aside0.mk (below_step (by repeat (first | (with_reducible first | exact HB.out | apply below_alloc | apply pw_below_drewN | apply below_drew1) | exact HB.out)) hb); clear HO121; clear HO125; clear HB; have HO121 := n0_; have HO125 := n1_; have HO130 := n2_; have HB := n3_; clear n0_ n1_ n2_ n3_; (try clear hb); (try clear hb2); (try clear hk); (try clear hi); (try clear ho0)))
              (try simp only [Act.put, List.setIfInBounds_toArray, List.set_cons_zero, List.set_cons_succ])
              go_cut [93] (fun v93 wc => ∃ (kq : Nat) (x93_20 : Bool), v93 = .bool x93_20 ∧ Aside0 (carafelaw5_CodeBranches.j1 kq t106 y119 x93_20 = some r) ∧ Aside0 (kq ≤ k1) ∧ Aside0 (Kd.R k32 32 wc w.heap.size (fun _ => True) (.slice Ao24 y119.length co24) y119) ∧ Aside0 (Below w.heap.size w wc))
              case first =>
                have H := HC21.out
                clear HC21
                by_cases c28 : t123 = 0
                · rw [if_pos c28] at H
                  have c28b0 : (t123 == 0) = true := beq_iff_eq.mpr c28
                  have c28b1 : (t123 != 0) = false := bne_eq_false_iff_eq.mpr c28
                  clear c28
                  (first | rw [c28b0] | (simp only [i64_w, i32_w]; rw [c28b0]) | skip)
                  by_cases c29 : t127 = 0
                  · rw [if_pos c29] at H
                    have c29b0 : (t127 == 0) = true := beq_iff_eq.mpr c29
                    have c29b1 : (t127 != 0) = false := bne_eq_false_iff_eq.mpr c29
                    clear c29
                    by_cases c30 : (t126.length : Int) = (wrap64 (t106 + 1))
                    · rw [if_pos c30] at H
                      have c30b0 : ((t126.length : Int) == (wrap64 (t106 + 1))) = true := beq_iff_eq.mpr c30
                      have c30b1 : ((t126.length : Int) != (wrap64 (t106 + 1))) = false := bne_eq_false_iff_eq.mpr c30
                      clear c30
                      by_cases c31 : 0 ≤ t106
                      · rw [if_pos c31] at H
                        have c31b0 : decide (0 ≤ t106) = true := decide_eq_true c31
                        clear c31
                        by_cases c32 : t106 < (t126.length : Int)
                        · rw [if_pos c32] at H
                          have c32b0 : decide (t106 < (t126.length : Int)) = true := decide_eq_true c32
                          clear c32
                          replace H := Option.bind_eq_some_iff.mp H
                          obtain ⟨⟨t132, t133, t134, t135⟩, A330, H⟩ := H
                          replace H : (if (!(((rd_T32 t126 t106).f0) == t132) || (!(((rd_T32 t126 t106).f1) == t133) || (!(((rd_T32 t126 t106).f2) == t134) || (!(((rd_T32 t126 t106).f3) == t135))))) = true then (carafelaw5_CodeBranches.j1 k1 t106 y119 true) else ((code_Branch.f (rd y101 t104)).bind fun t136 => (carafelaw5_CodeBranches.j1 k1 t106 y119 (!t136)))) = some r := H
                          have A33 := Aside0.mk A330
                          clear A330
                          by_cases c34 : (!(((rd_T32 t126 t106).f0) == t132) || (!(((rd_T32 t126 t106).f1) == t133) || (!(((rd_T32 t126 t106).f2) == t134) || (!(((rd_T32 t126 t106).f3) == t135))))) = true
                          · rw [if_pos c34] at H
                            have c34b0 : (!(((rd_T32 t126 t106).f0) == t132) || (!(((rd_T32 t126 t106).f1) == t133) || (!(((rd_T32 t126 t106).f2) == t134) || (!(((rd_T32 t126 t106).f3) == t135))))) = true := c34
                            clear c34
                            have H' := Aside0.mk H
                            clear H
                            try go_wp2
                            have n0_ := Aside0.mk (Kd.R_drew HO121.out)
                            have n1_ := Aside0.mk (Kd.R_drew HO125.out)
                            have n2_ := Aside0.mk (Kd.R_drew HO130.out)
                            have n3_ := Aside0.mk (below_drew1 HB.out)
                            clear HO121
                            clear HO125
                            clear HO130
                            clear HB
                            have HO121 := n0_
                            have HO125 := n1_
                            have HO130 := n2_
                            have HB := n3_
                            clear n0_ n1_ n2_ n3_
                            obtain ⟨Ao36, co36, eo36⟩ := Kd.R_slice HO130.out
                            (first | subst eo36 | (injection eo36 with f1_ f2_ f3_; have f4_ := f1_.symm; have f5_ := f3_.symm; clear f1_ f2_ f3_; subst f4_; subst f5_))
                            have p131 : 0 ≤ (t106 : Int) := of_decide_eq_true (by first | (with_reducible assumption) | assumption)
                            have q131 : t106 < (t126.length : Int) := of_decide_eq_true (by first | (with_reducible assumption) | assumption)
                            obtain ⟨ad131, e131, hx131_0, hx131_1, hx131_2, hx131_3⟩ := at_T32 (Kd.R_reads' HO130.out).2.2 t106 p131 q131
                            cases e131
                            replace p131 := eq_true p131
                            replace q131 := eq_true q131
                            refine start_ (n := 29) (S := fun w' => w'.cell? (ad131.add ((t106).toNat * 4)) = some (.int .i64 ((rd_T32 t126 t106).f0)) ∧ w'.cell? ⟨(ad131.add ((t106).toNat * 4)).block, (ad131.add ((t106).toNat * 4)).off + 1, none⟩ = some (.int .i64 ((rd_T32 t126 t106).f1)) ∧ w'.cell? ⟨(ad131.add ((t106).toNat * 4)).block, (ad131.add ((t106).toNat * 4)).off + 2, none⟩ = some (.int .i64 ((rd_T32 t126 t106).f2)) ∧ w'.cell? ⟨(ad131.add ((t106).toNat * 4)).block, (ad131.add ((t106).toNat * 4)).off + 3, none⟩ = some (.int .i64 ((rd_T32 t126 t106).f3))) (ds := []) #[false, false, false, false, false, false, false, false, false, false, false, false, false, false, false, false, false, false, false, false, false, false, false, false, false, false, false, false, false] (by kernel_rfl) rfl rfl ⟨hx131_0, hx131_1, hx131_2, hx131_3⟩ (fun hHeld => ?_); refine with_tabW carafelaw5_CodeBranches.tab13 carafelaw5_CodeBranches.bits13 (fun HT_ HW_ => ?_)
                            generalize w27.drew = w35 at HO121 HO125 HO130 HB hx131_0 hx131_1 hx131_2 hx131_3 hHeld ⊢
                            refine pure_ (i := 0) (N := some 65) (v := ?_) (a' := ?_) #[true, false, false, false, false, false, false, false, false, false, false, false, false, false, false, false, false, false, false, false, false, false, false, false, false, false, false, false, false] rfl rfl (any_of HT_.out (by kernel_rfl)) (fun _ _ _ h => h) (Or.inl ⟨by rfl, ?_⟩) ?_ ?_
                            rotate_left
                            · intro w'
                              go_simp
                              with_reducible rfl
                            rotate_left
                            · simp only [Act.put, List.setIfInBounds_toArray, List.set_cons_zero, List.set_cons_succ, i64_w, i32_w]
                              rfl
                            refine pure_ (i := 1) (N := some 66) (v := ?_) (a' := ?_) #[true, true, false, false, false, false, false, false, false, false, false, false, false, false, false, false, false, false, false, false, false, false, false, false, false, false, false, false, false] rfl rfl (any_of HT_.out (by kernel_rfl)) (fun _ _ _ h => h) (Or.inl ⟨by rfl, ?_⟩) ?_ ?_
                            rotate_left
                            · intro w'
                              go_simp
                              with_reducible rfl
                            rotate_left
                            · simp only [Act.put, List.setIfInBounds_toArray, List.set_cons_zero, List.set_cons_succ, i64_w, i32_w]
                              rfl
                            refine pure_ (i := 2) (N := some 67) (v := ?_) (a' := ?_) #[true, true, true, false, false, false, false, false, false, false, false, false, false, false, false, false, false, false, false, false, false, false, false, false, false, false, false, false, false] rfl rfl (any_of HT_.out (by kernel_rfl)) (fun _ _ _ h => h) (Or.inl ⟨by rfl, ?_⟩) ?_ ?_
                            rotate_left
                            · intro w'
                              go_simp
                              with_reducible rfl
                            rotate_left
                            · simp only [Act.put, List.setIfInBounds_toArray, List.set_cons_zero, List.set_cons_succ, i64_w, i32_w]
                              rfl
                            refine pure_ (i := 3) (N := some 68) (v := ?_) (a' := ?_) #[true, true, true, true, false, false, false, false, false, false, false, false, false, false, false, false, false, false, false, false, false, false, false, false, false, false, false, false, false] rfl rfl (any_of HT_.out (by kernel_rfl)) (fun _ _ _ h => h) (Or.inl ⟨by rfl, ?_⟩) ?_ ?_
                            rotate_left
                            · intro w'
                              go_simp
                              with_reducible rfl
                            rotate_left
                            · simp only [Act.put, List.setIfInBounds_toArray, List.set_cons_zero, List.set_cons_succ, i64_w, i32_w]
                              rfl
                            refine pure_ (i := 4) (N := some 69) (v := ?_) (a' := ?_) #[true, true, true, true, true, false, false, false, false, false, false, false, false, false, false, false, false, false, false, false, false, false, false, false, false, false, false, false, false] rfl rfl (any_of HT_.out (by kernel_rfl)) (fun _ _ _ h => h) (Or.inl ⟨by rfl, ?_⟩) ?_ ?_
                            rotate_left
                            · intro w'
                              go_simp
                              with_reducible rfl
                            rotate_left
                            · simp only [Act.put, List.setIfInBounds_toArray, List.set_cons_zero, List.set_cons_succ, i64_w, i32_w]
                              rfl
                            refine pure_ (i := 5) (N := some 70) (v := ?_) (a' := ?_) #[true, true, true, true, true, true, false, false, false, false, false, false, false, false, false, false, false, false, false, false, false, false, false, false, false, false, false, false, false] rfl rfl (any_of HT_.out (by kernel_rfl)) (fun _ _ _ h => h) (Or.inl ⟨by rfl, ?_⟩) ?_ ?_
                            rotate_left
                            · intro w'
                              go_simp
                              with_reducible rfl
                            rotate_left
                            · simp only [Act.put, List.setIfInBounds_toArray, List.set_cons_zero, List.set_cons_succ, i64_w, i32_w]
                              rfl
                            refine pure_ (i := 6) (N := some 71) (v := ?_) (a' := ?_) #[true, true, true, true, true, true, true, false, false, false, false, false, false, false, false, false, false, false, false, false, false, false, false, false, false, false, false, false, false] rfl rfl (any_of HT_.out (by kernel_rfl)) (fun _ _ _ h => h) (Or.inl ⟨by rfl, ?_⟩) ?_ ?_
                            rotate_left
                            · intro w'
                              go_simp
                              with_reducible rfl
                            rotate_left
                            · simp only [Act.put, List.setIfInBounds_toArray, List.set_cons_zero, List.set_cons_succ, i64_w, i32_w]
                              rfl
                            refine pure_ (i := 7) (N := some 72) (v := ?_) (a' := ?_) #[true, true, true, true, true, true, true, true, false, false, false, false, false, false, false, false, false, false, false, false, false, false, false, false, false, false, false, false, false] rfl rfl (any_of HT_.out (by kernel_rfl)) (fun _ _ _ h => h) (Or.inl ⟨by rfl, ?_⟩) ?_ ?_
                            rotate_left
                            · intro w'
                              go_simp
                              with_reducible rfl
                            rotate_left
                            · simp only [Act.put, List.setIfInBounds_toArray, List.set_cons_zero, List.set_cons_succ, i64_w, i32_w]
                              rfl
                            refine pure_ (i := 8) (N := some 73) (v := ?_) (a' := ?_) #[true, true, true, true, true, true, true, true, true, false, false, false, false, false, false, false, false, false, false, false, false, false, false, false, false, false, false, false, false] rfl rfl (any_of HT_.out (by kernel_rfl)) (fun _ _ _ h => h) (Or.inl ⟨by rfl, ?_⟩) ?_ ?_
                            rotate_left
                            · intro w'
                              go_simp
                              with_reducible rfl
                            rotate_left
                            · simp only [Act.put, List.setIfInBounds_toArray, List.set_cons_zero, List.set_cons_succ, i64_w, i32_w]
                              rfl
                            refine pure_ (i := 9) (N := some 74) (v := ?_) (a' := ?_) #[true, true, true, true, true, true, true, true, true, true, false, false, false, false, false, false, false, false, false, false, false, false, false, false, false, false, false, false, false] rfl rfl (any_of HT_.out (by kernel_rfl)) (fun _ _ _ h => h) (Or.inl ⟨by rfl, ?_⟩) ?_ ?_
                            rotate_left
                            · intro w'
                              go_simp
                              with_reducible rfl
                            rotate_left
                            · simp only [Act.put, List.setIfInBounds_toArray, List.set_cons_zero, List.set_cons_succ, i64_w, i32_w]
                              rfl
                            refine pure_ (i := 10) (N := some 75) (v := ?_) (a' := ?_) #[true, true, true, true, true, true, true, true, true, true, true, false, false, false, false, false, false, false, false, false, false, false, false, false, false, false, false, false, false] rfl rfl (any_of HT_.out (by kernel_rfl)) (fun _ _ _ h => h) (Or.inl ⟨by rfl, ?_⟩) ?_ ?_
                            rotate_left
                            · intro w'
                              go_simp
                              with_reducible rfl
                            rotate_left
                            · simp only [Act.put, List.setIfInBounds_toArray, List.set_cons_zero, List.set_cons_succ, i64_w, i32_w]
                              rfl
                            refine pure_ (i := 11) (N := some 76) (v := ?_) (a' := ?_) #[true, true, true, true, true, true, true, true, true, true, true, true, false, false, false, false, false, false, false, false, false, false, false, false, false, false, false, false, false] rfl rfl (any_of HT_.out (by kernel_rfl)) (fun _ _ _ h => h) (Or.inl ⟨by rfl, ?_⟩) ?_ ?_
                            rotate_left
                            · intro w'
                              go_simp
                              with_reducible rfl
                            rotate_left
                            · simp only [Act.put, List.setIfInBounds_toArray, List.set_cons_zero, List.set_cons_succ, i64_w, i32_w]
                              rfl
                            refine pure_ (i := 12) (N := some 77) (v := ?_) (a' := ?_) #[true, true, true, true, true, true, true, true, true, true, true, true, true, false, false, false, false, false, false, false, false, false, false, false, false, false, false, false, false] rfl rfl (any_of HT_.out (by kernel_rfl)) (fun _ _ _ h => h) (Or.inl ⟨by rfl, ?_⟩) ?_ ?_
                            rotate_left
                            · intro w'
                              go_simp
                              with_reducible rfl
                            rotate_left
                            · simp only [Act.put, List.setIfInBounds_toArray, List.set_cons_zero, List.set_cons_succ, i64_w, i32_w]
                              rfl
                            refine pure_ (i := 13) (N := some 78) (v := ?_) (a' := ?_) #[true, true, true, true, true, true, true, true, true, true, true, true, true, true, false, false, false, false, false, false, false, false, false, false, false, false, false, false, false] rfl rfl (any_of HT_.out (by kernel_rfl)) (fun _ _ _ h => h) (Or.inl ⟨by rfl, ?_⟩) ?_ ?_
                            rotate_left
                            · intro w'
                              go_simp
                              with_reducible rfl
                            rotate_left
                            · simp only [Act.put, List.setIfInBounds_toArray, List.set_cons_zero, List.set_cons_succ, i64_w, i32_w]
                              rfl
                            refine pure_ (i := 14) (N := some 79) (v := ?_) (a' := ?_) #[true, true, true, true, true, true, true, true, true, true, true, true, true, true, true, false, false, false, false, false, false, false, false, false, false, false, false, false, false] rfl rfl (any_of HT_.out (by kernel_rfl)) (fun _ _ _ h => h) (Or.inl ⟨by rfl, ?_⟩) ?_ ?_
                            rotate_left
                            · intro w'
                              go_simp
                              with_reducible rfl
                            rotate_left
                            · simp only [Act.put, List.setIfInBounds_toArray, List.set_cons_zero, List.set_cons_succ, i64_w, i32_w]
                              rfl
                            refine pure_ (i := 15) (N := some 80) (v := ?_) (a' := ?_) #[true, true, true, true, true, true, true, true, true, true, true, true, true, true, true, true, false, false, false, false, false, false, false, false, false, false, false, false, false] rfl rfl (any_of HT_.out (by kernel_rfl)) (fun _ _ _ h => h) (Or.inl ⟨by rfl, ?_⟩) ?_ ?_
                            rotate_left
                            · intro w'
                              go_simp
                              with_reducible rfl
                            rotate_left
                            · simp only [Act.put, List.setIfInBounds_toArray, List.set_cons_zero, List.set_cons_succ, i64_w, i32_w]
                              rfl
                            refine pure_ (i := 16) (N := some 81) (v := ?_) (a' := ?_) #[true, true, true, true, true, true, true, true, true, true, true, true, true, true, true, true, true, false, false, false, false, false, false, false, false, false, false, false, false] rfl rfl (any_of HT_.out (by kernel_rfl)) (fun _ _ _ h => h) (Or.inl ⟨by rfl, ?_⟩) ?_ ?_
                            rotate_left
                            · intro w'
                              go_simp
                              with_reducible rfl
                            rotate_left
                            · simp only [Act.put, List.setIfInBounds_toArray, List.set_cons_zero, List.set_cons_succ, i64_w, i32_w]
                              rfl
                            refine pure_ (i := 18) (N := some 83) (v := ?_) (a' := ?_) #[true, true, true, true, true, true, true, true, true, true, true, true, true, true, true, true, true, false, true, false, false, false, false, false, false, false, false, false, false] rfl rfl (any_of HT_.out (by kernel_rfl)) (fun _ _ _ h => h) (Or.inl ⟨by rfl, ?_⟩) ?_ ?_
                            rotate_left
                            · intro w'
                              go_simp
                              with_reducible rfl
                            rotate_left
                            · simp only [Act.put, List.setIfInBounds_toArray, List.set_cons_zero, List.set_cons_succ, i64_w, i32_w]
                              rfl
                            refine pure_ (i := 19) (N := some 84) (v := ?_) (a' := ?_) #[true, true, true, true, true, true, true, true, true, true, true, true, true, true, true, true, true, false, true, true, false, false, false, false, false, false, false, false, false] rfl rfl (any_of HT_.out (by kernel_rfl)) (fun _ _ _ h => h) (Or.inl ⟨by rfl, ?_⟩) ?_ ?_
                            rotate_left
                            · intro w'
                              go_simp
                              with_reducible rfl
                            rotate_left
                            · simp only [Act.put, List.setIfInBounds_toArray, List.set_cons_zero, List.set_cons_succ, i64_w, i32_w]
                              rfl
                            refine pure_ (i := 20) (N := some 85) (v := ?_) (a' := ?_) #[true, true, true, true, true, true, true, true, true, true, true, true, true, true, true, true, true, false, true, true, true, false, false, false, false, false, false, false, false] rfl rfl (any_of HT_.out (by kernel_rfl)) (fun _ _ _ h => h) (Or.inl ⟨by rfl, ?_⟩) ?_ ?_
                            rotate_left
                            · intro w'
                              go_simp
                              with_reducible rfl
                            rotate_left
                            · simp only [Act.put, List.setIfInBounds_toArray, List.set_cons_zero, List.set_cons_succ, i64_w, i32_w]
                              rfl
                            refine take_ (i := 17) (N := some 82) (v := ?_) (a' := ?_) #[true, true, true, true, true, true, true, true, true, true, true, true, true, true, true, true, true, true, true, true, true, false, false, false, false, false, false, false, false] rfl rfl (take_ofW HT_.out HW_.out (by kernel_rfl)) (fun _ _ _ h => h) (Or.inl ⟨by rfl, ?_⟩) hHeld ?_ ?_
                            rotate_left
                            · rintro w' ⟨s0, s1, s2, s3⟩
                              go_simp
                              with_reducible rfl
                            rotate_left
                            · simp only [Act.put, List.setIfInBounds_toArray, List.set_cons_zero, List.set_cons_succ, i64_w, i32_w]
                              rfl
                            refine one_ (i := 21) (N := some 86) #[true, true, true, true, true, true, true, true, true, true, true, true, true, true, true, true, true, true, true, true, true, true, false, false, false, false, false, false, false] rfl rfl (one_of HT_.out (by kernel_rfl)) (by decide) (fun K hK => ?_)
                            refine goes_ Try.func25 (by kernel_rfl) rfl #[.int .i64 t106, .int .i64 (rd y101 t104), .int .i64 t107, .int .i64 0] (by rfl) rfl rfl (by (try simp only [List.map_toArray, List.map_cons, List.map_nil]); first | done | rfl | (simp only [List.length_drop, List.length_take]; rfl)) ?_
                            with_reducible refine (carafelaw5_i.calls t106 (rd y101 t104) t107 0 t132 t133 t134 t135 _ A33.out).mono ?_
                            rintro e w37 ⟨rfl, hb⟩
                            have HS0_ := (hb.cell (World.block_lt_of_cell? _ _ (hHeld.1))).trans (hHeld.1)
                            have HS1_ := (hb.cell (World.block_lt_of_cell? _ _ (hHeld.2.1))).trans (hHeld.2.1)
                            have HS2_ := (hb.cell (World.block_lt_of_cell? _ _ (hHeld.2.2.1))).trans (hHeld.2.2.1)
                            have HS3_ := (hb.cell (World.block_lt_of_cell? _ _ (hHeld.2.2.2))).trans (hHeld.2.2.2)
                            refine ⟨_, rfl, ?_⟩
                            have n0_ := Aside0.mk (Kd.R_below (by (with_reducible repeat (first | apply Kd.R_alloc | apply Kd.R_drewN | apply Kd.R_drew)); exact HO121.out) hb)
                            have n1_ := Aside0.mk (Kd.R_below (by (with_reducible repeat (first | apply Kd.R_alloc | apply Kd.R_drewN | apply Kd.R_drew)); exact HO125.out) hb)
                            have n2_ := Aside0.mk (Kd.R_below (by (with_reducible repeat (first | apply Kd.R_alloc | apply Kd.R_drewN | apply Kd.R_drew)); exact HO130.out) hb)
                            have n3_ := Aside0.mk (below_step (by repeat (first | (with_reducible first | exact HB.out | apply below_alloc | apply pw_below_drewN | apply below_drew1) | exact HB.out)) hb)
                            clear HO121
                            clear HO125
                            clear HO130
                            clear HB
                            have HO121 := n0_
                            have HO125 := n1_
                            have HO130 := n2_
                            have HB := n3_
                            clear n0_ n1_ n2_ n3_
                            (try clear hb)
                            (try clear hb2)
                            (try clear hk)
                            (try clear hi)
                            refine hK.out _ _ ⟨HS0_, HS1_, HS2_, HS3_⟩ (fun hHeld => ?_)
                            clear hK K
                            refine norm_ (a' := ?_) ?_ ?_
                            rotate_left
                            · show Act.put _ (some 86) _ = _
                              simp only [Act.put, List.setIfInBounds_toArray, List.set_cons_zero, List.set_cons_succ, i64_w, i32_w]
                              rfl
                            refine pure_ (i := 22) (N := some 87) (v := ?_) (a' := ?_) #[true, true, true, true, true, true, true, true, true, true, true, true, true, true, true, true, true, true, true, true, true, true, true, false, false, false, false, false, false] rfl rfl (any_of HT_.out (by kernel_rfl)) (fun _ _ _ h => h) (Or.inl ⟨by rfl, ?_⟩) ?_ ?_
                            rotate_left
                            · intro w'
                              go_simp
                              with_reducible rfl
                            rotate_left
                            · simp only [Act.put, List.setIfInBounds_toArray, List.set_cons_zero, List.set_cons_succ, i64_w, i32_w]
                              rfl
                            refine pure_ (i := 23) (N := some 88) (v := ?_) (a' := ?_) #[true, true, true, true, true, true, true, true, true, true, true, true, true, true, true, true, true, true, true, true, true, true, true, true, false, false, false, false, false] rfl rfl (any_of HT_.out (by kernel_rfl)) (fun _ _ _ h => h) (Or.inl ⟨by rfl, ?_⟩) ?_ ?_
                            rotate_left
                            · intro w'
                              go_simp
                              with_reducible rfl
                            rotate_left
                            · simp only [Act.put, List.setIfInBounds_toArray, List.set_cons_zero, List.set_cons_succ, i64_w, i32_w]
                              rfl
                            refine pure_ (i := 24) (N := some 89) (v := ?_) (a' := ?_) #[true, true, true, true, true, true, true, true, true, true, true, true, true, true, true, true, true, true, true, true, true, true, true, true, true, false, false, false, false] rfl rfl (any_of HT_.out (by kernel_rfl)) (fun _ _ _ h => h) (Or.inl ⟨by rfl, ?_⟩) ?_ ?_
                            rotate_left
                            · intro w'
                              go_simp
                              with_reducible rfl
                            rotate_left
                            · simp only [Act.put, List.setIfInBounds_toArray, List.set_cons_zero, List.set_cons_succ, i64_w, i32_w]
                              rfl
                            refine pure_ (i := 25) (N := some 90) (v := undef) (a' := ?_) #[true, true, true, true, true, true, true, true, true, true, true, true, true, true, true, true, true, true, true, true, true, true, true, true, true, true, false, false, false] rfl rfl (any_of HT_.out (by kernel_rfl)) (fun _ _ _ h => h) (Or.inr ⟨by rfl, rfl⟩) ?_ ?_
                            rotate_left
                            · simp only [Act.put, List.setIfInBounds_toArray, List.set_cons_zero, List.set_cons_succ, i64_w, i32_w]
                              rfl
                            refine pure_ (i := 26) (N := some 91) (v := undef) (a' := ?_) #[true, true, true, true, true, true, true, true, true, true, true, true, true, true, true, true, true, true, true, true, true, true, true, true, true, true, true, false, false] rfl rfl (any_of HT_.out (by kernel_rfl)) (fun _ _ _ h => h) (Or.inr ⟨by rfl, rfl⟩) ?_ ?_
                            rotate_left
                            · simp only [Act.put, List.setIfInBounds_toArray, List.set_cons_zero, List.set_cons_succ, i64_w, i32_w]
                              rfl
                            refine pure_ (i := 27) (N := some 92) (v := undef) (a' := ?_) #[true, true, true, true, true, true, true, true, true, true, true, true, true, true, true, true, true, true, true, true, true, true, true, true, true, true, true, true, false] rfl rfl (any_of HT_.out (by kernel_rfl)) (fun _ _ _ h => h) (Or.inr ⟨by rfl, rfl⟩) ?_ ?_
                            rotate_left
                            · simp only [Act.put, List.setIfInBounds_toArray, List.set_cons_zero, List.set_cons_succ, i64_w, i32_w]
                              rfl
                            refine pure_ (i := 28) (N := some 93) (v := ?_) (a' := ?_) #[true, true, true, true, true, true, true, true, true, true, true, true, true, true, true, true, true, true, true, true, true, true, true, true, true, true, true, true, true] rfl rfl (any_of HT_.out (by kernel_rfl)) (fun _ _ _ h => h) (Or.inl ⟨by rfl, ?_⟩) ?_ ?_
                            rotate_left
                            · intro w'
                              go_simp
                              with_reducible rfl
                            rotate_left
                            · simp only [Act.put, List.setIfInBounds_toArray, List.set_cons_zero, List.set_cons_succ, i64_w, i32_w]
                              rfl
                            refine done_ (done_of HT_.out (by kernel_rfl)) ?_
                            try go_wp2
                            go_meet
                            case rel => exact ⟨_, (true), (by first | rfl | (simp; done) | (simp [*]; done)), H', ⟨by have := HK1.out; first | omega | exact Nat.le_refl _⟩, ⟨by (with_reducible repeat (first | apply Kd.R_alloc | apply Kd.R_drewN | apply Kd.R_drew)); exact Kd.R_mono HO121.out (fun _ hk => trivial)⟩, ⟨by repeat (first | (with_reducible first | exact HB.out | apply below_alloc | apply pw_below_drewN | apply below_drew1) | exact HB.out)⟩⟩
                          · rw [if_neg c34] at H
                            have c34b0 : (!(((rd_T32 t126 t106).f0) == t132) || (!(((rd_T32 t126 t106).f1) == t133) || (!(((rd_T32 t126 t106).f2) == t134) || (!(((rd_T32 t126 t106).f3) == t135))))) = false := by simpa using c34
                            clear c34
                            replace H := Option.bind_eq_some_iff.mp H
                            obtain ⟨t136, A380, H⟩ := H
                            replace H : (carafelaw5_CodeBranches.j1 k1 t106 y119 (!t136)) = some r := H
                            have A38 := Aside0.mk A380
                            clear A380
                            have H' := Aside0.mk H
                            clear H
                            try go_wp2
                            have n0_ := Aside0.mk (Kd.R_drew HO121.out)
                            have n1_ := Aside0.mk (Kd.R_drew HO125.out)
                            have n2_ := Aside0.mk (Kd.R_drew HO130.out)
                            have n3_ := Aside0.mk (below_drew1 HB.out)
                            clear HO121
                            clear HO125
                            clear HO130
                            clear HB
                            have HO121 := n0_
                            have HO125 := n1_
                            have HO130 := n2_
                            have HB := n3_
                            clear n0_ n1_ n2_ n3_
                            obtain ⟨Ao40, co40, eo40⟩ := Kd.R_slice HO130.out
                            (first | subst eo40 | (injection eo40 with f1_ f2_ f3_; have f4_ := f1_.symm; have f5_ := f3_.symm; clear f1_ f2_ f3_; subst f4_; subst f5_))
                            have p131 : 0 ≤ (t106 : Int) := of_decide_eq_true (by first | (with_reducible assumption) | assumption)
                            have q131 : t106 < (t126.length : Int) := of_decide_eq_true (by first | (with_reducible assumption) | assumption)
                            obtain ⟨ad131, e131, hx131_0, hx131_1, hx131_2, hx131_3⟩ := at_T32 (Kd.R_reads' HO130.out).2.2 t106 p131 q131
                            cases e131
                            replace p131 := eq_true p131
                            replace q131 := eq_true q131
                            refine start_ (n := 29) (S := fun w' => w'.cell? (ad131.add ((t106).toNat * 4)) = some (.int .i64 ((rd_T32 t126 t106).f0)) ∧ w'.cell? ⟨(ad131.add ((t106).toNat * 4)).block, (ad131.add ((t106).toNat * 4)).off + 1, none⟩ = some (.int .i64 ((rd_T32 t126 t106).f1)) ∧ w'.cell? ⟨(ad131.add ((t106).toNat * 4)).block, (ad131.add ((t106).toNat * 4)).off + 2, none⟩ = some (.int .i64 ((rd_T32 t126 t106).f2)) ∧ w'.cell? ⟨(ad131.add ((t106).toNat * 4)).block, (ad131.add ((t106).toNat * 4)).off + 3, none⟩ = some (.int .i64 ((rd_T32 t126 t106).f3))) (ds := []) #[false, false, false, false, false, false, false, false, false, false, false, false, false, false, false, false, false, false, false, false, false, false, false, false, false, false, false, false, false] (by kernel_rfl) rfl rfl ⟨hx131_0, hx131_1, hx131_2, hx131_3⟩ (fun hHeld => ?_); refine with_tabW carafelaw5_CodeBranches.tab13 carafelaw5_CodeBranches.bits13 (fun HT_ HW_ => ?_)
                            generalize w27.drew = w39 at HO121 HO125 HO130 HB hx131_0 hx131_1 hx131_2 hx131_3 hHeld ⊢
                            refine pure_ (i := 0) (N := some 65) (v := ?_) (a' := ?_) #[true, false, false, false, false, false, false, false, false, false, false, false, false, false, false, false, false, false, false, false, false, false, false, false, false, false, false, false, false] rfl rfl (any_of HT_.out (by kernel_rfl)) (fun _ _ _ h => h) (Or.inl ⟨by rfl, ?_⟩) ?_ ?_
                            rotate_left
                            · intro w'
                              go_simp
                              with_reducible rfl
                            rotate_left
                            · simp only [Act.put, List.setIfInBounds_toArray, List.set_cons_zero, List.set_cons_succ, i64_w, i32_w]
                              rfl
                            refine pure_ (i := 1) (N := some 66) (v := ?_) (a' := ?_) #[true, true, false, false, false, false, false, false, false, false, false, false, false, false, false, false, false, false, false, false, false, false, false, false, false, false, false, false, false] rfl rfl (any_of HT_.out (by kernel_rfl)) (fun _ _ _ h => h) (Or.inl ⟨by rfl, ?_⟩) ?_ ?_
                            rotate_left
                            · intro w'
                              go_simp
                              with_reducible rfl
                            rotate_left
                            · simp only [Act.put, List.setIfInBounds_toArray, List.set_cons_zero, List.set_cons_succ, i64_w, i32_w]
                              rfl
                            refine pure_ (i := 2) (N := some 67) (v := ?_) (a' := ?_) #[true, true, true, false, false, false, false, false, false, false, false, false, false, false, false, false, false, false, false, false, false, false, false, false, false, false, false, false, false] rfl rfl (any_of HT_.out (by kernel_rfl)) (fun _ _ _ h => h) (Or.inl ⟨by rfl, ?_⟩) ?_ ?_
                            rotate_left
                            · intro w'
                              go_simp
                              with_reducible rfl
                            rotate_left
                            · simp only [Act.put, List.setIfInBounds_toArray, List.set_cons_zero, List.set_cons_succ, i64_w, i32_w]
                              rfl
                            refine pure_ (i := 3) (N := some 68) (v := ?_) (a' := ?_) #[true, true, true, true, false, false, false, false, false, false, false, false, false, false, false, false, false, false, false, false, false, false, false, false, false, false, false, false, false] rfl rfl (any_of HT_.out (by kernel_rfl)) (fun _ _ _ h => h) (Or.inl ⟨by rfl, ?_⟩) ?_ ?_
                            rotate_left
                            · intro w'
                              go_simp
                              with_reducible rfl
                            rotate_left
                            · simp only [Act.put, List.setIfInBounds_toArray, List.set_cons_zero, List.set_cons_succ, i64_w, i32_w]
                              rfl
                            refine pure_ (i := 4) (N := some 69) (v := ?_) (a' := ?_) #[true, true, true, true, true, false, false, false, false, false, false, false, false, false, false, false, false, false, false, false, false, false, false, false, false, false, false, false, false] rfl rfl (any_of HT_.out (by kernel_rfl)) (fun _ _ _ h => h) (Or.inl ⟨by rfl, ?_⟩) ?_ ?_
                            rotate_left
                            · intro w'
                              go_simp
                              with_reducible rfl
                            rotate_left
                            · simp only [Act.put, List.setIfInBounds_toArray, List.set_cons_zero, List.set_cons_succ, i64_w, i32_w]
                              rfl
                            refine pure_ (i := 5) (N := some 70) (v := ?_) (a' := ?_) #[true, true, true, true, true, true, false, false, false, false, false, false, false, false, false, false, false, false, false, false, false, false, false, false, false, false, false, false, false] rfl rfl (any_of HT_.out (by kernel_rfl)) (fun _ _ _ h => h) (Or.inl ⟨by rfl, ?_⟩) ?_ ?_
                            rotate_left
                            · intro w'
                              go_simp
                              with_reducible rfl
                            rotate_left
                            · simp only [Act.put, List.setIfInBounds_toArray, List.set_cons_zero, List.set_cons_succ, i64_w, i32_w]
                              rfl
                            refine pure_ (i := 6) (N := some 71) (v := ?_) (a' := ?_) #[true, true, true, true, true, true, true, false, false, false, false, false, false, false, false, false, false, false, false, false, false, false, false, false, false, false, false, false, false] rfl rfl (any_of HT_.out (by kernel_rfl)) (fun _ _ _ h => h) (Or.inl ⟨by rfl, ?_⟩) ?_ ?_
                            rotate_left
                            · intro w'
                              go_simp
                              with_reducible rfl
                            rotate_left
                            · simp only [Act.put, List.setIfInBounds_toArray, List.set_cons_zero, List.set_cons_succ, i64_w, i32_w]
                              rfl
                            refine pure_ (i := 7) (N := some 72) (v := ?_) (a' := ?_) #[true, true, true, true, true, true, true, true, false, false, false, false, false, false, false, false, false, false, false, false, false, false, false, false, false, false, false, false, false] rfl rfl (any_of HT_.out (by kernel_rfl)) (fun _ _ _ h => h) (Or.inl ⟨by rfl, ?_⟩) ?_ ?_
                            rotate_left
                            · intro w'
                              go_simp
                              with_reducible rfl
                            rotate_left
                            · simp only [Act.put, List.setIfInBounds_toArray, List.set_cons_zero, List.set_cons_succ, i64_w, i32_w]
                              rfl
                            refine pure_ (i := 8) (N := some 73) (v := ?_) (a' := ?_) #[true, true, true, true, true, true, true, true, true, false, false, false, false, false, false, false, false, false, false, false, false, false, false, false, false, false, false, false, false] rfl rfl (any_of HT_.out (by kernel_rfl)) (fun _ _ _ h => h) (Or.inl ⟨by rfl, ?_⟩) ?_ ?_
                            rotate_left
                            · intro w'
                              go_simp
                              with_reducible rfl
                            rotate_left
                            · simp only [Act.put, List.setIfInBounds_toArray, List.set_cons_zero, List.set_cons_succ, i64_w, i32_w]
                              rfl
                            refine pure_ (i := 9) (N := some 74) (v := ?_) (a' := ?_) #[true, true, true, true, true, true, true, true, true, true, false, false, false, false, false, false, false, false, false, false, false, false, false, false, false, false, false, false, false] rfl rfl (any_of HT_.out (by kernel_rfl)) (fun _ _ _ h => h) (Or.inl ⟨by rfl, ?_⟩) ?_ ?_
                            rotate_left
                            · intro w'
                              go_simp
                              with_reducible rfl
                            rotate_left
                            · simp only [Act.put, List.setIfInBounds_toArray, List.set_cons_zero, List.set_cons_succ, i64_w, i32_w]
                              rfl
                            refine pure_ (i := 10) (N := some 75) (v := ?_) (a' := ?_) #[true, true, true, true, true, true, true, true, true, true, true, false, false, false, false, false, false, false, false, false, false, false, false, false, false, false, false, false, false] rfl rfl (any_of HT_.out (by kernel_rfl)) (fun _ _ _ h => h) (Or.inl ⟨by rfl, ?_⟩) ?_ ?_
                            rotate_left
                            · intro w'
                              go_simp
                              with_reducible rfl
                            rotate_left
                            · simp only [Act.put, List.setIfInBounds_toArray, List.set_cons_zero, List.set_cons_succ, i64_w, i32_w]
                              rfl
                            refine pure_ (i := 11) (N := some 76) (v := ?_) (a' := ?_) #[true, true, true, true, true, true, true, true, true, true, true, true, false, false, false, false, false, false, false, false, false, false, false, false, false, false, false, false, false] rfl rfl (any_of HT_.out (by kernel_rfl)) (fun _ _ _ h => h) (Or.inl ⟨by rfl, ?_⟩) ?_ ?_
                            rotate_left
                            · intro w'
                              go_simp
                              with_reducible rfl
                            rotate_left
                            · simp only [Act.put, List.setIfInBounds_toArray, List.set_cons_zero, List.set_cons_succ, i64_w, i32_w]
                              rfl
                            refine pure_ (i := 12) (N := some 77) (v := ?_) (a' := ?_) #[true, true, true, true, true, true, true, true, true, true, true, true, true, false, false, false, false, false, false, false, false, false, false, false, false, false, false, false, false] rfl rfl (any_of HT_.out (by kernel_rfl)) (fun _ _ _ h => h) (Or.inl ⟨by rfl, ?_⟩) ?_ ?_
                            rotate_left
                            · intro w'
                              go_simp
                              with_reducible rfl
                            rotate_left
                            · simp only [Act.put, List.setIfInBounds_toArray, List.set_cons_zero, List.set_cons_succ, i64_w, i32_w]
                              rfl
                            refine pure_ (i := 13) (N := some 78) (v := ?_) (a' := ?_) #[true, true, true, true, true, true, true, true, true, true, true, true, true, true, false, false, false, false, false, false, false, false, false, false, false, false, false, false, false] rfl rfl (any_of HT_.out (by kernel_rfl)) (fun _ _ _ h => h) (Or.inl ⟨by rfl, ?_⟩) ?_ ?_
                            rotate_left
                            · intro w'
                              go_simp
                              with_reducible rfl
                            rotate_left
                            · simp only [Act.put, List.setIfInBounds_toArray, List.set_cons_zero, List.set_cons_succ, i64_w, i32_w]
                              rfl
                            refine pure_ (i := 14) (N := some 79) (v := ?_) (a' := ?_) #[true, true, true, true, true, true, true, true, true, true, true, true, true, true, true, false, false, false, false, false, false, false, false, false, false, false, false, false, false] rfl rfl (any_of HT_.out (by kernel_rfl)) (fun _ _ _ h => h) (Or.inl ⟨by rfl, ?_⟩) ?_ ?_
                            rotate_left
                            · intro w'
                              go_simp
                              with_reducible rfl
                            rotate_left
                            · simp only [Act.put, List.setIfInBounds_toArray, List.set_cons_zero, List.set_cons_succ, i64_w, i32_w]
                              rfl
                            refine pure_ (i := 15) (N := some 80) (v := ?_) (a' := ?_) #[true, true, true, true, true, true, true, true, true, true, true, true, true, true, true, true, false, false, false, false, false, false, false, false, false, false, false, false, false] rfl rfl (any_of HT_.out (by kernel_rfl)) (fun _ _ _ h => h) (Or.inl ⟨by rfl, ?_⟩) ?_ ?_
                            rotate_left
                            · intro w'
                              go_simp
                              with_reducible rfl
                            rotate_left
                            · simp only [Act.put, List.setIfInBounds_toArray, List.set_cons_zero, List.set_cons_succ, i64_w, i32_w]
                              rfl
                            refine pure_ (i := 16) (N := some 81) (v := ?_) (a' := ?_) #[true, true, true, true, true, true, true, true, true, true, true, true, true, true, true, true, true, false, false, false, false, false, false, false, false, false, false, false, false] rfl rfl (any_of HT_.out (by kernel_rfl)) (fun _ _ _ h => h) (Or.inl ⟨by rfl, ?_⟩) ?_ ?_
                            rotate_left
                            · intro w'
                              go_simp
                              with_reducible rfl
                            rotate_left
                            · simp only [Act.put, List.setIfInBounds_toArray, List.set_cons_zero, List.set_cons_succ, i64_w, i32_w]
                              rfl
                            refine pure_ (i := 18) (N := some 83) (v := ?_) (a' := ?_) #[true, true, true, true, true, true, true, true, true, true, true, true, true, true, true, true, true, false, true, false, false, false, false, false, false, false, false, false, false] rfl rfl (any_of HT_.out (by kernel_rfl)) (fun _ _ _ h => h) (Or.inl ⟨by rfl, ?_⟩) ?_ ?_
                            rotate_left
                            · intro w'
                              go_simp
                              with_reducible rfl
                            rotate_left
                            · simp only [Act.put, List.setIfInBounds_toArray, List.set_cons_zero, List.set_cons_succ, i64_w, i32_w]
                              rfl
                            refine pure_ (i := 19) (N := some 84) (v := ?_) (a' := ?_) #[true, true, true, true, true, true, true, true, true, true, true, true, true, true, true, true, true, false, true, true, false, false, false, false, false, false, false, false, false] rfl rfl (any_of HT_.out (by kernel_rfl)) (fun _ _ _ h => h) (Or.inl ⟨by rfl, ?_⟩) ?_ ?_
                            rotate_left
                            · intro w'
                              go_simp
                              with_reducible rfl
                            rotate_left
                            · simp only [Act.put, List.setIfInBounds_toArray, List.set_cons_zero, List.set_cons_succ, i64_w, i32_w]
                              rfl
                            refine pure_ (i := 20) (N := some 85) (v := ?_) (a' := ?_) #[true, true, true, true, true, true, true, true, true, true, true, true, true, true, true, true, true, false, true, true, true, false, false, false, false, false, false, false, false] rfl rfl (any_of HT_.out (by kernel_rfl)) (fun _ _ _ h => h) (Or.inl ⟨by rfl, ?_⟩) ?_ ?_
                            rotate_left
                            · intro w'
                              go_simp
                              with_reducible rfl
                            rotate_left
                            · simp only [Act.put, List.setIfInBounds_toArray, List.set_cons_zero, List.set_cons_succ, i64_w, i32_w]
                              rfl
                            refine take_ (i := 17) (N := some 82) (v := ?_) (a' := ?_) #[true, true, true, true, true, true, true, true, true, true, true, true, true, true, true, true, true, true, true, true, true, false, false, false, false, false, false, false, false] rfl rfl (take_ofW HT_.out HW_.out (by kernel_rfl)) (fun _ _ _ h => h) (Or.inl ⟨by rfl, ?_⟩) hHeld ?_ ?_
                            rotate_left
                            · rintro w' ⟨s0, s1, s2, s3⟩
                              go_simp
                              with_reducible rfl
                            rotate_left
                            · simp only [Act.put, List.setIfInBounds_toArray, List.set_cons_zero, List.set_cons_succ, i64_w, i32_w]
                              rfl
                            refine one_ (i := 21) (N := some 86) #[true, true, true, true, true, true, true, true, true, true, true, true, true, true, true, true, true, true, true, true, true, true, false, false, false, false, false, false, false] rfl rfl (one_of HT_.out (by kernel_rfl)) (by decide) (fun K hK => ?_)
                            refine goes_ Try.func25 (by kernel_rfl) rfl #[.int .i64 t106, .int .i64 (rd y101 t104), .int .i64 t107, .int .i64 0] (by rfl) rfl rfl (by (try simp only [List.map_toArray, List.map_cons, List.map_nil]); first | done | rfl | (simp only [List.length_drop, List.length_take]; rfl)) ?_
                            with_reducible refine (carafelaw5_i.calls t106 (rd y101 t104) t107 0 t132 t133 t134 t135 _ A33.out).mono ?_
                            rintro e w41 ⟨rfl, hb⟩
                            have HS0_ := (hb.cell (World.block_lt_of_cell? _ _ (hHeld.1))).trans (hHeld.1)
                            have HS1_ := (hb.cell (World.block_lt_of_cell? _ _ (hHeld.2.1))).trans (hHeld.2.1)
                            have HS2_ := (hb.cell (World.block_lt_of_cell? _ _ (hHeld.2.2.1))).trans (hHeld.2.2.1)
                            have HS3_ := (hb.cell (World.block_lt_of_cell? _ _ (hHeld.2.2.2))).trans (hHeld.2.2.2)
                            refine ⟨_, rfl, ?_⟩
                            have n0_ := Aside0.mk (Kd.R_below (by (with_reducible repeat (first | apply Kd.R_alloc | apply Kd.R_drewN | apply Kd.R_drew)); exact HO121.out) hb)
                            have n1_ := Aside0.mk (Kd.R_below (by (with_reducible repeat (first | apply Kd.R_alloc | apply Kd.R_drewN | apply Kd.R_drew)); exact HO125.out) hb)
                            have n2_ := Aside0.mk (Kd.R_below (by (with_reducible repeat (first | apply Kd.R_alloc | apply Kd.R_drewN | apply Kd.R_drew)); exact HO130.out) hb)
                            have n3_ := Aside0.mk (below_step (by repeat (first | (with_reducible first | exact HB.out | apply below_alloc | apply pw_below_drewN | apply below_drew1) | exact HB.out)) hb)
                            clear HO121
                            clear HO125
                            clear HO130
                            clear HB
                            have HO121 := n0_
                            have HO125 := n1_
                            have HO130 := n2_
                            have HB := n3_
                            clear n0_ n1_ n2_ n3_
                            (try clear hb)
                            (try clear hb2)
                            (try clear hk)
                            (try clear hi)
                            refine hK.out _ _ ⟨HS0_, HS1_, HS2_, HS3_⟩ (fun hHeld => ?_)
                            clear hK K
                            refine norm_ (a' := ?_) ?_ ?_
                            rotate_left
                            · show Act.put _ (some 86) _ = _
                              simp only [Act.put, List.setIfInBounds_toArray, List.set_cons_zero, List.set_cons_succ, i64_w, i32_w]
                              rfl
                            refine pure_ (i := 22) (N := some 87) (v := ?_) (a' := ?_) #[true, true, true, true, true, true, true, true, true, true, true, true, true, true, true, true, true, true, true, true, true, true, true, false, false, false, false, false, false] rfl rfl (any_of HT_.out (by kernel_rfl)) (fun _ _ _ h => h) (Or.inl ⟨by rfl, ?_⟩) ?_ ?_
                            rotate_left
                            · intro w'
                              go_simp
                              with_reducible rfl
                            rotate_left
                            · simp only [Act.put, List.setIfInBounds_toArray, List.set_cons_zero, List.set_cons_succ, i64_w, i32_w]
                              rfl
                            refine pure_ (i := 23) (N := some 88) (v := ?_) (a' := ?_) #[true, true, true, true, true, true, true, true, true, true, true, true, true, true, true, true, true, true, true, true, true, true, true, true, false, false, false, false, false] rfl rfl (any_of HT_.out (by kernel_rfl)) (fun _ _ _ h => h) (Or.inl ⟨by rfl, ?_⟩) ?_ ?_
                            rotate_left
                            · intro w'
                              go_simp
                              with_reducible rfl
                            rotate_left
                            · simp only [Act.put, List.setIfInBounds_toArray, List.set_cons_zero, List.set_cons_succ, i64_w, i32_w]
                              rfl
                            refine pure_ (i := 24) (N := some 89) (v := ?_) (a' := ?_) #[true, true, true, true, true, true, true, true, true, true, true, true, true, true, true, true, true, true, true, true, true, true, true, true, true, false, false, false, false] rfl rfl (any_of HT_.out (by kernel_rfl)) (fun _ _ _ h => h) (Or.inl ⟨by rfl, ?_⟩) ?_ ?_
                            rotate_left
                            · intro w'
                              go_simp
                              with_reducible rfl
                            rotate_left
                            · simp only [Act.put, List.setIfInBounds_toArray, List.set_cons_zero, List.set_cons_succ, i64_w, i32_w]
                              rfl
                            refine pure_ (i := 25) (N := some 90) (v := ?_) (a' := ?_) #[true, true, true, true, true, true, true, true, true, true, true, true, true, true, true, true, true, true, true, true, true, true, true, true, true, true, false, false, false] rfl rfl (any_of HT_.out (by kernel_rfl)) (fun _ _ _ h => h) (Or.inl ⟨by rfl, ?_⟩) ?_ ?_
                            rotate_left
                            · intro w'
                              go_simp
                              with_reducible rfl
                            rotate_left
                            · simp only [Act.put, List.setIfInBounds_toArray, List.set_cons_zero, List.set_cons_succ, i64_w, i32_w]
                              rfl
                            refine one_ (i := 26) (N := some 91) #[true, true, true, true, true, true, true, true, true, true, true, true, true, true, true, true, true, true, true, true, true, true, true, true, true, true, true, false, false] rfl rfl (one_of HT_.out (by kernel_rfl)) (by decide) (fun K hK => ?_)
                            refine goes_ Try.func26 (by kernel_rfl) rfl #[.int .i64 (rd y101 t104)] (by rfl) rfl rfl (by (try simp only [List.map_toArray, List.map_cons, List.map_nil]); first | done | rfl | (simp only [List.length_drop, List.length_take]; rfl)) ?_
                            with_reducible refine (code_Branch.calls (rd y101 t104) t136 _ A38.out).mono ?_
                            rintro e w' ⟨rfl, ⟨nd, rfl⟩⟩
                            refine ⟨_, rfl, ?_⟩
                            refine hK.out _ _ ⟨hHeld.1, hHeld.2.1, hHeld.2.2.1, hHeld.2.2.2⟩ (fun hHeld => ?_)
                            clear hK K
                            refine norm_ (a' := ?_) ?_ ?_
                            rotate_left
                            · show Act.put _ (some 91) _ = _
                              simp only [Act.put, List.setIfInBounds_toArray, List.set_cons_zero, List.set_cons_succ, i64_w, i32_w]
                              rfl
                            refine pure_ (i := 27) (N := some 92) (v := ?_) (a' := ?_) #[true, true, true, true, true, true, true, true, true, true, true, true, true, true, true, true, true, true, true, true, true, true, true, true, true, true, true, true, false] rfl rfl (any_of HT_.out (by kernel_rfl)) (fun _ _ _ h => h) (Or.inl ⟨by rfl, ?_⟩) ?_ ?_
                            rotate_left
                            · intro w'
                              go_simp
                              with_reducible rfl
                            rotate_left
                            · simp only [Act.put, List.setIfInBounds_toArray, List.set_cons_zero, List.set_cons_succ, i64_w, i32_w]
                              rfl
                            refine pure_ (i := 28) (N := some 93) (v := ?_) (a' := ?_) #[true, true, true, true, true, true, true, true, true, true, true, true, true, true, true, true, true, true, true, true, true, true, true, true, true, true, true, true, true] rfl rfl (any_of HT_.out (by kernel_rfl)) (fun _ _ _ h => h) (Or.inl ⟨by rfl, ?_⟩) ?_ ?_
                            rotate_left
                            · intro w'
                              go_simp
                              with_reducible rfl
                            rotate_left
                            · simp only [Act.put, List.setIfInBounds_toArray, List.set_cons_zero, List.set_cons_succ, i64_w, i32_w]
                              rfl
                            refine done_ (done_of HT_.out (by kernel_rfl)) ?_
                            try go_wp2
                            go_meet
                            case rel => exact ⟨_, (!t136), (by first | rfl | (simp; done) | (simp [*]; done)), H', ⟨by have := HK1.out; first | omega | exact Nat.le_refl _⟩, ⟨by (with_reducible repeat (first | apply Kd.R_alloc | apply Kd.R_drewN | apply Kd.R_drew)); exact Kd.R_mono HO121.out (fun _ hk => trivial)⟩, ⟨by repeat (first | (with_reducible first | exact HB.out | apply below_alloc | apply pw_below_drewN | apply below_drew1) | exact HB.out)⟩⟩
                        · rw [if_neg c32] at H
                          exact absurd H (by simp)
                      · rw [if_neg c31] at H
                        exact absurd H (by simp)
                    · rw [if_neg c30] at H
                      have c30b0 : ((t126.length : Int) == (wrap64 (t106 + 1))) = false := beq_eq_false_iff_ne.mpr c30
                      have c30b1 : ((t126.length : Int) != (wrap64 (t106 + 1))) = true := bne_iff_ne.mpr c30
                      have H' := Aside0.mk H
                      clear H
                      try go_wp2
                      have n0_ := Aside0.mk (Kd.R_drew HO121.out)
                      have n1_ := Aside0.mk (Kd.R_drew HO125.out)
                      have n2_ := Aside0.mk (Kd.R_drew HO130.out)
                      have n3_ := Aside0.mk (below_drew1 HB.out)
                      clear HO121
                      clear HO125
                      clear HO130
                      clear HB
                      have HO121 := n0_
                      have HO125 := n1_
                      have HO130 := n2_
                      have HB := n3_
                      clear n0_ n1_ n2_ n3_
                      obtain ⟨Ao43, co43, eo43⟩ := Kd.R_slice HO130.out
                      (first | subst eo43 | (injection eo43 with f1_ f2_ f3_; have f4_ := f1_.symm; have f5_ := f3_.symm; clear f1_ f2_ f3_; subst f4_; subst f5_))
                      refine start_ (n := 29) (S := fun w' => True) (ds := []) #[false, false, false, false, false, false, false, false, false, false, false, false, false, false, false, false, false, false, false, false, false, false, false, false, false, false, false, false, false] (by kernel_rfl) rfl rfl trivial (fun hHeld => ?_); refine with_tabW carafelaw5_CodeBranches.tab13 carafelaw5_CodeBranches.bits13 (fun HT_ HW_ => ?_)
                      generalize w27.drew = w42 at HO121 HO125 HO130 HB hHeld ⊢
                      refine pure_ (i := 0) (N := some 65) (v := ?_) (a' := ?_) #[true, false, false, false, false, false, false, false, false, false, false, false, false, false, false, false, false, false, false, false, false, false, false, false, false, false, false, false, false] rfl rfl (any_of HT_.out (by kernel_rfl)) (fun _ _ _ h => h) (Or.inl ⟨by rfl, ?_⟩) ?_ ?_
                      rotate_left
                      · intro w'
                        go_simp
                        with_reducible rfl
                      rotate_left
                      · simp only [Act.put, List.setIfInBounds_toArray, List.set_cons_zero, List.set_cons_succ, i64_w, i32_w]
                        rfl
                      refine pure_ (i := 1) (N := some 66) (v := ?_) (a' := ?_) #[true, true, false, false, false, false, false, false, false, false, false, false, false, false, false, false, false, false, false, false, false, false, false, false, false, false, false, false, false] rfl rfl (any_of HT_.out (by kernel_rfl)) (fun _ _ _ h => h) (Or.inl ⟨by rfl, ?_⟩) ?_ ?_
                      rotate_left
                      · intro w'
                        go_simp
                        with_reducible rfl
                      rotate_left
                      · simp only [Act.put, List.setIfInBounds_toArray, List.set_cons_zero, List.set_cons_succ, i64_w, i32_w]
                        rfl
                      refine pure_ (i := 2) (N := some 67) (v := ?_) (a' := ?_) #[true, true, true, false, false, false, false, false, false, false, false, false, false, false, false, false, false, false, false, false, false, false, false, false, false, false, false, false, false] rfl rfl (any_of HT_.out (by kernel_rfl)) (fun _ _ _ h => h) (Or.inl ⟨by rfl, ?_⟩) ?_ ?_
                      rotate_left
                      · intro w'
                        go_simp
                        with_reducible rfl
                      rotate_left
                      · simp only [Act.put, List.setIfInBounds_toArray, List.set_cons_zero, List.set_cons_succ, i64_w, i32_w]
                        rfl
                      refine pure_ (i := 3) (N := some 68) (v := ?_) (a' := ?_) #[true, true, true, true, false, false, false, false, false, false, false, false, false, false, false, false, false, false, false, false, false, false, false, false, false, false, false, false, false] rfl rfl (any_of HT_.out (by kernel_rfl)) (fun _ _ _ h => h) (Or.inl ⟨by rfl, ?_⟩) ?_ ?_
                      rotate_left
                      · intro w'
                        go_simp
                        with_reducible rfl
                      rotate_left
                      · simp only [Act.put, List.setIfInBounds_toArray, List.set_cons_zero, List.set_cons_succ, i64_w, i32_w]
                        rfl
                      refine pure_ (i := 4) (N := some 69) (v := ?_) (a' := ?_) #[true, true, true, true, true, false, false, false, false, false, false, false, false, false, false, false, false, false, false, false, false, false, false, false, false, false, false, false, false] rfl rfl (any_of HT_.out (by kernel_rfl)) (fun _ _ _ h => h) (Or.inl ⟨by rfl, ?_⟩) ?_ ?_
                      rotate_left
                      · intro w'
                        go_simp
                        with_reducible rfl
                      rotate_left
                      · simp only [Act.put, List.setIfInBounds_toArray, List.set_cons_zero, List.set_cons_succ, i64_w, i32_w]
                        rfl
                      refine pure_ (i := 5) (N := some 70) (v := ?_) (a' := ?_) #[true, true, true, true, true, true, false, false, false, false, false, false, false, false, false, false, false, false, false, false, false, false, false, false, false, false, false, false, false] rfl rfl (any_of HT_.out (by kernel_rfl)) (fun _ _ _ h => h) (Or.inl ⟨by rfl, ?_⟩) ?_ ?_
                      rotate_left
                      · intro w'
                        go_simp
                        with_reducible rfl
                      rotate_left
                      · simp only [Act.put, List.setIfInBounds_toArray, List.set_cons_zero, List.set_cons_succ, i64_w, i32_w]
                        rfl
                      refine pure_ (i := 6) (N := some 71) (v := ?_) (a' := ?_) #[true, true, true, true, true, true, true, false, false, false, false, false, false, false, false, false, false, false, false, false, false, false, false, false, false, false, false, false, false] rfl rfl (any_of HT_.out (by kernel_rfl)) (fun _ _ _ h => h) (Or.inl ⟨by rfl, ?_⟩) ?_ ?_
                      rotate_left
                      · intro w'
                        go_simp
                        with_reducible rfl
                      rotate_left
                      · simp only [Act.put, List.setIfInBounds_toArray, List.set_cons_zero, List.set_cons_succ, i64_w, i32_w]
                        rfl
                      refine pure_ (i := 7) (N := some 72) (v := ?_) (a' := ?_) #[true, true, true, true, true, true, true, true, false, false, false, false, false, false, false, false, false, false, false, false, false, false, false, false, false, false, false, false, false] rfl rfl (any_of HT_.out (by kernel_rfl)) (fun _ _ _ h => h) (Or.inl ⟨by rfl, ?_⟩) ?_ ?_
                      rotate_left
                      · intro w'
                        go_simp
                        with_reducible rfl
                      rotate_left
                      · simp only [Act.put, List.setIfInBounds_toArray, List.set_cons_zero, List.set_cons_succ, i64_w, i32_w]
                        rfl
                      refine pure_ (i := 8) (N := some 73) (v := ?_) (a' := ?_) #[true, true, true, true, true, true, true, true, true, false, false, false, false, false, false, false, false, false, false, false, false, false, false, false, false, false, false, false, false] rfl rfl (any_of HT_.out (by kernel_rfl)) (fun _ _ _ h => h) (Or.inl ⟨by rfl, ?_⟩) ?_ ?_
                      rotate_left
                      · intro w'
                        go_simp
                        with_reducible rfl
                      rotate_left
                      · simp only [Act.put, List.setIfInBounds_toArray, List.set_cons_zero, List.set_cons_succ, i64_w, i32_w]
                        rfl
                      refine pure_ (i := 9) (N := some 74) (v := ?_) (a' := ?_) #[true, true, true, true, true, true, true, true, true, true, false, false, false, false, false, false, false, false, false, false, false, false, false, false, false, false, false, false, false] rfl rfl (any_of HT_.out (by kernel_rfl)) (fun _ _ _ h => h) (Or.inl ⟨by rfl, ?_⟩) ?_ ?_
                      rotate_left
                      · intro w'
                        go_simp
                        with_reducible rfl
                      rotate_left
                      · simp only [Act.put, List.setIfInBounds_toArray, List.set_cons_zero, List.set_cons_succ, i64_w, i32_w]
                        rfl
                      refine pure_ (i := 10) (N := some 75) (v := ?_) (a' := ?_) #[true, true, true, true, true, true, true, true, true, true, true, false, false, false, false, false, false, false, false, false, false, false, false, false, false, false, false, false, false] rfl rfl (any_of HT_.out (by kernel_rfl)) (fun _ _ _ h => h) (Or.inl ⟨by rfl, ?_⟩) ?_ ?_
                      rotate_left
                      · intro w'
                        go_simp
                        with_reducible rfl
                      rotate_left
                      · simp only [Act.put, List.setIfInBounds_toArray, List.set_cons_zero, List.set_cons_succ, i64_w, i32_w]
                        rfl
                      refine pure_ (i := 11) (N := some 76) (v := ?_) (a' := ?_) #[true, true, true, true, true, true, true, true, true, true, true, true, false, false, false, false, false, false, false, false, false, false, false, false, false, false, false, false, false] rfl rfl (any_of HT_.out (by kernel_rfl)) (fun _ _ _ h => h) (Or.inl ⟨by rfl, ?_⟩) ?_ ?_
                      rotate_left
                      · intro w'
                        go_simp
                        with_reducible rfl
                      rotate_left
                      · simp only [Act.put, List.setIfInBounds_toArray, List.set_cons_zero, List.set_cons_succ, i64_w, i32_w]
                        rfl
                      refine pure_ (i := 12) (N := some 77) (v := ?_) (a' := ?_) #[true, true, true, true, true, true, true, true, true, true, true, true, true, false, false, false, false, false, false, false, false, false, false, false, false, false, false, false, false] rfl rfl (any_of HT_.out (by kernel_rfl)) (fun _ _ _ h => h) (Or.inl ⟨by rfl, ?_⟩) ?_ ?_
                      rotate_left
                      · intro w'
                        go_simp
                        with_reducible rfl
                      rotate_left
                      · simp only [Act.put, List.setIfInBounds_toArray, List.set_cons_zero, List.set_cons_succ, i64_w, i32_w]
                        rfl
                      refine pure_ (i := 13) (N := some 78) (v := ?_) (a' := ?_) #[true, true, true, true, true, true, true, true, true, true, true, true, true, true, false, false, false, false, false, false, false, false, false, false, false, false, false, false, false] rfl rfl (any_of HT_.out (by kernel_rfl)) (fun _ _ _ h => h) (Or.inl ⟨by rfl, ?_⟩) ?_ ?_
                      rotate_left
                      · intro w'
                        go_simp
                        with_reducible rfl
                      rotate_left
                      · simp only [Act.put, List.setIfInBounds_toArray, List.set_cons_zero, List.set_cons_succ, i64_w, i32_w]
                        rfl
                      refine pure_ (i := 14) (N := some 79) (v := undef) (a' := ?_) #[true, true, true, true, true, true, true, true, true, true, true, true, true, true, true, false, false, false, false, false, false, false, false, false, false, false, false, false, false] rfl rfl (any_of HT_.out (by kernel_rfl)) (fun _ _ _ h => h) (Or.inr ⟨by rfl, rfl⟩) ?_ ?_
                      rotate_left
                      · simp only [Act.put, List.setIfInBounds_toArray, List.set_cons_zero, List.set_cons_succ, i64_w, i32_w]
                        rfl
                      refine pure_ (i := 15) (N := some 80) (v := undef) (a' := ?_) #[true, true, true, true, true, true, true, true, true, true, true, true, true, true, true, true, false, false, false, false, false, false, false, false, false, false, false, false, false] rfl rfl (any_of HT_.out (by kernel_rfl)) (fun _ _ _ h => h) (Or.inr ⟨by rfl, rfl⟩) ?_ ?_
                      rotate_left
                      · simp only [Act.put, List.setIfInBounds_toArray, List.set_cons_zero, List.set_cons_succ, i64_w, i32_w]
                        rfl
                      refine pure_ (i := 16) (N := some 81) (v := undef) (a' := ?_) #[true, true, true, true, true, true, true, true, true, true, true, true, true, true, true, true, true, false, false, false, false, false, false, false, false, false, false, false, false] rfl rfl (any_of HT_.out (by kernel_rfl)) (fun _ _ _ h => h) (Or.inr ⟨by rfl, rfl⟩) ?_ ?_
                      rotate_left
                      · simp only [Act.put, List.setIfInBounds_toArray, List.set_cons_zero, List.set_cons_succ, i64_w, i32_w]
                        rfl
                      refine pure_ (i := 17) (N := some 82) (v := undef) (a' := ?_) #[true, true, true, true, true, true, true, true, true, true, true, true, true, true, true, true, true, true, false, false, false, false, false, false, false, false, false, false, false] rfl rfl (any_of HT_.out (by kernel_rfl)) (fun _ _ _ h => h) (Or.inr ⟨by rfl, rfl⟩) ?_ ?_
                      rotate_left
                      · simp only [Act.put, List.setIfInBounds_toArray, List.set_cons_zero, List.set_cons_succ, i64_w, i32_w]
                        rfl
                      refine pure_ (i := 18) (N := some 83) (v := undef) (a' := ?_) #[true, true, true, true, true, true, true, true, true, true, true, true, true, true, true, true, true, true, true, false, false, false, false, false, false, false, false, false, false] rfl rfl (any_of HT_.out (by kernel_rfl)) (fun _ _ _ h => h) (Or.inr ⟨by rfl, rfl⟩) ?_ ?_
                      rotate_left
                      · simp only [Act.put, List.setIfInBounds_toArray, List.set_cons_zero, List.set_cons_succ, i64_w, i32_w]
                        rfl
                      refine pure_ (i := 19) (N := some 84) (v := undef) (a' := ?_) #[true, true, true, true, true, true, true, true, true, true, true, true, true, true, true, true, true, true, true, true, false, false, false, false, false, false, false, false, false] rfl rfl (any_of HT_.out (by kernel_rfl)) (fun _ _ _ h => h) (Or.inr ⟨by rfl, rfl⟩) ?_ ?_
                      rotate_left
                      · simp only [Act.put, List.setIfInBounds_toArray, List.set_cons_zero, List.set_cons_succ, i64_w, i32_w]
                        rfl
                      refine pure_ (i := 20) (N := some 85) (v := undef) (a' := ?_) #[true, true, true, true, true, true, true, true, true, true, true, true, true, true, true, true, true, true, true, true, true, false, false, false, false, false, false, false, false] rfl rfl (any_of HT_.out (by kernel_rfl)) (fun _ _ _ h => h) (Or.inr ⟨by rfl, rfl⟩) ?_ ?_
                      rotate_left
                      · simp only [Act.put, List.setIfInBounds_toArray, List.set_cons_zero, List.set_cons_succ, i64_w, i32_w]
                        rfl
                      refine pure_ (i := 21) (N := some 86) (v := undef) (a' := ?_) #[true, true, true, true, true, true, true, true, true, true, true, true, true, true, true, true, true, true, true, true, true, true, false, false, false, false, false, false, false] rfl rfl (any_of HT_.out (by kernel_rfl)) (fun _ _ _ h => h) (Or.inr ⟨by rfl, rfl⟩) ?_ ?_
                      rotate_left
                      · simp only [Act.put, List.setIfInBounds_toArray, List.set_cons_zero, List.set_cons_succ, i64_w, i32_w]
                        rfl
                      refine pure_ (i := 22) (N := some 87) (v := undef) (a' := ?_) #[true, true, true, true, true, true, true, true, true, true, true, true, true, true, true, true, true, true, true, true, true, true, true, false, false, false, false, false, false] rfl rfl (any_of HT_.out (by kernel_rfl)) (fun _ _ _ h => h) (Or.inr ⟨by rfl, rfl⟩) ?_ ?_
                      rotate_left
                      · simp only [Act.put, List.setIfInBounds_toArray, List.set_cons_zero, List.set_cons_succ, i64_w, i32_w]
                        rfl
                      refine pure_ (i := 23) (N := some 88) (v := ?_) (a' := ?_) #[true, true, true, true, true, true, true, true, true, true, true, true, true, true, true, true, true, true, true, true, true, true, true, true, false, false, false, false, false] rfl rfl (any_of HT_.out (by kernel_rfl)) (fun _ _ _ h => h) (Or.inl ⟨by rfl, ?_⟩) ?_ ?_
                      rotate_left
                      · intro w'
                        go_simp
                        with_reducible rfl
                      rotate_left
                      · simp only [Act.put, List.setIfInBounds_toArray, List.set_cons_zero, List.set_cons_succ, i64_w, i32_w]
                        rfl
                      refine pure_ (i := 24) (N := some 89) (v := ?_) (a' := ?_) #[true, true, true, true, true, true, true, true, true, true, true, true, true, true, true, true, true, true, true, true, true, true, true, true, true, false, false, false, false] rfl rfl (any_of HT_.out (by kernel_rfl)) (fun _ _ _ h => h) (Or.inl ⟨by rfl, ?_⟩) ?_ ?_
                      rotate_left
                      · intro w'
                        go_simp
                        with_reducible rfl
                      rotate_left
                      · simp only [Act.put, List.setIfInBounds_toArray, List.set_cons_zero, List.set_cons_succ, i64_w, i32_w]
                        rfl
                      refine pure_ (i := 25) (N := some 90) (v := undef) (a' := ?_) #[true, true, true, true, true, true, true, true, true, true, true, true, true, true, true, true, true, true, true, true, true, true, true, true, true, true, false, false, false] rfl rfl (any_of HT_.out (by kernel_rfl)) (fun _ _ _ h => h) (Or.inr ⟨by rfl, rfl⟩) ?_ ?_
                      rotate_left
                      · simp only [Act.put, List.setIfInBounds_toArray, List.set_cons_zero, List.set_cons_succ, i64_w, i32_w]
                        rfl
                      refine pure_ (i := 26) (N := some 91) (v := undef) (a' := ?_) #[true, true, true, true, true, true, true, true, true, true, true, true, true, true, true, true, true, true, true, true, true, true, true, true, true, true, true, false, false] rfl rfl (any_of HT_.out (by kernel_rfl)) (fun _ _ _ h => h) (Or.inr ⟨by rfl, rfl⟩) ?_ ?_
                      rotate_left
                      · simp only [Act.put, List.setIfInBounds_toArray, List.set_cons_zero, List.set_cons_succ, i64_w, i32_w]
                        rfl
                      refine pure_ (i := 27) (N := some 92) (v := undef) (a' := ?_) #[true, true, true, true, true, true, true, true, true, true, true, true, true, true, true, true, true, true, true, true, true, true, true, true, true, true, true, true, false] rfl rfl (any_of HT_.out (by kernel_rfl)) (fun _ _ _ h => h) (Or.inr ⟨by rfl, rfl⟩) ?_ ?_
                      rotate_left
                      · simp only [Act.put, List.setIfInBounds_toArray, List.set_cons_zero, List.set_cons_succ, i64_w, i32_w]
                        rfl
                      refine pure_ (i := 28) (N := some 93) (v := ?_) (a' := ?_) #[true, true, true, true, true, true, true, true, true, true, true, true, true, true, true, true, true, true, true, true, true, true, true, true, true, true, true, true, true] rfl rfl (any_of HT_.out (by kernel_rfl)) (fun _ _ _ h => h) (Or.inl ⟨by rfl, ?_⟩) ?_ ?_
                      rotate_left
                      · intro w'
                        go_simp
                        with_reducible rfl
                      rotate_left
                      · simp only [Act.put, List.setIfInBounds_toArray, List.set_cons_zero, List.set_cons_succ, i64_w, i32_w]
                        rfl
                      refine done_ (done_of HT_.out (by kernel_rfl)) ?_
                      try go_wp2
                      go_meet
                      case rel => exact ⟨_, (true), (by first | rfl | (simp; done) | (simp [*]; done)), H', ⟨by have := HK1.out; first | omega | exact Nat.le_refl _⟩, ⟨by (with_reducible repeat (first | apply Kd.R_alloc | apply Kd.R_drewN | apply Kd.R_drew)); exact Kd.R_mono HO121.out (fun _ hk => trivial)⟩, ⟨by repeat (first | (with_reducible first | exact HB.out | apply below_alloc | apply pw_below_drewN | apply below_drew1) | exact HB.out)⟩⟩
                  · rw [if_neg c29] at H
                    have c29b0 : (t127 == 0) = false := beq_eq_false_iff_ne.mpr c29
                    have c29b1 : (t127 != 0) = true := bne_iff_ne.mpr c29
                    have H' := Aside0.mk H
                    clear H
                    try go_wp2
                    have n0_ := Aside0.mk (Kd.R_drew HO121.out)
                    have n1_ := Aside0.mk (Kd.R_drew HO125.out)
                    have n2_ := Aside0.mk (Kd.R_drew HO130.out)
                    have n3_ := Aside0.mk (below_drew1 HB.out)
                    clear HO121
                    clear HO125
                    clear HO130
                    clear HB
                    have HO121 := n0_
                    have HO125 := n1_
                    have HO130 := n2_
                    have HB := n3_
                    clear n0_ n1_ n2_ n3_
                    refine start_ (n := 29) (S := fun w' => True) (ds := []) #[false, false, false, false, false, false, false, false, false, false, false, false, false, false, false, false, false, false, false, false, false, false, false, false, false, false, false, false, false] (by kernel_rfl) rfl rfl trivial (fun hHeld => ?_); refine with_tabW carafelaw5_CodeBranches.tab13 carafelaw5_CodeBranches.bits13 (fun HT_ HW_ => ?_)
                    generalize w27.drew = w44 at HO121 HO125 HO130 HB hHeld ⊢
                    refine pure_ (i := 0) (N := some 65) (v := ?_) (a' := ?_) #[true, false, false, false, false, false, false, false, false, false, false, false, false, false, false, false, false, false, false, false, false, false, false, false, false, false, false, false, false] rfl rfl (any_of HT_.out (by kernel_rfl)) (fun _ _ _ h => h) (Or.inl ⟨by rfl, ?_⟩) ?_ ?_
                    rotate_left
                    · intro w'
                      go_simp
                      with_reducible rfl
                    rotate_left
                    · simp only [Act.put, List.setIfInBounds_toArray, List.set_cons_zero, List.set_cons_succ, i64_w, i32_w]
                      rfl
                    refine pure_ (i := 1) (N := some 66) (v := ?_) (a' := ?_) #[true, true, false, false, false, false, false, false, false, false, false, false, false, false, false, false, false, false, false, false, false, false, false, false, false, false, false, false, false] rfl rfl (any_of HT_.out (by kernel_rfl)) (fun _ _ _ h => h) (Or.inl ⟨by rfl, ?_⟩) ?_ ?_
                    rotate_left
                    · intro w'
                      go_simp
                      with_reducible rfl
                    rotate_left
                    · simp only [Act.put, List.setIfInBounds_toArray, List.set_cons_zero, List.set_cons_succ, i64_w, i32_w]
                      rfl
                    refine pure_ (i := 2) (N := some 67) (v := ?_) (a' := ?_) #[true, true, true, false, false, false, false, false, false, false, false, false, false, false, false, false, false, false, false, false, false, false, false, false, false, false, false, false, false] rfl rfl (any_of HT_.out (by kernel_rfl)) (fun _ _ _ h => h) (Or.inl ⟨by rfl, ?_⟩) ?_ ?_
                    rotate_left
                    · intro w'
                      go_simp
                      with_reducible rfl
                    rotate_left
                    · simp only [Act.put, List.setIfInBounds_toArray, List.set_cons_zero, List.set_cons_succ, i64_w, i32_w]
                      rfl
                    refine pure_ (i := 3) (N := some 68) (v := ?_) (a' := ?_) #[true, true, true, true, false, false, false, false, false, false, false, false, false, false, false, false, false, false, false, false, false, false, false, false, false, false, false, false, false] rfl rfl (any_of HT_.out (by kernel_rfl)) (fun _ _ _ h => h) (Or.inl ⟨by rfl, ?_⟩) ?_ ?_
                    rotate_left
                    · intro w'
                      go_simp
                      with_reducible rfl
                    rotate_left
                    · simp only [Act.put, List.setIfInBounds_toArray, List.set_cons_zero, List.set_cons_succ, i64_w, i32_w]
                      rfl
                    refine pure_ (i := 4) (N := some 69) (v := ?_) (a' := ?_) #[true, true, true, true, true, false, false, false, false, false, false, false, false, false, false, false, false, false, false, false, false, false, false, false, false, false, false, false, false] rfl rfl (any_of HT_.out (by kernel_rfl)) (fun _ _ _ h => h) (Or.inl ⟨by rfl, ?_⟩) ?_ ?_
                    rotate_left
                    · intro w'
                      go_simp
                      with_reducible rfl
                    rotate_left
                    · simp only [Act.put, List.setIfInBounds_toArray, List.set_cons_zero, List.set_cons_succ, i64_w, i32_w]
                      rfl
                    refine pure_ (i := 5) (N := some 70) (v := ?_) (a' := ?_) #[true, true, true, true, true, true, false, false, false, false, false, false, false, false, false, false, false, false, false, false, false, false, false, false, false, false, false, false, false] rfl rfl (any_of HT_.out (by kernel_rfl)) (fun _ _ _ h => h) (Or.inl ⟨by rfl, ?_⟩) ?_ ?_
                    rotate_left
                    · intro w'
                      go_simp
                      with_reducible rfl
                    rotate_left
                    · simp only [Act.put, List.setIfInBounds_toArray, List.set_cons_zero, List.set_cons_succ, i64_w, i32_w]
                      rfl
                    refine pure_ (i := 6) (N := some 71) (v := ?_) (a' := ?_) #[true, true, true, true, true, true, true, false, false, false, false, false, false, false, false, false, false, false, false, false, false, false, false, false, false, false, false, false, false] rfl rfl (any_of HT_.out (by kernel_rfl)) (fun _ _ _ h => h) (Or.inl ⟨by rfl, ?_⟩) ?_ ?_
                    rotate_left
                    · intro w'
                      go_simp
                      with_reducible rfl
                    rotate_left
                    · simp only [Act.put, List.setIfInBounds_toArray, List.set_cons_zero, List.set_cons_succ, i64_w, i32_w]
                      rfl
                    refine pure_ (i := 7) (N := some 72) (v := undef) (a' := ?_) #[true, true, true, true, true, true, true, true, false, false, false, false, false, false, false, false, false, false, false, false, false, false, false, false, false, false, false, false, false] rfl rfl (any_of HT_.out (by kernel_rfl)) (fun _ _ _ h => h) (Or.inr ⟨by rfl, rfl⟩) ?_ ?_
                    rotate_left
                    · simp only [Act.put, List.setIfInBounds_toArray, List.set_cons_zero, List.set_cons_succ, i64_w, i32_w]
                      rfl
                    refine pure_ (i := 8) (N := some 73) (v := undef) (a' := ?_) #[true, true, true, true, true, true, true, true, true, false, false, false, false, false, false, false, false, false, false, false, false, false, false, false, false, false, false, false, false] rfl rfl (any_of HT_.out (by kernel_rfl)) (fun _ _ _ h => h) (Or.inr ⟨by rfl, rfl⟩) ?_ ?_
                    rotate_left
                    · simp only [Act.put, List.setIfInBounds_toArray, List.set_cons_zero, List.set_cons_succ, i64_w, i32_w]
                      rfl
                    refine pure_ (i := 9) (N := some 74) (v := undef) (a' := ?_) #[true, true, true, true, true, true, true, true, true, true, false, false, false, false, false, false, false, false, false, false, false, false, false, false, false, false, false, false, false] rfl rfl (any_of HT_.out (by kernel_rfl)) (fun _ _ _ h => h) (Or.inr ⟨by rfl, rfl⟩) ?_ ?_
                    rotate_left
                    · simp only [Act.put, List.setIfInBounds_toArray, List.set_cons_zero, List.set_cons_succ, i64_w, i32_w]
                      rfl
                    refine pure_ (i := 10) (N := some 75) (v := undef) (a' := ?_) #[true, true, true, true, true, true, true, true, true, true, true, false, false, false, false, false, false, false, false, false, false, false, false, false, false, false, false, false, false] rfl rfl (any_of HT_.out (by kernel_rfl)) (fun _ _ _ h => h) (Or.inr ⟨by rfl, rfl⟩) ?_ ?_
                    rotate_left
                    · simp only [Act.put, List.setIfInBounds_toArray, List.set_cons_zero, List.set_cons_succ, i64_w, i32_w]
                      rfl
                    refine pure_ (i := 11) (N := some 76) (v := undef) (a' := ?_) #[true, true, true, true, true, true, true, true, true, true, true, true, false, false, false, false, false, false, false, false, false, false, false, false, false, false, false, false, false] rfl rfl (any_of HT_.out (by kernel_rfl)) (fun _ _ _ h => h) (Or.inr ⟨by rfl, rfl⟩) ?_ ?_
                    rotate_left
                    · simp only [Act.put, List.setIfInBounds_toArray, List.set_cons_zero, List.set_cons_succ, i64_w, i32_w]
                      rfl
                    refine pure_ (i := 12) (N := some 77) (v := ?_) (a' := ?_) #[true, true, true, true, true, true, true, true, true, true, true, true, true, false, false, false, false, false, false, false, false, false, false, false, false, false, false, false, false] rfl rfl (any_of HT_.out (by kernel_rfl)) (fun _ _ _ h => h) (Or.inl ⟨by rfl, ?_⟩) ?_ ?_
                    rotate_left
                    · intro w'
                      go_simp
                      with_reducible rfl
                    rotate_left
                    · simp only [Act.put, List.setIfInBounds_toArray, List.set_cons_zero, List.set_cons_succ, i64_w, i32_w]
                      rfl
                    refine pure_ (i := 13) (N := some 78) (v := ?_) (a' := ?_) #[true, true, true, true, true, true, true, true, true, true, true, true, true, true, false, false, false, false, false, false, false, false, false, false, false, false, false, false, false] rfl rfl (any_of HT_.out (by kernel_rfl)) (fun _ _ _ h => h) (Or.inl ⟨by rfl, ?_⟩) ?_ ?_
                    rotate_left
                    · intro w'
                      go_simp
                      with_reducible rfl
                    rotate_left
                    · simp only [Act.put, List.setIfInBounds_toArray, List.set_cons_zero, List.set_cons_succ, i64_w, i32_w]
                      rfl
                    refine pure_ (i := 14) (N := some 79) (v := undef) (a' := ?_) #[true, true, true, true, true, true, true, true, true, true, true, true, true, true, true, false, false, false, false, false, false, false, false, false, false, false, false, false, false] rfl rfl (any_of HT_.out (by kernel_rfl)) (fun _ _ _ h => h) (Or.inr ⟨by rfl, rfl⟩) ?_ ?_
                    rotate_left
                    · simp only [Act.put, List.setIfInBounds_toArray, List.set_cons_zero, List.set_cons_succ, i64_w, i32_w]
                      rfl
                    refine pure_ (i := 15) (N := some 80) (v := undef) (a' := ?_) #[true, true, true, true, true, true, true, true, true, true, true, true, true, true, true, true, false, false, false, false, false, false, false, false, false, false, false, false, false] rfl rfl (any_of HT_.out (by kernel_rfl)) (fun _ _ _ h => h) (Or.inr ⟨by rfl, rfl⟩) ?_ ?_
                    rotate_left
                    · simp only [Act.put, List.setIfInBounds_toArray, List.set_cons_zero, List.set_cons_succ, i64_w, i32_w]
                      rfl
                    refine pure_ (i := 16) (N := some 81) (v := undef) (a' := ?_) #[true, true, true, true, true, true, true, true, true, true, true, true, true, true, true, true, true, false, false, false, false, false, false, false, false, false, false, false, false] rfl rfl (any_of HT_.out (by kernel_rfl)) (fun _ _ _ h => h) (Or.inr ⟨by rfl, rfl⟩) ?_ ?_
                    rotate_left
                    · simp only [Act.put, List.setIfInBounds_toArray, List.set_cons_zero, List.set_cons_succ, i64_w, i32_w]
                      rfl
                    refine pure_ (i := 17) (N := some 82) (v := undef) (a' := ?_) #[true, true, true, true, true, true, true, true, true, true, true, true, true, true, true, true, true, true, false, false, false, false, false, false, false, false, false, false, false] rfl rfl (any_of HT_.out (by kernel_rfl)) (fun _ _ _ h => h) (Or.inr ⟨by rfl, rfl⟩) ?_ ?_
                    rotate_left
                    · simp only [Act.put, List.setIfInBounds_toArray, List.set_cons_zero, List.set_cons_succ, i64_w, i32_w]
                      rfl
                    refine pure_ (i := 18) (N := some 83) (v := undef) (a' := ?_) #[true, true, true, true, true, true, true, true, true, true, true, true, true, true, true, true, true, true, true, false, false, false, false, false, false, false, false, false, false] rfl rfl (any_of HT_.out (by kernel_rfl)) (fun _ _ _ h => h) (Or.inr ⟨by rfl, rfl⟩) ?_ ?_
                    rotate_left
                    · simp only [Act.put, List.setIfInBounds_toArray, List.set_cons_zero, List.set_cons_succ, i64_w, i32_w]
                      rfl
                    refine pure_ (i := 19) (N := some 84) (v := undef) (a' := ?_) #[true, true, true, true, true, true, true, true, true, true, true, true, true, true, true, true, true, true, true, true, false, false, false, false, false, false, false, false, false] rfl rfl (any_of HT_.out (by kernel_rfl)) (fun _ _ _ h => h) (Or.inr ⟨by rfl, rfl⟩) ?_ ?_
                    rotate_left
                    · simp only [Act.put, List.setIfInBounds_toArray, List.set_cons_zero, List.set_cons_succ, i64_w, i32_w]
                      rfl
                    refine pure_ (i := 20) (N := some 85) (v := undef) (a' := ?_) #[true, true, true, true, true, true, true, true, true, true, true, true, true, true, true, true, true, true, true, true, true, false, false, false, false, false, false, false, false] rfl rfl (any_of HT_.out (by kernel_rfl)) (fun _ _ _ h => h) (Or.inr ⟨by rfl, rfl⟩) ?_ ?_
                    rotate_left
                    · simp only [Act.put, List.setIfInBounds_toArray, List.set_cons_zero, List.set_cons_succ, i64_w, i32_w]
                      rfl
                    refine pure_ (i := 21) (N := some 86) (v := undef) (a' := ?_) #[true, true, true, true, true, true, true, true, true, true, true, true, true, true, true, true, true, true, true, true, true, true, false, false, false, false, false, false, false] rfl rfl (any_of HT_.out (by kernel_rfl)) (fun _ _ _ h => h) (Or.inr ⟨by rfl, rfl⟩) ?_ ?_
                    rotate_left
                    · simp only [Act.put, List.setIfInBounds_toArray, List.set_cons_zero, List.set_cons_succ, i64_w, i32_w]
                      rfl
                    refine pure_ (i := 22) (N := some 87) (v := undef) (a' := ?_) #[true, true, true, true, true, true, true, true, true, true, true, true, true, true, true, true, true, true, true, true, true, true, true, false, false, false, false, false, false] rfl rfl (any_of HT_.out (by kernel_rfl)) (fun _ _ _ h => h) (Or.inr ⟨by rfl, rfl⟩) ?_ ?_
                    rotate_left
                    · simp only [Act.put, List.setIfInBounds_toArray, List.set_cons_zero, List.set_cons_succ, i64_w, i32_w]
                      rfl
                    refine pure_ (i := 23) (N := some 88) (v := ?_) (a' := ?_) #[true, true, true, true, true, true, true, true, true, true, true, true, true, true, true, true, true, true, true, true, true, true, true, true, false, false, false, false, false] rfl rfl (any_of HT_.out (by kernel_rfl)) (fun _ _ _ h => h) (Or.inl ⟨by rfl, ?_⟩) ?_ ?_
                    rotate_left
                    · intro w'
                      go_simp
                      with_reducible rfl
                    rotate_left
                    · simp only [Act.put, List.setIfInBounds_toArray, List.set_cons_zero, List.set_cons_succ, i64_w, i32_w]
                      rfl
                    refine pure_ (i := 24) (N := some 89) (v := ?_) (a' := ?_) #[true, true, true, true, true, true, true, true, true, true, true, true, true, true, true, true, true, true, true, true, true, true, true, true, true, false, false, false, false] rfl rfl (any_of HT_.out (by kernel_rfl)) (fun _ _ _ h => h) (Or.inl ⟨by rfl, ?_⟩) ?_ ?_
                    rotate_left
                    · intro w'
                      go_simp
                      with_reducible rfl
                    rotate_left
                    · simp only [Act.put, List.setIfInBounds_toArray, List.set_cons_zero, List.set_cons_succ, i64_w, i32_w]
                      rfl
                    refine pure_ (i := 25) (N := some 90) (v := undef) (a' := ?_) #[true, true, true, true, true, true, true, true, true, true, true, true, true, true, true, true, true, true, true, true, true, true, true, true, true, true, false, false, false] rfl rfl (any_of HT_.out (by kernel_rfl)) (fun _ _ _ h => h) (Or.inr ⟨by rfl, rfl⟩) ?_ ?_
                    rotate_left
                    · simp only [Act.put, List.setIfInBounds_toArray, List.set_cons_zero, List.set_cons_succ, i64_w, i32_w]
                      rfl
                    refine pure_ (i := 26) (N := some 91) (v := undef) (a' := ?_) #[true, true, true, true, true, true, true, true, true, true, true, true, true, true, true, true, true, true, true, true, true, true, true, true, true, true, true, false, false] rfl rfl (any_of HT_.out (by kernel_rfl)) (fun _ _ _ h => h) (Or.inr ⟨by rfl, rfl⟩) ?_ ?_
                    rotate_left
                    · simp only [Act.put, List.setIfInBounds_toArray, List.set_cons_zero, List.set_cons_succ, i64_w, i32_w]
                      rfl
                    refine pure_ (i := 27) (N := some 92) (v := undef) (a' := ?_) #[true, true, true, true, true, true, true, true, true, true, true, true, true, true, true, true, true, true, true, true, true, true, true, true, true, true, true, true, false] rfl rfl (any_of HT_.out (by kernel_rfl)) (fun _ _ _ h => h) (Or.inr ⟨by rfl, rfl⟩) ?_ ?_
                    rotate_left
                    · simp only [Act.put, List.setIfInBounds_toArray, List.set_cons_zero, List.set_cons_succ, i64_w, i32_w]
                      rfl
                    refine pure_ (i := 28) (N := some 93) (v := ?_) (a' := ?_) #[true, true, true, true, true, true, true, true, true, true, true, true, true, true, true, true, true, true, true, true, true, true, true, true, true, true, true, true, true] rfl rfl (any_of HT_.out (by kernel_rfl)) (fun _ _ _ h => h) (Or.inl ⟨by rfl, ?_⟩) ?_ ?_
                    rotate_left
                    · intro w'
                      go_simp
                      with_reducible rfl
                    rotate_left
                    · simp only [Act.put, List.setIfInBounds_toArray, List.set_cons_zero, List.set_cons_succ, i64_w, i32_w]
                      rfl
                    refine done_ (done_of HT_.out (by kernel_rfl)) ?_
                    try go_wp2
                    go_meet
                    case rel => exact ⟨_, (true), (by first | rfl | (simp; done) | (simp [*]; done)), H', ⟨by have := HK1.out; first | omega | exact Nat.le_refl _⟩, ⟨by (with_reducible repeat (first | apply Kd.R_alloc | apply Kd.R_drewN | apply Kd.R_drew)); exact Kd.R_mono HO121.out (fun _ hk => trivial)⟩, ⟨by repeat (first | (with_reducible first | exact HB.out | apply below_alloc | apply pw_below_drewN | apply below_drew1) | exact HB.out)⟩⟩
                · rw [if_neg c28] at H
                  have c28b0 : (t123 == 0) = false := beq_eq_false_iff_ne.mpr c28
                  have c28b1 : (t123 != 0) = true := bne_iff_ne.mpr c28
                  (first | rw [c28b0] | (simp only [i64_w, i32_w]; rw [c28b0]) | skip)
                  have H' := Aside0.mk H
                  clear H
                  try go_wp2
                  have n0_ := Aside0.mk (Kd.R_drew HO121.out)
                  have n1_ := Aside0.mk (Kd.R_drew HO125.out)
                  have n2_ := Aside0.mk (Kd.R_drew HO130.out)
                  have n3_ := Aside0.mk (below_drew1 HB.out)
                  clear HO121
                  clear HO125
                  clear HO130
                  clear HB
                  have HO121 := n0_
                  have HO125 := n1_
                  have HO130 := n2_
                  have HB := n3_
                  clear n0_ n1_ n2_ n3_
                  refine start_ (n := 29) (S := fun w' => True) (ds := []) #[false, false, false, false, false, false, false, false, false, false, false, false, false, false, false, false, false, false, false, false, false, false, false, false, false, false, false, false, false] (by kernel_rfl) rfl rfl trivial (fun hHeld => ?_); refine with_tabW carafelaw5_CodeBranches.tab13 carafelaw5_CodeBranches.bits13 (fun HT_ HW_ => ?_)
                  generalize w27.drew = w45 at HO121 HO125 HO130 HB hHeld ⊢
                  refine pure_ (i := 0) (N := some 65) (v := ?_) (a' := ?_) #[true, false, false, false, false, false, false, false, false, false, false, false, false, false, false, false, false, false, false, false, false, false, false, false, false, false, false, false, false] rfl rfl (any_of HT_.out (by kernel_rfl)) (fun _ _ _ h => h) (Or.inl ⟨by rfl, ?_⟩) ?_ ?_
                  rotate_left
                  · intro w'
                    go_simp
                    with_reducible rfl
                  rotate_left
                  · simp only [Act.put, List.setIfInBounds_toArray, List.set_cons_zero, List.set_cons_succ, i64_w, i32_w]
                    rfl
                  refine pure_ (i := 1) (N := some 66) (v := ?_) (a' := ?_) #[true, true, false, false, false, false, false, false, false, false, false, false, false, false, false, false, false, false, false, false, false, false, false, false, false, false, false, false, false] rfl rfl (any_of HT_.out (by kernel_rfl)) (fun _ _ _ h => h) (Or.inl ⟨by rfl, ?_⟩) ?_ ?_
                  rotate_left
                  · intro w'
                    go_simp
                    with_reducible rfl
                  rotate_left
                  · simp only [Act.put, List.setIfInBounds_toArray, List.set_cons_zero, List.set_cons_succ, i64_w, i32_w]
                    rfl
                  refine pure_ (i := 2) (N := some 67) (v := ?_) (a' := ?_) #[true, true, true, false, false, false, false, false, false, false, false, false, false, false, false, false, false, false, false, false, false, false, false, false, false, false, false, false, false] rfl rfl (any_of HT_.out (by kernel_rfl)) (fun _ _ _ h => h) (Or.inl ⟨by rfl, ?_⟩) ?_ ?_
                  rotate_left
                  · intro w'
                    go_simp
                    with_reducible rfl
                  rotate_left
                  · simp only [Act.put, List.setIfInBounds_toArray, List.set_cons_zero, List.set_cons_succ, i64_w, i32_w]
                    rfl
                  refine pure_ (i := 3) (N := some 68) (v := undef) (a' := ?_) #[true, true, true, true, false, false, false, false, false, false, false, false, false, false, false, false, false, false, false, false, false, false, false, false, false, false, false, false, false] rfl rfl (any_of HT_.out (by kernel_rfl)) (fun _ _ _ h => h) (Or.inr ⟨by rfl, rfl⟩) ?_ ?_
                  rotate_left
                  · simp only [Act.put, List.setIfInBounds_toArray, List.set_cons_zero, List.set_cons_succ, i64_w, i32_w]
                    rfl
                  refine pure_ (i := 4) (N := some 69) (v := undef) (a' := ?_) #[true, true, true, true, true, false, false, false, false, false, false, false, false, false, false, false, false, false, false, false, false, false, false, false, false, false, false, false, false] rfl rfl (any_of HT_.out (by kernel_rfl)) (fun _ _ _ h => h) (Or.inr ⟨by rfl, rfl⟩) ?_ ?_
                  rotate_left
                  · simp only [Act.put, List.setIfInBounds_toArray, List.set_cons_zero, List.set_cons_succ, i64_w, i32_w]
                    rfl
                  refine pure_ (i := 5) (N := some 70) (v := ?_) (a' := ?_) #[true, true, true, true, true, true, false, false, false, false, false, false, false, false, false, false, false, false, false, false, false, false, false, false, false, false, false, false, false] rfl rfl (any_of HT_.out (by kernel_rfl)) (fun _ _ _ h => h) (Or.inl ⟨by rfl, ?_⟩) ?_ ?_
                  rotate_left
                  · intro w'
                    go_simp
                    with_reducible rfl
                  rotate_left
                  · simp only [Act.put, List.setIfInBounds_toArray, List.set_cons_zero, List.set_cons_succ, i64_w, i32_w]
                    rfl
                  refine pure_ (i := 6) (N := some 71) (v := ?_) (a' := ?_) #[true, true, true, true, true, true, true, false, false, false, false, false, false, false, false, false, false, false, false, false, false, false, false, false, false, false, false, false, false] rfl rfl (any_of HT_.out (by kernel_rfl)) (fun _ _ _ h => h) (Or.inl ⟨by rfl, ?_⟩) ?_ ?_
                  rotate_left
                  · intro w'
                    go_simp
                    with_reducible rfl
                  rotate_left
                  · simp only [Act.put, List.setIfInBounds_toArray, List.set_cons_zero, List.set_cons_succ, i64_w, i32_w]
                    rfl
                  refine pure_ (i := 7) (N := some 72) (v := undef) (a' := ?_) #[true, true, true, true, true, true, true, true, false, false, false, false, false, false, false, false, false, false, false, false, false, false, false, false, false, false, false, false, false] rfl rfl (any_of HT_.out (by kernel_rfl)) (fun _ _ _ h => h) (Or.inr ⟨by rfl, rfl⟩) ?_ ?_
                  rotate_left
                  · simp only [Act.put, List.setIfInBounds_toArray, List.set_cons_zero, List.set_cons_succ, i64_w, i32_w]
                    rfl
                  refine pure_ (i := 8) (N := some 73) (v := undef) (a' := ?_) #[true, true, true, true, true, true, true, true, true, false, false, false, false, false, false, false, false, false, false, false, false, false, false, false, false, false, false, false, false] rfl rfl (any_of HT_.out (by kernel_rfl)) (fun _ _ _ h => h) (Or.inr ⟨by rfl, rfl⟩) ?_ ?_
                  rotate_left
                  · simp only [Act.put, List.setIfInBounds_toArray, List.set_cons_zero, List.set_cons_succ, i64_w, i32_w]
                    rfl
                  refine pure_ (i := 9) (N := some 74) (v := undef) (a' := ?_) #[true, true, true, true, true, true, true, true, true, true, false, false, false, false, false, false, false, false, false, false, false, false, false, false, false, false, false, false, false] rfl rfl (any_of HT_.out (by kernel_rfl)) (fun _ _ _ h => h) (Or.inr ⟨by rfl, rfl⟩) ?_ ?_
                  rotate_left
                  · simp only [Act.put, List.setIfInBounds_toArray, List.set_cons_zero, List.set_cons_succ, i64_w, i32_w]
                    rfl
                  refine pure_ (i := 10) (N := some 75) (v := undef) (a' := ?_) #[true, true, true, true, true, true, true, true, true, true, true, false, false, false, false, false, false, false, false, false, false, false, false, false, false, false, false, false, false] rfl rfl (any_of HT_.out (by kernel_rfl)) (fun _ _ _ h => h) (Or.inr ⟨by rfl, rfl⟩) ?_ ?_
                  rotate_left
                  · simp only [Act.put, List.setIfInBounds_toArray, List.set_cons_zero, List.set_cons_succ, i64_w, i32_w]
                    rfl
                  refine pure_ (i := 11) (N := some 76) (v := undef) (a' := ?_) #[true, true, true, true, true, true, true, true, true, true, true, true, false, false, false, false, false, false, false, false, false, false, false, false, false, false, false, false, false] rfl rfl (any_of HT_.out (by kernel_rfl)) (fun _ _ _ h => h) (Or.inr ⟨by rfl, rfl⟩) ?_ ?_
                  rotate_left
                  · simp only [Act.put, List.setIfInBounds_toArray, List.set_cons_zero, List.set_cons_succ, i64_w, i32_w]
                    rfl
                  refine pure_ (i := 12) (N := some 77) (v := ?_) (a' := ?_) #[true, true, true, true, true, true, true, true, true, true, true, true, true, false, false, false, false, false, false, false, false, false, false, false, false, false, false, false, false] rfl rfl (any_of HT_.out (by kernel_rfl)) (fun _ _ _ h => h) (Or.inl ⟨by rfl, ?_⟩) ?_ ?_
                  rotate_left
                  · intro w'
                    go_simp
                    with_reducible rfl
                  rotate_left
                  · simp only [Act.put, List.setIfInBounds_toArray, List.set_cons_zero, List.set_cons_succ, i64_w, i32_w]
                    rfl
                  refine pure_ (i := 13) (N := some 78) (v := ?_) (a' := ?_) #[true, true, true, true, true, true, true, true, true, true, true, true, true, true, false, false, false, false, false, false, false, false, false, false, false, false, false, false, false] rfl rfl (any_of HT_.out (by kernel_rfl)) (fun _ _ _ h => h) (Or.inl ⟨by rfl, ?_⟩) ?_ ?_
                  rotate_left
                  · intro w'
                    go_simp
                    with_reducible rfl
                  rotate_left
                  · simp only [Act.put, List.setIfInBounds_toArray, List.set_cons_zero, List.set_cons_succ, i64_w, i32_w]
                    rfl
                  refine pure_ (i := 14) (N := some 79) (v := undef) (a' := ?_) #[true, true, true, true, true, true, true, true, true, true, true, true, true, true, true, false, false, false, false, false, false, false, false, false, false, false, false, false, false] rfl rfl (any_of HT_.out (by kernel_rfl)) (fun _ _ _ h => h) (Or.inr ⟨by rfl, rfl⟩) ?_ ?_
                  rotate_left
                  · simp only [Act.put, List.setIfInBounds_toArray, List.set_cons_zero, List.set_cons_succ, i64_w, i32_w]
                    rfl
                  refine pure_ (i := 15) (N := some 80) (v := undef) (a' := ?_) #[true, true, true, true, true, true, true, true, true, true, true, true, true, true, true, true, false, false, false, false, false, false, false, false, false, false, false, false, false] rfl rfl (any_of HT_.out (by kernel_rfl)) (fun _ _ _ h => h) (Or.inr ⟨by rfl, rfl⟩) ?_ ?_
                  rotate_left
                  · simp only [Act.put, List.setIfInBounds_toArray, List.set_cons_zero, List.set_cons_succ, i64_w, i32_w]
                    rfl
                  refine pure_ (i := 16) (N := some 81) (v := undef) (a' := ?_) #[true, true, true, true, true, true, true, true, true, true, true, true, true, true, true, true, true, false, false, false, false, false, false, false, false, false, false, false, false] rfl rfl (any_of HT_.out (by kernel_rfl)) (fun _ _ _ h => h) (Or.inr ⟨by rfl, rfl⟩) ?_ ?_
                  rotate_left
                  · simp only [Act.put, List.setIfInBounds_toArray, List.set_cons_zero, List.set_cons_succ, i64_w, i32_w]
                    rfl
                  refine pure_ (i := 17) (N := some 82) (v := undef) (a' := ?_) #[true, true, true, true, true, true, true, true, true, true, true, true, true, true, true, true, true, true, false, false, false, false, false, false, false, false, false, false, false] rfl rfl (any_of HT_.out (by kernel_rfl)) (fun _ _ _ h => h) (Or.inr ⟨by rfl, rfl⟩) ?_ ?_
                  rotate_left
                  · simp only [Act.put, List.setIfInBounds_toArray, List.set_cons_zero, List.set_cons_succ, i64_w, i32_w]
                    rfl
                  refine pure_ (i := 18) (N := some 83) (v := undef) (a' := ?_) #[true, true, true, true, true, true, true, true, true, true, true, true, true, true, true, true, true, true, true, false, false, false, false, false, false, false, false, false, false] rfl rfl (any_of HT_.out (by kernel_rfl)) (fun _ _ _ h => h) (Or.inr ⟨by rfl, rfl⟩) ?_ ?_
                  rotate_left
                  · simp only [Act.put, List.setIfInBounds_toArray, List.set_cons_zero, List.set_cons_succ, i64_w, i32_w]
                    rfl
                  refine pure_ (i := 19) (N := some 84) (v := undef) (a' := ?_) #[true, true, true, true, true, true, true, true, true, true, true, true, true, true, true, true, true, true, true, true, false, false, false, false, false, false, false, false, false] rfl rfl (any_of HT_.out (by kernel_rfl)) (fun _ _ _ h => h) (Or.inr ⟨by rfl, rfl⟩) ?_ ?_
                  rotate_left
                  · simp only [Act.put, List.setIfInBounds_toArray, List.set_cons_zero, List.set_cons_succ, i64_w, i32_w]
                    rfl
                  refine pure_ (i := 20) (N := some 85) (v := undef) (a' := ?_) #[true, true, true, true, true, true, true, true, true, true, true, true, true, true, true, true, true, true, true, true, true, false, false, false, false, false, false, false, false] rfl rfl (any_of HT_.out (by kernel_rfl)) (fun _ _ _ h => h) (Or.inr ⟨by rfl, rfl⟩) ?_ ?_
                  rotate_left
                  · simp only [Act.put, List.setIfInBounds_toArray, List.set_cons_zero, List.set_cons_succ, i64_w, i32_w]
                    rfl
                  refine pure_ (i := 21) (N := some 86) (v := undef) (a' := ?_) #[true, true, true, true, true, true, true, true, true, true, true, true, true, true, true, true, true, true, true, true, true, true, false, false, false, false, false, false, false] rfl rfl (any_of HT_.out (by kernel_rfl)) (fun _ _ _ h => h) (Or.inr ⟨by rfl, rfl⟩) ?_ ?_
                  rotate_left
                  · simp only [Act.put, List.setIfInBounds_toArray, List.set_cons_zero, List.set_cons_succ, i64_w, i32_w]
                    rfl
                  refine pure_ (i := 22) (N := some 87) (v := undef) (a' := ?_) #[true, true, true, true, true, true, true, true, true, true, true, true, true, true, true, true, true, true, true, true, true, true, true, false, false, false, false, false, false] rfl rfl (any_of HT_.out (by kernel_rfl)) (fun _ _ _ h => h) (Or.inr ⟨by rfl, rfl⟩) ?_ ?_
                  rotate_left
                  · simp only [Act.put, List.setIfInBounds_toArray, List.set_cons_zero, List.set_cons_succ, i64_w, i32_w]
                    rfl
                  refine pure_ (i := 23) (N := some 88) (v := ?_) (a' := ?_) #[true, true, true, true, true, true, true, true, true, true, true, true, true, true, true, true, true, true, true, true, true, true, true, true, false, false, false, false, false] rfl rfl (any_of HT_.out (by kernel_rfl)) (fun _ _ _ h => h) (Or.inl ⟨by rfl, ?_⟩) ?_ ?_
                  rotate_left
                  · intro w'
                    go_simp
                    with_reducible rfl
                  rotate_left
                  · simp only [Act.put, List.setIfInBounds_toArray, List.set_cons_zero, List.set_cons_succ, i64_w, i32_w]
                    rfl
                  refine pure_ (i := 24) (N := some 89) (v := ?_) (a' := ?_) #[true, true, true, true, true, true, true, true, true, true, true, true, true, true, true, true, true, true, true, true, true, true, true, true, true, false, false, false, false] rfl rfl (any_of HT_.out (by kernel_rfl)) (fun _ _ _ h => h) (Or.inl ⟨by rfl, ?_⟩) ?_ ?_
                  rotate_left
                  · intro w'
                    go_simp
                    with_reducible rfl
                  rotate_left
                  · simp only [Act.put, List.setIfInBounds_toArray, List.set_cons_zero, List.set_cons_succ, i64_w, i32_w]
                    rfl
                  refine pure_ (i := 25) (N := some 90) (v := undef) (a' := ?_) #[true, true, true, true, true, true, true, true, true, true, true, true, true, true, true, true, true, true, true, true, true, true, true, true, true, true, false, false, false] rfl rfl (any_of HT_.out (by kernel_rfl)) (fun _ _ _ h => h) (Or.inr ⟨by rfl, rfl⟩) ?_ ?_
                  rotate_left
                  · simp only [Act.put, List.setIfInBounds_toArray, List.set_cons_zero, List.set_cons_succ, i64_w, i32_w]
                    rfl
                  refine pure_ (i := 26) (N := some 91) (v := undef) (a' := ?_) #[true, true, true, true, true, true, true, true, true, true, true, true, true, true, true, true, true, true, true, true, true, true, true, true, true, true, true, false, false] rfl rfl (any_of HT_.out (by kernel_rfl)) (fun _ _ _ h => h) (Or.inr ⟨by rfl, rfl⟩) ?_ ?_
                  rotate_left
                  · simp only [Act.put, List.setIfInBounds_toArray, List.set_cons_zero, List.set_cons_succ, i64_w, i32_w]
                    rfl
                  refine pure_ (i := 27) (N := some 92) (v := undef) (a' := ?_) #[true, true, true, true, true, true, true, true, true, true, true, true, true, true, true, true, true, true, true, true, true, true, true, true, true, true, true, true, false] rfl rfl (any_of HT_.out (by kernel_rfl)) (fun _ _ _ h => h) (Or.inr ⟨by rfl, rfl⟩) ?_ ?_
                  rotate_left
                  · simp only [Act.put, List.setIfInBounds_toArray, List.set_cons_zero, List.set_cons_succ, i64_w, i32_w]
                    rfl
                  refine pure_ (i := 28) (N := some 93) (v := ?_) (a' := ?_) #[true, true, true, true, true, true, true, true, true, true, true, true, true, true, true, true, true, true, true, true, true, true, true, true, true, true, true, true, true] rfl rfl (any_of HT_.out (by kernel_rfl)) (fun _ _ _ h => h) (Or.inl ⟨by rfl, ?_⟩) ?_ ?_
                  rotate_left
                  · intro w'
                    go_simp
                    with_reducible rfl
                  rotate_left
                  · simp only [Act.put, List.setIfInBounds_toArray, List.set_cons_zero, List.set_cons_succ, i64_w, i32_w]
                    rfl
                  refine done_ (done_of HT_.out (by kernel_rfl)) ?_
                  try go_wp2
                  go_meet
                  case rel => exact ⟨_, (true), (by first | rfl | (simp; done) | (simp [*]; done)), H', ⟨by have := HK1.out; first | omega | exact Nat.le_refl _⟩, ⟨by (with_reducible repeat (first | apply Kd.R_alloc | apply Kd.R_drewN | apply Kd.R_drew)); exact Kd.R_mono HO121.out (fun _ hk => trivial)⟩, ⟨by repeat (first | (with_reducible first | exact HB.out | apply below_alloc | apply pw_below_drewN | apply below_drew1) | exact HB.out)⟩⟩
              case rest =>
                clear HC21
                try clear c2
                try clear p2
                try clear c3
                try clear p6
                try clear c28
                try clear c28b0
                try clear c28b1
                try clear c29
                try clear c29b0
                try clear c29b1
                try clear c30
                try clear c30b0
                try clear c30b1
                try clear c31
                try clear c32
                obtain ⟨kq, x93_20, rfl, HA, HJ20, HO_11, HB⟩ := hcut
                cases kq with
                | zero => exact absurd HA.out (by simp [carafelaw5_CodeBranches.j1])
                | succ kj20 =>
                  have H := HA.out
                  clear HA
                  simp only [carafelaw5_CodeBranches.j1] at H
                  by_cases c46 : x93_20 = true
                  · subst c46
                    have H1 : (some false) = some r := by rw [if_pos rfl] at H; exact H
                    clear H
                    have H := H1
                    clear H1
                    obtain rfl := Option.some.inj H
                    go_wp2
                    go_ret
                    exact ⟨by first | rfl | (simp [errW_none, errW_some] <;> rfl) | (simp [*, errW_none, errW_some] <;> rfl), by repeat (first | (with_reducible first | exact HB.out | apply below_alloc | apply pw_below_drewN | apply below_drew1) | exact HB.out)⟩
                  · replace c46 := Bool.eq_false_iff.mpr c46
                    subst c46
                    have H1 : (if 0 ≤ t106 then (if t106 < (y119.length : Int) then ((some (y119.set (t106 : Int).toNat (⟨(rd_T32 y119 t106).f0, (rd_T32 y119 t106).f1, wrap64 (t106 + 32768), (rd_T32 y119 t106).f3⟩ : S32) : List (S32))).bind fun y137 => ((code_Encode.f kj20 y137).bind fun bt138 => ((some (y137.set (t106 : Int).toNat (⟨(rd_T32 y137 t106).f0, (rd_T32 y137 t106).f1, wrap64 (t106 - 32769), (rd_T32 y137 t106).f3⟩ : S32) : List (S32))).bind fun y142 => ((code_Encode.f kj20 y142).bind fun bt143 => ((code_Encode.f kj20 (y142.set (t106 : Int).toNat (⟨(rd_T32 y142 t106).f0, (rd_T32 y142 t106).f1, wrap64 (t106 - 32768), (rd_T32 y142 t106).f3⟩ : S32))).bind fun bt148 => (if bt138.2 = 1 then (if bt143.2 = 1 then (if bt148.2 = 0 then ((carafelaw5_known.f kj20).bind fun t152 => (some t152)) else (some false)) else (some false)) else (some false))))))) else (none)) else (none)) = some r := by rw [if_neg (show ¬ (false = true) by decide)] at H; exact H
                    clear H
                    have H := H1
                    clear H1
                    by_cases c47 : 0 ≤ t106
                    · rw [if_pos c47] at H
                      have c47b0 : decide (0 ≤ t106) = true := decide_eq_true c47
                      clear c47
                      by_cases c48 : t106 < (y119.length : Int)
                      · rw [if_pos c48] at H
                        have c48b0 : decide (t106 < (y119.length : Int)) = true := decide_eq_true c48
                        clear c48
                        obtain ⟨y137, hy137⟩ : ∃ y_ : List (S32), y_ = (y119.set (t106 : Int).toNat (⟨(rd_T32 y119 t106).f0, (rd_T32 y119 t106).f1, wrap64 (t106 + 32768), (rd_T32 y119 t106).f3⟩ : S32)) := ⟨_, rfl⟩
                        replace H : ((code_Encode.f kj20 y137).bind fun bt138 => ((some (y137.set (t106 : Int).toNat (⟨(rd_T32 y137 t106).f0, (rd_T32 y137 t106).f1, wrap64 (t106 - 32769), (rd_T32 y137 t106).f3⟩ : S32) : List (S32))).bind fun y142 => ((code_Encode.f kj20 y142).bind fun bt143 => ((code_Encode.f kj20 (y142.set (t106 : Int).toNat (⟨(rd_T32 y142 t106).f0, (rd_T32 y142 t106).f1, wrap64 (t106 - 32768), (rd_T32 y142 t106).f3⟩ : S32))).bind fun bt148 => (if bt138.2 = 1 then (if bt143.2 = 1 then (if bt148.2 = 0 then ((carafelaw5_known.f kj20).bind fun t152 => (some t152)) else (some false)) else (some false)) else (some false)))))) = some r := by first | (rw [hy137]; with_reducible exact H) | (have H2_ := (Option.bind_some _ _).symm.trans H; rw [hy137]; with_reducible exact H2_) | (have H2_ := (Option.bind_some _ _).symm.trans H; with_reducible exact H2_) | with_reducible exact H | (rw [hy137]; exact H) | exact H
                        have Ny137 := Aside0.mk hy137
                        clear hy137
                        replace H := Option.bind_eq_some_iff.mp H
                        obtain ⟨⟨t138, t139⟩, A500, H⟩ := H
                        replace H : ((some (y137.set (t106 : Int).toNat (⟨(rd_T32 y137 t106).f0, (rd_T32 y137 t106).f1, wrap64 (t106 - 32769), (rd_T32 y137 t106).f3⟩ : S32) : List (S32))).bind fun y142 => ((code_Encode.f kj20 y142).bind fun bt143 => ((code_Encode.f kj20 (y142.set (t106 : Int).toNat (⟨(rd_T32 y142 t106).f0, (rd_T32 y142 t106).f1, wrap64 (t106 - 32768), (rd_T32 y142 t106).f3⟩ : S32))).bind fun bt148 => (if t139 = 1 then (if bt143.2 = 1 then (if bt148.2 = 0 then ((carafelaw5_known.f kj20).bind fun t152 => (some t152)) else (some false)) else (some false)) else (some false))))) = some r := H
                        have A50 := Aside0.mk A500
                        clear A500
                        obtain ⟨y142, hy142⟩ : ∃ y_ : List (S32), y_ = (y137.set (t106 : Int).toNat (⟨(rd_T32 y137 t106).f0, (rd_T32 y137 t106).f1, wrap64 (t106 - 32769), (rd_T32 y137 t106).f3⟩ : S32)) := ⟨_, rfl⟩
                        replace H : ((code_Encode.f kj20 y142).bind fun bt143 => ((code_Encode.f kj20 (y142.set (t106 : Int).toNat (⟨(rd_T32 y142 t106).f0, (rd_T32 y142 t106).f1, wrap64 (t106 - 32768), (rd_T32 y142 t106).f3⟩ : S32))).bind fun bt148 => (if t139 = 1 then (if bt143.2 = 1 then (if bt148.2 = 0 then ((carafelaw5_known.f kj20).bind fun t152 => (some t152)) else (some false)) else (some false)) else (some false)))) = some r := by first | (rw [hy142]; with_reducible exact H) | (have H2_ := (Option.bind_some _ _).symm.trans H; rw [hy142]; with_reducible exact H2_) | (have H2_ := (Option.bind_some _ _).symm.trans H; with_reducible exact H2_) | with_reducible exact H | (rw [hy142]; exact H) | exact H
                        have Ny142 := Aside0.mk hy142
                        clear hy142
                        replace H := Option.bind_eq_some_iff.mp H
                        obtain ⟨⟨t143, t144⟩, A520, H⟩ := H
                        replace H : ((code_Encode.f kj20 (y142.set (t106 : Int).toNat (⟨(rd_T32 y142 t106).f0, (rd_T32 y142 t106).f1, wrap64 (t106 - 32768), (rd_T32 y142 t106).f3⟩ : S32))).bind fun bt148 => (if t139 = 1 then (if t144 = 1 then (if bt148.2 = 0 then ((carafelaw5_known.f kj20).bind fun t152 => (some t152)) else (some false)) else (some false)) else (some false))) = some r := H
                        have A52 := Aside0.mk A520
                        clear A520
                        obtain ⟨y147, hy147⟩ : ∃ y_ : List (S32), y_ = (y142.set (t106 : Int).toNat (⟨(rd_T32 y142 t106).f0, (rd_T32 y142 t106).f1, wrap64 (t106 - 32768), (rd_T32 y142 t106).f3⟩ : S32)) := ⟨_, rfl⟩
                        replace H : ((code_Encode.f kj20 y147).bind fun bt148 => (if t139 = 1 then (if t144 = 1 then (if bt148.2 = 0 then ((carafelaw5_known.f kj20).bind fun t152 => (some t152)) else (some false)) else (some false)) else (some false))) = some r := by first | (rw [hy147]; with_reducible exact H) | (have H2_ := (Option.bind_some _ _).symm.trans H; rw [hy147]; with_reducible exact H2_) | (have H2_ := (Option.bind_some _ _).symm.trans H; with_reducible exact H2_) | with_reducible exact H | (rw [hy147]; exact H) | exact H
                        have Ny147 := Aside0.mk hy147
                        clear hy147
                        replace H := Option.bind_eq_some_iff.mp H
                        obtain ⟨⟨t148, t149⟩, A540, H⟩ := H
                        replace H : (if t139 = 1 then (if t144 = 1 then (if t149 = 0 then ((carafelaw5_known.f kj20).bind fun t152 => (some t152)) else (some false)) else (some false)) else (some false)) = some r := H
                        have A54 := Aside0.mk A540
                        clear A540
                        by_cases c55 : t139 = 1
                        · rw [if_pos c55] at H
                          have c55b0 : (t139 == 1) = true := beq_iff_eq.mpr c55
                          have c55b1 : (t139 != 1) = false := bne_eq_false_iff_eq.mpr c55
                          clear c55
                          by_cases c56 : t144 = 1
                          · rw [if_pos c56] at H
                            have c56b0 : (t144 == 1) = true := beq_iff_eq.mpr c56
                            have c56b1 : (t144 != 1) = false := bne_eq_false_iff_eq.mpr c56
                            clear c56
                            by_cases c57 : t149 = 0
                            · rw [if_pos c57] at H
                              have c57b0 : (t149 == 0) = true := beq_iff_eq.mpr c57
                              have c57b1 : (t149 != 0) = false := bne_eq_false_iff_eq.mpr c57
                              clear c57
                              replace H := Option.bind_eq_some_iff.mp H
                              obtain ⟨t152, A580, H⟩ := H
                              replace H : (some t152) = some r := H
                              have A58 := Aside0.mk A580
                              clear A580
                              obtain rfl := Option.some.inj H
                              have p49 : 0 ≤ (t106 : Int) := of_decide_eq_true (by first | (with_reducible assumption) | assumption)
                              have q49 : (t106 : Int) < ((y119.length : Int) : Int) := of_decide_eq_true (by first | (with_reducible assumption) | assumption)
                              obtain ⟨go49, co49, eo49, gb49, gl49, cl49, HG49⟩ := Kd.R_form HO_11.out (by omega)
                              (first | cases eo49 | (injection eo49 with ea_ en_ ec_; (first | subst ea_ | (injection ea_ with ea_; subst ea_)); subst ec_; clear en_))
                              have GB49 := Aside0.mk gb49
                              have GG49 := Aside0.mk HG49
                              clear gb49 gl49 HG49
                              obtain ⟨ce49, hcl49, hM49, hcc49, hfr49⟩ := Kd.R_elem HO_11.out z32 (t106 : Int) p49 q49
                              obtain rfl := k32_openM hM49
                              have hx49_0 : wc.cell? ⟨go49, (t106 : Int).toNat * 4, none⟩ = some (.int .i64 ((rd_T32 y119 t106).f0)) := hcc49 0 _ rfl
                              have hx49_1 : wc.cell? ⟨go49, (t106 : Int).toNat * 4 + 1, none⟩ = some (.int .i64 ((rd_T32 y119 t106).f1)) := hcc49 1 _ rfl
                              have hx49_2 : wc.cell? ⟨go49, (t106 : Int).toNat * 4 + 2, none⟩ = some (.int .i64 ((rd_T32 y119 t106).f2)) := hcc49 2 _ rfl
                              have hx49_3 : wc.cell? ⟨go49, (t106 : Int).toNat * 4 + 3, none⟩ = some (.int .i64 ((rd_T32 y119 t106).f3)) := hcc49 3 _ rfl
                              have hf49_0 : wc.frozen? ⟨go49, (t106 : Int).toNat * 4, none⟩ = false := hfr49 0
                              have hf49_1 : wc.frozen? ⟨go49, (t106 : Int).toNat * 4 + 1, none⟩ = false := hfr49 1
                              have hf49_2 : wc.frozen? ⟨go49, (t106 : Int).toNat * 4 + 2, none⟩ = false := hfr49 2
                              have hf49_3 : wc.frozen? ⟨go49, (t106 : Int).toNat * 4 + 3, none⟩ = false := hfr49 3
                              clear hcl49 hcc49 hfr49 hM49
                              replace p49 := eq_true p49
                              replace q49 := eq_true q49
                              have HX59 := Aside0.mk (show Kd.R k32 32 wc w.heap.size (fun _ => True) (.slice (some ⟨go49, 0, none⟩) y119.length co24) y119 from (by (with_reducible repeat (first | apply Kd.R_alloc | apply Kd.R_drewN | apply Kd.R_drew)); exact HO_11.out))
                              obtain ⟨ce59, hcl59, hM59, hcc59, hfr59⟩ := Kd.R_elem HX59.out z32 (t106 : Int) (of_decide_eq_true (by first | (with_reducible assumption) | assumption)) (by have h_ : (t106 : Int) < ((y119.length : Int) : Int) := of_decide_eq_true (by first | (with_reducible assumption) | assumption); first | exact h_ | (have e_ := (Kd.R_reads' HO_11.out).1; omega) | simpa using h_)
                              obtain rfl := k32_openM hM59
                              have HP59 := Kd.R_seg HX59.out (t106 : Int) (of_decide_eq_true (by first | (with_reducible assumption) | assumption)) (by have h_ : (t106 : Int) < ((y119.length : Int) : Int) := of_decide_eq_true (by first | (with_reducible assumption) | assumption); first | exact h_ | (have e_ := (Kd.R_reads' HO_11.out).1; omega) | simpa using h_) (seg := [.int .i64 (wrap64 (t106 + 32768))]) (j := 2) hcl59 hcc59 (show 3 ≤ 4 from by decide) (x' := (⟨(rd_T32 y119 t106).f0, (rd_T32 y119 t106).f1, wrap64 (t106 + 32768), (rd_T32 y119 t106).f3⟩ : S32)) (k32_mkM _ _ _ (⟨(rd_T32 y119 t106).f0, (rd_T32 y119 t106).f1, wrap64 (t106 + 32768), (rd_T32 y119 t106).f3⟩ : S32) ) (fun _ hk => hk)
                              have hx59_2 := hcc59 2 _ rfl
                              (try simp only [show (k32).sz = 4 from rfl, Nat.mul_one, Nat.add_zero] at hx59_2)
                              have hf59_2 := hfr59 2
                              (try simp only [show (k32).sz = 4 from rfl, Nat.mul_one, Nat.add_zero] at hf59_2)
                              clear hcl59 hcc59 hfr59 hM59
                              go_wp2_with (first | ((with_reducible refine gate_store (t := 3) (p := 99) rfl ?_); refine store_event (t := 3) (p := 99) (v := ?vo_w60) (w1 := (wc.setCell ⟨go49, (t106 : Int).toNat * 4 + 2, none⟩ (.int .i64 (wrap64 (t106 + 32768))))) ?hg ?ho ?hn ?hr ?_; (case ho => rfl); (case hg => rfl); (case hn => rfl); (case hr => first | (go_simp; done) | (go_simp; rfl)); intro w60 hw; have hg : wc.grownBy w60 (some go49) := (by rw [hw]; exact HP59.2); have hp_ : Kd.R k32 32 w60 w.heap.size (fun _ => True) (.slice (some ⟨go49, 0, none⟩) y119.length co24) y137 := (by rw [hw, Ny137.out]; exact HP59.1); clear HP59; have n0_ := Aside0.mk (hp_); have n1_ := Aside0.mk ((by rw [hw]; exact below_set (HB.out) GB49.out : Below w.heap.size w w60)); clear HO_11; clear HB; have HO_11 := n0_; have HB := n1_; clear n0_ n1_; clear hg hw hp_) | ((with_reducible refine gate_callee (f := 15) rfl ?_); refine goesL_ (some 102) rfl rfl Try.func15 (by kernel_rfl) rfl #[.slice (some ⟨go49, 0, none⟩) y137.length co24] rfl (by (try simp only [List.map_toArray, List.map_cons, List.map_nil]); first | done | (rw [show y137.length = y119.length from (Kd.R_reads' HO_11.out).1.symm] <;> rfl) | rfl | (simp only [List.length_drop, List.length_take]; rfl)) ?_; (with_reducible refine (code_Encode.calls kj20 _ _ y137 t138 t139 _ ?side1 ?side2 A50.out).mono ?_); (case side1 => repeat (first | exact (Kd.R_reads' HO_11.out).2.2 | (with_reducible refine Kd.C_alloc ?_ _) | (with_reducible refine Kd.C_drewN ?_ _) | (with_reducible refine Kd.C_drew ?_))); (case side2 => rw [show y137.length = y119.length from (Kd.R_reads' HO_11.out).1.symm]; exact (Kd.R_reads' HO_11.out).2.1); rintro e w61 ⟨v140, rfl, ho0, hb⟩; refine ⟨_, rfl, ?_⟩; have n0_ := Aside0.mk (Kd.R_below (by (with_reducible repeat (first | apply Kd.R_alloc | apply Kd.R_drewN | apply Kd.R_drew)); exact HO_11.out) hb); have n1_ := Aside0.mk (Kd.R_lower ho0 (below_size (by repeat (first | (with_reducible first | exact HB.out | apply below_alloc | apply pw_below_drewN | apply below_drew1) | exact HB.out)))); have n2_ := Aside0.mk (below_step (by repeat (first | (with_reducible first | exact HB.out | apply below_alloc | apply pw_below_drewN | apply below_drew1) | exact HB.out)) hb); clear HO_11; clear HB; have HO_11 := n0_; have HO141 := n1_; have HB := n2_; clear n0_ n1_ n2_; (try clear hb); (try clear hb2); (try clear hk); (try clear hi); (try clear ho0); have p51 : 0 ≤ (t106 : Int) := of_decide_eq_true (by first | (with_reducible assumption) | assumption); have q51 : (t106 : Int) < ((y119.length : Int) : Int) := of_decide_eq_true (by first | (with_reducible assumption) | assumption); obtain ⟨ce51, hcl51, hM51, hcc51, hfr51⟩ := Kd.R_elem HO_11.out z32 (t106 : Int) p51 q51; obtain rfl := k32_openM hM51; have hx51_0 : w61.cell? ⟨go49, (t106 : Int).toNat * 4, none⟩ = some (.int .i64 ((rd_T32 y137 t106).f0)) := hcc51 0 _ rfl; have hx51_1 : w61.cell? ⟨go49, (t106 : Int).toNat * 4 + 1, none⟩ = some (.int .i64 ((rd_T32 y137 t106).f1)) := hcc51 1 _ rfl; have hx51_2 : w61.cell? ⟨go49, (t106 : Int).toNat * 4 + 2, none⟩ = some (.int .i64 ((rd_T32 y137 t106).f2)) := hcc51 2 _ rfl; have hx51_3 : w61.cell? ⟨go49, (t106 : Int).toNat * 4 + 3, none⟩ = some (.int .i64 ((rd_T32 y137 t106).f3)) := hcc51 3 _ rfl; have hf51_0 : w61.frozen? ⟨go49, (t106 : Int).toNat * 4, none⟩ = false := hfr51 0; have hf51_1 : w61.frozen? ⟨go49, (t106 : Int).toNat * 4 + 1, none⟩ = false := hfr51 1; have hf51_2 : w61.frozen? ⟨go49, (t106 : Int).toNat * 4 + 2, none⟩ = false := hfr51 2; have hf51_3 : w61.frozen? ⟨go49, (t106 : Int).toNat * 4 + 3, none⟩ = false := hfr51 3; clear hcl51 hcc51 hfr51 hM51; replace p51 := eq_true p51; replace q51 := eq_true q51; have HX62 := Aside0.mk (show Kd.R k32 32 w61 w.heap.size (fun _ => True) (.slice (some ⟨go49, 0, none⟩) y119.length co24) y137 from (by (with_reducible repeat (first | apply Kd.R_alloc | apply Kd.R_drewN | apply Kd.R_drew)); exact HO_11.out)); obtain ⟨ce62, hcl62, hM62, hcc62, hfr62⟩ := Kd.R_elem HX62.out z32 (t106 : Int) (of_decide_eq_true (by first | (with_reducible assumption) | assumption)) (by have h_ : (t106 : Int) < ((y119.length : Int) : Int) := of_decide_eq_true (by first | (with_reducible assumption) | assumption); first | exact h_ | (have e_ := (Kd.R_reads' HO_11.out).1; omega) | simpa using h_); obtain rfl := k32_openM hM62; have HP62 := Kd.R_seg HX62.out (t106 : Int) (of_decide_eq_true (by first | (with_reducible assumption) | assumption)) (by have h_ : (t106 : Int) < ((y119.length : Int) : Int) := of_decide_eq_true (by first | (with_reducible assumption) | assumption); first | exact h_ | (have e_ := (Kd.R_reads' HO_11.out).1; omega) | simpa using h_) (seg := [.int .i64 (wrap64 (t106 - 32769))]) (j := 2) hcl62 hcc62 (show 3 ≤ 4 from by decide) (x' := (⟨(rd_T32 y137 t106).f0, (rd_T32 y137 t106).f1, wrap64 (t106 - 32769), (rd_T32 y137 t106).f3⟩ : S32)) (k32_mkM _ _ _ (⟨(rd_T32 y137 t106).f0, (rd_T32 y137 t106).f1, wrap64 (t106 - 32769), (rd_T32 y137 t106).f3⟩ : S32) ) (fun _ hk => hk); have hx62_2 := hcc62 2 _ rfl; (try simp only [show (k32).sz = 4 from rfl, Nat.mul_one, Nat.add_zero] at hx62_2); have hf62_2 := hfr62 2; (try simp only [show (k32).sz = 4 from rfl, Nat.mul_one, Nat.add_zero] at hf62_2); clear hcl62 hcc62 hfr62 hM62) | ((with_reducible refine gate_store (t := 3) (p := 110) rfl ?_); refine store_event (t := 3) (p := 110) (v := ?vo_w63) (w1 := (w61.setCell ⟨go49, (t106 : Int).toNat * 4 + 2, none⟩ (.int .i64 (wrap64 (t106 - 32769))))) ?hg ?ho ?hn ?hr ?_; (case ho => rfl); (case hg => rfl); (case hn => rfl); (case hr => first | (go_simp; done) | (go_simp; rfl)); intro w63 hw; have hg : w61.grownBy w63 (some go49) := (by rw [hw]; exact HP62.2); have hp_ : Kd.R k32 32 w63 w.heap.size (fun _ => True) (.slice (some ⟨go49, 0, none⟩) y119.length co24) y142 := (by rw [hw, Ny142.out]; exact HP62.1); clear HP62; have n0_ := Aside0.mk (hp_); have n1_ := Aside0.mk (Kd.R_over' (v := (.slice (some ⟨go49, 0, none⟩) y119.length co24)) (by (with_reducible repeat (first | apply Kd.R_alloc | apply Kd.R_drewN | apply Kd.R_drew)); exact HO141.out) (Kd.R_typed HO_11.out) (by decide) hg); have n2_ := Aside0.mk ((by rw [hw]; exact below_set (HB.out) GB49.out : Below w.heap.size w w63)); clear HO_11; clear HO141; clear HB; have HO_11 := n0_; have HO141 := n1_; have HB := n2_; clear n0_ n1_ n2_; clear hg hw hp_) | ((with_reducible refine gate_callee (f := 15) rfl ?_); refine goesL_ (some 113) rfl rfl Try.func15 (by kernel_rfl) rfl #[.slice (some ⟨go49, 0, none⟩) y142.length co24] rfl (by (try simp only [List.map_toArray, List.map_cons, List.map_nil]); first | done | (rw [show y142.length = y119.length from (Kd.R_reads' HO_11.out).1.symm] <;> rfl) | rfl | (simp only [List.length_drop, List.length_take]; rfl)) ?_; (with_reducible refine (code_Encode.calls kj20 _ _ y142 t143 t144 _ ?side1 ?side2 A52.out).mono ?_); (case side1 => repeat (first | exact (Kd.R_reads' HO_11.out).2.2 | (with_reducible refine Kd.C_alloc ?_ _) | (with_reducible refine Kd.C_drewN ?_ _) | (with_reducible refine Kd.C_drew ?_))); (case side2 => rw [show y142.length = y119.length from (Kd.R_reads' HO_11.out).1.symm]; exact (Kd.R_reads' HO_11.out).2.1); rintro e w64 ⟨v145, rfl, ho0, hb⟩; refine ⟨_, rfl, ?_⟩; have n0_ := Aside0.mk (Kd.R_below (by (with_reducible repeat (first | apply Kd.R_alloc | apply Kd.R_drewN | apply Kd.R_drew)); exact HO_11.out) hb); have n1_ := Aside0.mk (Kd.R_elder' (by (with_reducible repeat (first | apply Kd.R_alloc | apply Kd.R_drewN | apply Kd.R_drew)); exact HO141.out) (Kd.R_base ho0) hb); have n2_ := Aside0.mk (Kd.R_lower (Kd.R_new' ho0 (Kd.R_lt (by (with_reducible repeat (first | apply Kd.R_alloc | apply Kd.R_drewN | apply Kd.R_drew)); exact HO141.out))) (below_size (by repeat (first | (with_reducible first | exact HB.out | apply below_alloc | apply pw_below_drewN | apply below_drew1) | exact HB.out)))); have n3_ := Aside0.mk (below_step (by repeat (first | (with_reducible first | exact HB.out | apply below_alloc | apply pw_below_drewN | apply below_drew1) | exact HB.out)) hb); clear HO_11; clear HO141; clear HB; have HO_11 := n0_; have HO141 := n1_; have HO146 := n2_; have HB := n3_; clear n0_ n1_ n2_ n3_; (try clear hb); (try clear hb2); (try clear hk); (try clear hi); (try clear ho0); have p53 : 0 ≤ (t106 : Int) := of_decide_eq_true (by first | (with_reducible assumption) | assumption); have q53 : (t106 : Int) < ((y119.length : Int) : Int) := of_decide_eq_true (by first | (with_reducible assumption) | assumption); obtain ⟨ce53, hcl53, hM53, hcc53, hfr53⟩ := Kd.R_elem HO_11.out z32 (t106 : Int) p53 q53; obtain rfl := k32_openM hM53; have hx53_0 : w64.cell? ⟨go49, (t106 : Int).toNat * 4, none⟩ = some (.int .i64 ((rd_T32 y142 t106).f0)) := hcc53 0 _ rfl; have hx53_1 : w64.cell? ⟨go49, (t106 : Int).toNat * 4 + 1, none⟩ = some (.int .i64 ((rd_T32 y142 t106).f1)) := hcc53 1 _ rfl; have hx53_2 : w64.cell? ⟨go49, (t106 : Int).toNat * 4 + 2, none⟩ = some (.int .i64 ((rd_T32 y142 t106).f2)) := hcc53 2 _ rfl; have hx53_3 : w64.cell? ⟨go49, (t106 : Int).toNat * 4 + 3, none⟩ = some (.int .i64 ((rd_T32 y142 t106).f3)) := hcc53 3 _ rfl; have hf53_0 : w64.frozen? ⟨go49, (t106 : Int).toNat * 4, none⟩ = false := hfr53 0; have hf53_1 : w64.frozen? ⟨go49, (t106 : Int).toNat * 4 + 1, none⟩ = false := hfr53 1; have hf53_2 : w64.frozen? ⟨go49, (t106 : Int).toNat * 4 + 2, none⟩ = false := hfr53 2; have hf53_3 : w64.frozen? ⟨go49, (t106 : Int).toNat * 4 + 3, none⟩ = false := hfr53 3; clear hcl53 hcc53 hfr53 hM53; replace p53 := eq_true p53; replace q53 := eq_true q53; have HX65 := Aside0.mk (show Kd.R k32 32 w64 w.heap.size (fun _ => True) (.slice (some ⟨go49, 0, none⟩) y119.length co24) y142 from (by (with_reducible repeat (first | apply Kd.R_alloc | apply Kd.R_drewN | apply Kd.R_drew)); exact HO_11.out)); obtain ⟨ce65, hcl65, hM65, hcc65, hfr65⟩ := Kd.R_elem HX65.out z32 (t106 : Int) (of_decide_eq_true (by first | (with_reducible assumption) | assumption)) (by have h_ : (t106 : Int) < ((y119.length : Int) : Int) := of_decide_eq_true (by first | (with_reducible assumption) | assumption); first | exact h_ | (have e_ := (Kd.R_reads' HO_11.out).1; omega) | simpa using h_); obtain rfl := k32_openM hM65; have HP65 := Kd.R_seg HX65.out (t106 : Int) (of_decide_eq_true (by first | (with_reducible assumption) | assumption)) (by have h_ : (t106 : Int) < ((y119.length : Int) : Int) := of_decide_eq_true (by first | (with_reducible assumption) | assumption); first | exact h_ | (have e_ := (Kd.R_reads' HO_11.out).1; omega) | simpa using h_) (seg := [.int .i64 (wrap64 (t106 - 32768))]) (j := 2) hcl65 hcc65 (show 3 ≤ 4 from by decide) (x' := (⟨(rd_T32 y142 t106).f0, (rd_T32 y142 t106).f1, wrap64 (t106 - 32768), (rd_T32 y142 t106).f3⟩ : S32)) (k32_mkM _ _ _ (⟨(rd_T32 y142 t106).f0, (rd_T32 y142 t106).f1, wrap64 (t106 - 32768), (rd_T32 y142 t106).f3⟩ : S32) ) (fun _ hk => hk); have hx65_2 := hcc65 2 _ rfl; (try simp only [show (k32).sz = 4 from rfl, Nat.mul_one, Nat.add_zero] at hx65_2); have hf65_2 := hfr65 2; (try simp only [show (k32).sz = 4 from rfl, Nat.mul_one, Nat.add_zero] at hf65_2); clear hcl65 hcc65 hfr65 hM65) | ((with_reducible refine gate_store (t := 3) (p := 121) rfl ?_); refine store_event (t := 3) (p := 121) (v := ?vo_w66) (w1 := (w64.setCell ⟨go49, (t106 : Int).toNat * 4 + 2, none⟩ (.int .i64 (wrap64 (t106 - 32768))))) ?hg ?ho ?hn ?hr ?_; (case ho => rfl); (case hg => rfl); (case hn => rfl); (case hr => first | (go_simp; done) | (go_simp; rfl)); intro w66 hw; have hg : w64.grownBy w66 (some go49) := (by rw [hw]; exact HP65.2); have hp_ : Kd.R k32 32 w66 w.heap.size (fun _ => True) (.slice (some ⟨go49, 0, none⟩) y119.length co24) y147 := (by rw [hw, Ny147.out]; exact HP65.1); clear HP65; have n0_ := Aside0.mk (hp_); have n1_ := Aside0.mk (Kd.R_over' (v := (.slice (some ⟨go49, 0, none⟩) y119.length co24)) (by (with_reducible repeat (first | apply Kd.R_alloc | apply Kd.R_drewN | apply Kd.R_drew)); exact HO141.out) (Kd.R_typed HO_11.out) (by decide) hg); have n2_ := Aside0.mk (Kd.R_over' (v := (.slice (some ⟨go49, 0, none⟩) y119.length co24)) (by (with_reducible repeat (first | apply Kd.R_alloc | apply Kd.R_drewN | apply Kd.R_drew)); exact HO146.out) (Kd.R_typed HO_11.out) (by decide) hg); have n3_ := Aside0.mk ((by rw [hw]; exact below_set (HB.out) GB49.out : Below w.heap.size w w66)); clear HO_11; clear HO141; clear HO146; clear HB; have HO_11 := n0_; have HO141 := n1_; have HO146 := n2_; have HB := n3_; clear n0_ n1_ n2_ n3_; clear hg hw hp_) | ((with_reducible refine gate_callee (f := 15) rfl ?_); refine goesL_ (some 124) rfl rfl Try.func15 (by kernel_rfl) rfl #[.slice (some ⟨go49, 0, none⟩) y147.length co24] rfl (by (try simp only [List.map_toArray, List.map_cons, List.map_nil]); first | done | (rw [show y147.length = y119.length from (Kd.R_reads' HO_11.out).1.symm] <;> rfl) | rfl | (simp only [List.length_drop, List.length_take]; rfl)) ?_; (with_reducible refine (code_Encode.calls kj20 _ _ y147 t148 t149 _ ?side1 ?side2 A54.out).mono ?_); (case side1 => repeat (first | exact (Kd.R_reads' HO_11.out).2.2 | (with_reducible refine Kd.C_alloc ?_ _) | (with_reducible refine Kd.C_drewN ?_ _) | (with_reducible refine Kd.C_drew ?_))); (case side2 => rw [show y147.length = y119.length from (Kd.R_reads' HO_11.out).1.symm]; exact (Kd.R_reads' HO_11.out).2.1); rintro e w67 ⟨v150, rfl, ho0, hb⟩; refine ⟨_, rfl, ?_⟩; have n0_ := Aside0.mk (Kd.R_below (by (with_reducible repeat (first | apply Kd.R_alloc | apply Kd.R_drewN | apply Kd.R_drew)); exact HO_11.out) hb); have n1_ := Aside0.mk (Kd.R_elder' (by (with_reducible repeat (first | apply Kd.R_alloc | apply Kd.R_drewN | apply Kd.R_drew)); exact HO141.out) (Kd.R_base ho0) hb); have n2_ := Aside0.mk (Kd.R_elder' (by (with_reducible repeat (first | apply Kd.R_alloc | apply Kd.R_drewN | apply Kd.R_drew)); exact HO146.out) (Kd.R_base ho0) hb); have n3_ := Aside0.mk (Kd.R_lower (Kd.R_new' (Kd.R_new' ho0 (Kd.R_lt (by (with_reducible repeat (first | apply Kd.R_alloc | apply Kd.R_drewN | apply Kd.R_drew)); exact HO141.out))) (Kd.R_lt (by (with_reducible repeat (first | apply Kd.R_alloc | apply Kd.R_drewN | apply Kd.R_drew)); exact HO146.out))) (below_size (by repeat (first | (with_reducible first | exact HB.out | apply below_alloc | apply pw_below_drewN | apply below_drew1) | exact HB.out)))); have n4_ := Aside0.mk (below_step (by repeat (first | (with_reducible first | exact HB.out | apply below_alloc | apply pw_below_drewN | apply below_drew1) | exact HB.out)) hb); clear HO_11; clear HO141; clear HO146; clear HB; have HO_11 := n0_; have HO141 := n1_; have HO146 := n2_; have HO151 := n3_; have HB := n4_; clear n0_ n1_ n2_ n3_ n4_; (try clear hb); (try clear hb2); (try clear hk); (try clear hi); (try clear ho0)) | (go_at_call 14; (with_reducible refine (carafelaw5_known.calls kj20  t152 _ A58.out).mono ?_); rintro e w68 ⟨rfl, hb⟩; have n0_ := Aside0.mk (Kd.R_below (by (with_reducible repeat (first | apply Kd.R_alloc | apply Kd.R_drewN | apply Kd.R_drew)); exact HO_11.out) hb); have n1_ := Aside0.mk (Kd.R_below (by (with_reducible repeat (first | apply Kd.R_alloc | apply Kd.R_drewN | apply Kd.R_drew)); exact HO141.out) hb); have n2_ := Aside0.mk (Kd.R_below (by (with_reducible repeat (first | apply Kd.R_alloc | apply Kd.R_drewN | apply Kd.R_drew)); exact HO146.out) hb); have n3_ := Aside0.mk (Kd.R_below (by (with_reducible repeat (first | apply Kd.R_alloc | apply Kd.R_drewN | apply Kd.R_drew)); exact HO151.out) hb); have n4_ := Aside0.mk (below_step (by repeat (first | (with_reducible first | exact HB.out | apply below_alloc | apply pw_below_drewN | apply below_drew1) | exact HB.out)) hb); clear HO_11; clear HO141; clear HO146; clear HO151; clear HB; have HO_11 := n0_; have HO141 := n1_; have HO146 := n2_; have HO151 := n3_; have HB := n4_; clear n0_ n1_ n2_ n3_ n4_; (try clear hb); (try clear hb2); (try clear hk); (try clear hi)))
                              go_ret
                              exact ⟨by first | rfl | (simp [errW_none, errW_some] <;> rfl) | (simp [*, errW_none, errW_some] <;> rfl), by repeat (first | (with_reducible first | exact HB.out | apply below_alloc | apply pw_below_drewN | apply below_drew1) | exact HB.out)⟩
                            · rw [if_neg c57] at H
                              have c57b0 : (t149 == 0) = false := beq_eq_false_iff_ne.mpr c57
                              have c57b1 : (t149 != 0) = true := bne_iff_ne.mpr c57
                              obtain rfl := Option.some.inj H
                              have p49 : 0 ≤ (t106 : Int) := of_decide_eq_true (by first | (with_reducible assumption) | assumption)
                              have q49 : (t106 : Int) < ((y119.length : Int) : Int) := of_decide_eq_true (by first | (with_reducible assumption) | assumption)
                              obtain ⟨go49, co49, eo49, gb49, gl49, cl49, HG49⟩ := Kd.R_form HO_11.out (by omega)
                              (first | cases eo49 | (injection eo49 with ea_ en_ ec_; (first | subst ea_ | (injection ea_ with ea_; subst ea_)); subst ec_; clear en_))
                              have GB49 := Aside0.mk gb49
                              have GG49 := Aside0.mk HG49
                              clear gb49 gl49 HG49
                              obtain ⟨ce49, hcl49, hM49, hcc49, hfr49⟩ := Kd.R_elem HO_11.out z32 (t106 : Int) p49 q49
                              obtain rfl := k32_openM hM49
                              have hx49_0 : wc.cell? ⟨go49, (t106 : Int).toNat * 4, none⟩ = some (.int .i64 ((rd_T32 y119 t106).f0)) := hcc49 0 _ rfl
                              have hx49_1 : wc.cell? ⟨go49, (t106 : Int).toNat * 4 + 1, none⟩ = some (.int .i64 ((rd_T32 y119 t106).f1)) := hcc49 1 _ rfl
                              have hx49_2 : wc.cell? ⟨go49, (t106 : Int).toNat * 4 + 2, none⟩ = some (.int .i64 ((rd_T32 y119 t106).f2)) := hcc49 2 _ rfl
                              have hx49_3 : wc.cell? ⟨go49, (t106 : Int).toNat * 4 + 3, none⟩ = some (.int .i64 ((rd_T32 y119 t106).f3)) := hcc49 3 _ rfl
                              have hf49_0 : wc.frozen? ⟨go49, (t106 : Int).toNat * 4, none⟩ = false := hfr49 0
                              have hf49_1 : wc.frozen? ⟨go49, (t106 : Int).toNat * 4 + 1, none⟩ = false := hfr49 1
                              have hf49_2 : wc.frozen? ⟨go49, (t106 : Int).toNat * 4 + 2, none⟩ = false := hfr49 2
                              have hf49_3 : wc.frozen? ⟨go49, (t106 : Int).toNat * 4 + 3, none⟩ = false := hfr49 3
                              clear hcl49 hcc49 hfr49 hM49
                              replace p49 := eq_true p49
                              replace q49 := eq_true q49
                              have HX69 := Aside0.mk (show Kd.R k32 32 wc w.heap.size (fun _ => True) (.slice (some ⟨go49, 0, none⟩) y119.length co24) y119 from (by (with_reducible repeat (first | apply Kd.R_alloc | apply Kd.R_drewN | apply Kd.R_drew)); exact HO_11.out))
                              obtain ⟨ce69, hcl69, hM69, hcc69, hfr69⟩ := Kd.R_elem HX69.out z32 (t106 : Int) (of_decide_eq_true (by first | (with_reducible assumption) | assumption)) (by have h_ : (t106 : Int) < ((y119.length : Int) : Int) := of_decide_eq_true (by first | (with_reducible assumption) | assumption); first | exact h_ | (have e_ := (Kd.R_reads' HO_11.out).1; omega) | simpa using h_)
                              obtain rfl := k32_openM hM69
                              have HP69 := Kd.R_seg HX69.out (t106 : Int) (of_decide_eq_true (by first | (with_reducible assumption) | assumption)) (by have h_ : (t106 : Int) < ((y119.length : Int) : Int) := of_decide_eq_true (by first | (with_reducible assumption) | assumption); first | exact h_ | (have e_ := (Kd.R_reads' HO_11.out).1; omega) | simpa using h_) (seg := [.int .i64 (wrap64 (t106 + 32768))]) (j := 2) hcl69 hcc69 (show 3 ≤ 4 from by decide) (x' := (⟨(rd_T32 y119 t106).f0, (rd_T32 y119 t106).f1, wrap64 (t106 + 32768), (rd_T32 y119 t106).f3⟩ : S32)) (k32_mkM _ _ _ (⟨(rd_T32 y119 t106).f0, (rd_T32 y119 t106).f1, wrap64 (t106 + 32768), (rd_T32 y119 t106).f3⟩ : S32) ) (fun _ hk => hk)
                              have hx69_2 := hcc69 2 _ rfl
                              (try simp only [show (k32).sz = 4 from rfl, Nat.mul_one, Nat.add_zero] at hx69_2)
                              have hf69_2 := hfr69 2
                              (try simp only [show (k32).sz = 4 from rfl, Nat.mul_one, Nat.add_zero] at hf69_2)
                              clear hcl69 hcc69 hfr69 hM69
                              go_wp2_with (first | ((with_reducible refine gate_store (t := 3) (p := 99) rfl ?_); refine store_event (t := 3) (p := 99) (v := ?vo_w70) (w1 := (wc.setCell ⟨go49, (t106 : Int).toNat * 4 + 2, none⟩ (.int .i64 (wrap64 (t106 + 32768))))) ?hg ?ho ?hn ?hr ?_; (case ho => rfl); (case hg => rfl); (case hn => rfl); (case hr => first | (go_simp; done) | (go_simp; rfl)); intro w70 hw; have hg : wc.grownBy w70 (some go49) := (by rw [hw]; exact HP69.2); have hp_ : Kd.R k32 32 w70 w.heap.size (fun _ => True) (.slice (some ⟨go49, 0, none⟩) y119.length co24) y137 := (by rw [hw, Ny137.out]; exact HP69.1); clear HP69; have n0_ := Aside0.mk (hp_); have n1_ := Aside0.mk ((by rw [hw]; exact below_set (HB.out) GB49.out : Below w.heap.size w w70)); clear HO_11; clear HB; have HO_11 := n0_; have HB := n1_; clear n0_ n1_; clear hg hw hp_) | ((with_reducible refine gate_callee (f := 15) rfl ?_); refine goesL_ (some 102) rfl rfl Try.func15 (by kernel_rfl) rfl #[.slice (some ⟨go49, 0, none⟩) y137.length co24] rfl (by (try simp only [List.map_toArray, List.map_cons, List.map_nil]); first | done | (rw [show y137.length = y119.length from (Kd.R_reads' HO_11.out).1.symm] <;> rfl) | rfl | (simp only [List.length_drop, List.length_take]; rfl)) ?_; (with_reducible refine (code_Encode.calls kj20 _ _ y137 t138 t139 _ ?side1 ?side2 A50.out).mono ?_); (case side1 => repeat (first | exact (Kd.R_reads' HO_11.out).2.2 | (with_reducible refine Kd.C_alloc ?_ _) | (with_reducible refine Kd.C_drewN ?_ _) | (with_reducible refine Kd.C_drew ?_))); (case side2 => rw [show y137.length = y119.length from (Kd.R_reads' HO_11.out).1.symm]; exact (Kd.R_reads' HO_11.out).2.1); rintro e w71 ⟨v140, rfl, ho0, hb⟩; refine ⟨_, rfl, ?_⟩; have n0_ := Aside0.mk (Kd.R_below (by (with_reducible repeat (first | apply Kd.R_alloc | apply Kd.R_drewN | apply Kd.R_drew)); exact HO_11.out) hb); have n1_ := Aside0.mk (Kd.R_lower ho0 (below_size (by repeat (first | (with_reducible first | exact HB.out | apply below_alloc | apply pw_below_drewN | apply below_drew1) | exact HB.out)))); have n2_ := Aside0.mk (below_step (by repeat (first | (with_reducible first | exact HB.out | apply below_alloc | apply pw_below_drewN | apply below_drew1) | exact HB.out)) hb); clear HO_11; clear HB; have HO_11 := n0_; have HO141 := n1_; have HB := n2_; clear n0_ n1_ n2_; (try clear hb); (try clear hb2); (try clear hk); (try clear hi); (try clear ho0); have p51 : 0 ≤ (t106 : Int) := of_decide_eq_true (by first | (with_reducible assumption) | assumption); have q51 : (t106 : Int) < ((y119.length : Int) : Int) := of_decide_eq_true (by first | (with_reducible assumption) | assumption); obtain ⟨ce51, hcl51, hM51, hcc51, hfr51⟩ := Kd.R_elem HO_11.out z32 (t106 : Int) p51 q51; obtain rfl := k32_openM hM51; have hx51_0 : w71.cell? ⟨go49, (t106 : Int).toNat * 4, none⟩ = some (.int .i64 ((rd_T32 y137 t106).f0)) := hcc51 0 _ rfl; have hx51_1 : w71.cell? ⟨go49, (t106 : Int).toNat * 4 + 1, none⟩ = some (.int .i64 ((rd_T32 y137 t106).f1)) := hcc51 1 _ rfl; have hx51_2 : w71.cell? ⟨go49, (t106 : Int).toNat * 4 + 2, none⟩ = some (.int .i64 ((rd_T32 y137 t106).f2)) := hcc51 2 _ rfl; have hx51_3 : w71.cell? ⟨go49, (t106 : Int).toNat * 4 + 3, none⟩ = some (.int .i64 ((rd_T32 y137 t106).f3)) := hcc51 3 _ rfl; have hf51_0 : w71.frozen? ⟨go49, (t106 : Int).toNat * 4, none⟩ = false := hfr51 0; have hf51_1 : w71.frozen? ⟨go49, (t106 : Int).toNat * 4 + 1, none⟩ = false := hfr51 1; have hf51_2 : w71.frozen? ⟨go49, (t106 : Int).toNat * 4 + 2, none⟩ = false := hfr51 2; have hf51_3 : w71.frozen? ⟨go49, (t106 : Int).toNat * 4 + 3, none⟩ = false := hfr51 3; clear hcl51 hcc51 hfr51 hM51; replace p51 := eq_true p51; replace q51 := eq_true q51; have HX72 := Aside0.mk (show Kd.R k32 32 w71 w.heap.size (fun _ => True) (.slice (some ⟨go49, 0, none⟩) y119.length co24) y137 from (by (with_reducible repeat (first | apply Kd.R_alloc | apply Kd.R_drewN | apply Kd.R_drew)); exact HO_11.out)); obtain ⟨ce72, hcl72, hM72, hcc72, hfr72⟩ := Kd.R_elem HX72.out z32 (t106 : Int) (of_decide_eq_true (by first | (with_reducible assumption) | assumption)) (by have h_ : (t106 : Int) < ((y119.length : Int) : Int) := of_decide_eq_true (by first | (with_reducible assumption) | assumption); first | exact h_ | (have e_ := (Kd.R_reads' HO_11.out).1; omega) | simpa using h_); obtain rfl := k32_openM hM72; have HP72 := Kd.R_seg HX72.out (t106 : Int) (of_decide_eq_true (by first | (with_reducible assumption) | assumption)) (by have h_ : (t106 : Int) < ((y119.length : Int) : Int) := of_decide_eq_true (by first | (with_reducible assumption) | assumption); first | exact h_ | (have e_ := (Kd.R_reads' HO_11.out).1; omega) | simpa using h_) (seg := [.int .i64 (wrap64 (t106 - 32769))]) (j := 2) hcl72 hcc72 (show 3 ≤ 4 from by decide) (x' := (⟨(rd_T32 y137 t106).f0, (rd_T32 y137 t106).f1, wrap64 (t106 - 32769), (rd_T32 y137 t106).f3⟩ : S32)) (k32_mkM _ _ _ (⟨(rd_T32 y137 t106).f0, (rd_T32 y137 t106).f1, wrap64 (t106 - 32769), (rd_T32 y137 t106).f3⟩ : S32) ) (fun _ hk => hk); have hx72_2 := hcc72 2 _ rfl; (try simp only [show (k32).sz = 4 from rfl, Nat.mul_one, Nat.add_zero] at hx72_2); have hf72_2 := hfr72 2; (try simp only [show (k32).sz = 4 from rfl, Nat.mul_one, Nat.add_zero] at hf72_2); clear hcl72 hcc72 hfr72 hM72) | ((with_reducible refine gate_store (t := 3) (p := 110) rfl ?_); refine store_event (t := 3) (p := 110) (v := ?vo_w73) (w1 := (w71.setCell ⟨go49, (t106 : Int).toNat * 4 + 2, none⟩ (.int .i64 (wrap64 (t106 - 32769))))) ?hg ?ho ?hn ?hr ?_; (case ho => rfl); (case hg => rfl); (case hn => rfl); (case hr => first | (go_simp; done) | (go_simp; rfl)); intro w73 hw; have hg : w71.grownBy w73 (some go49) := (by rw [hw]; exact HP72.2); have hp_ : Kd.R k32 32 w73 w.heap.size (fun _ => True) (.slice (some ⟨go49, 0, none⟩) y119.length co24) y142 := (by rw [hw, Ny142.out]; exact HP72.1); clear HP72; have n0_ := Aside0.mk (hp_); have n1_ := Aside0.mk (Kd.R_over' (v := (.slice (some ⟨go49, 0, none⟩) y119.length co24)) (by (with_reducible repeat (first | apply Kd.R_alloc | apply Kd.R_drewN | apply Kd.R_drew)); exact HO141.out) (Kd.R_typed HO_11.out) (by decide) hg); have n2_ := Aside0.mk ((by rw [hw]; exact below_set (HB.out) GB49.out : Below w.heap.size w w73)); clear HO_11; clear HO141; clear HB; have HO_11 := n0_; have HO141 := n1_; have HB := n2_; clear n0_ n1_ n2_; clear hg hw hp_) | ((with_reducible refine gate_callee (f := 15) rfl ?_); refine goesL_ (some 113) rfl rfl Try.func15 (by kernel_rfl) rfl #[.slice (some ⟨go49, 0, none⟩) y142.length co24] rfl (by (try simp only [List.map_toArray, List.map_cons, List.map_nil]); first | done | (rw [show y142.length = y119.length from (Kd.R_reads' HO_11.out).1.symm] <;> rfl) | rfl | (simp only [List.length_drop, List.length_take]; rfl)) ?_; (with_reducible refine (code_Encode.calls kj20 _ _ y142 t143 t144 _ ?side1 ?side2 A52.out).mono ?_); (case side1 => repeat (first | exact (Kd.R_reads' HO_11.out).2.2 | (with_reducible refine Kd.C_alloc ?_ _) | (with_reducible refine Kd.C_drewN ?_ _) | (with_reducible refine Kd.C_drew ?_))); (case side2 => rw [show y142.length = y119.length from (Kd.R_reads' HO_11.out).1.symm]; exact (Kd.R_reads' HO_11.out).2.1); rintro e w74 ⟨v145, rfl, ho0, hb⟩; refine ⟨_, rfl, ?_⟩; have n0_ := Aside0.mk (Kd.R_below (by (with_reducible repeat (first | apply Kd.R_alloc | apply Kd.R_drewN | apply Kd.R_drew)); exact HO_11.out) hb); have n1_ := Aside0.mk (Kd.R_elder' (by (with_reducible repeat (first | apply Kd.R_alloc | apply Kd.R_drewN | apply Kd.R_drew)); exact HO141.out) (Kd.R_base ho0) hb); have n2_ := Aside0.mk (Kd.R_lower (Kd.R_new' ho0 (Kd.R_lt (by (with_reducible repeat (first | apply Kd.R_alloc | apply Kd.R_drewN | apply Kd.R_drew)); exact HO141.out))) (below_size (by repeat (first | (with_reducible first | exact HB.out | apply below_alloc | apply pw_below_drewN | apply below_drew1) | exact HB.out)))); have n3_ := Aside0.mk (below_step (by repeat (first | (with_reducible first | exact HB.out | apply below_alloc | apply pw_below_drewN | apply below_drew1) | exact HB.out)) hb); clear HO_11; clear HO141; clear HB; have HO_11 := n0_; have HO141 := n1_; have HO146 := n2_; have HB := n3_; clear n0_ n1_ n2_ n3_; (try clear hb); (try clear hb2); (try clear hk); (try clear hi); (try clear ho0); have p53 : 0 ≤ (t106 : Int) := of_decide_eq_true (by first | (with_reducible assumption) | assumption); have q53 : (t106 : Int) < ((y119.length : Int) : Int) := of_decide_eq_true (by first | (with_reducible assumption) | assumption); obtain ⟨ce53, hcl53, hM53, hcc53, hfr53⟩ := Kd.R_elem HO_11.out z32 (t106 : Int) p53 q53; obtain rfl := k32_openM hM53; have hx53_0 : w74.cell? ⟨go49, (t106 : Int).toNat * 4, none⟩ = some (.int .i64 ((rd_T32 y142 t106).f0)) := hcc53 0 _ rfl; have hx53_1 : w74.cell? ⟨go49, (t106 : Int).toNat * 4 + 1, none⟩ = some (.int .i64 ((rd_T32 y142 t106).f1)) := hcc53 1 _ rfl; have hx53_2 : w74.cell? ⟨go49, (t106 : Int).toNat * 4 + 2, none⟩ = some (.int .i64 ((rd_T32 y142 t106).f2)) := hcc53 2 _ rfl; have hx53_3 : w74.cell? ⟨go49, (t106 : Int).toNat * 4 + 3, none⟩ = some (.int .i64 ((rd_T32 y142 t106).f3)) := hcc53 3 _ rfl; have hf53_0 : w74.frozen? ⟨go49, (t106 : Int).toNat * 4, none⟩ = false := hfr53 0; have hf53_1 : w74.frozen? ⟨go49, (t106 : Int).toNat * 4 + 1, none⟩ = false := hfr53 1; have hf53_2 : w74.frozen? ⟨go49, (t106 : Int).toNat * 4 + 2, none⟩ = false := hfr53 2; have hf53_3 : w74.frozen? ⟨go49, (t106 : Int).toNat * 4 + 3, none⟩ = false := hfr53 3; clear hcl53 hcc53 hfr53 hM53; replace p53 := eq_true p53; replace q53 := eq_true q53; have HX75 := Aside0.mk (show Kd.R k32 32 w74 w.heap.size (fun _ => True) (.slice (some ⟨go49, 0, none⟩) y119.length co24) y142 from (by (with_reducible repeat (first | apply Kd.R_alloc | apply Kd.R_drewN | apply Kd.R_drew)); exact HO_11.out)); obtain ⟨ce75, hcl75, hM75, hcc75, hfr75⟩ := Kd.R_elem HX75.out z32 (t106 : Int) (of_decide_eq_true (by first | (with_reducible assumption) | assumption)) (by have h_ : (t106 : Int) < ((y119.length : Int) : Int) := of_decide_eq_true (by first | (with_reducible assumption) | assumption); first | exact h_ | (have e_ := (Kd.R_reads' HO_11.out).1; omega) | simpa using h_); obtain rfl := k32_openM hM75; have HP75 := Kd.R_seg HX75.out (t106 : Int) (of_decide_eq_true (by first | (with_reducible assumption) | assumption)) (by have h_ : (t106 : Int) < ((y119.length : Int) : Int) := of_decide_eq_true (by first | (with_reducible assumption) | assumption); first | exact h_ | (have e_ := (Kd.R_reads' HO_11.out).1; omega) | simpa using h_) (seg := [.int .i64 (wrap64 (t106 - 32768))]) (j := 2) hcl75 hcc75 (show 3 ≤ 4 from by decide) (x' := (⟨(rd_T32 y142 t106).f0, (rd_T32 y142 t106).f1, wrap64 (t106 - 32768), (rd_T32 y142 t106).f3⟩ : S32)) (k32_mkM _ _ _ (⟨(rd_T32 y142 t106).f0, (rd_T32 y142 t106).f1, wrap64 (t106 - 32768), (rd_T32 y142 t106).f3⟩ : S32) ) (fun _ hk => hk); have hx75_2 := hcc75 2 _ rfl; (try simp only [show (k32).sz = 4 from rfl, Nat.mul_one, Nat.add_zero] at hx75_2); have hf75_2 := hfr75 2; (try simp only [show (k32).sz = 4 from rfl, Nat.mul_one, Nat.add_zero] at hf75_2); clear hcl75 hcc75 hfr75 hM75) | ((with_reducible refine gate_store (t := 3) (p := 121) rfl ?_); refine store_event (t := 3) (p := 121) (v := ?vo_w76) (w1 := (w74.setCell ⟨go49, (t106 : Int).toNat * 4 + 2, none⟩ (.int .i64 (wrap64 (t106 - 32768))))) ?hg ?ho ?hn ?hr ?_; (case ho => rfl); (case hg => rfl); (case hn => rfl); (case hr => first | (go_simp; done) | (go_simp; rfl)); intro w76 hw; have hg : w74.grownBy w76 (some go49) := (by rw [hw]; exact HP75.2); have hp_ : Kd.R k32 32 w76 w.heap.size (fun _ => True) (.slice (some ⟨go49, 0, none⟩) y119.length co24) y147 := (by rw [hw, Ny147.out]; exact HP75.1); clear HP75; have n0_ := Aside0.mk (hp_); have n1_ := Aside0.mk (Kd.R_over' (v := (.slice (some ⟨go49, 0, none⟩) y119.length co24)) (by (with_reducible repeat (first | apply Kd.R_alloc | apply Kd.R_drewN | apply Kd.R_drew)); exact HO141.out) (Kd.R_typed HO_11.out) (by decide) hg); have n2_ := Aside0.mk (Kd.R_over' (v := (.slice (some ⟨go49, 0, none⟩) y119.length co24)) (by (with_reducible repeat (first | apply Kd.R_alloc | apply Kd.R_drewN | apply Kd.R_drew)); exact HO146.out) (Kd.R_typed HO_11.out) (by decide) hg); have n3_ := Aside0.mk ((by rw [hw]; exact below_set (HB.out) GB49.out : Below w.heap.size w w76)); clear HO_11; clear HO141; clear HO146; clear HB; have HO_11 := n0_; have HO141 := n1_; have HO146 := n2_; have HB := n3_; clear n0_ n1_ n2_ n3_; clear hg hw hp_) | ((with_reducible refine gate_callee (f := 15) rfl ?_); refine goesL_ (some 124) rfl rfl Try.func15 (by kernel_rfl) rfl #[.slice (some ⟨go49, 0, none⟩) y147.length co24] rfl (by (try simp only [List.map_toArray, List.map_cons, List.map_nil]); first | done | (rw [show y147.length = y119.length from (Kd.R_reads' HO_11.out).1.symm] <;> rfl) | rfl | (simp only [List.length_drop, List.length_take]; rfl)) ?_; (with_reducible refine (code_Encode.calls kj20 _ _ y147 t148 t149 _ ?side1 ?side2 A54.out).mono ?_); (case side1 => repeat (first | exact (Kd.R_reads' HO_11.out).2.2 | (with_reducible refine Kd.C_alloc ?_ _) | (with_reducible refine Kd.C_drewN ?_ _) | (with_reducible refine Kd.C_drew ?_))); (case side2 => rw [show y147.length = y119.length from (Kd.R_reads' HO_11.out).1.symm]; exact (Kd.R_reads' HO_11.out).2.1); rintro e w77 ⟨v150, rfl, ho0, hb⟩; refine ⟨_, rfl, ?_⟩; have n0_ := Aside0.mk (Kd.R_below (by (with_reducible repeat (first | apply Kd.R_alloc | apply Kd.R_drewN | apply Kd.R_drew)); exact HO_11.out) hb); have n1_ := Aside0.mk (Kd.R_elder' (by (with_reducible repeat (first | apply Kd.R_alloc | apply Kd.R_drewN | apply Kd.R_drew)); exact HO141.out) (Kd.R_base ho0) hb); have n2_ := Aside0.mk (Kd.R_elder' (by (with_reducible repeat (first | apply Kd.R_alloc | apply Kd.R_drewN | apply Kd.R_drew)); exact HO146.out) (Kd.R_base ho0) hb); have n3_ := Aside0.mk (Kd.R_lower (Kd.R_new' (Kd.R_new' ho0 (Kd.R_lt (by (with_reducible repeat (first | apply Kd.R_alloc | apply Kd.R_drewN | apply Kd.R_drew)); exact HO141.out))) (Kd.R_lt (by (with_reducible repeat (first | apply Kd.R_alloc | apply Kd.R_drewN | apply Kd.R_drew)); exact HO146.out))) (below_size (by repeat (first | (with_reducible first | exact HB.out | apply below_alloc | apply pw_below_drewN | apply below_drew1) | exact HB.out)))); have n4_ := Aside0.mk (below_step (by repeat (first | (with_reducible first | exact HB.out | apply below_alloc | apply pw_below_drewN | apply below_drew1) | exact HB.out)) hb); clear HO_11; clear HO141; clear HO146; clear HB; have HO_11 := n0_; have HO141 := n1_; have HO146 := n2_; have HO151 := n3_; have HB := n4_; clear n0_ n1_ n2_ n3_ n4_; (try clear hb); (try clear hb2); (try clear hk); (try clear hi); (try clear ho0)))
                              go_ret
                              exact ⟨by first | rfl | (simp [errW_none, errW_some] <;> rfl) | (simp [*, errW_none, errW_some] <;> rfl), by repeat (first | (with_reducible first | exact HB.out | apply below_alloc | apply pw_below_drewN | apply below_drew1) | exact HB.out)⟩
                          · rw [if_neg c56] at H
                            have c56b0 : (t144 == 1) = false := beq_eq_false_iff_ne.mpr c56
                            have c56b1 : (t144 != 1) = true := bne_iff_ne.mpr c56
                            obtain rfl := Option.some.inj H
                            have p49 : 0 ≤ (t106 : Int) := of_decide_eq_true (by first | (with_reducible assumption) | assumption)
                            have q49 : (t106 : Int) < ((y119.length : Int) : Int) := of_decide_eq_true (by first | (with_reducible assumption) | assumption)
                            obtain ⟨go49, co49, eo49, gb49, gl49, cl49, HG49⟩ := Kd.R_form HO_11.out (by omega)
                            (first | cases eo49 | (injection eo49 with ea_ en_ ec_; (first | subst ea_ | (injection ea_ with ea_; subst ea_)); subst ec_; clear en_))
                            have GB49 := Aside0.mk gb49
                            have GG49 := Aside0.mk HG49
                            clear gb49 gl49 HG49
                            obtain ⟨ce49, hcl49, hM49, hcc49, hfr49⟩ := Kd.R_elem HO_11.out z32 (t106 : Int) p49 q49
                            obtain rfl := k32_openM hM49
                            have hx49_0 : wc.cell? ⟨go49, (t106 : Int).toNat * 4, none⟩ = some (.int .i64 ((rd_T32 y119 t106).f0)) := hcc49 0 _ rfl
                            have hx49_1 : wc.cell? ⟨go49, (t106 : Int).toNat * 4 + 1, none⟩ = some (.int .i64 ((rd_T32 y119 t106).f1)) := hcc49 1 _ rfl
                            have hx49_2 : wc.cell? ⟨go49, (t106 : Int).toNat * 4 + 2, none⟩ = some (.int .i64 ((rd_T32 y119 t106).f2)) := hcc49 2 _ rfl
                            have hx49_3 : wc.cell? ⟨go49, (t106 : Int).toNat * 4 + 3, none⟩ = some (.int .i64 ((rd_T32 y119 t106).f3)) := hcc49 3 _ rfl
                            have hf49_0 : wc.frozen? ⟨go49, (t106 : Int).toNat * 4, none⟩ = false := hfr49 0
                            have hf49_1 : wc.frozen? ⟨go49, (t106 : Int).toNat * 4 + 1, none⟩ = false := hfr49 1
                            have hf49_2 : wc.frozen? ⟨go49, (t106 : Int).toNat * 4 + 2, none⟩ = false := hfr49 2
                            have hf49_3 : wc.frozen? ⟨go49, (t106 : Int).toNat * 4 + 3, none⟩ = false := hfr49 3
                            clear hcl49 hcc49 hfr49 hM49
                            replace p49 := eq_true p49
                            replace q49 := eq_true q49
                            have HX78 := Aside0.mk (show Kd.R k32 32 wc w.heap.size (fun _ => True) (.slice (some ⟨go49, 0, none⟩) y119.length co24) y119 from (by (with_reducible repeat (first | apply Kd.R_alloc | apply Kd.R_drewN | apply Kd.R_drew)); exact HO_11.out))
                            obtain ⟨ce78, hcl78, hM78, hcc78, hfr78⟩ := Kd.R_elem HX78.out z32 (t106 : Int) (of_decide_eq_true (by first | (with_reducible assumption) | assumption)) (by have h_ : (t106 : Int) < ((y119.length : Int) : Int) := of_decide_eq_true (by first | (with_reducible assumption) | assumption); first | exact h_ | (have e_ := (Kd.R_reads' HO_11.out).1; omega) | simpa using h_)
                            obtain rfl := k32_openM hM78
                            have HP78 := Kd.R_seg HX78.out (t106 : Int) (of_decide_eq_true (by first | (with_reducible assumption) | assumption)) (by have h_ : (t106 : Int) < ((y119.length : Int) : Int) := of_decide_eq_true (by first | (with_reducible assumption) | assumption); first | exact h_ | (have e_ := (Kd.R_reads' HO_11.out).1; omega) | simpa using h_) (seg := [.int .i64 (wrap64 (t106 + 32768))]) (j := 2) hcl78 hcc78 (show 3 ≤ 4 from by decide) (x' := (⟨(rd_T32 y119 t106).f0, (rd_T32 y119 t106).f1, wrap64 (t106 + 32768), (rd_T32 y119 t106).f3⟩ : S32)) (k32_mkM _ _ _ (⟨(rd_T32 y119 t106).f0, (rd_T32 y119 t106).f1, wrap64 (t106 + 32768), (rd_T32 y119 t106).f3⟩ : S32) ) (fun _ hk => hk)
                            have hx78_2 := hcc78 2 _ rfl
                            (try simp only [show (k32).sz = 4 from rfl, Nat.mul_one, Nat.add_zero] at hx78_2)
                            have hf78_2 := hfr78 2
                            (try simp only [show (k32).sz = 4 from rfl, Nat.mul_one, Nat.add_zero] at hf78_2)
                            clear hcl78 hcc78 hfr78 hM78
                            go_wp2_with (first | ((with_reducible refine gate_store (t := 3) (p := 99) rfl ?_); refine store_event (t := 3) (p := 99) (v := ?vo_w79) (w1 := (wc.setCell ⟨go49, (t106 : Int).toNat * 4 + 2, none⟩ (.int .i64 (wrap64 (t106 + 32768))))) ?hg ?ho ?hn ?hr ?_; (case ho => rfl); (case hg => rfl); (case hn => rfl); (case hr => first | (go_simp; done) | (go_simp; rfl)); intro w79 hw; have hg : wc.grownBy w79 (some go49) := (by rw [hw]; exact HP78.2); have hp_ : Kd.R k32 32 w79 w.heap.size (fun _ => True) (.slice (some ⟨go49, 0, none⟩) y119.length co24) y137 := (by rw [hw, Ny137.out]; exact HP78.1); clear HP78; have n0_ := Aside0.mk (hp_); have n1_ := Aside0.mk ((by rw [hw]; exact below_set (HB.out) GB49.out : Below w.heap.size w w79)); clear HO_11; clear HB; have HO_11 := n0_; have HB := n1_; clear n0_ n1_; clear hg hw hp_) | ((with_reducible refine gate_callee (f := 15) rfl ?_); refine goesL_ (some 102) rfl rfl Try.func15 (by kernel_rfl) rfl #[.slice (some ⟨go49, 0, none⟩) y137.length co24] rfl (by (try simp only [List.map_toArray, List.map_cons, List.map_nil]); first | done | (rw [show y137.length = y119.length from (Kd.R_reads' HO_11.out).1.symm] <;> rfl) | rfl | (simp only [List.length_drop, List.length_take]; rfl)) ?_; (with_reducible refine (code_Encode.calls kj20 _ _ y137 t138 t139 _ ?side1 ?side2 A50.out).mono ?_); (case side1 => repeat (first | exact (Kd.R_reads' HO_11.out).2.2 | (with_reducible refine Kd.C_alloc ?_ _) | (with_reducible refine Kd.C_drewN ?_ _) | (with_reducible refine Kd.C_drew ?_))); (case side2 => rw [show y137.length = y119.length from (Kd.R_reads' HO_11.out).1.symm]; exact (Kd.R_reads' HO_11.out).2.1); rintro e w80 ⟨v140, rfl, ho0, hb⟩; refine ⟨_, rfl, ?_⟩; have n0_ := Aside0.mk (Kd.R_below (by (with_reducible repeat (first | apply Kd.R_alloc | apply Kd.R_drewN | apply Kd.R_drew)); exact HO_11.out) hb); have n1_ := Aside0.mk (Kd.R_lower ho0 (below_size (by repeat (first | (with_reducible first | exact HB.out | apply below_alloc | apply pw_below_drewN | apply below_drew1) | exact HB.out)))); have n2_ := Aside0.mk (below_step (by repeat (first | (with_reducible first | exact HB.out | apply below_alloc | apply pw_below_drewN | apply below_drew1) | exact HB.out)) hb); clear HO_11; clear HB; have HO_11 := n0_; have HO141 := n1_; have HB := n2_; clear n0_ n1_ n2_; (try clear hb); (try clear hb2); (try clear hk); (try clear hi); (try clear ho0); have p51 : 0 ≤ (t106 : Int) := of_decide_eq_true (by first | (with_reducible assumption) | assumption); have q51 : (t106 : Int) < ((y119.length : Int) : Int) := of_decide_eq_true (by first | (with_reducible assumption) | assumption); obtain ⟨ce51, hcl51, hM51, hcc51, hfr51⟩ := Kd.R_elem HO_11.out z32 (t106 : Int) p51 q51; obtain rfl := k32_openM hM51; have hx51_0 : w80.cell? ⟨go49, (t106 : Int).toNat * 4, none⟩ = some (.int .i64 ((rd_T32 y137 t106).f0)) := hcc51 0 _ rfl; have hx51_1 : w80.cell? ⟨go49, (t106 : Int).toNat * 4 + 1, none⟩ = some (.int .i64 ((rd_T32 y137 t106).f1)) := hcc51 1 _ rfl; have hx51_2 : w80.cell? ⟨go49, (t106 : Int).toNat * 4 + 2, none⟩ = some (.int .i64 ((rd_T32 y137 t106).f2)) := hcc51 2 _ rfl; have hx51_3 : w80.cell? ⟨go49, (t106 : Int).toNat * 4 + 3, none⟩ = some (.int .i64 ((rd_T32 y137 t106).f3)) := hcc51 3 _ rfl; have hf51_0 : w80.frozen? ⟨go49, (t106 : Int).toNat * 4, none⟩ = false := hfr51 0; have hf51_1 : w80.frozen? ⟨go49, (t106 : Int).toNat * 4 + 1, none⟩ = false := hfr51 1; have hf51_2 : w80.frozen? ⟨go49, (t106 : Int).toNat * 4 + 2, none⟩ = false := hfr51 2; have hf51_3 : w80.frozen? ⟨go49, (t106 : Int).toNat * 4 + 3, none⟩ = false := hfr51 3; clear hcl51 hcc51 hfr51 hM51; replace p51 := eq_true p51; replace q51 := eq_true q51; have HX81 := Aside0.mk (show Kd.R k32 32 w80 w.heap.size (fun _ => True) (.slice (some ⟨go49, 0, none⟩) y119.length co24) y137 from (by (with_reducible repeat (first | apply Kd.R_alloc | apply Kd.R_drewN | apply Kd.R_drew)); exact HO_11.out)); obtain ⟨ce81, hcl81, hM81, hcc81, hfr81⟩ := Kd.R_elem HX81.out z32 (t106 : Int) (of_decide_eq_true (by first | (with_reducible assumption) | assumption)) (by have h_ : (t106 : Int) < ((y119.length : Int) : Int) := of_decide_eq_true (by first | (with_reducible assumption) | assumption); first | exact h_ | (have e_ := (Kd.R_reads' HO_11.out).1; omega) | simpa using h_); obtain rfl := k32_openM hM81; have HP81 := Kd.R_seg HX81.out (t106 : Int) (of_decide_eq_true (by first | (with_reducible assumption) | assumption)) (by have h_ : (t106 : Int) < ((y119.length : Int) : Int) := of_decide_eq_true (by first | (with_reducible assumption) | assumption); first | exact h_ | (have e_ := (Kd.R_reads' HO_11.out).1; omega) | simpa using h_) (seg := [.int .i64 (wrap64 (t106 - 32769))]) (j := 2) hcl81 hcc81 (show 3 ≤ 4 from by decide) (x' := (⟨(rd_T32 y137 t106).f0, (rd_T32 y137 t106).f1, wrap64 (t106 - 32769), (rd_T32 y137 t106).f3⟩ : S32)) (k32_mkM _ _ _ (⟨(rd_T32 y137 t106).f0, (rd_T32 y137 t106).f1, wrap64 (t106 - 32769), (rd_T32 y137 t106).f3⟩ : S32) ) (fun _ hk => hk); have hx81_2 := hcc81 2 _ rfl; (try simp only [show (k32).sz = 4 from rfl, Nat.mul_one, Nat.add_zero] at hx81_2); have hf81_2 := hfr81 2; (try simp only [show (k32).sz = 4 from rfl, Nat.mul_one, Nat.add_zero] at hf81_2); clear hcl81 hcc81 hfr81 hM81) | ((with_reducible refine gate_store (t := 3) (p := 110) rfl ?_); refine store_event (t := 3) (p := 110) (v := ?vo_w82) (w1 := (w80.setCell ⟨go49, (t106 : Int).toNat * 4 + 2, none⟩ (.int .i64 (wrap64 (t106 - 32769))))) ?hg ?ho ?hn ?hr ?_; (case ho => rfl); (case hg => rfl); (case hn => rfl); (case hr => first | (go_simp; done) | (go_simp; rfl)); intro w82 hw; have hg : w80.grownBy w82 (some go49) := (by rw [hw]; exact HP81.2); have hp_ : Kd.R k32 32 w82 w.heap.size (fun _ => True) (.slice (some ⟨go49, 0, none⟩) y119.length co24) y142 := (by rw [hw, Ny142.out]; exact HP81.1); clear HP81; have n0_ := Aside0.mk (hp_); have n1_ := Aside0.mk (Kd.R_over' (v := (.slice (some ⟨go49, 0, none⟩) y119.length co24)) (by (with_reducible repeat (first | apply Kd.R_alloc | apply Kd.R_drewN | apply Kd.R_drew)); exact HO141.out) (Kd.R_typed HO_11.out) (by decide) hg); have n2_ := Aside0.mk ((by rw [hw]; exact below_set (HB.out) GB49.out : Below w.heap.size w w82)); clear HO_11; clear HO141; clear HB; have HO_11 := n0_; have HO141 := n1_; have HB := n2_; clear n0_ n1_ n2_; clear hg hw hp_) | ((with_reducible refine gate_callee (f := 15) rfl ?_); refine goesL_ (some 113) rfl rfl Try.func15 (by kernel_rfl) rfl #[.slice (some ⟨go49, 0, none⟩) y142.length co24] rfl (by (try simp only [List.map_toArray, List.map_cons, List.map_nil]); first | done | (rw [show y142.length = y119.length from (Kd.R_reads' HO_11.out).1.symm] <;> rfl) | rfl | (simp only [List.length_drop, List.length_take]; rfl)) ?_; (with_reducible refine (code_Encode.calls kj20 _ _ y142 t143 t144 _ ?side1 ?side2 A52.out).mono ?_); (case side1 => repeat (first | exact (Kd.R_reads' HO_11.out).2.2 | (with_reducible refine Kd.C_alloc ?_ _) | (with_reducible refine Kd.C_drewN ?_ _) | (with_reducible refine Kd.C_drew ?_))); (case side2 => rw [show y142.length = y119.length from (Kd.R_reads' HO_11.out).1.symm]; exact (Kd.R_reads' HO_11.out).2.1); rintro e w83 ⟨v145, rfl, ho0, hb⟩; refine ⟨_, rfl, ?_⟩; have n0_ := Aside0.mk (Kd.R_below (by (with_reducible repeat (first | apply Kd.R_alloc | apply Kd.R_drewN | apply Kd.R_drew)); exact HO_11.out) hb); have n1_ := Aside0.mk (Kd.R_elder' (by (with_reducible repeat (first | apply Kd.R_alloc | apply Kd.R_drewN | apply Kd.R_drew)); exact HO141.out) (Kd.R_base ho0) hb); have n2_ := Aside0.mk (Kd.R_lower (Kd.R_new' ho0 (Kd.R_lt (by (with_reducible repeat (first | apply Kd.R_alloc | apply Kd.R_drewN | apply Kd.R_drew)); exact HO141.out))) (below_size (by repeat (first | (with_reducible first | exact HB.out | apply below_alloc | apply pw_below_drewN | apply below_drew1) | exact HB.out)))); have n3_ := Aside0.mk (below_step (by repeat (first | (with_reducible first | exact HB.out | apply below_alloc | apply pw_below_drewN | apply below_drew1) | exact HB.out)) hb); clear HO_11; clear HO141; clear HB; have HO_11 := n0_; have HO141 := n1_; have HO146 := n2_; have HB := n3_; clear n0_ n1_ n2_ n3_; (try clear hb); (try clear hb2); (try clear hk); (try clear hi); (try clear ho0); have p53 : 0 ≤ (t106 : Int) := of_decide_eq_true (by first | (with_reducible assumption) | assumption); have q53 : (t106 : Int) < ((y119.length : Int) : Int) := of_decide_eq_true (by first | (with_reducible assumption) | assumption); obtain ⟨ce53, hcl53, hM53, hcc53, hfr53⟩ := Kd.R_elem HO_11.out z32 (t106 : Int) p53 q53; obtain rfl := k32_openM hM53; have hx53_0 : w83.cell? ⟨go49, (t106 : Int).toNat * 4, none⟩ = some (.int .i64 ((rd_T32 y142 t106).f0)) := hcc53 0 _ rfl; have hx53_1 : w83.cell? ⟨go49, (t106 : Int).toNat * 4 + 1, none⟩ = some (.int .i64 ((rd_T32 y142 t106).f1)) := hcc53 1 _ rfl; have hx53_2 : w83.cell? ⟨go49, (t106 : Int).toNat * 4 + 2, none⟩ = some (.int .i64 ((rd_T32 y142 t106).f2)) := hcc53 2 _ rfl; have hx53_3 : w83.cell? ⟨go49, (t106 : Int).toNat * 4 + 3, none⟩ = some (.int .i64 ((rd_T32 y142 t106).f3)) := hcc53 3 _ rfl; have hf53_0 : w83.frozen? ⟨go49, (t106 : Int).toNat * 4, none⟩ = false := hfr53 0; have hf53_1 : w83.frozen? ⟨go49, (t106 : Int).toNat * 4 + 1, none⟩ = false := hfr53 1; have hf53_2 : w83.frozen? ⟨go49, (t106 : Int).toNat * 4 + 2, none⟩ = false := hfr53 2; have hf53_3 : w83.frozen? ⟨go49, (t106 : Int).toNat * 4 + 3, none⟩ = false := hfr53 3; clear hcl53 hcc53 hfr53 hM53; replace p53 := eq_true p53; replace q53 := eq_true q53; have HX84 := Aside0.mk (show Kd.R k32 32 w83 w.heap.size (fun _ => True) (.slice (some ⟨go49, 0, none⟩) y119.length co24) y142 from (by (with_reducible repeat (first | apply Kd.R_alloc | apply Kd.R_drewN | apply Kd.R_drew)); exact HO_11.out)); obtain ⟨ce84, hcl84, hM84, hcc84, hfr84⟩ := Kd.R_elem HX84.out z32 (t106 : Int) (of_decide_eq_true (by first | (with_reducible assumption) | assumption)) (by have h_ : (t106 : Int) < ((y119.length : Int) : Int) := of_decide_eq_true (by first | (with_reducible assumption) | assumption); first | exact h_ | (have e_ := (Kd.R_reads' HO_11.out).1; omega) | simpa using h_); obtain rfl := k32_openM hM84; have HP84 := Kd.R_seg HX84.out (t106 : Int) (of_decide_eq_true (by first | (with_reducible assumption) | assumption)) (by have h_ : (t106 : Int) < ((y119.length : Int) : Int) := of_decide_eq_true (by first | (with_reducible assumption) | assumption); first | exact h_ | (have e_ := (Kd.R_reads' HO_11.out).1; omega) | simpa using h_) (seg := [.int .i64 (wrap64 (t106 - 32768))]) (j := 2) hcl84 hcc84 (show 3 ≤ 4 from by decide) (x' := (⟨(rd_T32 y142 t106).f0, (rd_T32 y142 t106).f1, wrap64 (t106 - 32768), (rd_T32 y142 t106).f3⟩ : S32)) (k32_mkM _ _ _ (⟨(rd_T32 y142 t106).f0, (rd_T32 y142 t106).f1, wrap64 (t106 - 32768), (rd_T32 y142 t106).f3⟩ : S32) ) (fun _ hk => hk); have hx84_2 := hcc84 2 _ rfl; (try simp only [show (k32).sz = 4 from rfl, Nat.mul_one, Nat.add_zero] at hx84_2); have hf84_2 := hfr84 2; (try simp only [show (k32).sz = 4 from rfl, Nat.mul_one, Nat.add_zero] at hf84_2); clear hcl84 hcc84 hfr84 hM84) | ((with_reducible refine gate_store (t := 3) (p := 121) rfl ?_); refine store_event (t := 3) (p := 121) (v := ?vo_w85) (w1 := (w83.setCell ⟨go49, (t106 : Int).toNat * 4 + 2, none⟩ (.int .i64 (wrap64 (t106 - 32768))))) ?hg ?ho ?hn ?hr ?_; (case ho => rfl); (case hg => rfl); (case hn => rfl); (case hr => first | (go_simp; done) | (go_simp; rfl)); intro w85 hw; have hg : w83.grownBy w85 (some go49) := (by rw [hw]; exact HP84.2); have hp_ : Kd.R k32 32 w85 w.heap.size (fun _ => True) (.slice (some ⟨go49, 0, none⟩) y119.length co24) y147 := (by rw [hw, Ny147.out]; exact HP84.1); clear HP84; have n0_ := Aside0.mk (hp_); have n1_ := Aside0.mk (Kd.R_over' (v := (.slice (some ⟨go49, 0, none⟩) y119.length co24)) (by (with_reducible repeat (first | apply Kd.R_alloc | apply Kd.R_drewN | apply Kd.R_drew)); exact HO141.out) (Kd.R_typed HO_11.out) (by decide) hg); have n2_ := Aside0.mk (Kd.R_over' (v := (.slice (some ⟨go49, 0, none⟩) y119.length co24)) (by (with_reducible repeat (first | apply Kd.R_alloc | apply Kd.R_drewN | apply Kd.R_drew)); exact HO146.out) (Kd.R_typed HO_11.out) (by decide) hg); have n3_ := Aside0.mk ((by rw [hw]; exact below_set (HB.out) GB49.out : Below w.heap.size w w85)); clear HO_11; clear HO141; clear HO146; clear HB; have HO_11 := n0_; have HO141 := n1_; have HO146 := n2_; have HB := n3_; clear n0_ n1_ n2_ n3_; clear hg hw hp_) | ((with_reducible refine gate_callee (f := 15) rfl ?_); refine goesL_ (some 124) rfl rfl Try.func15 (by kernel_rfl) rfl #[.slice (some ⟨go49, 0, none⟩) y147.length co24] rfl (by (try simp only [List.map_toArray, List.map_cons, List.map_nil]); first | done | (rw [show y147.length = y119.length from (Kd.R_reads' HO_11.out).1.symm] <;> rfl) | rfl | (simp only [List.length_drop, List.length_take]; rfl)) ?_; (with_reducible refine (code_Encode.calls kj20 _ _ y147 t148 t149 _ ?side1 ?side2 A54.out).mono ?_); (case side1 => repeat (first | exact (Kd.R_reads' HO_11.out).2.2 | (with_reducible refine Kd.C_alloc ?_ _) | (with_reducible refine Kd.C_drewN ?_ _) | (with_reducible refine Kd.C_drew ?_))); (case side2 => rw [show y147.length = y119.length from (Kd.R_reads' HO_11.out).1.symm]; exact (Kd.R_reads' HO_11.out).2.1); rintro e w86 ⟨v150, rfl, ho0, hb⟩; refine ⟨_, rfl, ?_⟩; have n0_ := Aside0.mk (Kd.R_below (by (with_reducible repeat (first | apply Kd.R_alloc | apply Kd.R_drewN | apply Kd.R_drew)); exact HO_11.out) hb); have n1_ := Aside0.mk (Kd.R_elder' (by (with_reducible repeat (first | apply Kd.R_alloc | apply Kd.R_drewN | apply Kd.R_drew)); exact HO141.out) (Kd.R_base ho0) hb); have n2_ := Aside0.mk (Kd.R_elder' (by (with_reducible repeat (first | apply Kd.R_alloc | apply Kd.R_drewN | apply Kd.R_drew)); exact HO146.out) (Kd.R_base ho0) hb); have n3_ := Aside0.mk (Kd.R_lower (Kd.R_new' (Kd.R_new' ho0 (Kd.R_lt (by (with_reducible repeat (first | apply Kd.R_alloc | apply Kd.R_drewN | apply Kd.R_drew)); exact HO141.out))) (Kd.R_lt (by (with_reducible repeat (first | apply Kd.R_alloc | apply Kd.R_drewN | apply Kd.R_drew)); exact HO146.out))) (below_size (by repeat (first | (with_reducible first | exact HB.out | apply below_alloc | apply pw_below_drewN | apply below_drew1) | exact HB.out)))); have n4_ := Aside0.mk (below_step (by repeat (first | (with_reducible first | exact HB.out | apply below_alloc | apply pw_below_drewN | apply below_drew1) | exact HB.out)) hb); clear HO_11; clear HO141; clear HO146; clear HB; have HO_11 := n0_; have HO141 := n1_; have HO146 := n2_; have HO151 := n3_; have HB := n4_; clear n0_ n1_ n2_ n3_ n4_; (try clear hb); (try clear hb2); (try clear hk); (try clear hi); (try clear ho0)))
                            go_ret
                            exact ⟨by first | rfl | (simp [errW_none, errW_some] <;> rfl) | (simp [*, errW_none, errW_some] <;> rfl), by repeat (first | (with_reducible first | exact HB.out | apply below_alloc | apply pw_below_drewN | apply below_drew1) | exact HB.out)⟩
                        · rw [if_neg c55] at H
                          have c55b0 : (t139 == 1) = false := beq_eq_false_iff_ne.mpr c55
                          have c55b1 : (t139 != 1) = true := bne_iff_ne.mpr c55
                          obtain rfl := Option.some.inj H
                          have p49 : 0 ≤ (t106 : Int) := of_decide_eq_true (by first | (with_reducible assumption) | assumption)
                          have q49 : (t106 : Int) < ((y119.length : Int) : Int) := of_decide_eq_true (by first | (with_reducible assumption) | assumption)
                          obtain ⟨go49, co49, eo49, gb49, gl49, cl49, HG49⟩ := Kd.R_form HO_11.out (by omega)
                          (first | cases eo49 | (injection eo49 with ea_ en_ ec_; (first | subst ea_ | (injection ea_ with ea_; subst ea_)); subst ec_; clear en_))
                          have GB49 := Aside0.mk gb49
                          have GG49 := Aside0.mk HG49
                          clear gb49 gl49 HG49
                          obtain ⟨ce49, hcl49, hM49, hcc49, hfr49⟩ := Kd.R_elem HO_11.out z32 (t106 : Int) p49 q49
                          obtain rfl := k32_openM hM49
                          have hx49_0 : wc.cell? ⟨go49, (t106 : Int).toNat * 4, none⟩ = some (.int .i64 ((rd_T32 y119 t106).f0)) := hcc49 0 _ rfl
                          have hx49_1 : wc.cell? ⟨go49, (t106 : Int).toNat * 4 + 1, none⟩ = some (.int .i64 ((rd_T32 y119 t106).f1)) := hcc49 1 _ rfl
                          have hx49_2 : wc.cell? ⟨go49, (t106 : Int).toNat * 4 + 2, none⟩ = some (.int .i64 ((rd_T32 y119 t106).f2)) := hcc49 2 _ rfl
                          have hx49_3 : wc.cell? ⟨go49, (t106 : Int).toNat * 4 + 3, none⟩ = some (.int .i64 ((rd_T32 y119 t106).f3)) := hcc49 3 _ rfl
                          have hf49_0 : wc.frozen? ⟨go49, (t106 : Int).toNat * 4, none⟩ = false := hfr49 0
                          have hf49_1 : wc.frozen? ⟨go49, (t106 : Int).toNat * 4 + 1, none⟩ = false := hfr49 1
                          have hf49_2 : wc.frozen? ⟨go49, (t106 : Int).toNat * 4 + 2, none⟩ = false := hfr49 2
                          have hf49_3 : wc.frozen? ⟨go49, (t106 : Int).toNat * 4 + 3, none⟩ = false := hfr49 3
                          clear hcl49 hcc49 hfr49 hM49
                          replace p49 := eq_true p49
                          replace q49 := eq_true q49
                          have HX87 := Aside0.mk (show Kd.R k32 32 wc w.heap.size (fun _ => True) (.slice (some ⟨go49, 0, none⟩) y119.length co24) y119 from (by (with_reducible repeat (first | apply Kd.R_alloc | apply Kd.R_drewN | apply Kd.R_drew)); exact HO_11.out))
                          obtain ⟨ce87, hcl87, hM87, hcc87, hfr87⟩ := Kd.R_elem HX87.out z32 (t106 : Int) (of_decide_eq_true (by first | (with_reducible assumption) | assumption)) (by have h_ : (t106 : Int) < ((y119.length : Int) : Int) := of_decide_eq_true (by first | (with_reducible assumption) | assumption); first | exact h_ | (have e_ := (Kd.R_reads' HO_11.out).1; omega) | simpa using h_)
                          obtain rfl := k32_openM hM87
                          have HP87 := Kd.R_seg HX87.out (t106 : Int) (of_decide_eq_true (by first | (with_reducible assumption) | assumption)) (by have h_ : (t106 : Int) < ((y119.length : Int) : Int) := of_decide_eq_true (by first | (with_reducible assumption) | assumption); first | exact h_ | (have e_ := (Kd.R_reads' HO_11.out).1; omega) | simpa using h_) (seg := [.int .i64 (wrap64 (t106 + 32768))]) (j := 2) hcl87 hcc87 (show 3 ≤ 4 from by decide) (x' := (⟨(rd_T32 y119 t106).f0, (rd_T32 y119 t106).f1, wrap64 (t106 + 32768), (rd_T32 y119 t106).f3⟩ : S32)) (k32_mkM _ _ _ (⟨(rd_T32 y119 t106).f0, (rd_T32 y119 t106).f1, wrap64 (t106 + 32768), (rd_T32 y119 t106).f3⟩ : S32) ) (fun _ hk => hk)
                          have hx87_2 := hcc87 2 _ rfl
                          (try simp only [show (k32).sz = 4 from rfl, Nat.mul_one, Nat.add_zero] at hx87_2)
                          have hf87_2 := hfr87 2
                          (try simp only [show (k32).sz = 4 from rfl, Nat.mul_one, Nat.add_zero] at hf87_2)
                          clear hcl87 hcc87 hfr87 hM87
                          go_wp2_with (first | ((with_reducible refine gate_store (t := 3) (p := 99) rfl ?_); refine store_event (t := 3) (p := 99) (v := ?vo_w88) (w1 := (wc.setCell ⟨go49, (t106 : Int).toNat * 4 + 2, none⟩ (.int .i64 (wrap64 (t106 + 32768))))) ?hg ?ho ?hn ?hr ?_; (case ho => rfl); (case hg => rfl); (case hn => rfl); (case hr => first | (go_simp; done) | (go_simp; rfl)); intro w88 hw; have hg : wc.grownBy w88 (some go49) := (by rw [hw]; exact HP87.2); have hp_ : Kd.R k32 32 w88 w.heap.size (fun _ => True) (.slice (some ⟨go49, 0, none⟩) y119.length co24) y137 := (by rw [hw, Ny137.out]; exact HP87.1); clear HP87; have n0_ := Aside0.mk (hp_); have n1_ := Aside0.mk ((by rw [hw]; exact below_set (HB.out) GB49.out : Below w.heap.size w w88)); clear HO_11; clear HB; have HO_11 := n0_; have HB := n1_; clear n0_ n1_; clear hg hw hp_) | ((with_reducible refine gate_callee (f := 15) rfl ?_); refine goesL_ (some 102) rfl rfl Try.func15 (by kernel_rfl) rfl #[.slice (some ⟨go49, 0, none⟩) y137.length co24] rfl (by (try simp only [List.map_toArray, List.map_cons, List.map_nil]); first | done | (rw [show y137.length = y119.length from (Kd.R_reads' HO_11.out).1.symm] <;> rfl) | rfl | (simp only [List.length_drop, List.length_take]; rfl)) ?_; (with_reducible refine (code_Encode.calls kj20 _ _ y137 t138 t139 _ ?side1 ?side2 A50.out).mono ?_); (case side1 => repeat (first | exact (Kd.R_reads' HO_11.out).2.2 | (with_reducible refine Kd.C_alloc ?_ _) | (with_reducible refine Kd.C_drewN ?_ _) | (with_reducible refine Kd.C_drew ?_))); (case side2 => rw [show y137.length = y119.length from (Kd.R_reads' HO_11.out).1.symm]; exact (Kd.R_reads' HO_11.out).2.1); rintro e w89 ⟨v140, rfl, ho0, hb⟩; refine ⟨_, rfl, ?_⟩; have n0_ := Aside0.mk (Kd.R_below (by (with_reducible repeat (first | apply Kd.R_alloc | apply Kd.R_drewN | apply Kd.R_drew)); exact HO_11.out) hb); have n1_ := Aside0.mk (Kd.R_lower ho0 (below_size (by repeat (first | (with_reducible first | exact HB.out | apply below_alloc | apply pw_below_drewN | apply below_drew1) | exact HB.out)))); have n2_ := Aside0.mk (below_step (by repeat (first | (with_reducible first | exact HB.out | apply below_alloc | apply pw_below_drewN | apply below_drew1) | exact HB.out)) hb); clear HO_11; clear HB; have HO_11 := n0_; have HO141 := n1_; have HB := n2_; clear n0_ n1_ n2_; (try clear hb); (try clear hb2); (try clear hk); (try clear hi); (try clear ho0); have p51 : 0 ≤ (t106 : Int) := of_decide_eq_true (by first | (with_reducible assumption) | assumption); have q51 : (t106 : Int) < ((y119.length : Int) : Int) := of_decide_eq_true (by first | (with_reducible assumption) | assumption); obtain ⟨ce51, hcl51, hM51, hcc51, hfr51⟩ := Kd.R_elem HO_11.out z32 (t106 : Int) p51 q51; obtain rfl := k32_openM hM51; have hx51_0 : w89.cell? ⟨go49, (t106 : Int).toNat * 4, none⟩ = some (.int .i64 ((rd_T32 y137 t106).f0)) := hcc51 0 _ rfl; have hx51_1 : w89.cell? ⟨go49, (t106 : Int).toNat * 4 + 1, none⟩ = some (.int .i64 ((rd_T32 y137 t106).f1)) := hcc51 1 _ rfl; have hx51_2 : w89.cell? ⟨go49, (t106 : Int).toNat * 4 + 2, none⟩ = some (.int .i64 ((rd_T32 y137 t106).f2)) := hcc51 2 _ rfl; have hx51_3 : w89.cell? ⟨go49, (t106 : Int).toNat * 4 + 3, none⟩ = some (.int .i64 ((rd_T32 y137 t106).f3)) := hcc51 3 _ rfl; have hf51_0 : w89.frozen? ⟨go49, (t106 : Int).toNat * 4, none⟩ = false := hfr51 0; have hf51_1 : w89.frozen? ⟨go49, (t106 : Int).toNat * 4 + 1, none⟩ = false := hfr51 1; have hf51_2 : w89.frozen? ⟨go49, (t106 : Int).toNat * 4 + 2, none⟩ = false := hfr51 2; have hf51_3 : w89.frozen? ⟨go49, (t106 : Int).toNat * 4 + 3, none⟩ = false := hfr51 3; clear hcl51 hcc51 hfr51 hM51; replace p51 := eq_true p51; replace q51 := eq_true q51; have HX90 := Aside0.mk (show Kd.R k32 32 w89 w.heap.size (fun _ => True) (.slice (some ⟨go49, 0, none⟩) y119.length co24) y137 from (by (with_reducible repeat (first | apply Kd.R_alloc | apply Kd.R_drewN | apply Kd.R_drew)); exact HO_11.out)); obtain ⟨ce90, hcl90, hM90, hcc90, hfr90⟩ := Kd.R_elem HX90.out z32 (t106 : Int) (of_decide_eq_true (by first | (with_reducible assumption) | assumption)) (by have h_ : (t106 : Int) < ((y119.length : Int) : Int) := of_decide_eq_true (by first | (with_reducible assumption) | assumption); first | exact h_ | (have e_ := (Kd.R_reads' HO_11.out).1; omega) | simpa using h_); obtain rfl := k32_openM hM90; have HP90 := Kd.R_seg HX90.out (t106 : Int) (of_decide_eq_true (by first | (with_reducible assumption) | assumption)) (by have h_ : (t106 : Int) < ((y119.length : Int) : Int) := of_decide_eq_true (by first | (with_reducible assumption) | assumption); first | exact h_ | (have e_ := (Kd.R_reads' HO_11.out).1; omega) | simpa using h_) (seg := [.int .i64 (wrap64 (t106 - 32769))]) (j := 2) hcl90 hcc90 (show 3 ≤ 4 from by decide) (x' := (⟨(rd_T32 y137 t106).f0, (rd_T32 y137 t106).f1, wrap64 (t106 - 32769), (rd_T32 y137 t106).f3⟩ : S32)) (k32_mkM _ _ _ (⟨(rd_T32 y137 t106).f0, (rd_T32 y137 t106).f1, wrap64 (t106 - 32769), (rd_T32 y137 t106).f3⟩ : S32) ) (fun _ hk => hk); have hx90_2 := hcc90 2 _ rfl; (try simp only [show (k32).sz = 4 from rfl, Nat.mul_one, Nat.add_zero] at hx90_2); have hf90_2 := hfr90 2; (try simp only [show (k32).sz = 4 from rfl, Nat.mul_one, Nat.add_zero] at hf90_2); clear hcl90 hcc90 hfr90 hM90) | ((with_reducible refine gate_store (t := 3) (p := 110) rfl ?_); refine store_event (t := 3) (p := 110) (v := ?vo_w91) (w1 := (w89.setCell ⟨go49, (t106 : Int).toNat * 4 + 2, none⟩ (.int .i64 (wrap64 (t106 - 32769))))) ?hg ?ho ?hn ?hr ?_; (case ho => rfl); (case hg => rfl); (case hn => rfl); (case hr => first | (go_simp; done) | (go_simp; rfl)); intro w91 hw; have hg : w89.grownBy w91 (some go49) := (by rw [hw]; exact HP90.2); have hp_ : Kd.R k32 32 w91 w.heap.size (fun _ => True) (.slice (some ⟨go49, 0, none⟩) y119.length co24) y142 := (by rw [hw, Ny142.out]; exact HP90.1); clear HP90; have n0_ := Aside0.mk (hp_); have n1_ := Aside0.mk (Kd.R_over' (v := (.slice (some ⟨go49, 0, none⟩) y119.length co24)) (by (with_reducible repeat (first | apply Kd.R_alloc | apply Kd.R_drewN | apply Kd.R_drew)); exact HO141.out) (Kd.R_typed HO_11.out) (by decide) hg); have n2_ := Aside0.mk ((by rw [hw]; exact below_set (HB.out) GB49.out : Below w.heap.size w w91)); clear HO_11; clear HO141; clear HB; have HO_11 := n0_; have HO141 := n1_; have HB := n2_; clear n0_ n1_ n2_; clear hg hw hp_) | ((with_reducible refine gate_callee (f := 15) rfl ?_); refine goesL_ (some 113) rfl rfl Try.func15 (by kernel_rfl) rfl #[.slice (some ⟨go49, 0, none⟩) y142.length co24] rfl (by (try simp only [List.map_toArray, List.map_cons, List.map_nil]); first | done | (rw [show y142.length = y119.length from (Kd.R_reads' HO_11.out).1.symm] <;> rfl) | rfl | (simp only [List.length_drop, List.length_take]; rfl)) ?_; (with_reducible refine (code_Encode.calls kj20 _ _ y142 t143 t144 _ ?side1 ?side2 A52.out).mono ?_); (case side1 => repeat (first | exact (Kd.R_reads' HO_11.out).2.2 | (with_reducible refine Kd.C_alloc ?_ _) | (with_reducible refine Kd.C_drewN ?_ _) | (with_reducible refine Kd.C_drew ?_))); (case side2 => rw [show y142.length = y119.length from (Kd.R_reads' HO_11.out).1.symm]; exact (Kd.R_reads' HO_11.out).2.1); rintro e w92 ⟨v145, rfl, ho0, hb⟩; refine ⟨_, rfl, ?_⟩; have n0_ := Aside0.mk (Kd.R_below (by (with_reducible repeat (first | apply Kd.R_alloc | apply Kd.R_drewN | apply Kd.R_drew)); exact HO_11.out) hb); have n1_ := Aside0.mk (Kd.R_elder' (by (with_reducible repeat (first | apply Kd.R_alloc | apply Kd.R_drewN | apply Kd.R_drew)); exact HO141.out) (Kd.R_base ho0) hb); have n2_ := Aside0.mk (Kd.R_lower (Kd.R_new' ho0 (Kd.R_lt (by (with_reducible repeat (first | apply Kd.R_alloc | apply Kd.R_drewN | apply Kd.R_drew)); exact HO141.out))) (below_size (by repeat (first | (with_reducible first | exact HB.out | apply below_alloc | apply pw_below_drewN | apply below_drew1) | exact HB.out)))); have n3_ := Aside0.mk (below_step (by repeat (first | (with_reducible first | exact HB.out | apply below_alloc | apply pw_below_drewN | apply below_drew1) | exact HB.out)) hb); clear HO_11; clear HO141; clear HB; have HO_11 := n0_; have HO141 := n1_; have HO146 := n2_; have HB := n3_; clear n0_ n1_ n2_ n3_; (try clear hb); (try clear hb2); (try clear hk); (try clear hi); (try clear ho0); have p53 : 0 ≤ (t106 : Int) := of_decide_eq_true (by first | (with_reducible assumption) | assumption); have q53 : (t106 : Int) < ((y119.length : Int) : Int) := of_decide_eq_true (by first | (with_reducible assumption) | assumption); obtain ⟨ce53, hcl53, hM53, hcc53, hfr53⟩ := Kd.R_elem HO_11.out z32 (t106 : Int) p53 q53; obtain rfl := k32_openM hM53; have hx53_0 : w92.cell? ⟨go49, (t106 : Int).toNat * 4, none⟩ = some (.int .i64 ((rd_T32 y142 t106).f0)) := hcc53 0 _ rfl; have hx53_1 : w92.cell? ⟨go49, (t106 : Int).toNat * 4 + 1, none⟩ = some (.int .i64 ((rd_T32 y142 t106).f1)) := hcc53 1 _ rfl; have hx53_2 : w92.cell? ⟨go49, (t106 : Int).toNat * 4 + 2, none⟩ = some (.int .i64 ((rd_T32 y142 t106).f2)) := hcc53 2 _ rfl; have hx53_3 : w92.cell? ⟨go49, (t106 : Int).toNat * 4 + 3, none⟩ = some (.int .i64 ((rd_T32 y142 t106).f3)) := hcc53 3 _ rfl; have hf53_0 : w92.frozen? ⟨go49, (t106 : Int).toNat * 4, none⟩ = false := hfr53 0; have hf53_1 : w92.frozen? ⟨go49, (t106 : Int).toNat * 4 + 1, none⟩ = false := hfr53 1; have hf53_2 : w92.frozen? ⟨go49, (t106 : Int).toNat * 4 + 2, none⟩ = false := hfr53 2; have hf53_3 : w92.frozen? ⟨go49, (t106 : Int).toNat * 4 + 3, none⟩ = false := hfr53 3; clear hcl53 hcc53 hfr53 hM53; replace p53 := eq_true p53; replace q53 := eq_true q53; have HX93 := Aside0.mk (show Kd.R k32 32 w92 w.heap.size (fun _ => True) (.slice (some ⟨go49, 0, none⟩) y119.length co24) y142 from (by (with_reducible repeat (first | apply Kd.R_alloc | apply Kd.R_drewN | apply Kd.R_drew)); exact HO_11.out)); obtain ⟨ce93, hcl93, hM93, hcc93, hfr93⟩ := Kd.R_elem HX93.out z32 (t106 : Int) (of_decide_eq_true (by first | (with_reducible assumption) | assumption)) (by have h_ : (t106 : Int) < ((y119.length : Int) : Int) := of_decide_eq_true (by first | (with_reducible assumption) | assumption); first | exact h_ | (have e_ := (Kd.R_reads' HO_11.out).1; omega) | simpa using h_); obtain rfl := k32_openM hM93; have HP93 := Kd.R_seg HX93.out (t106 : Int) (of_decide_eq_true (by first | (with_reducible assumption) | assumption)) (by have h_ : (t106 : Int) < ((y119.length : Int) : Int) := of_decide_eq_true (by first | (with_reducible assumption) | assumption); first | exact h_ | (have e_ := (Kd.R_reads' HO_11.out).1; omega) | simpa using h_) (seg := [.int .i64 (wrap64 (t106 - 32768))]) (j := 2) hcl93 hcc93 (show 3 ≤ 4 from by decide) (x' := (⟨(rd_T32 y142 t106).f0, (rd_T32 y142 t106).f1, wrap64 (t106 - 32768), (rd_T32 y142 t106).f3⟩ : S32)) (k32_mkM _ _ _ (⟨(rd_T32 y142 t106).f0, (rd_T32 y142 t106).f1, wrap64 (t106 - 32768), (rd_T32 y142 t106).f3⟩ : S32) ) (fun _ hk => hk); have hx93_2 := hcc93 2 _ rfl; (try simp only [show (k32).sz = 4 from rfl, Nat.mul_one, Nat.add_zero] at hx93_2); have hf93_2 := hfr93 2; (try simp only [show (k32).sz = 4 from rfl, Nat.mul_one, Nat.add_zero] at hf93_2); clear hcl93 hcc93 hfr93 hM93) | ((with_reducible refine gate_store (t := 3) (p := 121) rfl ?_); refine store_event (t := 3) (p := 121) (v := ?vo_w94) (w1 := (w92.setCell ⟨go49, (t106 : Int).toNat * 4 + 2, none⟩ (.int .i64 (wrap64 (t106 - 32768))))) ?hg ?ho ?hn ?hr ?_; (case ho => rfl); (case hg => rfl); (case hn => rfl); (case hr => first | (go_simp; done) | (go_simp; rfl)); intro w94 hw; have hg : w92.grownBy w94 (some go49) := (by rw [hw]; exact HP93.2); have hp_ : Kd.R k32 32 w94 w.heap.size (fun _ => True) (.slice (some ⟨go49, 0, none⟩) y119.length co24) y147 := (by rw [hw, Ny147.out]; exact HP93.1); clear HP93; have n0_ := Aside0.mk (hp_); have n1_ := Aside0.mk (Kd.R_over' (v := (.slice (some ⟨go49, 0, none⟩) y119.length co24)) (by (with_reducible repeat (first | apply Kd.R_alloc | apply Kd.R_drewN | apply Kd.R_drew)); exact HO141.out) (Kd.R_typed HO_11.out) (by decide) hg); have n2_ := Aside0.mk (Kd.R_over' (v := (.slice (some ⟨go49, 0, none⟩) y119.length co24)) (by (with_reducible repeat (first | apply Kd.R_alloc | apply Kd.R_drewN | apply Kd.R_drew)); exact HO146.out) (Kd.R_typed HO_11.out) (by decide) hg); have n3_ := Aside0.mk ((by rw [hw]; exact below_set (HB.out) GB49.out : Below w.heap.size w w94)); clear HO_11; clear HO141; clear HO146; clear HB; have HO_11 := n0_; have HO141 := n1_; have HO146 := n2_; have HB := n3_; clear n0_ n1_ n2_ n3_; clear hg hw hp_) | ((with_reducible refine gate_callee (f := 15) rfl ?_); refine goesL_ (some 124) rfl rfl Try.func15 (by kernel_rfl) rfl #[.slice (some ⟨go49, 0, none⟩) y147.length co24] rfl (by (try simp only [List.map_toArray, List.map_cons, List.map_nil]); first | done | (rw [show y147.length = y119.length from (Kd.R_reads' HO_11.out).1.symm] <;> rfl) | rfl | (simp only [List.length_drop, List.length_take]; rfl)) ?_; (with_reducible refine (code_Encode.calls kj20 _ _ y147 t148 t149 _ ?side1 ?side2 A54.out).mono ?_); (case side1 => repeat (first | exact (Kd.R_reads' HO_11.out).2.2 | (with_reducible refine Kd.C_alloc ?_ _) | (with_reducible refine Kd.C_drewN ?_ _) | (with_reducible refine Kd.C_drew ?_))); (case side2 => rw [show y147.length = y119.length from (Kd.R_reads' HO_11.out).1.symm]; exact (Kd.R_reads' HO_11.out).2.1); rintro e w95 ⟨v150, rfl, ho0, hb⟩; refine ⟨_, rfl, ?_⟩; have n0_ := Aside0.mk (Kd.R_below (by (with_reducible repeat (first | apply Kd.R_alloc | apply Kd.R_drewN | apply Kd.R_drew)); exact HO_11.out) hb); have n1_ := Aside0.mk (Kd.R_elder' (by (with_reducible repeat (first | apply Kd.R_alloc | apply Kd.R_drewN | apply Kd.R_drew)); exact HO141.out) (Kd.R_base ho0) hb); have n2_ := Aside0.mk (Kd.R_elder' (by (with_reducible repeat (first | apply Kd.R_alloc | apply Kd.R_drewN | apply Kd.R_drew)); exact HO146.out) (Kd.R_base ho0) hb); have n3_ := Aside0.mk (Kd.R_lower (Kd.R_new' (Kd.R_new' ho0 (Kd.R_lt (by (with_reducible repeat (first | apply Kd.R_alloc | apply Kd.R_drewN | apply Kd.R_drew)); exact HO141.out))) (Kd.R_lt (by (with_reducible repeat (first | apply Kd.R_alloc | apply Kd.R_drewN | apply Kd.R_drew)); exact HO146.out))) (below_size (by repeat (first | (with_reducible first | exact HB.out | apply below_alloc | apply pw_below_drewN | apply below_drew1) | exact HB.out)))); have n4_ := Aside0.mk (below_step (by repeat (first | (with_reducible first | exact HB.out | apply below_alloc | apply pw_below_drewN | apply below_drew1) | exact HB.out)) hb); clear HO_11; clear HO141; clear HO146; clear HB; have HO_11 := n0_; have HO141 := n1_; have HO146 := n2_; have HO151 := n3_; have HB := n4_; clear n0_ n1_ n2_ n3_ n4_; (try clear hb); (try clear hb2); (try clear hk); (try clear hi); (try clear ho0)))
                          go_ret
                          exact ⟨by first | rfl | (simp [errW_none, errW_some] <;> rfl) | (simp [*, errW_none, errW_some] <;> rfl), by repeat (first | (with_reducible first | exact HB.out | apply below_alloc | apply pw_below_drewN | apply below_drew1) | exact HB.out)⟩
                      · rw [if_neg c48] at H
                        exact absurd H (by simp)
                    · rw [if_neg c47] at H
                      exact absurd H (by simp)
            · rw [if_neg c18] at H
              exact absurd H (by simp)
    · rw [if_neg c6] at H
      exact absurd H (by simp)
  · rw [if_neg c5] at H
    exact absurd H (by simp)

/-- THE ONE PURE STATEMENT of carafelaw5_CodeBranches: yours. -/
def carafelaw5_CodeBranches.Pure : Prop := ∀ (a0 : Int) (a1 : Int) (a2 : Int), (Lit.int .i64 a0).wf = true → (Lit.int .i64 a1).wf = true → (Lit.int .i64 a2).wf = true → ∃ k, carafelaw5_CodeBranches.f k a0 a1 a2 = some true
theorem carafelaw5_CodeBranches.walk (P : carafelaw5_CodeBranches.Pure) (a0 : Int) (a1 : Int) (a2 : Int) (w : World) (w0 : (Lit.int .i64 a0).wf = true) (w1 : (Lit.int .i64 a1).wf = true) (w2 : (Lit.int .i64 a2).wf = true) :
    Calls Try.prog 7 #[.int .i64 a0, .int .i64 a1, .int .i64 a2] w fun e w' => e = .returned (.bool true) ∧ Below w.heap.size w w' := by
  obtain ⟨k, h⟩ := P a0 a1 a2 w0 w1 w2
  refine (carafelaw5_CodeBranches.calls k a0 a1 a2 true w h).mono ?_
  rintro e w' ⟨rfl, hd⟩
  exact ⟨rfl, hd⟩

end Go.Proofs.Ytcjhhlbhfkcboaa.PA
