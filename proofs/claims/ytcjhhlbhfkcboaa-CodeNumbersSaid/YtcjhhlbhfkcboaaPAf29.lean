-- Written for this claim by a program of our own (myprint).
import Derived.Test.YtcjhhlbhfkcboaaPA0
import Derived.Handy
import Derived.Deep.RegionHeld3
import Derived.Test.YtcjhhlbhfkcboaaLex
namespace Go.Proofs.Ytcjhhlbhfkcboaa.PA
open Go.RowKit Go.Proofs.YtcjhhlbhfkcboaaW.PrintWords Go.Proofs.YtcjhhlbhfkcboaaW.PrintLast Go.Proofs.YtcjhhlbhfkcboaaW.PrintMore
attribute [local go_sem] max2_int min2_int max_two min_two max_three min_three max_four min_four   -- for this text's walks alone
set_option linter.unusedVariables false
set_option linter.unusedSimpArgs false

/-! ### caraferef5_Name: function 29 -/
def caraferef5_Name.table : List (Int × ByteArray) := [(0, (⟨#[110, 111, 112]⟩ : ByteArray)), (1, (⟨#[110, 117, 108, 108]⟩ : ByteArray)), (2, (⟨#[99, 111, 110, 115, 116, 109, 49]⟩ : ByteArray)), (3, (⟨#[99, 111, 110, 115, 116, 48]⟩ : ByteArray)), (4, (⟨#[99, 111, 110, 115, 116, 49]⟩ : ByteArray)), (5, (⟨#[99, 111, 110, 115, 116, 50]⟩ : ByteArray)), (6, (⟨#[99, 111, 110, 115, 116, 51]⟩ : ByteArray)), (7, (⟨#[99, 111, 110, 115, 116, 52]⟩ : ByteArray)), (8, (⟨#[99, 111, 110, 115, 116, 53]⟩ : ByteArray)), (16, (⟨#[112, 117, 115, 104, 49]⟩ : ByteArray)), (17, (⟨#[112, 117, 115, 104, 50]⟩ : ByteArray)), (18, (⟨#[108, 100, 99]⟩ : ByteArray)), (21, (⟨#[105, 108, 111, 97, 100]⟩ : ByteArray)), (25, (⟨#[97, 108, 111, 97, 100]⟩ : ByteArray)), (46, (⟨#[105, 97, 108, 111, 97, 100]⟩ : ByteArray)), (50, (⟨#[97, 97, 108, 111, 97, 100]⟩ : ByteArray)), (54, (⟨#[105, 115, 116, 111, 114, 101]⟩ : ByteArray)), (58, (⟨#[97, 115, 116, 111, 114, 101]⟩ : ByteArray)), (79, (⟨#[105, 97, 115, 116, 111, 114, 101]⟩ : ByteArray)), (83, (⟨#[97, 97, 115, 116, 111, 114, 101]⟩ : ByteArray)), (87, (⟨#[112, 111, 112]⟩ : ByteArray)), (89, (⟨#[100, 117, 112]⟩ : ByteArray)), (95, (⟨#[115, 119, 97, 112]⟩ : ByteArray)), (96, (⟨#[97, 100, 100]⟩ : ByteArray)), (100, (⟨#[115, 117, 98]⟩ : ByteArray)), (104, (⟨#[109, 117, 108]⟩ : ByteArray)), (108, (⟨#[100, 105, 118]⟩ : ByteArray)), (112, (⟨#[114, 101, 109]⟩ : ByteArray)), (116, (⟨#[110, 101, 103]⟩ : ByteArray)), (120, (⟨#[115, 104, 108]⟩ : ByteArray)), (122, (⟨#[115, 104, 114]⟩ : ByteArray)), (124, (⟨#[117, 115, 104, 114]⟩ : ByteArray)), (126, (⟨#[97, 110, 100]⟩ : ByteArray)), (128, (⟨#[111, 114]⟩ : ByteArray)), (130, (⟨#[120, 111, 114]⟩ : ByteArray)), (132, (⟨#[105, 110, 99]⟩ : ByteArray)), (153, (⟨#[105, 102, 101, 113]⟩ : ByteArray)), (154, (⟨#[105, 102, 110, 101]⟩ : ByteArray)), (155, (⟨#[105, 102, 108, 116]⟩ : ByteArray)), (156, (⟨#[105, 102, 103, 101]⟩ : ByteArray)), (157, (⟨#[105, 102, 103, 116]⟩ : ByteArray)), (158, (⟨#[105, 102, 108, 101]⟩ : ByteArray)), (159, (⟨#[99, 109, 112, 101, 113]⟩ : ByteArray)), (160, (⟨#[99, 109, 112, 110, 101]⟩ : ByteArray)), (161, (⟨#[99, 109, 112, 108, 116]⟩ : ByteArray)), (162, (⟨#[99, 109, 112, 103, 101]⟩ : ByteArray)), (163, (⟨#[99, 109, 112, 103, 116]⟩ : ByteArray)), (164, (⟨#[99, 109, 112, 108, 101]⟩ : ByteArray)), (165, (⟨#[114, 101, 102, 101, 113]⟩ : ByteArray)), (166, (⟨#[114, 101, 102, 110, 101]⟩ : ByteArray)), (167, (⟨#[103, 111, 116, 111]⟩ : ByteArray)), (172, (⟨#[105, 114, 101, 116, 117, 114, 110]⟩ : ByteArray)), (176, (⟨#[97, 114, 101, 116, 117, 114, 110]⟩ : ByteArray)), (177, (⟨#[114, 101, 116, 117, 114, 110]⟩ : ByteArray)), (178, (⟨#[103, 101, 116, 115, 116, 97, 116, 105, 99]⟩ : ByteArray)), (179, (⟨#[112, 117, 116, 115, 116, 97, 116, 105, 99]⟩ : ByteArray)), (180, (⟨#[103, 101, 116, 102, 105, 101, 108, 100]⟩ : ByteArray)), (181, (⟨#[112, 117, 116, 102, 105, 101, 108, 100]⟩ : ByteArray)), (182, (⟨#[118, 105, 114, 116, 117, 97, 108]⟩ : ByteArray)), (184, (⟨#[115, 116, 97, 116, 105, 99]⟩ : ByteArray)), (187, (⟨#[110, 101, 119]⟩ : ByteArray)), (188, (⟨#[110, 101, 119, 105, 110, 116, 115]⟩ : ByteArray)), (189, (⟨#[110, 101, 119, 114, 101, 102, 115]⟩ : ByteArray)), (190, (⟨#[108, 101, 110, 103, 116, 104]⟩ : ByteArray)), (191, (⟨#[116, 104, 114, 111, 119]⟩ : ByteArray)), (192, (⟨#[99, 97, 115, 116]⟩ : ByteArray)), (193, (⟨#[105, 115, 97]⟩ : ByteArray)), (194, (⟨#[101, 110, 116, 101, 114]⟩ : ByteArray)), (195, (⟨#[101, 120, 105, 116]⟩ : ByteArray)), (198, (⟨#[105, 102, 110, 117, 108, 108]⟩ : ByteArray)), (199, (⟨#[105, 102, 115, 111, 109, 101]⟩ : ByteArray))]
def caraferef5_Name.cells : List Value := [.int .i64 0, .string (⟨#[110, 111, 112]⟩ : ByteArray), .int .i64 1, .string (⟨#[110, 117, 108, 108]⟩ : ByteArray), .int .i64 2, .string (⟨#[99, 111, 110, 115, 116, 109, 49]⟩ : ByteArray), .int .i64 3, .string (⟨#[99, 111, 110, 115, 116, 48]⟩ : ByteArray), .int .i64 4, .string (⟨#[99, 111, 110, 115, 116, 49]⟩ : ByteArray), .int .i64 5, .string (⟨#[99, 111, 110, 115, 116, 50]⟩ : ByteArray), .int .i64 6, .string (⟨#[99, 111, 110, 115, 116, 51]⟩ : ByteArray), .int .i64 7, .string (⟨#[99, 111, 110, 115, 116, 52]⟩ : ByteArray), .int .i64 8, .string (⟨#[99, 111, 110, 115, 116, 53]⟩ : ByteArray), .int .i64 16, .string (⟨#[112, 117, 115, 104, 49]⟩ : ByteArray), .int .i64 17, .string (⟨#[112, 117, 115, 104, 50]⟩ : ByteArray), .int .i64 18, .string (⟨#[108, 100, 99]⟩ : ByteArray), .int .i64 21, .string (⟨#[105, 108, 111, 97, 100]⟩ : ByteArray), .int .i64 25, .string (⟨#[97, 108, 111, 97, 100]⟩ : ByteArray), .int .i64 46, .string (⟨#[105, 97, 108, 111, 97, 100]⟩ : ByteArray), .int .i64 50, .string (⟨#[97, 97, 108, 111, 97, 100]⟩ : ByteArray), .int .i64 54, .string (⟨#[105, 115, 116, 111, 114, 101]⟩ : ByteArray), .int .i64 58, .string (⟨#[97, 115, 116, 111, 114, 101]⟩ : ByteArray), .int .i64 79, .string (⟨#[105, 97, 115, 116, 111, 114, 101]⟩ : ByteArray), .int .i64 83, .string (⟨#[97, 97, 115, 116, 111, 114, 101]⟩ : ByteArray), .int .i64 87, .string (⟨#[112, 111, 112]⟩ : ByteArray), .int .i64 89, .string (⟨#[100, 117, 112]⟩ : ByteArray), .int .i64 95, .string (⟨#[115, 119, 97, 112]⟩ : ByteArray), .int .i64 96, .string (⟨#[97, 100, 100]⟩ : ByteArray), .int .i64 100, .string (⟨#[115, 117, 98]⟩ : ByteArray), .int .i64 104, .string (⟨#[109, 117, 108]⟩ : ByteArray), .int .i64 108, .string (⟨#[100, 105, 118]⟩ : ByteArray), .int .i64 112, .string (⟨#[114, 101, 109]⟩ : ByteArray), .int .i64 116, .string (⟨#[110, 101, 103]⟩ : ByteArray), .int .i64 120, .string (⟨#[115, 104, 108]⟩ : ByteArray), .int .i64 122, .string (⟨#[115, 104, 114]⟩ : ByteArray), .int .i64 124, .string (⟨#[117, 115, 104, 114]⟩ : ByteArray), .int .i64 126, .string (⟨#[97, 110, 100]⟩ : ByteArray), .int .i64 128, .string (⟨#[111, 114]⟩ : ByteArray), .int .i64 130, .string (⟨#[120, 111, 114]⟩ : ByteArray), .int .i64 132, .string (⟨#[105, 110, 99]⟩ : ByteArray), .int .i64 153, .string (⟨#[105, 102, 101, 113]⟩ : ByteArray), .int .i64 154, .string (⟨#[105, 102, 110, 101]⟩ : ByteArray), .int .i64 155, .string (⟨#[105, 102, 108, 116]⟩ : ByteArray), .int .i64 156, .string (⟨#[105, 102, 103, 101]⟩ : ByteArray), .int .i64 157, .string (⟨#[105, 102, 103, 116]⟩ : ByteArray), .int .i64 158, .string (⟨#[105, 102, 108, 101]⟩ : ByteArray), .int .i64 159, .string (⟨#[99, 109, 112, 101, 113]⟩ : ByteArray), .int .i64 160, .string (⟨#[99, 109, 112, 110, 101]⟩ : ByteArray), .int .i64 161, .string (⟨#[99, 109, 112, 108, 116]⟩ : ByteArray), .int .i64 162, .string (⟨#[99, 109, 112, 103, 101]⟩ : ByteArray), .int .i64 163, .string (⟨#[99, 109, 112, 103, 116]⟩ : ByteArray), .int .i64 164, .string (⟨#[99, 109, 112, 108, 101]⟩ : ByteArray), .int .i64 165, .string (⟨#[114, 101, 102, 101, 113]⟩ : ByteArray), .int .i64 166, .string (⟨#[114, 101, 102, 110, 101]⟩ : ByteArray), .int .i64 167, .string (⟨#[103, 111, 116, 111]⟩ : ByteArray), .int .i64 172, .string (⟨#[105, 114, 101, 116, 117, 114, 110]⟩ : ByteArray), .int .i64 176, .string (⟨#[97, 114, 101, 116, 117, 114, 110]⟩ : ByteArray), .int .i64 177, .string (⟨#[114, 101, 116, 117, 114, 110]⟩ : ByteArray), .int .i64 178, .string (⟨#[103, 101, 116, 115, 116, 97, 116, 105, 99]⟩ : ByteArray), .int .i64 179, .string (⟨#[112, 117, 116, 115, 116, 97, 116, 105, 99]⟩ : ByteArray), .int .i64 180, .string (⟨#[103, 101, 116, 102, 105, 101, 108, 100]⟩ : ByteArray), .int .i64 181, .string (⟨#[112, 117, 116, 102, 105, 101, 108, 100]⟩ : ByteArray), .int .i64 182, .string (⟨#[118, 105, 114, 116, 117, 97, 108]⟩ : ByteArray), .int .i64 184, .string (⟨#[115, 116, 97, 116, 105, 99]⟩ : ByteArray), .int .i64 187, .string (⟨#[110, 101, 119]⟩ : ByteArray), .int .i64 188, .string (⟨#[110, 101, 119, 105, 110, 116, 115]⟩ : ByteArray), .int .i64 189, .string (⟨#[110, 101, 119, 114, 101, 102, 115]⟩ : ByteArray), .int .i64 190, .string (⟨#[108, 101, 110, 103, 116, 104]⟩ : ByteArray), .int .i64 191, .string (⟨#[116, 104, 114, 111, 119]⟩ : ByteArray), .int .i64 192, .string (⟨#[99, 97, 115, 116]⟩ : ByteArray), .int .i64 193, .string (⟨#[105, 115, 97]⟩ : ByteArray), .int .i64 194, .string (⟨#[101, 110, 116, 101, 114]⟩ : ByteArray), .int .i64 195, .string (⟨#[101, 120, 105, 116]⟩ : ByteArray), .int .i64 198, .string (⟨#[105, 102, 110, 117, 108, 108]⟩ : ByteArray), .int .i64 199, .string (⟨#[105, 102, 115, 111, 109, 101]⟩ : ByteArray)]
def caraferef5_Name.look : List (Int × ByteArray) → Int → ByteArray
  | [], _ => ⟨#[]⟩
  | (c, s) :: rest, a => if c = a then s else caraferef5_Name.look rest a
def caraferef5_Name.f (a0 : Int) : Option ByteArray := some (caraferef5_Name.look caraferef5_Name.table a0)
theorem caraferef5_Name.run_it {P : Program} {o : Oper} {a : Act} {Q : Exit → Act → World → Prop} {K : Act → World → Prop} {W w1 : World} {v : Value} (hrun : (execOp a.eval o).run P W = .ok (.value v) w1) (h : K (a.put o.dst v) w1) : Oper.wp P o a W K Q := by
  unfold Oper.wp
  rw [hrun]
  exact h
theorem caraferef5_Name.cell_at : ∀ i, i < 71 → caraferef5_Name.cells[i * 2]? = some (.int .i64 ((caraferef5_Name.table.getD i (0, ⟨#[]⟩)).1)) ∧ caraferef5_Name.cells[i * 2 + 1]? = some (.string ((caraferef5_Name.table.getD i (0, ⟨#[]⟩)).2)) := by
  intro i hi
  have : ∀ j : Fin 71, caraferef5_Name.cells[j.val * 2]? = some (.int .i64 ((caraferef5_Name.table.getD j.val (0, ⟨#[]⟩)).1)) ∧ caraferef5_Name.cells[j.val * 2 + 1]? = some (.string ((caraferef5_Name.table.getD j.val (0, ⟨#[]⟩)).2)) := by
    intro j
    have hj := j.isLt
    generalize j.val = m at hj
    (iterate 71 (rcases m with _ | m; exact ⟨rfl, rfl⟩))
    omega
  exact this ⟨i, hi⟩
theorem caraferef5_Name.look_drop : ∀ (l : List (Int × ByteArray)) (i : Nat) (a : Int), i < l.length → caraferef5_Name.look (l.drop i) a = if (l.getD i (0, ⟨#[]⟩)).1 = a then (l.getD i (0, ⟨#[]⟩)).2 else caraferef5_Name.look (l.drop (i + 1)) a
  | [], _, _, h => by simp at h
  | (c, s) :: l, 0, a, _ => rfl
  | (c, s) :: l, i + 1, a, h => by simpa using caraferef5_Name.look_drop l i a (by simpa using h)
set_option maxHeartbeats 6400000 in
set_option maxRecDepth 100000 in
theorem caraferef5_Name.walk (a0 : Int) (w : World) : Calls Try.prog 29 #[.int .i64 a0] w fun e w' => e = .returned (.string (caraferef5_Name.look caraferef5_Name.table a0)) ∧ Below w.heap.size w w' := by
  have hu71 := Try.underlying71
  go_enter Try.func29, Try.ntmps29
  go_wp2_with fail
  refine caraferef5_Name.run_it (v := .slice (some ⟨w.heap.size, 0, none⟩) 71 71) (w1 := w.alloc (.cells (caraferef5_Name.cells.toArray) 71)) ?_ ?_
  · kernel_rfl
  obtain ⟨W, hW⟩ : ∃ W, w.alloc (.cells (caraferef5_Name.cells.toArray) 71) = W := ⟨_, rfl⟩
  rw [hW]
  have HW := Aside0.mk hW
  clear hW
  go_wp2_with fail
  go_loop [4] (fun v4 => ∃ i : Nat, v4 = .int .i64 i ∧ i ≤ 71 ∧ Aside0 (caraferef5_Name.look caraferef5_Name.table a0 = caraferef5_Name.look (caraferef5_Name.table.drop i) a0)) (fun v4 => 71 - (intOf v4).toNat)
  case atStart => exact ⟨0, rfl, by omega, ⟨rfl⟩⟩
  case round =>
    obtain ⟨i, rfl, hi, HL⟩ := hrel
    by_cases hlt : i < 71
    · obtain ⟨c1, c2⟩ := caraferef5_Name.cell_at i hlt
      have h1 : W.cell? ⟨w.heap.size, i * 2, none⟩ = some (.int .i64 ((caraferef5_Name.table.getD i (0, ⟨#[]⟩)).1)) := by
        rw [← HW.out]; simp only [World.cell?, World.alloc, Array.getElem?_push_size]; simpa using c1
      have h2 : W.cell? ⟨w.heap.size, i * 2 + 1, none⟩ = some (.string ((caraferef5_Name.table.getD i (0, ⟨#[]⟩)).2)) := by
        rw [← HW.out]; simp only [World.cell?, World.alloc, Array.getElem?_push_size]; simpa using c2
      have hl := caraferef5_Name.look_drop caraferef5_Name.table i a0 (by exact hlt)
      obtain ⟨op, hop⟩ : ∃ op, (caraferef5_Name.table.getD i (0, ⟨#[]⟩)).1 = op := ⟨_, rfl⟩
      obtain ⟨nm, hnm⟩ : ∃ nm, (caraferef5_Name.table.getD i (0, ⟨#[]⟩)).2 = nm := ⟨_, rfl⟩
      rw [hop] at h1 hl
      rw [hnm] at h2 hl
      clear hop hnm c1 c2
      by_cases he : op = a0
      · rw [if_pos he] at hl
        have HR := Aside0.mk (HL.out.trans hl)
        clear hl HL
        have k1 : (op == a0) = true := beq_iff_eq.mpr he
        clear he
        go_wp2
        go_ret
        exact ⟨by rw [HR.out]; rfl, by rw [← HW.out]; exact below_alloc (Below.refl _ _) _⟩
      · rw [if_neg he] at hl
        have HR := Aside0.mk (HL.out.trans hl)
        clear hl HL
        have k1 : (op == a0) = false := beq_eq_false_iff_ne.mpr he
        clear he
        go_wp2
        go_round
        case rel => exact ⟨i + 1, by go_num, by omega, HR⟩
        case measure => simp [intOf]; omega
    · obtain rfl : i = 71 := by omega
      have HR := Aside0.mk (HL.out.trans (show caraferef5_Name.look (caraferef5_Name.table.drop 71) a0 = ⟨#[]⟩ from rfl))
      clear HL
      go_wp2
      go_ret
      exact ⟨by rw [HR.out]; rfl, by rw [← HW.out]; exact below_alloc (Below.refl _ _) _⟩
theorem caraferef5_Name.calls (a0 : Int) (r : ByteArray) (w : World) (h : caraferef5_Name.f a0 = some r) :
    Calls Try.prog 29 #[.int .i64 a0] w fun e w' => e = .returned (.string r) ∧ Below w.heap.size w w' := by
  obtain rfl := Option.some.inj h
  exact caraferef5_Name.walk a0 w


end Go.Proofs.Ytcjhhlbhfkcboaa.PA
