-- Written for this claim by a program of our own (myprint).
import Derived.Test.YtcjhhlbhfkcboaaPA0
namespace Go.Proofs.Ytcjhhlbhfkcboaa.PA
open Go.RowKit Go.Proofs.YtcjhhlbhfkcboaaW.PrintWords Go.Proofs.YtcjhhlbhfkcboaaW.PrintLast Go.Proofs.YtcjhhlbhfkcboaaW.PrintMore
attribute [local go_sem] max2_int min2_int max_two min_two max_three min_three max_four min_four   -- for this text's walks alone
set_option linter.unusedVariables false
set_option linter.unusedSimpArgs false

/-! ### code_Size: function 17 -/
def code_Size.L3 : List Int := [17, 132, 153, 154, 155, 156, 157, 158, 159, 160, 161, 162, 163, 164, 165, 166, 167, 198, 199, 178, 179, 180, 181, 182, 184, 187, 189, 192, 193]
def code_Size.L2 : List Int := [16, 18, 21, 25, 54, 58, 188]
def code_Size.L1 : List Int := [0, 1, 2, 3, 4, 5, 6, 7, 8, 46, 50, 79, 83, 87, 89, 95, 96, 100, 104, 108, 112, 116, 120, 122, 124, 126, 128, 130, 172, 176, 177, 190, 191, 194, 195]
def code_Size.g (a0 : Int) : Int := if a0 ∈ code_Size.L3 then 3 else if a0 ∈ code_Size.L2 then 2 else if a0 ∈ code_Size.L1 then 1 else 0
def code_Size.f (a0 : Int) : Option Int := some (code_Size.g a0)
set_option maxHeartbeats 4000000 in
set_option maxRecDepth 100000 in
theorem code_Size.t3_0 (a0 : Int) (w : World) (h : a0 ∈ ([17, 132, 153, 154, 155, 156, 157, 158, 159, 160, 161, 162, 163, 164, 165] : List Int)) :
    Calls Try.prog 17 #[.int .i64 a0] w fun e w' => e = .returned (.int .i64 3) ∧ Drawn0 w w' := by
  simp only [List.mem_cons, List.not_mem_nil, or_false] at h
  rcases h with rfl | rfl | rfl | rfl | rfl | rfl | rfl | rfl | rfl | rfl | rfl | rfl | rfl | rfl | rfl
  all_goals
    go_enter Try.func17, Try.ntmps17
    go_wp2
    go_ret
    exact ⟨rfl, Drawn0.refl _⟩
set_option maxHeartbeats 4000000 in
set_option maxRecDepth 100000 in
theorem code_Size.t3_1 (a0 : Int) (w : World) (h : a0 ∈ ([166, 167, 198, 199, 178, 179, 180, 181, 182, 184, 187, 189, 192, 193] : List Int)) :
    Calls Try.prog 17 #[.int .i64 a0] w fun e w' => e = .returned (.int .i64 3) ∧ Drawn0 w w' := by
  simp only [List.mem_cons, List.not_mem_nil, or_false] at h
  rcases h with rfl | rfl | rfl | rfl | rfl | rfl | rfl | rfl | rfl | rfl | rfl | rfl | rfl | rfl
  all_goals
    go_enter Try.func17, Try.ntmps17
    go_wp2
    go_ret
    exact ⟨rfl, Drawn0.refl _⟩
theorem code_Size.t3 (a0 : Int) (w : World) (h : a0 ∈ code_Size.L3) :
    Calls Try.prog 17 #[.int .i64 a0] w fun e w' => e = .returned (.int .i64 3) ∧ Drawn0 w w' := by
  have h' : a0 ∈ ([17, 132, 153, 154, 155, 156, 157, 158, 159, 160, 161, 162, 163, 164, 165] : List Int) ∨ a0 ∈ ([166, 167, 198, 199, 178, 179, 180, 181, 182, 184, 187, 189, 192, 193] : List Int) := by simpa [code_Size.L3, or_assoc] using h
  rcases h' with h' | h'
  · exact code_Size.t3_0 a0 w h'
  · exact code_Size.t3_1 a0 w h'
set_option maxHeartbeats 4000000 in
set_option maxRecDepth 100000 in
theorem code_Size.t2_0 (a0 : Int) (w : World) (h : a0 ∈ ([16, 18, 21, 25, 54, 58, 188] : List Int)) :
    Calls Try.prog 17 #[.int .i64 a0] w fun e w' => e = .returned (.int .i64 2) ∧ Drawn0 w w' := by
  simp only [List.mem_cons, List.not_mem_nil, or_false] at h
  rcases h with rfl | rfl | rfl | rfl | rfl | rfl | rfl
  all_goals
    go_enter Try.func17, Try.ntmps17
    go_wp2
    go_ret
    exact ⟨rfl, Drawn0.refl _⟩
theorem code_Size.t2 (a0 : Int) (w : World) (h : a0 ∈ code_Size.L2) :
    Calls Try.prog 17 #[.int .i64 a0] w fun e w' => e = .returned (.int .i64 2) ∧ Drawn0 w w' := by
  have h' : a0 ∈ ([16, 18, 21, 25, 54, 58, 188] : List Int) := by simpa [code_Size.L2, or_assoc] using h
  exact code_Size.t2_0 a0 w h'
set_option maxHeartbeats 4000000 in
set_option maxRecDepth 100000 in
theorem code_Size.t1_0 (a0 : Int) (w : World) (h : a0 ∈ ([0, 1, 2, 3, 4, 5, 6, 7, 8, 46, 50, 79, 83, 87, 89] : List Int)) :
    Calls Try.prog 17 #[.int .i64 a0] w fun e w' => e = .returned (.int .i64 1) ∧ Drawn0 w w' := by
  simp only [List.mem_cons, List.not_mem_nil, or_false] at h
  rcases h with rfl | rfl | rfl | rfl | rfl | rfl | rfl | rfl | rfl | rfl | rfl | rfl | rfl | rfl | rfl
  all_goals
    go_enter Try.func17, Try.ntmps17
    go_wp2
    go_ret
    exact ⟨rfl, Drawn0.refl _⟩
set_option maxHeartbeats 4000000 in
set_option maxRecDepth 100000 in
theorem code_Size.t1_1 (a0 : Int) (w : World) (h : a0 ∈ ([95, 96, 100, 104, 108, 112, 116, 120, 122, 124, 126, 128, 130, 172, 176] : List Int)) :
    Calls Try.prog 17 #[.int .i64 a0] w fun e w' => e = .returned (.int .i64 1) ∧ Drawn0 w w' := by
  simp only [List.mem_cons, List.not_mem_nil, or_false] at h
  rcases h with rfl | rfl | rfl | rfl | rfl | rfl | rfl | rfl | rfl | rfl | rfl | rfl | rfl | rfl | rfl
  all_goals
    go_enter Try.func17, Try.ntmps17
    go_wp2
    go_ret
    exact ⟨rfl, Drawn0.refl _⟩
set_option maxHeartbeats 4000000 in
set_option maxRecDepth 100000 in
theorem code_Size.t1_2 (a0 : Int) (w : World) (h : a0 ∈ ([177, 190, 191, 194, 195] : List Int)) :
    Calls Try.prog 17 #[.int .i64 a0] w fun e w' => e = .returned (.int .i64 1) ∧ Drawn0 w w' := by
  simp only [List.mem_cons, List.not_mem_nil, or_false] at h
  rcases h with rfl | rfl | rfl | rfl | rfl
  all_goals
    go_enter Try.func17, Try.ntmps17
    go_wp2
    go_ret
    exact ⟨rfl, Drawn0.refl _⟩
theorem code_Size.t1 (a0 : Int) (w : World) (h : a0 ∈ code_Size.L1) :
    Calls Try.prog 17 #[.int .i64 a0] w fun e w' => e = .returned (.int .i64 1) ∧ Drawn0 w w' := by
  have h' : a0 ∈ ([0, 1, 2, 3, 4, 5, 6, 7, 8, 46, 50, 79, 83, 87, 89] : List Int) ∨ a0 ∈ ([95, 96, 100, 104, 108, 112, 116, 120, 122, 124, 126, 128, 130, 172, 176] : List Int) ∨ a0 ∈ ([177, 190, 191, 194, 195] : List Int) := by simpa [code_Size.L1, or_assoc] using h
  rcases h' with h' | h' | h'
  · exact code_Size.t1_0 a0 w h'
  · exact code_Size.t1_1 a0 w h'
  · exact code_Size.t1_2 a0 w h'
set_option maxHeartbeats 4000000 in
set_option maxRecDepth 100000 in
theorem code_Size.tno (a0 : Int) (w : World) (h17 : (a0 == 17) = false) (h132 : (a0 == 132) = false) (h153 : (a0 == 153) = false) (h154 : (a0 == 154) = false) (h155 : (a0 == 155) = false) (h156 : (a0 == 156) = false) (h157 : (a0 == 157) = false) (h158 : (a0 == 158) = false) (h159 : (a0 == 159) = false) (h160 : (a0 == 160) = false) (h161 : (a0 == 161) = false) (h162 : (a0 == 162) = false) (h163 : (a0 == 163) = false) (h164 : (a0 == 164) = false) (h165 : (a0 == 165) = false) (h166 : (a0 == 166) = false) (h167 : (a0 == 167) = false) (h198 : (a0 == 198) = false) (h199 : (a0 == 199) = false) (h178 : (a0 == 178) = false) (h179 : (a0 == 179) = false) (h180 : (a0 == 180) = false) (h181 : (a0 == 181) = false) (h182 : (a0 == 182) = false) (h184 : (a0 == 184) = false) (h187 : (a0 == 187) = false) (h189 : (a0 == 189) = false) (h192 : (a0 == 192) = false) (h193 : (a0 == 193) = false) (h16 : (a0 == 16) = false) (h18 : (a0 == 18) = false) (h21 : (a0 == 21) = false) (h25 : (a0 == 25) = false) (h54 : (a0 == 54) = false) (h58 : (a0 == 58) = false) (h188 : (a0 == 188) = false) (h0 : (a0 == 0) = false) (h1 : (a0 == 1) = false) (h2 : (a0 == 2) = false) (h3 : (a0 == 3) = false) (h4 : (a0 == 4) = false) (h5 : (a0 == 5) = false) (h6 : (a0 == 6) = false) (h7 : (a0 == 7) = false) (h8 : (a0 == 8) = false) (h46 : (a0 == 46) = false) (h50 : (a0 == 50) = false) (h79 : (a0 == 79) = false) (h83 : (a0 == 83) = false) (h87 : (a0 == 87) = false) (h89 : (a0 == 89) = false) (h95 : (a0 == 95) = false) (h96 : (a0 == 96) = false) (h100 : (a0 == 100) = false) (h104 : (a0 == 104) = false) (h108 : (a0 == 108) = false) (h112 : (a0 == 112) = false) (h116 : (a0 == 116) = false) (h120 : (a0 == 120) = false) (h122 : (a0 == 122) = false) (h124 : (a0 == 124) = false) (h126 : (a0 == 126) = false) (h128 : (a0 == 128) = false) (h130 : (a0 == 130) = false) (h172 : (a0 == 172) = false) (h176 : (a0 == 176) = false) (h177 : (a0 == 177) = false) (h190 : (a0 == 190) = false) (h191 : (a0 == 191) = false) (h194 : (a0 == 194) = false) (h195 : (a0 == 195) = false) :
    Calls Try.prog 17 #[.int .i64 a0] w fun e w' => e = .returned (.int .i64 0) ∧ Drawn0 w w' := by
  go_enter Try.func17, Try.ntmps17
  go_wp2
  go_ret
  exact ⟨rfl, Drawn0.refl _⟩
set_option maxRecDepth 100000 in
theorem code_Size.calls (a0 : Int) (r : Int) (w : World) (h : code_Size.f a0 = some r) :
    Calls Try.prog 17 #[.int .i64 a0] w fun e w' => e = .returned (.int .i64 r) ∧ Drawn0 w w' := by
  obtain rfl := Option.some.inj h
  unfold code_Size.g
  by_cases h3 : a0 ∈ code_Size.L3
  · rw [if_pos h3]; exact code_Size.t3 a0 w h3
  by_cases h2 : a0 ∈ code_Size.L2
  · rw [if_neg h3, if_pos h2]; exact code_Size.t2 a0 w h2
  by_cases h1 : a0 ∈ code_Size.L1
  · rw [if_neg h3, if_neg h2, if_pos h1]; exact code_Size.t1 a0 w h1
  rw [if_neg h3, if_neg h2, if_neg h1]
  have ne : ∀ c : Int, c ∈ code_Size.L3 ∨ c ∈ code_Size.L2 ∨ c ∈ code_Size.L1 → (a0 == c) = false := fun c hc => beq_eq_false_iff_ne.mpr (fun e => by subst e; rcases hc with hc | hc | hc <;> contradiction)
  exact code_Size.tno a0 w (ne 17 (by decide)) (ne 132 (by decide)) (ne 153 (by decide)) (ne 154 (by decide)) (ne 155 (by decide)) (ne 156 (by decide)) (ne 157 (by decide)) (ne 158 (by decide)) (ne 159 (by decide)) (ne 160 (by decide)) (ne 161 (by decide)) (ne 162 (by decide)) (ne 163 (by decide)) (ne 164 (by decide)) (ne 165 (by decide)) (ne 166 (by decide)) (ne 167 (by decide)) (ne 198 (by decide)) (ne 199 (by decide)) (ne 178 (by decide)) (ne 179 (by decide)) (ne 180 (by decide)) (ne 181 (by decide)) (ne 182 (by decide)) (ne 184 (by decide)) (ne 187 (by decide)) (ne 189 (by decide)) (ne 192 (by decide)) (ne 193 (by decide)) (ne 16 (by decide)) (ne 18 (by decide)) (ne 21 (by decide)) (ne 25 (by decide)) (ne 54 (by decide)) (ne 58 (by decide)) (ne 188 (by decide)) (ne 0 (by decide)) (ne 1 (by decide)) (ne 2 (by decide)) (ne 3 (by decide)) (ne 4 (by decide)) (ne 5 (by decide)) (ne 6 (by decide)) (ne 7 (by decide)) (ne 8 (by decide)) (ne 46 (by decide)) (ne 50 (by decide)) (ne 79 (by decide)) (ne 83 (by decide)) (ne 87 (by decide)) (ne 89 (by decide)) (ne 95 (by decide)) (ne 96 (by decide)) (ne 100 (by decide)) (ne 104 (by decide)) (ne 108 (by decide)) (ne 112 (by decide)) (ne 116 (by decide)) (ne 120 (by decide)) (ne 122 (by decide)) (ne 124 (by decide)) (ne 126 (by decide)) (ne 128 (by decide)) (ne 130 (by decide)) (ne 172 (by decide)) (ne 176 (by decide)) (ne 177 (by decide)) (ne 190 (by decide)) (ne 191 (by decide)) (ne 194 (by decide)) (ne 195 (by decide))

end Go.Proofs.Ytcjhhlbhfkcboaa.PA
