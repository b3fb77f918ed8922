/- The walk of the law ArithLaws and its arithmetic: for all three 32-bit numbers the call returns true. No condition. -/
import Derived.Handy
import Derived.Test.YtiapkipcngnnmaaPArithLawsx2
namespace Go.Proofs.Ytiapkipcngnnmaa.LawsW
open Go.RowKit Go.Proofs.YtiapkipcngnnmaaW.PrintWords Go.Proofs.YtiapkipcngnnmaaW.PrintLast Go.Proofs.YtiapkipcngnnmaaW.PrintMore
open Go.Proofs.Ytiapkipcngnnmaa.PArithLaws
set_option linter.unusedVariables false
set_option linter.unusedSimpArgs false

def Two (op a b r : Int) : Prop := ∀ w, Calls Try.prog 7 #[.int .i64 op, .int .i32 a, .int .i32 b] w fun e w' => e = .returned (.int .i32 r) ∧ Drawn0 w w'
def Known : Prop := ∀ w, Calls Try.prog 8 #[] w fun e w' => e = .returned (.bool true) ∧ Drawn0 w w'
def One (a r : Int) : Prop := ∀ w, Calls Try.prog 9 #[.int .i64 116, .int .i32 a] w fun e w' => e = .returned (.tuple #[.int .i32 r, .int .i64 0]) ∧ Drawn0 w w'
def Tst (op a b : Int) (x : Bool) : Prop := ∀ w, Calls Try.prog 10 #[.int .i64 op, .int .i32 a, .int .i32 b] w fun e w' => e = .returned (.tuple #[.bool x, .int .i64 0]) ∧ Drawn0 w w'

set_option maxHeartbeats 8000000 in
set_option maxRecDepth 100000 in
theorem walk0 (a b c j s m x y z q u r h v o l n : Int) (w : World) (hj : Go.bits .and .i32 b 31 = j) (A1 : Two 96 a b s) (A2 : Two 96 b a s) (A3 : Two 104 a b m) (A4 : Two 104 b a m) (A5 : Two 100 s b a) (A6 : Two 96 b c x) (A7 : Two 104 a x y) (A8 : Two 104 a c z) (A9 : Two 96 m z y) (D : b = 0 ∨ (b ≠ 0 ∧ Two 108 a b q ∧ Two 104 q b u ∧ Two 112 a b r ∧ Two 96 u r a)) (E1 : Two 120 a 1 h) (E2 : Two 96 a a h) (E3 : Two 130 a b v) (E4 : Two 130 v b a) (E5 : Two 128 a b o) (E6 : Two 126 a o a) (E7 : Two 120 a b l) (E8 : Two 120 a j l) (E9 : Two 124 a 0 a) (G : One a n) (F : Two 96 a n 0) (TK : Known) (T : ∀ o : Int, o = 159 ∨ o = 161 ∨ o = 163 → ∃ x y : Bool, (x == y) = false ∧ ∃ p : Bool, Tst o a b x ∧ Tst (o + 1) a b y ∧ Tst (o - 6) a b p ∧ Tst o a 0 p) :
    Calls Try.prog 4 #[.int .i32 a, .int .i32 b, .int .i32 c] w fun e w' => e = .returned (.bool true) ∧ Drawn0 w w' := by
  replace A1 := Aside0.mk A1
  replace A2 := Aside0.mk A2
  replace A3 := Aside0.mk A3
  replace A4 := Aside0.mk A4
  replace A5 := Aside0.mk A5
  replace A6 := Aside0.mk A6
  replace A7 := Aside0.mk A7
  replace A8 := Aside0.mk A8
  replace A9 := Aside0.mk A9
  replace E1 := Aside0.mk E1
  replace E2 := Aside0.mk E2
  replace E3 := Aside0.mk E3
  replace E4 := Aside0.mk E4
  replace E5 := Aside0.mk E5
  replace E6 := Aside0.mk E6
  replace E7 := Aside0.mk E7
  replace E8 := Aside0.mk E8
  replace E9 := Aside0.mk E9
  replace G := Aside0.mk G
  replace F := Aside0.mk F
  replace TK := Aside0.mk TK
  obtain ⟨x0, y0, xy0, p0, T0a, T0b, T0c, T0d⟩ := T 159 (by omega)
  replace T0a := Aside0.mk T0a
  replace T0b := Aside0.mk T0b
  replace T0c := Aside0.mk T0c
  replace T0d := Aside0.mk T0d
  obtain ⟨x1, y1, xy1, p1, T1a, T1b, T1c, T1d⟩ := T 161 (by omega)
  replace T1a := Aside0.mk T1a
  replace T1b := Aside0.mk T1b
  replace T1c := Aside0.mk T1c
  replace T1d := Aside0.mk T1d
  obtain ⟨x2, y2, xy2, p2, T2a, T2b, T2c, T2d⟩ := T 163 (by omega)
  replace T2a := Aside0.mk T2a
  replace T2b := Aside0.mk T2b
  replace T2c := Aside0.mk T2c
  replace T2d := Aside0.mk T2d
  clear T
  rcases D with D | ⟨D, D1, D2, D3, D4⟩
  · subst D
    go_enter Try.func4, Try.ntmps4
    go_wp2_with fail
    refine (A1.out _).mono ?_
    rintro e w' ⟨rfl, ⟨nd, rfl⟩⟩
    go_wp2_with fail
    refine (A2.out _).mono ?_
    rintro e w' ⟨rfl, ⟨nd, rfl⟩⟩
    go_wp2_with fail
    refine (A3.out _).mono ?_
    rintro e w' ⟨rfl, ⟨nd, rfl⟩⟩
    go_wp2_with fail
    refine (A4.out _).mono ?_
    rintro e w' ⟨rfl, ⟨nd, rfl⟩⟩
    go_wp2_with fail
    refine (A1.out _).mono ?_
    rintro e w' ⟨rfl, ⟨nd, rfl⟩⟩
    go_wp2_with fail
    refine (A5.out _).mono ?_
    rintro e w' ⟨rfl, ⟨nd, rfl⟩⟩
    go_wp2_with fail
    refine (A6.out _).mono ?_
    rintro e w' ⟨rfl, ⟨nd, rfl⟩⟩
    go_wp2_with fail
    refine (A7.out _).mono ?_
    rintro e w' ⟨rfl, ⟨nd, rfl⟩⟩
    go_wp2_with fail
    refine (A3.out _).mono ?_
    rintro e w' ⟨rfl, ⟨nd, rfl⟩⟩
    go_wp2_with fail
    refine (A8.out _).mono ?_
    rintro e w' ⟨rfl, ⟨nd, rfl⟩⟩
    go_wp2_with fail
    refine (A9.out _).mono ?_
    rintro e w' ⟨rfl, ⟨nd, rfl⟩⟩
    go_wp2_with fail
    refine (E1.out _).mono ?_
    rintro e w' ⟨rfl, ⟨nd, rfl⟩⟩
    go_wp2_with fail
    refine (E2.out _).mono ?_
    rintro e w' ⟨rfl, ⟨nd, rfl⟩⟩
    go_wp2_with fail
    refine (E3.out _).mono ?_
    rintro e w' ⟨rfl, ⟨nd, rfl⟩⟩
    go_wp2_with fail
    refine (E4.out _).mono ?_
    rintro e w' ⟨rfl, ⟨nd, rfl⟩⟩
    go_wp2_with fail
    refine (E5.out _).mono ?_
    rintro e w' ⟨rfl, ⟨nd, rfl⟩⟩
    go_wp2_with fail
    refine (E6.out _).mono ?_
    rintro e w' ⟨rfl, ⟨nd, rfl⟩⟩
    go_wp2_with fail
    refine (E7.out _).mono ?_
    rintro e w' ⟨rfl, ⟨nd, rfl⟩⟩
    go_wp2_with fail
    refine (E8.out _).mono ?_
    rintro e w' ⟨rfl, ⟨nd, rfl⟩⟩
    go_wp2_with fail
    refine (E9.out _).mono ?_
    rintro e w' ⟨rfl, ⟨nd, rfl⟩⟩
    go_wp2_with fail
    refine (G.out _).mono ?_
    rintro e w' ⟨rfl, ⟨nd, rfl⟩⟩
    go_wp2_with fail
    refine wp_loop_rounds 5 ?_
    rw [rounds_succ]
    go_wp2_with fail
    refine (T0a.out _).mono ?_
    rintro e w' ⟨rfl, ⟨nd, rfl⟩⟩
    go_wp2_with fail
    refine (T0b.out _).mono ?_
    rintro e w' ⟨rfl, ⟨nd, rfl⟩⟩
    go_wp2_with fail
    refine (T0c.out _).mono ?_
    rintro e w' ⟨rfl, ⟨nd, rfl⟩⟩
    go_wp2_with fail
    refine (T0d.out _).mono ?_
    rintro e w' ⟨rfl, ⟨nd, rfl⟩⟩
    go_wp2_with fail
    rw [rounds_succ]
    go_wp2_with fail
    refine (T1a.out _).mono ?_
    rintro e w' ⟨rfl, ⟨nd, rfl⟩⟩
    go_wp2_with fail
    refine (T1b.out _).mono ?_
    rintro e w' ⟨rfl, ⟨nd, rfl⟩⟩
    go_wp2_with fail
    refine (T1c.out _).mono ?_
    rintro e w' ⟨rfl, ⟨nd, rfl⟩⟩
    go_wp2_with fail
    refine (T1d.out _).mono ?_
    rintro e w' ⟨rfl, ⟨nd, rfl⟩⟩
    go_wp2_with fail
    rw [rounds_succ]
    go_wp2_with fail
    refine (T2a.out _).mono ?_
    rintro e w' ⟨rfl, ⟨nd, rfl⟩⟩
    go_wp2_with fail
    refine (T2b.out _).mono ?_
    rintro e w' ⟨rfl, ⟨nd, rfl⟩⟩
    go_wp2_with fail
    refine (T2c.out _).mono ?_
    rintro e w' ⟨rfl, ⟨nd, rfl⟩⟩
    go_wp2_with fail
    refine (T2d.out _).mono ?_
    rintro e w' ⟨rfl, ⟨nd, rfl⟩⟩
    go_wp2_with fail
    rw [rounds_succ]
    go_wp2_with fail
    refine (F.out _).mono ?_
    rintro e w' ⟨rfl, ⟨nd, rfl⟩⟩
    go_wp2_with fail
    refine (TK.out _).mono ?_
    rintro e w' ⟨rfl, ⟨nd, rfl⟩⟩
    go_wp2_with fail
    go_ret
    exact ⟨rfl, ⟨_, rfl⟩⟩
  · have Db : (b != 0) = true := bne_iff_ne.mpr D
    clear D
    replace D1 := Aside0.mk D1
    replace D2 := Aside0.mk D2
    replace D3 := Aside0.mk D3
    replace D4 := Aside0.mk D4
    go_enter Try.func4, Try.ntmps4
    go_wp2_with fail
    refine (A1.out _).mono ?_
    rintro e w' ⟨rfl, ⟨nd, rfl⟩⟩
    go_wp2_with fail
    refine (A2.out _).mono ?_
    rintro e w' ⟨rfl, ⟨nd, rfl⟩⟩
    go_wp2_with fail
    refine (A3.out _).mono ?_
    rintro e w' ⟨rfl, ⟨nd, rfl⟩⟩
    go_wp2_with fail
    refine (A4.out _).mono ?_
    rintro e w' ⟨rfl, ⟨nd, rfl⟩⟩
    go_wp2_with fail
    refine (A1.out _).mono ?_
    rintro e w' ⟨rfl, ⟨nd, rfl⟩⟩
    go_wp2_with fail
    refine (A5.out _).mono ?_
    rintro e w' ⟨rfl, ⟨nd, rfl⟩⟩
    go_wp2_with fail
    refine (A6.out _).mono ?_
    rintro e w' ⟨rfl, ⟨nd, rfl⟩⟩
    go_wp2_with fail
    refine (A7.out _).mono ?_
    rintro e w' ⟨rfl, ⟨nd, rfl⟩⟩
    go_wp2_with fail
    refine (A3.out _).mono ?_
    rintro e w' ⟨rfl, ⟨nd, rfl⟩⟩
    go_wp2_with fail
    refine (A8.out _).mono ?_
    rintro e w' ⟨rfl, ⟨nd, rfl⟩⟩
    go_wp2_with fail
    refine (A9.out _).mono ?_
    rintro e w' ⟨rfl, ⟨nd, rfl⟩⟩
    go_wp2_with fail
    refine (D1.out _).mono ?_
    rintro e w' ⟨rfl, ⟨nd, rfl⟩⟩
    go_wp2_with fail
    refine (D2.out _).mono ?_
    rintro e w' ⟨rfl, ⟨nd, rfl⟩⟩
    go_wp2_with fail
    refine (D3.out _).mono ?_
    rintro e w' ⟨rfl, ⟨nd, rfl⟩⟩
    go_wp2_with fail
    refine (D4.out _).mono ?_
    rintro e w' ⟨rfl, ⟨nd, rfl⟩⟩
    go_wp2_with fail
    refine (E1.out _).mono ?_
    rintro e w' ⟨rfl, ⟨nd, rfl⟩⟩
    go_wp2_with fail
    refine (E2.out _).mono ?_
    rintro e w' ⟨rfl, ⟨nd, rfl⟩⟩
    go_wp2_with fail
    refine (E3.out _).mono ?_
    rintro e w' ⟨rfl, ⟨nd, rfl⟩⟩
    go_wp2_with fail
    refine (E4.out _).mono ?_
    rintro e w' ⟨rfl, ⟨nd, rfl⟩⟩
    go_wp2_with fail
    refine (E5.out _).mono ?_
    rintro e w' ⟨rfl, ⟨nd, rfl⟩⟩
    go_wp2_with fail
    refine (E6.out _).mono ?_
    rintro e w' ⟨rfl, ⟨nd, rfl⟩⟩
    go_wp2_with fail
    refine (E7.out _).mono ?_
    rintro e w' ⟨rfl, ⟨nd, rfl⟩⟩
    go_wp2_with fail
    refine (E8.out _).mono ?_
    rintro e w' ⟨rfl, ⟨nd, rfl⟩⟩
    go_wp2_with fail
    refine (E9.out _).mono ?_
    rintro e w' ⟨rfl, ⟨nd, rfl⟩⟩
    go_wp2_with fail
    refine (G.out _).mono ?_
    rintro e w' ⟨rfl, ⟨nd, rfl⟩⟩
    go_wp2_with fail
    refine wp_loop_rounds 5 ?_
    rw [rounds_succ]
    go_wp2_with fail
    refine (T0a.out _).mono ?_
    rintro e w' ⟨rfl, ⟨nd, rfl⟩⟩
    go_wp2_with fail
    refine (T0b.out _).mono ?_
    rintro e w' ⟨rfl, ⟨nd, rfl⟩⟩
    go_wp2_with fail
    refine (T0c.out _).mono ?_
    rintro e w' ⟨rfl, ⟨nd, rfl⟩⟩
    go_wp2_with fail
    refine (T0d.out _).mono ?_
    rintro e w' ⟨rfl, ⟨nd, rfl⟩⟩
    go_wp2_with fail
    rw [rounds_succ]
    go_wp2_with fail
    refine (T1a.out _).mono ?_
    rintro e w' ⟨rfl, ⟨nd, rfl⟩⟩
    go_wp2_with fail
    refine (T1b.out _).mono ?_
    rintro e w' ⟨rfl, ⟨nd, rfl⟩⟩
    go_wp2_with fail
    refine (T1c.out _).mono ?_
    rintro e w' ⟨rfl, ⟨nd, rfl⟩⟩
    go_wp2_with fail
    refine (T1d.out _).mono ?_
    rintro e w' ⟨rfl, ⟨nd, rfl⟩⟩
    go_wp2_with fail
    rw [rounds_succ]
    go_wp2_with fail
    refine (T2a.out _).mono ?_
    rintro e w' ⟨rfl, ⟨nd, rfl⟩⟩
    go_wp2_with fail
    refine (T2b.out _).mono ?_
    rintro e w' ⟨rfl, ⟨nd, rfl⟩⟩
    go_wp2_with fail
    refine (T2c.out _).mono ?_
    rintro e w' ⟨rfl, ⟨nd, rfl⟩⟩
    go_wp2_with fail
    refine (T2d.out _).mono ?_
    rintro e w' ⟨rfl, ⟨nd, rfl⟩⟩
    go_wp2_with fail
    rw [rounds_succ]
    go_wp2_with fail
    refine (F.out _).mono ?_
    rintro e w' ⟨rfl, ⟨nd, rfl⟩⟩
    go_wp2_with fail
    refine (TK.out _).mono ?_
    rintro e w' ⟨rfl, ⟨nd, rfl⟩⟩
    go_wp2_with fail
    go_ret
    exact ⟨rfl, ⟨_, rfl⟩⟩
end Go.Proofs.Ytiapkipcngnnmaa.LawsW
