/- The lab: this program's table. Pruned. -/
import Derived.Test.YtcgdlgbomjnnnaaLabG0
namespace Go.Proofs.YtcgdlgbomjnnnaaLab
open Go
set_option linter.unusedVariables false
set_option maxRecDepth 100000
noncomputable section
noncomputable def tbl0 : T FDen := (.node noF (.node noF (.node noF (.node F7 (.node noF (.node F31 .nil (.node F95 .nil .nil)) (.node F47 (.node F79 .nil .nil) .nil)) (.node F23 (.node F39 .nil .nil) (.node noF (.node F87 .nil .nil) .nil))) (.node F11 (.node noF (.node noF (.node F67 .nil .nil) .nil) (.node F51 (.node F83 .nil .nil) .nil)) (.node F27 (.node noF (.node F75 .nil .nil) .nil) (.node noF (.node F91 .nil .nil) .nil)))) (.node noF (.node F9 (.node F17 (.node F33 (.node F65 .nil .nil) (.node F97 .nil .nil)) (.node F49 (.node F81 .nil .nil) .nil)) (.node F25 (.node F41 .nil .nil) (.node noF (.node F89 .nil .nil) .nil))) (.node F13 (.node F21 (.node F37 .nil .nil) .nil) (.node F29 (.node F45 (.node F77 .nil .nil) .nil) (.node noF (.node F93 .nil .nil) .nil))))) (.node noF (.node noF (.node F8 (.node noF (.node F32 (.node F64 .nil .nil) (.node F96 .nil .nil)) (.node F48 (.node F80 .nil .nil) .nil)) (.node F24 (.node F40 .nil .nil) (.node noF (.node F88 .nil .nil) .nil))) (.node F12 (.node F20 (.node noF (.node F68 .nil .nil) .nil) (.node F52 (.node F84 .nil .nil) .nil)) (.node F28 (.node noF (.node F76 .nil .nil) .nil) (.node noF (.node F92 .nil .nil) .nil)))) (.node F6 (.node F10 (.node F18 (.node F34 (.node F66 .nil .nil) (.node F98 .nil .nil)) (.node F50 (.node F82 .nil .nil) .nil)) (.node F26 (.node F42 (.node F74 .nil .nil) .nil) (.node noF (.node F90 .nil .nil) .nil))) (.node noF (.node F22 (.node F38 .nil .nil) (.node noF (.node F86 .nil .nil) .nil)) (.node F30 (.node F46 (.node F78 .nil .nil) .nil) (.node noF (.node F94 .nil .nil) .nil))))))
theorem tbl0Ok : T.All (FRun Try.prog []) tbl0 := (.node (.no _) (.node (.no _) (.node (.no _) (.node run7 (.node (.no _) (.node run31 .nil (.node run95 .nil .nil)) (.node run47 (.node run79 .nil .nil) .nil)) (.node run23 (.node run39 .nil .nil) (.node (.no _) (.node run87 .nil .nil) .nil))) (.node run11 (.node (.no _) (.node (.no _) (.node run67 .nil .nil) .nil) (.node run51 (.node run83 .nil .nil) .nil)) (.node run27 (.node (.no _) (.node run75 .nil .nil) .nil) (.node (.no _) (.node run91 .nil .nil) .nil)))) (.node (.no _) (.node run9 (.node run17 (.node run33 (.node run65 .nil .nil) (.node run97 .nil .nil)) (.node run49 (.node run81 .nil .nil) .nil)) (.node run25 (.node run41 .nil .nil) (.node (.no _) (.node run89 .nil .nil) .nil))) (.node run13 (.node run21 (.node run37 .nil .nil) .nil) (.node run29 (.node run45 (.node run77 .nil .nil) .nil) (.node (.no _) (.node run93 .nil .nil) .nil))))) (.node (.no _) (.node (.no _) (.node run8 (.node (.no _) (.node run32 (.node run64 .nil .nil) (.node run96 .nil .nil)) (.node run48 (.node run80 .nil .nil) .nil)) (.node run24 (.node run40 .nil .nil) (.node (.no _) (.node run88 .nil .nil) .nil))) (.node run12 (.node run20 (.node (.no _) (.node run68 .nil .nil) .nil) (.node run52 (.node run84 .nil .nil) .nil)) (.node run28 (.node (.no _) (.node run76 .nil .nil) .nil) (.node (.no _) (.node run92 .nil .nil) .nil)))) (.node run6 (.node run10 (.node run18 (.node run34 (.node run66 .nil .nil) (.node run98 .nil .nil)) (.node run50 (.node run82 .nil .nil) .nil)) (.node run26 (.node run42 (.node run74 .nil .nil) .nil) (.node (.no _) (.node run90 .nil .nil) .nil))) (.node (.no _) (.node run22 (.node run38 .nil .nil) (.node (.no _) (.node run86 .nil .nil) .nil)) (.node run30 (.node run46 (.node run78 .nil .nil) .nil) (.node (.no _) (.node run94 .nil .nil) .nil))))))
theorem known_true : isT ((kc tbl0 1000000 20).call 12 [] s0) = true := by decide +kernel
theorem runKnown : FRun Try.prog [] 12 fTrue := FRun.ofTrue fun W => law_true tbl0Ok known_true .nil W
noncomputable def tbl : T FDen := (.node noF (.node noF (.node noF (.node F7 (.node noF (.node F31 .nil (.node F95 .nil .nil)) (.node F47 (.node F79 .nil .nil) .nil)) (.node F23 (.node F39 .nil .nil) (.node noF (.node F87 .nil .nil) .nil))) (.node F11 (.node noF (.node noF (.node F67 .nil .nil) .nil) (.node F51 (.node F83 .nil .nil) .nil)) (.node F27 (.node noF (.node F75 .nil .nil) .nil) (.node noF (.node F91 .nil .nil) .nil)))) (.node noF (.node F9 (.node F17 (.node F33 (.node F65 .nil .nil) (.node F97 .nil .nil)) (.node F49 (.node F81 .nil .nil) .nil)) (.node F25 (.node F41 .nil .nil) (.node noF (.node F89 .nil .nil) .nil))) (.node F13 (.node F21 (.node F37 .nil .nil) .nil) (.node F29 (.node F45 (.node F77 .nil .nil) .nil) (.node noF (.node F93 .nil .nil) .nil))))) (.node noF (.node noF (.node F8 (.node noF (.node F32 (.node F64 .nil .nil) (.node F96 .nil .nil)) (.node F48 (.node F80 .nil .nil) .nil)) (.node F24 (.node F40 .nil .nil) (.node noF (.node F88 .nil .nil) .nil))) (.node fTrue (.node F20 (.node noF (.node F68 .nil .nil) .nil) (.node F52 (.node F84 .nil .nil) .nil)) (.node F28 (.node noF (.node F76 .nil .nil) .nil) (.node noF (.node F92 .nil .nil) .nil)))) (.node F6 (.node F10 (.node F18 (.node F34 (.node F66 .nil .nil) (.node F98 .nil .nil)) (.node F50 (.node F82 .nil .nil) .nil)) (.node F26 (.node F42 (.node F74 .nil .nil) .nil) (.node noF (.node F90 .nil .nil) .nil))) (.node noF (.node F22 (.node F38 .nil .nil) (.node noF (.node F86 .nil .nil) .nil)) (.node F30 (.node F46 (.node F78 .nil .nil) .nil) (.node noF (.node F94 .nil .nil) .nil))))))
theorem tblOk : T.All (FRun Try.prog []) tbl := (.node (.no _) (.node (.no _) (.node (.no _) (.node run7 (.node (.no _) (.node run31 .nil (.node run95 .nil .nil)) (.node run47 (.node run79 .nil .nil) .nil)) (.node run23 (.node run39 .nil .nil) (.node (.no _) (.node run87 .nil .nil) .nil))) (.node run11 (.node (.no _) (.node (.no _) (.node run67 .nil .nil) .nil) (.node run51 (.node run83 .nil .nil) .nil)) (.node run27 (.node (.no _) (.node run75 .nil .nil) .nil) (.node (.no _) (.node run91 .nil .nil) .nil)))) (.node (.no _) (.node run9 (.node run17 (.node run33 (.node run65 .nil .nil) (.node run97 .nil .nil)) (.node run49 (.node run81 .nil .nil) .nil)) (.node run25 (.node run41 .nil .nil) (.node (.no _) (.node run89 .nil .nil) .nil))) (.node run13 (.node run21 (.node run37 .nil .nil) .nil) (.node run29 (.node run45 (.node run77 .nil .nil) .nil) (.node (.no _) (.node run93 .nil .nil) .nil))))) (.node (.no _) (.node (.no _) (.node run8 (.node (.no _) (.node run32 (.node run64 .nil .nil) (.node run96 .nil .nil)) (.node run48 (.node run80 .nil .nil) .nil)) (.node run24 (.node run40 .nil .nil) (.node (.no _) (.node run88 .nil .nil) .nil))) (.node runKnown (.node run20 (.node (.no _) (.node run68 .nil .nil) .nil) (.node run52 (.node run84 .nil .nil) .nil)) (.node run28 (.node (.no _) (.node run76 .nil .nil) .nil) (.node (.no _) (.node run92 .nil .nil) .nil)))) (.node run6 (.node run10 (.node run18 (.node run34 (.node run66 .nil .nil) (.node run98 .nil .nil)) (.node run50 (.node run82 .nil .nil) .nil)) (.node run26 (.node run42 (.node run74 .nil .nil) .nil) (.node (.no _) (.node run90 .nil .nil) .nil))) (.node (.no _) (.node run22 (.node run38 .nil .nil) (.node (.no _) (.node run86 .nil .nil) .nil)) (.node run30 (.node run46 (.node run78 .nil .nil) .nil) (.node (.no _) (.node run94 .nil .nil) .nil))))))
noncomputable def K (n : Nat) : KC := kc tbl 1152921504606846976 n
theorem Kfuel (n : Nat) : (K n).fuel = 1152921504606846976 := fuel_eq
theorem call6 (n : Nat) (args : List V) (s : St) : (K (n + 1)).call 6 args s = runF F6 (K n) args s := call_eq rfl
theorem call7 (n : Nat) (args : List V) (s : St) : (K (n + 1)).call 7 args s = runF F7 (K n) args s := call_eq rfl
theorem call8 (n : Nat) (args : List V) (s : St) : (K (n + 1)).call 8 args s = runF F8 (K n) args s := call_eq rfl
theorem call9 (n : Nat) (args : List V) (s : St) : (K (n + 1)).call 9 args s = runF F9 (K n) args s := call_eq rfl
theorem call10 (n : Nat) (args : List V) (s : St) : (K (n + 1)).call 10 args s = runF F10 (K n) args s := call_eq rfl
theorem call11 (n : Nat) (args : List V) (s : St) : (K (n + 1)).call 11 args s = runF F11 (K n) args s := call_eq rfl
theorem call13 (n : Nat) (args : List V) (s : St) : (K (n + 1)).call 13 args s = runF F13 (K n) args s := call_eq rfl
theorem call17 (n : Nat) (args : List V) (s : St) : (K (n + 1)).call 17 args s = runF F17 (K n) args s := call_eq rfl
theorem call18 (n : Nat) (args : List V) (s : St) : (K (n + 1)).call 18 args s = runF F18 (K n) args s := call_eq rfl
theorem call20 (n : Nat) (args : List V) (s : St) : (K (n + 1)).call 20 args s = runF F20 (K n) args s := call_eq rfl
theorem call21 (n : Nat) (args : List V) (s : St) : (K (n + 1)).call 21 args s = runF F21 (K n) args s := call_eq rfl
theorem call22 (n : Nat) (args : List V) (s : St) : (K (n + 1)).call 22 args s = runF F22 (K n) args s := call_eq rfl
theorem call23 (n : Nat) (args : List V) (s : St) : (K (n + 1)).call 23 args s = runF F23 (K n) args s := call_eq rfl
theorem call24 (n : Nat) (args : List V) (s : St) : (K (n + 1)).call 24 args s = runF F24 (K n) args s := call_eq rfl
theorem call25 (n : Nat) (args : List V) (s : St) : (K (n + 1)).call 25 args s = runF F25 (K n) args s := call_eq rfl
theorem call26 (n : Nat) (args : List V) (s : St) : (K (n + 1)).call 26 args s = runF F26 (K n) args s := call_eq rfl
theorem call27 (n : Nat) (args : List V) (s : St) : (K (n + 1)).call 27 args s = runF F27 (K n) args s := call_eq rfl
theorem call28 (n : Nat) (args : List V) (s : St) : (K (n + 1)).call 28 args s = runF F28 (K n) args s := call_eq rfl
theorem call29 (n : Nat) (args : List V) (s : St) : (K (n + 1)).call 29 args s = runF F29 (K n) args s := call_eq rfl
theorem call30 (n : Nat) (args : List V) (s : St) : (K (n + 1)).call 30 args s = runF F30 (K n) args s := call_eq rfl
theorem call31 (n : Nat) (args : List V) (s : St) : (K (n + 1)).call 31 args s = runF F31 (K n) args s := call_eq rfl
theorem call32 (n : Nat) (args : List V) (s : St) : (K (n + 1)).call 32 args s = runF F32 (K n) args s := call_eq rfl
theorem call33 (n : Nat) (args : List V) (s : St) : (K (n + 1)).call 33 args s = runF F33 (K n) args s := call_eq rfl
theorem call34 (n : Nat) (args : List V) (s : St) : (K (n + 1)).call 34 args s = runF F34 (K n) args s := call_eq rfl
theorem call37 (n : Nat) (args : List V) (s : St) : (K (n + 1)).call 37 args s = runF F37 (K n) args s := call_eq rfl
theorem call38 (n : Nat) (args : List V) (s : St) : (K (n + 1)).call 38 args s = runF F38 (K n) args s := call_eq rfl
theorem call39 (n : Nat) (args : List V) (s : St) : (K (n + 1)).call 39 args s = runF F39 (K n) args s := call_eq rfl
theorem call40 (n : Nat) (args : List V) (s : St) : (K (n + 1)).call 40 args s = runF F40 (K n) args s := call_eq rfl
theorem call41 (n : Nat) (args : List V) (s : St) : (K (n + 1)).call 41 args s = runF F41 (K n) args s := call_eq rfl
theorem call42 (n : Nat) (args : List V) (s : St) : (K (n + 1)).call 42 args s = runF F42 (K n) args s := call_eq rfl
theorem call45 (n : Nat) (args : List V) (s : St) : (K (n + 1)).call 45 args s = runF F45 (K n) args s := call_eq rfl
theorem call46 (n : Nat) (args : List V) (s : St) : (K (n + 1)).call 46 args s = runF F46 (K n) args s := call_eq rfl
theorem call47 (n : Nat) (args : List V) (s : St) : (K (n + 1)).call 47 args s = runF F47 (K n) args s := call_eq rfl
theorem call48 (n : Nat) (args : List V) (s : St) : (K (n + 1)).call 48 args s = runF F48 (K n) args s := call_eq rfl
theorem call49 (n : Nat) (args : List V) (s : St) : (K (n + 1)).call 49 args s = runF F49 (K n) args s := call_eq rfl
theorem call50 (n : Nat) (args : List V) (s : St) : (K (n + 1)).call 50 args s = runF F50 (K n) args s := call_eq rfl
theorem call51 (n : Nat) (args : List V) (s : St) : (K (n + 1)).call 51 args s = runF F51 (K n) args s := call_eq rfl
theorem call52 (n : Nat) (args : List V) (s : St) : (K (n + 1)).call 52 args s = runF F52 (K n) args s := call_eq rfl
theorem call64 (n : Nat) (args : List V) (s : St) : (K (n + 1)).call 64 args s = runF F64 (K n) args s := call_eq rfl
theorem call65 (n : Nat) (args : List V) (s : St) : (K (n + 1)).call 65 args s = runF F65 (K n) args s := call_eq rfl
theorem call66 (n : Nat) (args : List V) (s : St) : (K (n + 1)).call 66 args s = runF F66 (K n) args s := call_eq rfl
theorem call67 (n : Nat) (args : List V) (s : St) : (K (n + 1)).call 67 args s = runF F67 (K n) args s := call_eq rfl
theorem call68 (n : Nat) (args : List V) (s : St) : (K (n + 1)).call 68 args s = runF F68 (K n) args s := call_eq rfl
theorem call74 (n : Nat) (args : List V) (s : St) : (K (n + 1)).call 74 args s = runF F74 (K n) args s := call_eq rfl
theorem call75 (n : Nat) (args : List V) (s : St) : (K (n + 1)).call 75 args s = runF F75 (K n) args s := call_eq rfl
theorem call76 (n : Nat) (args : List V) (s : St) : (K (n + 1)).call 76 args s = runF F76 (K n) args s := call_eq rfl
theorem call77 (n : Nat) (args : List V) (s : St) : (K (n + 1)).call 77 args s = runF F77 (K n) args s := call_eq rfl
theorem call78 (n : Nat) (args : List V) (s : St) : (K (n + 1)).call 78 args s = runF F78 (K n) args s := call_eq rfl
theorem call79 (n : Nat) (args : List V) (s : St) : (K (n + 1)).call 79 args s = runF F79 (K n) args s := call_eq rfl
theorem call80 (n : Nat) (args : List V) (s : St) : (K (n + 1)).call 80 args s = runF F80 (K n) args s := call_eq rfl
theorem call81 (n : Nat) (args : List V) (s : St) : (K (n + 1)).call 81 args s = runF F81 (K n) args s := call_eq rfl
theorem call82 (n : Nat) (args : List V) (s : St) : (K (n + 1)).call 82 args s = runF F82 (K n) args s := call_eq rfl
theorem call83 (n : Nat) (args : List V) (s : St) : (K (n + 1)).call 83 args s = runF F83 (K n) args s := call_eq rfl
theorem call84 (n : Nat) (args : List V) (s : St) : (K (n + 1)).call 84 args s = runF F84 (K n) args s := call_eq rfl
theorem call86 (n : Nat) (args : List V) (s : St) : (K (n + 1)).call 86 args s = runF F86 (K n) args s := call_eq rfl
theorem call87 (n : Nat) (args : List V) (s : St) : (K (n + 1)).call 87 args s = runF F87 (K n) args s := call_eq rfl
theorem call88 (n : Nat) (args : List V) (s : St) : (K (n + 1)).call 88 args s = runF F88 (K n) args s := call_eq rfl
theorem call89 (n : Nat) (args : List V) (s : St) : (K (n + 1)).call 89 args s = runF F89 (K n) args s := call_eq rfl
theorem call90 (n : Nat) (args : List V) (s : St) : (K (n + 1)).call 90 args s = runF F90 (K n) args s := call_eq rfl
theorem call91 (n : Nat) (args : List V) (s : St) : (K (n + 1)).call 91 args s = runF F91 (K n) args s := call_eq rfl
theorem call92 (n : Nat) (args : List V) (s : St) : (K (n + 1)).call 92 args s = runF F92 (K n) args s := call_eq rfl
theorem call93 (n : Nat) (args : List V) (s : St) : (K (n + 1)).call 93 args s = runF F93 (K n) args s := call_eq rfl
theorem call94 (n : Nat) (args : List V) (s : St) : (K (n + 1)).call 94 args s = runF F94 (K n) args s := call_eq rfl
theorem call95 (n : Nat) (args : List V) (s : St) : (K (n + 1)).call 95 args s = runF F95 (K n) args s := call_eq rfl
theorem call96 (n : Nat) (args : List V) (s : St) : (K (n + 1)).call 96 args s = runF F96 (K n) args s := call_eq rfl
theorem call97 (n : Nat) (args : List V) (s : St) : (K (n + 1)).call 97 args s = runF F97 (K n) args s := call_eq rfl
theorem call98 (n : Nat) (args : List V) (s : St) : (K (n + 1)).call 98 args s = runF F98 (K n) args s := call_eq rfl
theorem op12 (n : Nat) (s : St) : (K (n + 1)).call 12 [] s = some (.bool true, s) := fTrue_call rfl
theorem op6 (n : Nat) (a0 : V) (s : St) : (K (n + 1)).call 6 [a0] s = retR (resV [rT g2]) (p6_0 (K n) (u0 e0 a0) s) := by rw [call6, runF_eq (e := (u0 e0 a0)) rfl]; rfl
theorem op10 (n : Nat) (a0 a1 : V) (s : St) : (K (n + 1)).call 10 [a0, a1] s = retR (resV [rT g4]) (p10_0 (K n) (u1 (u0 e0 a0) a1) s) := by rw [call10, runF_eq (e := (u1 (u0 e0 a0) a1)) rfl]; rfl
theorem op11 (n : Nat) (a0 a1 : V) (s : St) : (K (n + 1)).call 11 [a0, a1] s = retR (resV [rT g4]) (p11_0 (K n) (u1 (u0 e0 a0) a1) s) := by rw [call11, runF_eq (e := (u1 (u0 e0 a0) a1)) rfl]; rfl
theorem op13 (n : Nat) (a0 a1 : V) (s : St) : (K (n + 1)).call 13 [a0, a1] s = retR (resV [rT g4, rT g5, rT g6]) (p13_0 (K n) (u1 (u0 e0 a0) a1) s) := by rw [call13, runF_eq (e := (u1 (u0 e0 a0) a1)) rfl]; rfl
theorem op20 (n : Nat) (a0 a1 : V) (s : St) : (K (n + 1)).call 20 [a0, a1] s = retR (resV [rT g4]) (p20_0 (K n) (u1 (u0 e0 a0) a1) s) := by rw [call20, runF_eq (e := (u1 (u0 e0 a0) a1)) rfl]; rfl
theorem op27 (n : Nat) (a0 : V) (s : St) : (K (n + 1)).call 27 [a0] s = retR (resV [rT g2]) (p27_0 (K n) (u0 e0 a0) s) := by rw [call27, runF_eq (e := (u0 e0 a0)) rfl]; rfl
theorem op28 (n : Nat) (a0 a1 a2 : V) (s : St) : (K (n + 1)).call 28 [a0, a1, a2] s = retR (resV [rT g6, rT g7]) (p28_0 (K n) (u2 (u1 (u0 e0 a0) a1) a2) s) := by rw [call28, runF_eq (e := (u2 (u1 (u0 e0 a0) a1) a2)) rfl]; rfl
theorem op29 (n : Nat) (a0 a1 : V) (s : St) : (K (n + 1)).call 29 [a0, a1] s = retR (resV [rT g4]) (p29_0 (K n) (u1 (u0 e0 a0) a1) s) := by rw [call29, runF_eq (e := (u1 (u0 e0 a0) a1)) rfl]; rfl
theorem op30 (n : Nat) (a0 a1 : V) (s : St) : (K (n + 1)).call 30 [a0, a1] s = retR (resV [rT g4]) (p30_0 (K n) (u1 (u0 e0 a0) a1) s) := by rw [call30, runF_eq (e := (u1 (u0 e0 a0) a1)) rfl]; rfl
theorem op33 (n : Nat) (a0 : V) (s : St) : (K (n + 1)).call 33 [a0] s = retR (resV [rT g2, rT g3, rT g4]) (p33_0 (K n) (u0 e0 a0) s) := by rw [call33, runF_eq (e := (u0 e0 a0)) rfl]; rfl
theorem op34 (n : Nat) (a0 : V) (s : St) : (K (n + 1)).call 34 [a0] s = retR (resV [rT g2]) (p34_0 (K n) (u0 e0 a0) s) := by rw [call34, runF_eq (e := (u0 e0 a0)) rfl]; rfl
theorem op40 (n : Nat) (a0 a1 a2 a3 : V) (s : St) : (K (n + 1)).call 40 [a0, a1, a2, a3] s = retR (resV []) (p40_0 (K n) (u3 (u2 (u1 (u0 e0 a0) a1) a2) a3) s) := by rw [call40, runF_eq (e := (u3 (u2 (u1 (u0 e0 a0) a1) a2) a3)) rfl]; rfl
theorem op45 (n : Nat) (a0 : V) (s : St) : (K (n + 1)).call 45 [a0] s = retR (resV [rT g2]) (p45_0 (K n) (u0 e0 a0) s) := by rw [call45, runF_eq (e := (u0 e0 a0)) rfl]; rfl
theorem op48 (n : Nat) (a0 a1 a2 a3 a4 a5 a6 a7 : V) (s : St) : (K (n + 1)).call 48 [a0, a1, a2, a3, a4, a5, a6, a7] s = retR (resV [rC true (nat_lit 9) g16, rT g17]) (p48_0 (K n) (u7 (u6 (u5 (u4 (u3 (u2 (u1 (u0 e0 a0) a1) a2) a3) a4) a5) a6) a7) s) := by rw [call48, runF_eq (e := (u7 (u6 (u5 (u4 (u3 (u2 (u1 (u0 e0 a0) a1) a2) a3) a4) a5) a6) a7)) rfl]; rfl
theorem op49 (n : Nat) (a0 a1 : V) (s : St) : (K (n + 1)).call 49 [a0, a1] s = retR (resV [rT g4]) (p49_0 (K n) (u1 (u0 e0 a0) a1) s) := by rw [call49, runF_eq (e := (u1 (u0 e0 a0) a1)) rfl]; rfl
theorem op64 (n : Nat) (a0 a1 a2 a3 : V) (s : St) : (K (n + 1)).call 64 [a0, a1, a2, a3] s = retR (resV []) (p64_0 (K n) (u3 (u2 (u1 (u0 e0 a0) a1) a2) a3) s) := by rw [call64, runF_eq (e := (u3 (u2 (u1 (u0 e0 a0) a1) a2) a3)) rfl]; rfl
theorem op65 (n : Nat) (a0 a1 a2 a3 : V) (s : St) : (K (n + 1)).call 65 [a0, a1, a2, a3] s = retR (resV []) (p65_0 (K n) (u3 (u2 (u1 (u0 e0 a0) a1) a2) a3) s) := by rw [call65, runF_eq (e := (u3 (u2 (u1 (u0 e0 a0) a1) a2) a3)) rfl]; rfl
theorem op66 (n : Nat) (a0 a1 : V) (s : St) : (K (n + 1)).call 66 [a0, a1] s = retR (resV []) (p66_0 (K n) (u1 (u0 e0 a0) a1) s) := by rw [call66, runF_eq (e := (u1 (u0 e0 a0) a1)) rfl]; rfl
theorem op67 (n : Nat) (a0 a1 : V) (s : St) : (K (n + 1)).call 67 [a0, a1] s = retR (resV []) (p67_0 (K n) (u1 (u0 e0 a0) a1) s) := by rw [call67, runF_eq (e := (u1 (u0 e0 a0) a1)) rfl]; rfl
theorem op68 (n : Nat) (a0 a1 a2 a3 : V) (s : St) : (K (n + 1)).call 68 [a0, a1, a2, a3] s = retR (resV [rC true (nat_lit 9) g8]) (p68_0 (K n) (u3 (u2 (u1 (u0 e0 a0) a1) a2) a3) s) := by rw [call68, runF_eq (e := (u3 (u2 (u1 (u0 e0 a0) a1) a2) a3)) rfl]; rfl
theorem op74 (n : Nat) (a0 a1 : V) (s : St) : (K (n + 1)).call 74 [a0, a1] s = retR (resV []) (p74_0 (K n) (u1 (u0 e0 a0) a1) s) := by rw [call74, runF_eq (e := (u1 (u0 e0 a0) a1)) rfl]; rfl
theorem op75 (n : Nat) (a0 : V) (s : St) : (K (n + 1)).call 75 [a0] s = retR (resV [rT g2]) (p75_0 (K n) (u0 e0 a0) s) := by rw [call75, runF_eq (e := (u0 e0 a0)) rfl]; rfl
theorem op76 (n : Nat) (a0 : V) (s : St) : (K (n + 1)).call 76 [a0] s = retR (resV []) (p76_0 (K n) (u0 e0 a0) s) := by rw [call76, runF_eq (e := (u0 e0 a0)) rfl]; rfl
theorem op77 (n : Nat) (a0 a1 : V) (s : St) : (K (n + 1)).call 77 [a0, a1] s = retR (resV [rT g4]) (p77_0 (K n) (u1 (u0 e0 a0) a1) s) := by rw [call77, runF_eq (e := (u1 (u0 e0 a0) a1)) rfl]; rfl
theorem op78 (n : Nat) (a0 a1 : V) (s : St) : (K (n + 1)).call 78 [a0, a1] s = retR (resV []) (p78_0 (K n) (u1 (u0 e0 a0) a1) s) := by rw [call78, runF_eq (e := (u1 (u0 e0 a0) a1)) rfl]; rfl
theorem op79 (n : Nat) (a0 a1 a2 a3 : V) (s : St) : (K (n + 1)).call 79 [a0, a1, a2, a3] s = retR (resV [rT g8]) (p79_0 (K n) (u3 (u2 (u1 (u0 e0 a0) a1) a2) a3) s) := by rw [call79, runF_eq (e := (u3 (u2 (u1 (u0 e0 a0) a1) a2) a3)) rfl]; rfl
theorem op80 (n : Nat) (a0 a1 a2 a3 : V) (s : St) : (K (n + 1)).call 80 [a0, a1, a2, a3] s = retR (resV [rT g8]) (p80_0 (K n) (u3 (u2 (u1 (u0 e0 a0) a1) a2) a3) s) := by rw [call80, runF_eq (e := (u3 (u2 (u1 (u0 e0 a0) a1) a2) a3)) rfl]; rfl
theorem op81 (n : Nat) (a0 a1 : V) (s : St) : (K (n + 1)).call 81 [a0, a1] s = retR (resV [rT g4]) (p81_0 (K n) (u1 (u0 e0 a0) a1) s) := by rw [call81, runF_eq (e := (u1 (u0 e0 a0) a1)) rfl]; rfl
theorem op82 (n : Nat) (a0 a1 a2 a3 : V) (s : St) : (K (n + 1)).call 82 [a0, a1, a2, a3] s = retR (resV [rT g8]) (p82_0 (K n) (u3 (u2 (u1 (u0 e0 a0) a1) a2) a3) s) := by rw [call82, runF_eq (e := (u3 (u2 (u1 (u0 e0 a0) a1) a2) a3)) rfl]; rfl
theorem op83 (n : Nat) (a0 a1 : V) (s : St) : (K (n + 1)).call 83 [a0, a1] s = retR (resV [rT g4]) (p83_0 (K n) (u1 (u0 e0 a0) a1) s) := by rw [call83, runF_eq (e := (u1 (u0 e0 a0) a1)) rfl]; rfl
theorem op84 (n : Nat) (a0 : V) (s : St) : (K (n + 1)).call 84 [a0] s = retR (resV [rT g2, rT g3]) (p84_0 (K n) (u0 e0 a0) s) := by rw [call84, runF_eq (e := (u0 e0 a0)) rfl]; rfl
theorem op86 (n : Nat) (a0 : V) (s : St) : (K (n + 1)).call 86 [a0] s = retR (resV []) (p86_0 (K n) (u0 e0 a0) s) := by rw [call86, runF_eq (e := (u0 e0 a0)) rfl]; rfl
theorem op87 (n : Nat) (a0 : V) (s : St) : (K (n + 1)).call 87 [a0] s = retR (resV []) (p87_0 (K n) (u0 e0 a0) s) := by rw [call87, runF_eq (e := (u0 e0 a0)) rfl]; rfl
theorem op88 (n : Nat) (a0 : V) (s : St) : (K (n + 1)).call 88 [a0] s = retR (resV []) (p88_0 (K n) (u0 e0 a0) s) := by rw [call88, runF_eq (e := (u0 e0 a0)) rfl]; rfl
theorem op89 (n : Nat) (a0 : V) (s : St) : (K (n + 1)).call 89 [a0] s = retR (resV []) (p89_0 (K n) (u0 e0 a0) s) := by rw [call89, runF_eq (e := (u0 e0 a0)) rfl]; rfl
theorem op90 (n : Nat) (a0 : V) (s : St) : (K (n + 1)).call 90 [a0] s = retR (resV []) (p90_0 (K n) (u0 e0 a0) s) := by rw [call90, runF_eq (e := (u0 e0 a0)) rfl]; rfl
theorem op91 (n : Nat) (a0 : V) (s : St) : (K (n + 1)).call 91 [a0] s = retR (resV []) (p91_0 (K n) (u0 e0 a0) s) := by rw [call91, runF_eq (e := (u0 e0 a0)) rfl]; rfl
theorem op92 (n : Nat) (a0 a1 : V) (s : St) : (K (n + 1)).call 92 [a0, a1] s = retR (resV [rT g4, rT g5, rT g6]) (p92_0 (K n) (u1 (u0 e0 a0) a1) s) := by rw [call92, runF_eq (e := (u1 (u0 e0 a0) a1)) rfl]; rfl
theorem op93 (n : Nat) (a0 : V) (s : St) : (K (n + 1)).call 93 [a0] s = retR (resV [rT g2, rT g3]) (p93_0 (K n) (u0 e0 a0) s) := by rw [call93, runF_eq (e := (u0 e0 a0)) rfl]; rfl
theorem op94 (n : Nat) (a0 : V) (s : St) : (K (n + 1)).call 94 [a0] s = retR (resV [rT g2]) (p94_0 (K n) (u0 e0 a0) s) := by rw [call94, runF_eq (e := (u0 e0 a0)) rfl]; rfl
theorem op95 (n : Nat) (a0 a1 a2 : V) (s : St) : (K (n + 1)).call 95 [a0, a1, a2] s = retR (resV []) (p95_0 (K n) (u2 (u1 (u0 e0 a0) a1) a2) s) := by rw [call95, runF_eq (e := (u2 (u1 (u0 e0 a0) a1) a2)) rfl]; rfl
theorem op96 (n : Nat) (a0 a1 : V) (s : St) : (K (n + 1)).call 96 [a0, a1] s = retR (resV []) (p96_0 (K n) (u1 (u0 e0 a0) a1) s) := by rw [call96, runF_eq (e := (u1 (u0 e0 a0) a1)) rfl]; rfl
theorem op98 (n : Nat) (a0 a1 a2 : V) (s : St) : (K (n + 1)).call 98 [a0, a1, a2] s = retR (resV [rT g6]) (p98_0 (K n) (u2 (u1 (u0 e0 a0) a1) a2) s) := by rw [call98, runF_eq (e := (u2 (u1 (u0 e0 a0) a1) a2)) rfl]; rfl
end
end Go.Proofs.YtcgdlgbomjnnnaaLab
