/- The lab: this program's table. Pruned. -/
import Derived.Test.YtgkcpceppmppfaaLabG0
import Derived.Test.YtgkcpceppmppfaaLabWd
namespace Go.Proofs.YtgkcpceppmppfaaLab
open Go
set_option linter.unusedVariables false
set_option maxRecDepth 100000
noncomputable section
noncomputable def tbl0 : T FDen := (.node noF (.node noF (.node noF (.node noF (.node F15 (.node F31 (.node F63 .nil .nil) .nil) (.node F47 .nil .nil)) (.node noF (.node F39 (.node F71 .nil .nil) .nil) (.node F55 .nil .nil))) (.node noF (.node F19 (.node F35 (.node F67 .nil .nil) .nil) (.node F51 .nil .nil)) (.node noF (.node F43 (.node noF .nil .nil) .nil) (.node F59 .nil .nil)))) (.node noF (.node F9 (.node noF (.node F33 (.node F65 .nil .nil) .nil) (.node F49 .nil .nil)) (.node noF (.node F41 (.node F73 .nil .nil) .nil) (.node F57 .nil .nil))) (.node F13 (.node F21 (.node F37 (.node F69 .nil .nil) .nil) (.node F53 .nil .nil)) (.node F29 (.node F45 .nil .nil) (.node F61 .nil .nil))))) (.node noF (.node noF (.node F8 (.node F16 (.node F32 (.node noF .nil .nil) .nil) (.node F48 .nil .nil)) (.node F24 (.node F40 (.node F72 .nil .nil) .nil) (.node F56 .nil .nil))) (.node noF (.node F20 (.node F36 (.node F68 .nil .nil) .nil) (.node F52 .nil .nil)) (.node F28 (.node F44 (.node F76 .nil .nil) .nil) (.node F60 .nil .nil)))) (.node F6 (.node F10 (.node noF (.node F34 (.node F66 .nil .nil) .nil) (.node F50 .nil .nil)) (.node F26 (.node F42 (.node noF .nil .nil) .nil) (.node F58 .nil .nil))) (.node F14 (.node F22 (.node F38 (.node F70 .nil .nil) .nil) (.node F54 .nil .nil)) (.node F30 (.node noF .nil .nil) (.node F62 .nil .nil))))))
theorem tbl0Ok : T.All (FRun Try.prog []) tbl0 := (T.All.node (FRun.no _) (T.All.node (FRun.no _) (T.All.node (FRun.no _) (T.All.node (FRun.no _) (T.All.node run15 (T.All.node run31 (T.All.node run63 T.All.nil T.All.nil) T.All.nil) (T.All.node run47 T.All.nil T.All.nil)) (T.All.node (FRun.no _) (T.All.node run39 (T.All.node run71 T.All.nil T.All.nil) T.All.nil) (T.All.node run55 T.All.nil T.All.nil))) (T.All.node (FRun.no _) (T.All.node run19 (T.All.node run35 (T.All.node run67 T.All.nil T.All.nil) T.All.nil) (T.All.node run51 T.All.nil T.All.nil)) (T.All.node (FRun.no _) (T.All.node run43 (T.All.node (FRun.no _) T.All.nil T.All.nil) T.All.nil) (T.All.node run59 T.All.nil T.All.nil)))) (T.All.node (FRun.no _) (T.All.node run9 (T.All.node (FRun.no _) (T.All.node run33 (T.All.node run65 T.All.nil T.All.nil) T.All.nil) (T.All.node run49 T.All.nil T.All.nil)) (T.All.node (FRun.no _) (T.All.node run41 (T.All.node run73 T.All.nil T.All.nil) T.All.nil) (T.All.node run57 T.All.nil T.All.nil))) (T.All.node run13 (T.All.node run21 (T.All.node run37 (T.All.node run69 T.All.nil T.All.nil) T.All.nil) (T.All.node run53 T.All.nil T.All.nil)) (T.All.node run29 (T.All.node run45 T.All.nil T.All.nil) (T.All.node run61 T.All.nil T.All.nil))))) (T.All.node (FRun.no _) (T.All.node (FRun.no _) (T.All.node run8 (T.All.node run16 (T.All.node run32 (T.All.node (FRun.no _) T.All.nil T.All.nil) T.All.nil) (T.All.node run48 T.All.nil T.All.nil)) (T.All.node run24 (T.All.node run40 (T.All.node run72 T.All.nil T.All.nil) T.All.nil) (T.All.node run56 T.All.nil T.All.nil))) (T.All.node (FRun.no _) (T.All.node run20 (T.All.node run36 (T.All.node run68 T.All.nil T.All.nil) T.All.nil) (T.All.node run52 T.All.nil T.All.nil)) (T.All.node run28 (T.All.node run44 (T.All.node run76 T.All.nil T.All.nil) T.All.nil) (T.All.node run60 T.All.nil T.All.nil)))) (T.All.node run6 (T.All.node run10 (T.All.node (FRun.no _) (T.All.node run34 (T.All.node run66 T.All.nil T.All.nil) T.All.nil) (T.All.node run50 T.All.nil T.All.nil)) (T.All.node run26 (T.All.node run42 (T.All.node (FRun.no _) T.All.nil T.All.nil) T.All.nil) (T.All.node run58 T.All.nil T.All.nil))) (T.All.node run14 (T.All.node run22 (T.All.node run38 (T.All.node run70 T.All.nil T.All.nil) T.All.nil) (T.All.node run54 T.All.nil T.All.nil)) (T.All.node run30 (T.All.node (FRun.no _) T.All.nil T.All.nil) (T.All.node run62 T.All.nil T.All.nil))))))
theorem known_true : isT ((kc tbl0 1000000 20).call 15 [] s0) = true := by decide +kernel
theorem runKnown : FRun Try.prog [] 15 fTrue := FRun.ofTrue fun W => law_true tbl0Ok known_true .nil W
noncomputable def tbl : T FDen := (.node noF (.node noF (.node noF (.node noF (.node fTrue (.node F31 (.node F63 .nil .nil) .nil) (.node F47 .nil .nil)) (.node noF (.node F39 (.node F71 .nil .nil) .nil) (.node F55 .nil .nil))) (.node noF (.node F19 (.node F35 (.node F67 .nil .nil) .nil) (.node F51 .nil .nil)) (.node noF (.node F43 (.node noF .nil .nil) .nil) (.node F59 .nil .nil)))) (.node noF (.node F9 (.node noF (.node F33 (.node F65 .nil .nil) .nil) (.node F49 .nil .nil)) (.node noF (.node F41 (.node F73 .nil .nil) .nil) (.node F57 .nil .nil))) (.node F13 (.node F21 (.node F37 (.node F69 .nil .nil) .nil) (.node F53 .nil .nil)) (.node F29 (.node F45 .nil .nil) (.node F61 .nil .nil))))) (.node noF (.node noF (.node F8 (.node F16 (.node F32 (.node noF .nil .nil) .nil) (.node F48 .nil .nil)) (.node F24 (.node F40 (.node F72 .nil .nil) .nil) (.node F56 .nil .nil))) (.node noF (.node F20 (.node F36 (.node F68 .nil .nil) .nil) (.node F52 .nil .nil)) (.node F28 (.node F44 (.node F76 .nil .nil) .nil) (.node F60 .nil .nil)))) (.node F6 (.node F10 (.node noF (.node F34 (.node F66 .nil .nil) .nil) (.node F50 .nil .nil)) (.node F26 (.node F42 (.node noF .nil .nil) .nil) (.node F58 .nil .nil))) (.node F14 (.node F22 (.node F38 (.node F70 .nil .nil) .nil) (.node F54 .nil .nil)) (.node F30 (.node noF .nil .nil) (.node F62 .nil .nil))))))
theorem tblOk : T.All (FRun Try.prog []) tbl := (T.All.node (FRun.no _) (T.All.node (FRun.no _) (T.All.node (FRun.no _) (T.All.node (FRun.no _) (T.All.node runKnown (T.All.node run31 (T.All.node run63 T.All.nil T.All.nil) T.All.nil) (T.All.node run47 T.All.nil T.All.nil)) (T.All.node (FRun.no _) (T.All.node run39 (T.All.node run71 T.All.nil T.All.nil) T.All.nil) (T.All.node run55 T.All.nil T.All.nil))) (T.All.node (FRun.no _) (T.All.node run19 (T.All.node run35 (T.All.node run67 T.All.nil T.All.nil) T.All.nil) (T.All.node run51 T.All.nil T.All.nil)) (T.All.node (FRun.no _) (T.All.node run43 (T.All.node (FRun.no _) T.All.nil T.All.nil) T.All.nil) (T.All.node run59 T.All.nil T.All.nil)))) (T.All.node (FRun.no _) (T.All.node run9 (T.All.node (FRun.no _) (T.All.node run33 (T.All.node run65 T.All.nil T.All.nil) T.All.nil) (T.All.node run49 T.All.nil T.All.nil)) (T.All.node (FRun.no _) (T.All.node run41 (T.All.node run73 T.All.nil T.All.nil) T.All.nil) (T.All.node run57 T.All.nil T.All.nil))) (T.All.node run13 (T.All.node run21 (T.All.node run37 (T.All.node run69 T.All.nil T.All.nil) T.All.nil) (T.All.node run53 T.All.nil T.All.nil)) (T.All.node run29 (T.All.node run45 T.All.nil T.All.nil) (T.All.node run61 T.All.nil T.All.nil))))) (T.All.node (FRun.no _) (T.All.node (FRun.no _) (T.All.node run8 (T.All.node run16 (T.All.node run32 (T.All.node (FRun.no _) T.All.nil T.All.nil) T.All.nil) (T.All.node run48 T.All.nil T.All.nil)) (T.All.node run24 (T.All.node run40 (T.All.node run72 T.All.nil T.All.nil) T.All.nil) (T.All.node run56 T.All.nil T.All.nil))) (T.All.node (FRun.no _) (T.All.node run20 (T.All.node run36 (T.All.node run68 T.All.nil T.All.nil) T.All.nil) (T.All.node run52 T.All.nil T.All.nil)) (T.All.node run28 (T.All.node run44 (T.All.node run76 T.All.nil T.All.nil) T.All.nil) (T.All.node run60 T.All.nil T.All.nil)))) (T.All.node run6 (T.All.node run10 (T.All.node (FRun.no _) (T.All.node run34 (T.All.node run66 T.All.nil T.All.nil) T.All.nil) (T.All.node run50 T.All.nil T.All.nil)) (T.All.node run26 (T.All.node run42 (T.All.node (FRun.no _) T.All.nil T.All.nil) T.All.nil) (T.All.node run58 T.All.nil T.All.nil))) (T.All.node run14 (T.All.node run22 (T.All.node run38 (T.All.node run70 T.All.nil T.All.nil) T.All.nil) (T.All.node run54 T.All.nil T.All.nil)) (T.All.node run30 (T.All.node (FRun.no _) T.All.nil T.All.nil) (T.All.node run62 T.All.nil T.All.nil))))))
noncomputable def K (n : Nat) : KC := kc tbl 1000000 n
theorem Kfuel (n : Nat) : (K n).fuel = 1000000 := fuel_eq
theorem call6 (n : Nat) (args : List V) (s : St) : (K (n + 1)).call 6 args s = runF F6 (K n) args s := call_eq rfl
theorem call8 (n : Nat) (args : List V) (s : St) : (K (n + 1)).call 8 args s = runF F8 (K n) args s := call_eq rfl
theorem call9 (n : Nat) (args : List V) (s : St) : (K (n + 1)).call 9 args s = runF F9 (K n) args s := call_eq rfl
theorem call10 (n : Nat) (args : List V) (s : St) : (K (n + 1)).call 10 args s = runF F10 (K n) args s := call_eq rfl
theorem call13 (n : Nat) (args : List V) (s : St) : (K (n + 1)).call 13 args s = runF F13 (K n) args s := call_eq rfl
theorem call14 (n : Nat) (args : List V) (s : St) : (K (n + 1)).call 14 args s = runF F14 (K n) args s := call_eq rfl
theorem call16 (n : Nat) (args : List V) (s : St) : (K (n + 1)).call 16 args s = runF F16 (K n) args s := call_eq rfl
theorem call19 (n : Nat) (args : List V) (s : St) : (K (n + 1)).call 19 args s = runF F19 (K n) args s := call_eq rfl
theorem call20 (n : Nat) (args : List V) (s : St) : (K (n + 1)).call 20 args s = runF F20 (K n) args s := call_eq rfl
theorem call21 (n : Nat) (args : List V) (s : St) : (K (n + 1)).call 21 args s = runF F21 (K n) args s := call_eq rfl
theorem call22 (n : Nat) (args : List V) (s : St) : (K (n + 1)).call 22 args s = runF F22 (K n) args s := call_eq rfl
theorem call24 (n : Nat) (args : List V) (s : St) : (K (n + 1)).call 24 args s = runF F24 (K n) args s := call_eq rfl
theorem call26 (n : Nat) (args : List V) (s : St) : (K (n + 1)).call 26 args s = runF F26 (K n) args s := call_eq rfl
theorem call28 (n : Nat) (args : List V) (s : St) : (K (n + 1)).call 28 args s = runF F28 (K n) args s := call_eq rfl
theorem call29 (n : Nat) (args : List V) (s : St) : (K (n + 1)).call 29 args s = runF F29 (K n) args s := call_eq rfl
theorem call30 (n : Nat) (args : List V) (s : St) : (K (n + 1)).call 30 args s = runF F30 (K n) args s := call_eq rfl
theorem call31 (n : Nat) (args : List V) (s : St) : (K (n + 1)).call 31 args s = runF F31 (K n) args s := call_eq rfl
theorem call32 (n : Nat) (args : List V) (s : St) : (K (n + 1)).call 32 args s = runF F32 (K n) args s := call_eq rfl
theorem call33 (n : Nat) (args : List V) (s : St) : (K (n + 1)).call 33 args s = runF F33 (K n) args s := call_eq rfl
theorem call34 (n : Nat) (args : List V) (s : St) : (K (n + 1)).call 34 args s = runF F34 (K n) args s := call_eq rfl
theorem call35 (n : Nat) (args : List V) (s : St) : (K (n + 1)).call 35 args s = runF F35 (K n) args s := call_eq rfl
theorem call36 (n : Nat) (args : List V) (s : St) : (K (n + 1)).call 36 args s = runF F36 (K n) args s := call_eq rfl
theorem call37 (n : Nat) (args : List V) (s : St) : (K (n + 1)).call 37 args s = runF F37 (K n) args s := call_eq rfl
theorem call38 (n : Nat) (args : List V) (s : St) : (K (n + 1)).call 38 args s = runF F38 (K n) args s := call_eq rfl
theorem call39 (n : Nat) (args : List V) (s : St) : (K (n + 1)).call 39 args s = runF F39 (K n) args s := call_eq rfl
theorem call40 (n : Nat) (args : List V) (s : St) : (K (n + 1)).call 40 args s = runF F40 (K n) args s := call_eq rfl
theorem call41 (n : Nat) (args : List V) (s : St) : (K (n + 1)).call 41 args s = runF F41 (K n) args s := call_eq rfl
theorem call42 (n : Nat) (args : List V) (s : St) : (K (n + 1)).call 42 args s = runF F42 (K n) args s := call_eq rfl
theorem call43 (n : Nat) (args : List V) (s : St) : (K (n + 1)).call 43 args s = runF F43 (K n) args s := call_eq rfl
theorem call44 (n : Nat) (args : List V) (s : St) : (K (n + 1)).call 44 args s = runF F44 (K n) args s := call_eq rfl
theorem call45 (n : Nat) (args : List V) (s : St) : (K (n + 1)).call 45 args s = runF F45 (K n) args s := call_eq rfl
theorem call47 (n : Nat) (args : List V) (s : St) : (K (n + 1)).call 47 args s = runF F47 (K n) args s := call_eq rfl
theorem call48 (n : Nat) (args : List V) (s : St) : (K (n + 1)).call 48 args s = runF F48 (K n) args s := call_eq rfl
theorem call49 (n : Nat) (args : List V) (s : St) : (K (n + 1)).call 49 args s = runF F49 (K n) args s := call_eq rfl
theorem call50 (n : Nat) (args : List V) (s : St) : (K (n + 1)).call 50 args s = runF F50 (K n) args s := call_eq rfl
theorem call51 (n : Nat) (args : List V) (s : St) : (K (n + 1)).call 51 args s = runF F51 (K n) args s := call_eq rfl
theorem call52 (n : Nat) (args : List V) (s : St) : (K (n + 1)).call 52 args s = runF F52 (K n) args s := call_eq rfl
theorem call53 (n : Nat) (args : List V) (s : St) : (K (n + 1)).call 53 args s = runF F53 (K n) args s := call_eq rfl
theorem call54 (n : Nat) (args : List V) (s : St) : (K (n + 1)).call 54 args s = runF F54 (K n) args s := call_eq rfl
theorem call55 (n : Nat) (args : List V) (s : St) : (K (n + 1)).call 55 args s = runF F55 (K n) args s := call_eq rfl
theorem call56 (n : Nat) (args : List V) (s : St) : (K (n + 1)).call 56 args s = runF F56 (K n) args s := call_eq rfl
theorem call57 (n : Nat) (args : List V) (s : St) : (K (n + 1)).call 57 args s = runF F57 (K n) args s := call_eq rfl
theorem call58 (n : Nat) (args : List V) (s : St) : (K (n + 1)).call 58 args s = runF F58 (K n) args s := call_eq rfl
theorem call59 (n : Nat) (args : List V) (s : St) : (K (n + 1)).call 59 args s = runF F59 (K n) args s := call_eq rfl
theorem call60 (n : Nat) (args : List V) (s : St) : (K (n + 1)).call 60 args s = runF F60 (K n) args s := call_eq rfl
theorem call61 (n : Nat) (args : List V) (s : St) : (K (n + 1)).call 61 args s = runF F61 (K n) args s := call_eq rfl
theorem call62 (n : Nat) (args : List V) (s : St) : (K (n + 1)).call 62 args s = runF F62 (K n) args s := call_eq rfl
theorem call63 (n : Nat) (args : List V) (s : St) : (K (n + 1)).call 63 args s = runF F63 (K n) args s := call_eq rfl
theorem call65 (n : Nat) (args : List V) (s : St) : (K (n + 1)).call 65 args s = runF F65 (K n) args s := call_eq rfl
theorem call66 (n : Nat) (args : List V) (s : St) : (K (n + 1)).call 66 args s = runF F66 (K n) args s := call_eq rfl
theorem call67 (n : Nat) (args : List V) (s : St) : (K (n + 1)).call 67 args s = runF F67 (K n) args s := call_eq rfl
theorem call68 (n : Nat) (args : List V) (s : St) : (K (n + 1)).call 68 args s = runF F68 (K n) args s := call_eq rfl
theorem call69 (n : Nat) (args : List V) (s : St) : (K (n + 1)).call 69 args s = runF F69 (K n) args s := call_eq rfl
theorem call70 (n : Nat) (args : List V) (s : St) : (K (n + 1)).call 70 args s = runF F70 (K n) args s := call_eq rfl
theorem call71 (n : Nat) (args : List V) (s : St) : (K (n + 1)).call 71 args s = runF F71 (K n) args s := call_eq rfl
theorem call72 (n : Nat) (args : List V) (s : St) : (K (n + 1)).call 72 args s = runF F72 (K n) args s := call_eq rfl
theorem call73 (n : Nat) (args : List V) (s : St) : (K (n + 1)).call 73 args s = runF F73 (K n) args s := call_eq rfl
theorem call76 (n : Nat) (args : List V) (s : St) : (K (n + 1)).call 76 args s = runF F76 (K n) args s := call_eq rfl
theorem op15 (n : Nat) (s : St) : (K (n + 1)).call 15 [] s = some (.bool true, s) := fTrue_call rfl
theorem op6 (n : Nat) (a0 a1 a2 : V) (s : St) : (K (n + 1)).call 6 [a0, a1, a2] s = retR (resV [rT g6]) (p6_0 (K n) (u2 (u1 (u0 e0 a0) a1) a2) s) := by rw [call6, runF_eq (e := (u2 (u1 (u0 e0 a0) a1) a2)) rfl]; rfl
theorem op8 (n : Nat) (a0 a1 : V) (s : St) : (K (n + 1)).call 8 [a0, a1] s = retR (resV [rT g4, rT g5, rT g6]) (p8_0 (K n) (u1 (u0 e0 a0) a1) s) := by rw [call8, runF_eq (e := (u1 (u0 e0 a0) a1)) rfl]; rfl
theorem op9 (n : Nat) (a0 a1 : V) (s : St) : (K (n + 1)).call 9 [a0, a1] s = retR (resV [rT g4]) (p9_0 (K n) (u1 (u0 e0 a0) a1) s) := by rw [call9, runF_eq (e := (u1 (u0 e0 a0) a1)) rfl]; rfl
theorem op13 (n : Nat) (a0 a1 : V) (s : St) : (K (n + 1)).call 13 [a0, a1] s = retR (resV [rT g4]) (p13_0 (K n) (u1 (u0 e0 a0) a1) s) := by rw [call13, runF_eq (e := (u1 (u0 e0 a0) a1)) rfl]; rfl
theorem op14 (n : Nat) (a0 a1 : V) (s : St) : (K (n + 1)).call 14 [a0, a1] s = retR (resV [rT g4]) (p14_0 (K n) (u1 (u0 e0 a0) a1) s) := by rw [call14, runF_eq (e := (u1 (u0 e0 a0) a1)) rfl]; rfl
theorem op16 (n : Nat) (a0 : V) (s : St) : (K (n + 1)).call 16 [a0] s = retR (resV [rT g2]) (p16_0 (K n) (u0 e0 a0) s) := by rw [call16, runF_eq (e := (u0 e0 a0)) rfl]; rfl
theorem op19 (n : Nat) (a0 a1 : V) (s : St) : (K (n + 1)).call 19 [a0, a1] s = retR (resV [rT g4, rC true (nat_lit 4) g5, rT g6]) (p19_0 (K n) (u1 (u0 e0 a0) a1) s) := by rw [call19, runF_eq (e := (u1 (u0 e0 a0) a1)) rfl]; rfl
theorem op20 (n : Nat) (a0 : V) (s : St) : (K (n + 1)).call 20 [a0] s = retR (resV [rT g2]) (p20_0 (K n) (u0 e0 a0) s) := by rw [call20, runF_eq (e := (u0 e0 a0)) rfl]; rfl
theorem op21 (n : Nat) (a0 : V) (s : St) : (K (n + 1)).call 21 [a0] s = retR (resV [rT g2]) (p21_0 (K n) (u0 e0 a0) s) := by rw [call21, runF_eq (e := (u0 e0 a0)) rfl]; rfl
theorem op22 (n : Nat) (a0 a1 : V) (s : St) : (K (n + 1)).call 22 [a0, a1] s = retR (resV [rT g4]) (p22_0 (K n) (u1 (u0 e0 a0) a1) s) := by rw [call22, runF_eq (e := (u1 (u0 e0 a0) a1)) rfl]; rfl
theorem op24 (n : Nat) (a0 a1 : V) (s : St) : (K (n + 1)).call 24 [a0, a1] s = retR (resV [rT g4]) (p24_0 (K n) (u1 (u0 e0 a0) a1) s) := by rw [call24, runF_eq (e := (u1 (u0 e0 a0) a1)) rfl]; rfl
theorem op26 (n : Nat) (a0 a1 a2 : V) (s : St) : (K (n + 1)).call 26 [a0, a1, a2] s = retR (resV [rT g6, rT g7]) (p26_0 (K n) (u2 (u1 (u0 e0 a0) a1) a2) s) := by rw [call26, runF_eq (e := (u2 (u1 (u0 e0 a0) a1) a2)) rfl]; rfl
theorem op28 (n : Nat) (a0 a1 a2 a3 : V) (s : St) : (K (n + 1)).call 28 [a0, a1, a2, a3] s = retR (resV [rT g8]) (p28_0 (K n) (u3 (u2 (u1 (u0 e0 a0) a1) a2) a3) s) := by rw [call28, runF_eq (e := (u3 (u2 (u1 (u0 e0 a0) a1) a2) a3)) rfl]; rfl
theorem op29 (n : Nat) (a0 a1 a2 : V) (s : St) : (K (n + 1)).call 29 [a0, a1, a2] s = retR (resV [rT g6]) (p29_0 (K n) (u2 (u1 (u0 e0 a0) a1) a2) s) := by rw [call29, runF_eq (e := (u2 (u1 (u0 e0 a0) a1) a2)) rfl]; rfl
theorem op30 (n : Nat) (a0 a1 a2 : V) (s : St) : (K (n + 1)).call 30 [a0, a1, a2] s = retR (resV [rT g6]) (p30_0 (K n) (u2 (u1 (u0 e0 a0) a1) a2) s) := by rw [call30, runF_eq (e := (u2 (u1 (u0 e0 a0) a1) a2)) rfl]; rfl
theorem op31 (n : Nat) (a0 : V) (s : St) : (K (n + 1)).call 31 [a0] s = retR (resV [rT g2, rT g3]) (p31_0 (K n) (u0 e0 a0) s) := by rw [call31, runF_eq (e := (u0 e0 a0)) rfl]; rfl
theorem op32 (n : Nat) (a0 : V) (s : St) : (K (n + 1)).call 32 [a0] s = retR (resV [rT g2]) (p32_0 (K n) (u0 e0 a0) s) := by rw [call32, runF_eq (e := (u0 e0 a0)) rfl]; rfl
theorem op33 (n : Nat) (a0 a1 : V) (s : St) : (K (n + 1)).call 33 [a0, a1] s = retR (resV [rT g4]) (p33_0 (K n) (u1 (u0 e0 a0) a1) s) := by rw [call33, runF_eq (e := (u1 (u0 e0 a0) a1)) rfl]; rfl
theorem op34 (n : Nat) (a0 a1 : V) (s : St) : (K (n + 1)).call 34 [a0, a1] s = retR (resV [rT g4]) (p34_0 (K n) (u1 (u0 e0 a0) a1) s) := by rw [call34, runF_eq (e := (u1 (u0 e0 a0) a1)) rfl]; rfl
theorem op35 (n : Nat) (a0 a1 a2 : V) (s : St) : (K (n + 1)).call 35 [a0, a1, a2] s = retR (resV [rT g6, rT g7]) (p35_0 (K n) (u2 (u1 (u0 e0 a0) a1) a2) s) := by rw [call35, runF_eq (e := (u2 (u1 (u0 e0 a0) a1) a2)) rfl]; rfl
theorem op36 (n : Nat) (a0 a1 a2 : V) (s : St) : (K (n + 1)).call 36 [a0, a1, a2] s = retR (resV [rT g6, rT g7]) (p36_0 (K n) (u2 (u1 (u0 e0 a0) a1) a2) s) := by rw [call36, runF_eq (e := (u2 (u1 (u0 e0 a0) a1) a2)) rfl]; rfl
theorem op37 (n : Nat) (a0 a1 : V) (s : St) : (K (n + 1)).call 37 [a0, a1] s = retR (resV [rT g4, rT g5]) (p37_0 (K n) (u1 (u0 e0 a0) a1) s) := by rw [call37, runF_eq (e := (u1 (u0 e0 a0) a1)) rfl]; rfl
theorem op38 (n : Nat) (a0 a1 : V) (s : St) : (K (n + 1)).call 38 [a0, a1] s = retR (resV [rT g4, rT g5]) (p38_0 (K n) (u1 (u0 e0 a0) a1) s) := by rw [call38, runF_eq (e := (u1 (u0 e0 a0) a1)) rfl]; rfl
theorem op39 (n : Nat) (a0 a1 a2 : V) (s : St) : (K (n + 1)).call 39 [a0, a1, a2] s = retR (resV [rT g6]) (p39_0 (K n) (u2 (u1 (u0 e0 a0) a1) a2) s) := by rw [call39, runF_eq (e := (u2 (u1 (u0 e0 a0) a1) a2)) rfl]; rfl
theorem op40 (n : Nat) (a0 a1 a2 : V) (s : St) : (K (n + 1)).call 40 [a0, a1, a2] s = retR (resV [rT g6]) (p40_0 (K n) (u2 (u1 (u0 e0 a0) a1) a2) s) := by rw [call40, runF_eq (e := (u2 (u1 (u0 e0 a0) a1) a2)) rfl]; rfl
theorem op41 (n : Nat) (a0 a1 a2 a3 : V) (s : St) : (K (n + 1)).call 41 [a0, a1, a2, a3] s = retR (resV [rT g8]) (p41_0 (K n) (u3 (u2 (u1 (u0 e0 a0) a1) a2) a3) s) := by rw [call41, runF_eq (e := (u3 (u2 (u1 (u0 e0 a0) a1) a2) a3)) rfl]; rfl
theorem op42 (n : Nat) (a0 a1 a2 a3 : V) (s : St) : (K (n + 1)).call 42 [a0, a1, a2, a3] s = retR (resV [rT g8]) (p42_0 (K n) (u3 (u2 (u1 (u0 e0 a0) a1) a2) a3) s) := by rw [call42, runF_eq (e := (u3 (u2 (u1 (u0 e0 a0) a1) a2) a3)) rfl]; rfl
theorem op43 (n : Nat) (a0 a1 : V) (s : St) : (K (n + 1)).call 43 [a0, a1] s = retR (resV [rT g4, rT g5]) (p43_0 (K n) (u1 (u0 e0 a0) a1) s) := by rw [call43, runF_eq (e := (u1 (u0 e0 a0) a1)) rfl]; rfl
theorem op45 (n : Nat) (a0 a1 : V) (s : St) : (K (n + 1)).call 45 [a0, a1] s = retR (resV [rT g4]) (p45_0 (K n) (u1 (u0 e0 a0) a1) s) := by rw [call45, runF_eq (e := (u1 (u0 e0 a0) a1)) rfl]; rfl
theorem op48 (n : Nat) (a0 a1 : V) (s : St) : (K (n + 1)).call 48 [a0, a1] s = retR (resV [rT g4, rT g5]) (p48_0 (K n) (u1 (u0 e0 a0) a1) s) := by rw [call48, runF_eq (e := (u1 (u0 e0 a0) a1)) rfl]; rfl
theorem op49 (n : Nat) (a0 a1 : V) (s : St) : (K (n + 1)).call 49 [a0, a1] s = retR (resV [rT g4, rT g5]) (p49_0 (K n) (u1 (u0 e0 a0) a1) s) := by rw [call49, runF_eq (e := (u1 (u0 e0 a0) a1)) rfl]; rfl
theorem op50 (n : Nat) (a0 a1 : V) (s : St) : (K (n + 1)).call 50 [a0, a1] s = retR (resV [rT g4]) (p50_0 (K n) (u1 (u0 e0 a0) a1) s) := by rw [call50, runF_eq (e := (u1 (u0 e0 a0) a1)) rfl]; rfl
theorem op51 (n : Nat) (a0 a1 : V) (s : St) : (K (n + 1)).call 51 [a0, a1] s = retR (resV [rT g4]) (p51_0 (K n) (u1 (u0 e0 a0) a1) s) := by rw [call51, runF_eq (e := (u1 (u0 e0 a0) a1)) rfl]; rfl
theorem op52 (n : Nat) (a0 a1 a2 : V) (s : St) : (K (n + 1)).call 52 [a0, a1, a2] s = retR (resV [rT g6, rT g7]) (p52_0 (K n) (u2 (u1 (u0 e0 a0) a1) a2) s) := by rw [call52, runF_eq (e := (u2 (u1 (u0 e0 a0) a1) a2)) rfl]; rfl
theorem op53 (n : Nat) (a0 a1 : V) (s : St) : (K (n + 1)).call 53 [a0, a1] s = retR (resV [rT g4]) (p53_0 (K n) (u1 (u0 e0 a0) a1) s) := by rw [call53, runF_eq (e := (u1 (u0 e0 a0) a1)) rfl]; rfl
theorem op54 (n : Nat) (a0 a1 a2 : V) (s : St) : (K (n + 1)).call 54 [a0, a1, a2] s = retR (resV [rT g6]) (p54_0 (K n) (u2 (u1 (u0 e0 a0) a1) a2) s) := by rw [call54, runF_eq (e := (u2 (u1 (u0 e0 a0) a1) a2)) rfl]; rfl
theorem op55 (n : Nat) (a0 a1 a2 : V) (s : St) : (K (n + 1)).call 55 [a0, a1, a2] s = retR (resV [rT g6]) (p55_0 (K n) (u2 (u1 (u0 e0 a0) a1) a2) s) := by rw [call55, runF_eq (e := (u2 (u1 (u0 e0 a0) a1) a2)) rfl]; rfl
theorem op56 (n : Nat) (a0 : V) (s : St) : (K (n + 1)).call 56 [a0] s = retR (resV [rT g2]) (p56_0 (K n) (u0 e0 a0) s) := by rw [call56, runF_eq (e := (u0 e0 a0)) rfl]; rfl
theorem op57 (n : Nat) (a0 a1 a2 : V) (s : St) : (K (n + 1)).call 57 [a0, a1, a2] s = retR (resV [rT g6, rT g7]) (p57_0 (K n) (u2 (u1 (u0 e0 a0) a1) a2) s) := by rw [call57, runF_eq (e := (u2 (u1 (u0 e0 a0) a1) a2)) rfl]; rfl
theorem op58 (n : Nat) (a0 a1 a2 : V) (s : St) : (K (n + 1)).call 58 [a0, a1, a2] s = retR (resV [rT g6, rT g7]) (p58_0 (K n) (u2 (u1 (u0 e0 a0) a1) a2) s) := by rw [call58, runF_eq (e := (u2 (u1 (u0 e0 a0) a1) a2)) rfl]; rfl
theorem op59 (n : Nat) (a0 a1 a2 : V) (s : St) : (K (n + 1)).call 59 [a0, a1, a2] s = retR (resV [rT g6]) (p59_0 (K n) (u2 (u1 (u0 e0 a0) a1) a2) s) := by rw [call59, runF_eq (e := (u2 (u1 (u0 e0 a0) a1) a2)) rfl]; rfl
theorem op60 (n : Nat) (a0 a1 : V) (s : St) : (K (n + 1)).call 60 [a0, a1] s = retR (resV [rT g4]) (p60_0 (K n) (u1 (u0 e0 a0) a1) s) := by rw [call60, runF_eq (e := (u1 (u0 e0 a0) a1)) rfl]; rfl
theorem op61 (n : Nat) (a0 a1 : V) (s : St) : (K (n + 1)).call 61 [a0, a1] s = retR (resV [rT g4]) (p61_0 (K n) (u1 (u0 e0 a0) a1) s) := by rw [call61, runF_eq (e := (u1 (u0 e0 a0) a1)) rfl]; rfl
theorem op62 (n : Nat) (a0 a1 : V) (s : St) : (K (n + 1)).call 62 [a0, a1] s = retR (resV [rT g3]) (p62_0 (K n) (u1 (u0 e0 a0) a1) s) := by rw [call62, runF_eq (e := (u1 (u0 e0 a0) a1)) rfl]; rfl
theorem op63 (n : Nat) (a0 a1 : V) (s : St) : (K (n + 1)).call 63 [a0, a1] s = retR (resV []) (p63_0 (K n) (u1 (u0 e0 a0) a1) s) := by rw [call63, runF_eq (e := (u1 (u0 e0 a0) a1)) rfl]; rfl
theorem op65 (n : Nat) (a0 a1 a2 : V) (s : St) : (K (n + 1)).call 65 [a0, a1, a2] s = retR (resV [rT g4]) (p65_0 (K n) (u2 (u1 (u0 e0 a0) a1) a2) s) := by rw [call65, runF_eq (e := (u2 (u1 (u0 e0 a0) a1) a2)) rfl]; rfl
theorem op66 (n : Nat) (a0 a1 a2 a3 : V) (s : St) : (K (n + 1)).call 66 [a0, a1, a2, a3] s = retR (resV [rT g6]) (p66_0 (K n) (u3 (u2 (u1 (u0 e0 a0) a1) a2) a3) s) := by rw [call66, runF_eq (e := (u3 (u2 (u1 (u0 e0 a0) a1) a2) a3)) rfl]; rfl
theorem op67 (n : Nat) (a0 a1 a2 a3 : V) (s : St) : (K (n + 1)).call 67 [a0, a1, a2, a3] s = retR (resV [rT g6]) (p67_0 (K n) (u3 (u2 (u1 (u0 e0 a0) a1) a2) a3) s) := by rw [call67, runF_eq (e := (u3 (u2 (u1 (u0 e0 a0) a1) a2) a3)) rfl]; rfl
theorem op68 (n : Nat) (a0 a1 a2 : V) (s : St) : (K (n + 1)).call 68 [a0, a1, a2] s = retR (resV []) (p68_0 (K n) (u2 (u1 (u0 e0 a0) a1) a2) s) := by rw [call68, runF_eq (e := (u2 (u1 (u0 e0 a0) a1) a2)) rfl]; rfl
theorem op69 (n : Nat) (a0 a1 : V) (s : St) : (K (n + 1)).call 69 [a0, a1] s = retR (resV [rT g4]) (p69_0 (K n) (u1 (u0 e0 a0) a1) s) := by rw [call69, runF_eq (e := (u1 (u0 e0 a0) a1)) rfl]; rfl
theorem op70 (n : Nat) (a0 : V) (s : St) : (K (n + 1)).call 70 [a0] s = retR (resV [rT g2]) (p70_0 (K n) (u0 e0 a0) s) := by rw [call70, runF_eq (e := (u0 e0 a0)) rfl]; rfl
theorem op71 (n : Nat) (a0 : V) (s : St) : (K (n + 1)).call 71 [a0] s = retR (resV [rT g2]) (p71_0 (K n) (u0 e0 a0) s) := by rw [call71, runF_eq (e := (u0 e0 a0)) rfl]; rfl
theorem op72 (n : Nat) (a0 a1 : V) (s : St) : (K (n + 1)).call 72 [a0, a1] s = retR (resV [rT g4]) (p72_0 (K n) (u1 (u0 e0 a0) a1) s) := by rw [call72, runF_eq (e := (u1 (u0 e0 a0) a1)) rfl]; rfl
theorem op73 (n : Nat) (a0 a1 : V) (s : St) : (K (n + 1)).call 73 [a0, a1] s = retR (resV []) (p73_0 (K n) (u1 (u0 e0 a0) a1) s) := by rw [call73, runF_eq (e := (u1 (u0 e0 a0) a1)) rfl]; rfl
theorem op76 (n : Nat) (a0 : V) (s : St) : (K (n + 1)).call 76 [a0] s = retR (resV [rT g2]) (p76_0 (K n) (u0 e0 a0) s) := by rw [call76, runF_eq (e := (u0 e0 a0)) rfl]; rfl
end
end Go.Proofs.YtgkcpceppmppfaaLab
