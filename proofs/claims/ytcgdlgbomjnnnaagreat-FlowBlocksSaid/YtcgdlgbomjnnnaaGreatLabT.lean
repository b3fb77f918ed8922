/- The lab: this program's table. Pruned. -/
import Derived.Test.YtcgdlgbomjnnnaaGreatLabG0
namespace Go.Proofs.YtcgdlgbomjnnnaaGreatLab
open Go
set_option linter.unusedVariables false
set_option maxRecDepth 100000
noncomputable section
noncomputable def abn : T aX := (.ah jw (.ah jw (.ah F3 (.ah F7 (.ah F15 (.ah F31 .nil (.ah F95 .nil .nil)) (.ah jw (.ah F79 .nil .nil) .nil)) (.ah F23 (.ah F39 (.ah F71 .nil .nil) .nil) (.ah F55 (.ah F87 .nil .nil) .nil))) (.ah F11 (.ah F19 (.ah F35 .nil (.ah F99 .nil .nil)) .nil) (.ah F27 (.ah F43 (.ah F75 .nil .nil) .nil) (.ah F59 (.ah F91 .nil .nil) .nil)))) (.ah F5 (.ah F9 (.ah F17 (.ah F33 .nil (.ah F97 .nil .nil)) (.ah F49 .nil .nil)) (.ah F25 (.ah F41 (.ah F73 .nil .nil) .nil) (.ah Y9 (.ah F89 .nil .nil) .nil))) (.ah RD (.ah F21 (.ah F37 .nil .nil) (.ah F53 .nil .nil)) (.ah F29 (.ah OU (.ah F77 .nil .nil) .nil) (.ah jw (.ah F93 .nil .nil) .nil))))) (.ah jw (.ah F4 (.ah F8 (.ah F16 (.ah F32 .nil (.ah F96 .nil .nil)) (.ah F48 (.ah F80 .nil .nil) .nil)) (.ah ZR (.ah F40 (.ah F72 .nil .nil) .nil) (.ah F56 (.ah F88 .nil .nil) .nil))) (.ah Sg (.ah F20 (.ah Z4 .nil .nil) (.ah F52 .nil .nil)) (.ah F28 (.ah F44 (.ah F76 .nil .nil) .nil) (.ah jw (.ah F92 .nil .nil) .nil)))) (.ah F6 (.ah F10 (.ah F18 (.ah Jz .nil (.ah F98 .nil .nil)) (.ah F50 .nil .nil)) (.ah F26 (.ah F42 (.ah F74 .nil .nil) .nil) (.ah F58 (.ah F90 .nil .nil) .nil))) (.ah Pn (.ah F22 (.ah F38 (.ah F70 .nil .nil) .nil) (.ah F54 (.ah F86 .nil .nil) .nil)) (.ah F30 (.ah jw (.ah F78 .nil .nil) .nil) .nil)))))
theorem Yz : T.rM (aI Tryz.prog []) abn := (.ah (.no _) (.ah (.no _) (.ah ad4 (.ah ae0 (.ah xV (.ah SK .nil (.ah Ty .nil .nil)) (.ah (.no _) (.ah Yw .nil .nil) .nil)) (.ah RH (.ah U' (.ah Th .nil .nil) .nil) (.ah US (.ah VI .nil .nil) .nil))) (.ah Rg (.ah Ws (.ah xW .nil (.ah Vk .nil .nil)) .nil) (.ah TP (.ah X9 (.ah Vl .nil .nil) .nil) (.ah U8 (.ah RP .nil .nil) .nil)))) (.ah afb (.ah acJ (.ah ye (.ah UM .nil (.ah WS .nil .nil)) (.ah WE .nil .nil)) (.ah VZ (.ah RT (.ah Q_ .nil .nil) .nil) (.ah yh (.ah WW .nil .nil) .nil))) (.ah X2 (.ah Se (.ah TO .nil .nil) (.ah VQ .nil .nil)) (.ah XH (.ah XK (.ah TD .nil .nil) .nil) (.ah (.no _) (.ah WC .nil .nil) .nil))))) (.ah (.no _) (.ah abK (.ah ab1 (.ah Wy (.ah Rc .nil (.ah XI .nil .nil)) (.ah X5 (.ah V2 .nil .nil) .nil)) (.ah ya (.ah SA (.ah U2 .nil .nil) .nil) (.ah Rh (.ah Rf .nil .nil) .nil))) (.ah T4 (.ah VN (.ah yp .nil .nil) (.ah Vw .nil .nil)) (.ah SE (.ah Vp (.ah X8 .nil .nil) .nil) (.ah (.no _) (.ah UR .nil .nil) .nil)))) (.ah agA (.ah Wr (.ah XN (.ah Um .nil (.ah yl .nil .nil)) (.ah TL .nil .nil)) (.ah Vz (.ah Vo (.ah WY .nil .nil) .nil) (.ah Rb (.ah Vn .nil .nil) .nil))) (.ah TU (.ah wZ (.ah Yg (.ah Rn .nil .nil) .nil) (.ah Uv (.ah Wt .nil .nil) .nil)) (.ah Tz (.ah (.no _) (.ah SO .nil .nil) .nil) .nil)))))
theorem vQ : isT ((kc abn 1000000 20).call 6 [] s0) = true := by decide +kernel
theorem Fp : aI Tryz.prog [] 6 xZ := aI.aat fun W => NN Yz vQ .nil W
noncomputable def dS : T aX := (.ah jw (.ah jw (.ah F3 (.ah F7 (.ah F15 (.ah F31 .nil (.ah F95 .nil .nil)) (.ah jw (.ah F79 .nil .nil) .nil)) (.ah F23 (.ah F39 (.ah F71 .nil .nil) .nil) (.ah F55 (.ah F87 .nil .nil) .nil))) (.ah F11 (.ah F19 (.ah F35 .nil (.ah F99 .nil .nil)) .nil) (.ah F27 (.ah F43 (.ah F75 .nil .nil) .nil) (.ah F59 (.ah F91 .nil .nil) .nil)))) (.ah F5 (.ah F9 (.ah F17 (.ah F33 .nil (.ah F97 .nil .nil)) (.ah F49 .nil .nil)) (.ah F25 (.ah F41 (.ah F73 .nil .nil) .nil) (.ah Y9 (.ah F89 .nil .nil) .nil))) (.ah RD (.ah F21 (.ah F37 .nil .nil) (.ah F53 .nil .nil)) (.ah F29 (.ah OU (.ah F77 .nil .nil) .nil) (.ah jw (.ah F93 .nil .nil) .nil))))) (.ah jw (.ah F4 (.ah F8 (.ah F16 (.ah F32 .nil (.ah F96 .nil .nil)) (.ah F48 (.ah F80 .nil .nil) .nil)) (.ah ZR (.ah F40 (.ah F72 .nil .nil) .nil) (.ah F56 (.ah F88 .nil .nil) .nil))) (.ah Sg (.ah F20 (.ah Z4 .nil .nil) (.ah F52 .nil .nil)) (.ah F28 (.ah F44 (.ah F76 .nil .nil) .nil) (.ah jw (.ah F92 .nil .nil) .nil)))) (.ah xZ (.ah F10 (.ah F18 (.ah Jz .nil (.ah F98 .nil .nil)) (.ah F50 .nil .nil)) (.ah F26 (.ah F42 (.ah F74 .nil .nil) .nil) (.ah F58 (.ah F90 .nil .nil) .nil))) (.ah Pn (.ah F22 (.ah F38 (.ah F70 .nil .nil) .nil) (.ah F54 (.ah F86 .nil .nil) .nil)) (.ah F30 (.ah jw (.ah F78 .nil .nil) .nil) .nil)))))
theorem lD : T.rM (aI Tryz.prog []) dS := (.ah (.no _) (.ah (.no _) (.ah ad4 (.ah ae0 (.ah xV (.ah SK .nil (.ah Ty .nil .nil)) (.ah (.no _) (.ah Yw .nil .nil) .nil)) (.ah RH (.ah U' (.ah Th .nil .nil) .nil) (.ah US (.ah VI .nil .nil) .nil))) (.ah Rg (.ah Ws (.ah xW .nil (.ah Vk .nil .nil)) .nil) (.ah TP (.ah X9 (.ah Vl .nil .nil) .nil) (.ah U8 (.ah RP .nil .nil) .nil)))) (.ah afb (.ah acJ (.ah ye (.ah UM .nil (.ah WS .nil .nil)) (.ah WE .nil .nil)) (.ah VZ (.ah RT (.ah Q_ .nil .nil) .nil) (.ah yh (.ah WW .nil .nil) .nil))) (.ah X2 (.ah Se (.ah TO .nil .nil) (.ah VQ .nil .nil)) (.ah XH (.ah XK (.ah TD .nil .nil) .nil) (.ah (.no _) (.ah WC .nil .nil) .nil))))) (.ah (.no _) (.ah abK (.ah ab1 (.ah Wy (.ah Rc .nil (.ah XI .nil .nil)) (.ah X5 (.ah V2 .nil .nil) .nil)) (.ah ya (.ah SA (.ah U2 .nil .nil) .nil) (.ah Rh (.ah Rf .nil .nil) .nil))) (.ah T4 (.ah VN (.ah yp .nil .nil) (.ah Vw .nil .nil)) (.ah SE (.ah Vp (.ah X8 .nil .nil) .nil) (.ah (.no _) (.ah UR .nil .nil) .nil)))) (.ah Fp (.ah Wr (.ah XN (.ah Um .nil (.ah yl .nil .nil)) (.ah TL .nil .nil)) (.ah Vz (.ah Vo (.ah WY .nil .nil) .nil) (.ah Rb (.ah Vn .nil .nil) .nil))) (.ah TU (.ah wZ (.ah Yg (.ah Rn .nil .nil) .nil) (.ah Uv (.ah Wt .nil .nil) .nil)) (.ah Tz (.ah (.no _) (.ah SO .nil .nil) .nil) .nil)))))
noncomputable def K (n : Nat) : KC := kc dS 1152921504606846976 n
theorem RE (n : Nat) : (K n).fuel = 1152921504606846976 := P_
theorem call3 (n : Nat) (args : List V) (s : St) : (K (n + 1)).call 3 args s = bA F3 (K n) args s := aJ rfl
theorem call4 (n : Nat) (args : List V) (s : St) : (K (n + 1)).call 4 args s = bA F4 (K n) args s := aJ rfl
theorem call5 (n : Nat) (args : List V) (s : St) : (K (n + 1)).call 5 args s = bA F5 (K n) args s := aJ rfl
theorem call7 (n : Nat) (args : List V) (s : St) : (K (n + 1)).call 7 args s = bA F7 (K n) args s := aJ rfl
theorem call8 (n : Nat) (args : List V) (s : St) : (K (n + 1)).call 8 args s = bA F8 (K n) args s := aJ rfl
theorem call9 (n : Nat) (args : List V) (s : St) : (K (n + 1)).call 9 args s = bA F9 (K n) args s := aJ rfl
theorem call10 (n : Nat) (args : List V) (s : St) : (K (n + 1)).call 10 args s = bA F10 (K n) args s := aJ rfl
theorem call11 (n : Nat) (args : List V) (s : St) : (K (n + 1)).call 11 args s = bA F11 (K n) args s := aJ rfl
theorem call12 (n : Nat) (args : List V) (s : St) : (K (n + 1)).call 12 args s = bA Sg (K n) args s := aJ rfl
theorem call13 (n : Nat) (args : List V) (s : St) : (K (n + 1)).call 13 args s = bA RD (K n) args s := aJ rfl
theorem call14 (n : Nat) (args : List V) (s : St) : (K (n + 1)).call 14 args s = bA Pn (K n) args s := aJ rfl
theorem call15 (n : Nat) (args : List V) (s : St) : (K (n + 1)).call 15 args s = bA F15 (K n) args s := aJ rfl
theorem call16 (n : Nat) (args : List V) (s : St) : (K (n + 1)).call 16 args s = bA F16 (K n) args s := aJ rfl
theorem call17 (n : Nat) (args : List V) (s : St) : (K (n + 1)).call 17 args s = bA F17 (K n) args s := aJ rfl
theorem call18 (n : Nat) (args : List V) (s : St) : (K (n + 1)).call 18 args s = bA F18 (K n) args s := aJ rfl
theorem call19 (n : Nat) (args : List V) (s : St) : (K (n + 1)).call 19 args s = bA F19 (K n) args s := aJ rfl
theorem call20 (n : Nat) (args : List V) (s : St) : (K (n + 1)).call 20 args s = bA F20 (K n) args s := aJ rfl
theorem call21 (n : Nat) (args : List V) (s : St) : (K (n + 1)).call 21 args s = bA F21 (K n) args s := aJ rfl
theorem call22 (n : Nat) (args : List V) (s : St) : (K (n + 1)).call 22 args s = bA F22 (K n) args s := aJ rfl
theorem call23 (n : Nat) (args : List V) (s : St) : (K (n + 1)).call 23 args s = bA F23 (K n) args s := aJ rfl
theorem call24 (n : Nat) (args : List V) (s : St) : (K (n + 1)).call 24 args s = bA ZR (K n) args s := aJ rfl
theorem call25 (n : Nat) (args : List V) (s : St) : (K (n + 1)).call 25 args s = bA F25 (K n) args s := aJ rfl
theorem call26 (n : Nat) (args : List V) (s : St) : (K (n + 1)).call 26 args s = bA F26 (K n) args s := aJ rfl
theorem call27 (n : Nat) (args : List V) (s : St) : (K (n + 1)).call 27 args s = bA F27 (K n) args s := aJ rfl
theorem call28 (n : Nat) (args : List V) (s : St) : (K (n + 1)).call 28 args s = bA F28 (K n) args s := aJ rfl
theorem call29 (n : Nat) (args : List V) (s : St) : (K (n + 1)).call 29 args s = bA F29 (K n) args s := aJ rfl
theorem call30 (n : Nat) (args : List V) (s : St) : (K (n + 1)).call 30 args s = bA F30 (K n) args s := aJ rfl
theorem call31 (n : Nat) (args : List V) (s : St) : (K (n + 1)).call 31 args s = bA F31 (K n) args s := aJ rfl
theorem call32 (n : Nat) (args : List V) (s : St) : (K (n + 1)).call 32 args s = bA F32 (K n) args s := aJ rfl
theorem call33 (n : Nat) (args : List V) (s : St) : (K (n + 1)).call 33 args s = bA F33 (K n) args s := aJ rfl
theorem call34 (n : Nat) (args : List V) (s : St) : (K (n + 1)).call 34 args s = bA Jz (K n) args s := aJ rfl
theorem call35 (n : Nat) (args : List V) (s : St) : (K (n + 1)).call 35 args s = bA F35 (K n) args s := aJ rfl
theorem call36 (n : Nat) (args : List V) (s : St) : (K (n + 1)).call 36 args s = bA Z4 (K n) args s := aJ rfl
theorem call37 (n : Nat) (args : List V) (s : St) : (K (n + 1)).call 37 args s = bA F37 (K n) args s := aJ rfl
theorem call38 (n : Nat) (args : List V) (s : St) : (K (n + 1)).call 38 args s = bA F38 (K n) args s := aJ rfl
theorem call39 (n : Nat) (args : List V) (s : St) : (K (n + 1)).call 39 args s = bA F39 (K n) args s := aJ rfl
theorem call40 (n : Nat) (args : List V) (s : St) : (K (n + 1)).call 40 args s = bA F40 (K n) args s := aJ rfl
theorem call41 (n : Nat) (args : List V) (s : St) : (K (n + 1)).call 41 args s = bA F41 (K n) args s := aJ rfl
theorem call42 (n : Nat) (args : List V) (s : St) : (K (n + 1)).call 42 args s = bA F42 (K n) args s := aJ rfl
theorem call43 (n : Nat) (args : List V) (s : St) : (K (n + 1)).call 43 args s = bA F43 (K n) args s := aJ rfl
theorem call44 (n : Nat) (args : List V) (s : St) : (K (n + 1)).call 44 args s = bA F44 (K n) args s := aJ rfl
theorem call45 (n : Nat) (args : List V) (s : St) : (K (n + 1)).call 45 args s = bA OU (K n) args s := aJ rfl
theorem call48 (n : Nat) (args : List V) (s : St) : (K (n + 1)).call 48 args s = bA F48 (K n) args s := aJ rfl
theorem call49 (n : Nat) (args : List V) (s : St) : (K (n + 1)).call 49 args s = bA F49 (K n) args s := aJ rfl
theorem call50 (n : Nat) (args : List V) (s : St) : (K (n + 1)).call 50 args s = bA F50 (K n) args s := aJ rfl
theorem call52 (n : Nat) (args : List V) (s : St) : (K (n + 1)).call 52 args s = bA F52 (K n) args s := aJ rfl
theorem call53 (n : Nat) (args : List V) (s : St) : (K (n + 1)).call 53 args s = bA F53 (K n) args s := aJ rfl
theorem call54 (n : Nat) (args : List V) (s : St) : (K (n + 1)).call 54 args s = bA F54 (K n) args s := aJ rfl
theorem call55 (n : Nat) (args : List V) (s : St) : (K (n + 1)).call 55 args s = bA F55 (K n) args s := aJ rfl
theorem call56 (n : Nat) (args : List V) (s : St) : (K (n + 1)).call 56 args s = bA F56 (K n) args s := aJ rfl
theorem call57 (n : Nat) (args : List V) (s : St) : (K (n + 1)).call 57 args s = bA Y9 (K n) args s := aJ rfl
theorem call58 (n : Nat) (args : List V) (s : St) : (K (n + 1)).call 58 args s = bA F58 (K n) args s := aJ rfl
theorem call59 (n : Nat) (args : List V) (s : St) : (K (n + 1)).call 59 args s = bA F59 (K n) args s := aJ rfl
theorem call70 (n : Nat) (args : List V) (s : St) : (K (n + 1)).call 70 args s = bA F70 (K n) args s := aJ rfl
theorem call71 (n : Nat) (args : List V) (s : St) : (K (n + 1)).call 71 args s = bA F71 (K n) args s := aJ rfl
theorem call72 (n : Nat) (args : List V) (s : St) : (K (n + 1)).call 72 args s = bA F72 (K n) args s := aJ rfl
theorem call73 (n : Nat) (args : List V) (s : St) : (K (n + 1)).call 73 args s = bA F73 (K n) args s := aJ rfl
theorem call74 (n : Nat) (args : List V) (s : St) : (K (n + 1)).call 74 args s = bA F74 (K n) args s := aJ rfl
theorem call75 (n : Nat) (args : List V) (s : St) : (K (n + 1)).call 75 args s = bA F75 (K n) args s := aJ rfl
theorem call76 (n : Nat) (args : List V) (s : St) : (K (n + 1)).call 76 args s = bA F76 (K n) args s := aJ rfl
theorem call77 (n : Nat) (args : List V) (s : St) : (K (n + 1)).call 77 args s = bA F77 (K n) args s := aJ rfl
theorem call78 (n : Nat) (args : List V) (s : St) : (K (n + 1)).call 78 args s = bA F78 (K n) args s := aJ rfl
theorem call79 (n : Nat) (args : List V) (s : St) : (K (n + 1)).call 79 args s = bA F79 (K n) args s := aJ rfl
theorem call80 (n : Nat) (args : List V) (s : St) : (K (n + 1)).call 80 args s = bA F80 (K n) args s := aJ rfl
theorem call86 (n : Nat) (args : List V) (s : St) : (K (n + 1)).call 86 args s = bA F86 (K n) args s := aJ rfl
theorem call87 (n : Nat) (args : List V) (s : St) : (K (n + 1)).call 87 args s = bA F87 (K n) args s := aJ rfl
theorem call88 (n : Nat) (args : List V) (s : St) : (K (n + 1)).call 88 args s = bA F88 (K n) args s := aJ rfl
theorem call89 (n : Nat) (args : List V) (s : St) : (K (n + 1)).call 89 args s = bA F89 (K n) args s := aJ rfl
theorem call90 (n : Nat) (args : List V) (s : St) : (K (n + 1)).call 90 args s = bA F90 (K n) args s := aJ rfl
theorem call91 (n : Nat) (args : List V) (s : St) : (K (n + 1)).call 91 args s = bA F91 (K n) args s := aJ rfl
theorem call92 (n : Nat) (args : List V) (s : St) : (K (n + 1)).call 92 args s = bA F92 (K n) args s := aJ rfl
theorem call93 (n : Nat) (args : List V) (s : St) : (K (n + 1)).call 93 args s = bA F93 (K n) args s := aJ rfl
theorem call95 (n : Nat) (args : List V) (s : St) : (K (n + 1)).call 95 args s = bA F95 (K n) args s := aJ rfl
theorem call96 (n : Nat) (args : List V) (s : St) : (K (n + 1)).call 96 args s = bA F96 (K n) args s := aJ rfl
theorem call97 (n : Nat) (args : List V) (s : St) : (K (n + 1)).call 97 args s = bA F97 (K n) args s := aJ rfl
theorem call98 (n : Nat) (args : List V) (s : St) : (K (n + 1)).call 98 args s = bA F98 (K n) args s := aJ rfl
theorem call99 (n : Nat) (args : List V) (s : St) : (K (n + 1)).call 99 args s = bA F99 (K n) args s := aJ rfl
theorem op6 (n : Nat) (s : St) : (K (n + 1)).call 6 [] s = some (.bool true, s) := wL rfl
theorem op3 (n : Nat) (a0 a1 a2 : V) (s : St) : (K (n + 1)).call 3 [a0, a1, a2] s = aV (aL [rT g6]) (aau (K n) (u2 (u1 (u0 e0 a0) a1) a2) s) := by rw [call3, aR (e := (u2 (u1 (u0 e0 a0) a1) a2)) rfl]; rfl
theorem op4 (n : Nat) (a0 a1 : V) (s : St) : (K (n + 1)).call 4 [a0, a1] s = aV (aL [rT g4, rT g5, rT g6]) (YZ (K n) (u1 (u0 e0 a0) a1) s) := by rw [call4, aR (e := (u1 (u0 e0 a0) a1)) rfl]; rfl
theorem op5 (n : Nat) (a0 a1 a2 : V) (s : St) : (K (n + 1)).call 5 [a0, a1, a2] s = aV (aL [rT g6, rT g7]) (aag (K n) (u2 (u1 (u0 e0 a0) a1) a2) s) := by rw [call5, aR (e := (u2 (u1 (u0 e0 a0) a1) a2)) rfl]; rfl
theorem op7 (n : Nat) (a0 a1 : V) (s : St) : (K (n + 1)).call 7 [a0, a1] s = aV (aL [rT g4]) (abb (K n) (u1 (u0 e0 a0) a1) s) := by rw [call7, aR (e := (u1 (u0 e0 a0) a1)) rfl]; rfl
theorem op8 (n : Nat) (a0 a1 : V) (s : St) : (K (n + 1)).call 8 [a0, a1] s = aV (aL [rT g4]) (Zj (K n) (u1 (u0 e0 a0) a1) s) := by rw [call8, aR (e := (u1 (u0 e0 a0) a1)) rfl]; rfl
theorem op9 (n : Nat) (a0 a1 : V) (s : St) : (K (n + 1)).call 9 [a0, a1] s = aV (aL [rT g4]) (YP (K n) (u1 (u0 e0 a0) a1) s) := by rw [call9, aR (e := (u1 (u0 e0 a0) a1)) rfl]; rfl
theorem agQ (n : Nat) (a0 a1 : V) (s : St) : (K (n + 1)).call 10 [a0, a1] s = aV (aL [rT g4]) (Bj (K n) (u1 (u0 e0 a0) a1) s) := by rw [call10, aR (e := (u1 (u0 e0 a0) a1)) rfl]; rfl
theorem agO (n : Nat) (a0 a1 : V) (s : St) : (K (n + 1)).call 11 [a0, a1] s = aV (aL [rT g4]) (Bx (K n) (u1 (u0 e0 a0) a1) s) := by rw [call11, aR (e := (u1 (u0 e0 a0) a1)) rfl]; rfl
theorem agn (n : Nat) (a0 a1 : V) (s : St) : (K (n + 1)).call 12 [a0, a1] s = aV (aL [rT g4]) (Hy (K n) (u1 (u0 e0 a0) a1) s) := by rw [call12, aR (e := (u1 (u0 e0 a0) a1)) rfl]; rfl
theorem adz (n : Nat) (a0 : V) (s : St) : (K (n + 1)).call 13 [a0] s = aV (aL [rT g2, rT g3, rT g4]) (Cf (K n) (u0 e0 a0) s) := by rw [call13, aR (e := (u0 e0 a0)) rfl]; rfl
theorem adi (n : Nat) (a0 : V) (s : St) : (K (n + 1)).call 14 [a0] s = aV (aL [rT g2]) (Ei (K n) (u0 e0 a0) s) := by rw [call14, aR (e := (u0 e0 a0)) rfl]; rfl
theorem af7 (n : Nat) (a0 a1 : V) (s : St) : (K (n + 1)).call 16 [a0, a1] s = aV (aL [rT g4]) (MB (K n) (u1 (u0 e0 a0) a1) s) := by rw [call16, aR (e := (u1 (u0 e0 a0) a1)) rfl]; rfl
theorem ab7 (n : Nat) (a0 : V) (s : St) : (K (n + 1)).call 18 [a0] s = aV (aL [rT g2]) (MY (K n) (u0 e0 a0) s) := by rw [call18, aR (e := (u0 e0 a0)) rfl]; rfl
theorem ab9 (n : Nat) (a0 a1 : V) (s : St) : (K (n + 1)).call 21 [a0, a1] s = aV (aL [rT g4]) (DS (K n) (u1 (u0 e0 a0) a1) s) := by rw [call21, aR (e := (u1 (u0 e0 a0) a1)) rfl]; rfl
theorem ags (n : Nat) (a0 a1 : V) (s : St) : (K (n + 1)).call 23 [a0, a1] s = aV (aL [rT g4]) (NO (K n) (u1 (u0 e0 a0) a1) s) := by rw [call23, aR (e := (u1 (u0 e0 a0) a1)) rfl]; rfl
theorem aeW (n : Nat) (a0 a1 : V) (s : St) : (K (n + 1)).call 25 [a0, a1] s = aV (aL [rT g4]) (IQ (K n) (u1 (u0 e0 a0) a1) s) := by rw [call25, aR (e := (u1 (u0 e0 a0) a1)) rfl]; rfl
theorem aaS (n : Nat) (a0 a1 : V) (s : St) : (K (n + 1)).call 26 [a0, a1] s = aV (aL [rT g3]) (Dv (K n) (u1 (u0 e0 a0) a1) s) := by rw [call26, aR (e := (u1 (u0 e0 a0) a1)) rfl]; rfl
theorem Qc (n : Nat) (a0 : V) (s : St) : (K (n + 1)).call 28 [a0] s = aV (aL [rT g2]) (MA (K n) (u0 e0 a0) s) := by rw [call28, aR (e := (u0 e0 a0)) rfl]; rfl
theorem NR (n : Nat) (a0 a1 : V) (s : St) : (K (n + 1)).call 29 [a0, a1] s = aV (aL [rT g4]) (De (K n) (u1 (u0 e0 a0) a1) s) := by rw [call29, aR (e := (u1 (u0 e0 a0) a1)) rfl]; rfl
theorem afO (n : Nat) (a0 a1 : V) (s : St) : (K (n + 1)).call 30 [a0, a1] s = aV (aL [rT g4, rT g5]) (KV (K n) (u1 (u0 e0 a0) a1) s) := by rw [call30, aR (e := (u1 (u0 e0 a0) a1)) rfl]; rfl
theorem aaw (n : Nat) (a0 a1 a2 : V) (s : St) : (K (n + 1)).call 31 [a0, a1, a2] s = aV (aL [rT g6]) (LJ (K n) (u2 (u1 (u0 e0 a0) a1) a2) s) := by rw [call31, aR (e := (u2 (u1 (u0 e0 a0) a1) a2)) rfl]; rfl
theorem JO (n : Nat) (a0 a1 : V) (s : St) : (K (n + 1)).call 32 [a0, a1] s = aV (aL [rT g4]) (AL (K n) (u1 (u0 e0 a0) a1) s) := by rw [call32, aR (e := (u1 (u0 e0 a0) a1)) rfl]; rfl
theorem afv (n : Nat) (a0 a1 a2 a3 : V) (s : St) : (K (n + 1)).call 33 [a0, a1, a2, a3] s = aV (aL []) (DU (K n) (u3 (u2 (u1 (u0 e0 a0) a1) a2) a3) s) := by rw [call33, aR (e := (u3 (u2 (u1 (u0 e0 a0) a1) a2) a3)) rfl]; rfl
theorem afY (n : Nat) (a0 a1 a2 : V) (s : St) : (K (n + 1)).call 34 [a0, a1, a2] s = aV (aL [rT g6]) (HI (K n) (u2 (u1 (u0 e0 a0) a1) a2) s) := by rw [call34, aR (e := (u2 (u1 (u0 e0 a0) a1) a2)) rfl]; rfl
theorem aab (n : Nat) (a0 a1 a2 a3 a4 a5 a6 a7 : V) (s : St) : (K (n + 1)).call 37 [a0, a1, a2, a3, a4, a5, a6, a7] s = aV (aL [rC true (nat_lit 9) g16, rT g17]) (AT (K n) (u7 (u6 (u5 (u4 (u3 (u2 (u1 (u0 e0 a0) a1) a2) a3) a4) a5) a6) a7) s) := by rw [call37, aR (e := (u7 (u6 (u5 (u4 (u3 (u2 (u1 (u0 e0 a0) a1) a2) a3) a4) a5) a6) a7)) rfl]; rfl
theorem ac0 (n : Nat) (a0 a1 : V) (s : St) : (K (n + 1)).call 38 [a0, a1] s = aV (aL [rT g4]) (FC (K n) (u1 (u0 e0 a0) a1) s) := by rw [call38, aR (e := (u1 (u0 e0 a0) a1)) rfl]; rfl
theorem afs (n : Nat) (a0 a1 a2 : V) (s : St) : (K (n + 1)).call 42 [a0, a1, a2] s = aV (aL [rT g6, rT g7]) (Dl (K n) (u2 (u1 (u0 e0 a0) a1) a2) s) := by rw [call42, aR (e := (u2 (u1 (u0 e0 a0) a1) a2)) rfl]; rfl
theorem af2 (n : Nat) (a0 a1 : V) (s : St) : (K (n + 1)).call 43 [a0, a1] s = aV (aL [rT g4]) (CF (K n) (u1 (u0 e0 a0) a1) s) := by rw [call43, aR (e := (u1 (u0 e0 a0) a1)) rfl]; rfl
theorem af_ (n : Nat) (a0 a1 : V) (s : St) : (K (n + 1)).call 44 [a0, a1] s = aV (aL [rT g4]) (Mw (K n) (u1 (u0 e0 a0) a1) s) := by rw [call44, aR (e := (u1 (u0 e0 a0) a1)) rfl]; rfl
theorem afG (n : Nat) (a0 a1 : V) (s : St) : (K (n + 1)).call 45 [a0, a1] s = aV (aL [rT g4]) (Ai (K n) (u1 (u0 e0 a0) a1) s) := by rw [call45, aR (e := (u1 (u0 e0 a0) a1)) rfl]; rfl
theorem afZ (n : Nat) (a0 a1 : V) (s : St) : (K (n + 1)).call 48 [a0, a1] s = aV (aL [rT g4]) (FR (K n) (u1 (u0 e0 a0) a1) s) := by rw [call48, aR (e := (u1 (u0 e0 a0) a1)) rfl]; rfl
theorem ag6 (n : Nat) (a0 : V) (s : St) : (K (n + 1)).call 49 [a0] s = aV (aL [rT g2]) (DW (K n) (u0 e0 a0) s) := by rw [call49, aR (e := (u0 e0 a0)) rfl]; rfl
theorem afL (n : Nat) (a0 a1 : V) (s : St) : (K (n + 1)).call 50 [a0, a1] s = aV (aL [rT g4]) (F_ (K n) (u1 (u0 e0 a0) a1) s) := by rw [call50, aR (e := (u1 (u0 e0 a0) a1)) rfl]; rfl
theorem afP (n : Nat) (a0 a1 a2 a3 : V) (s : St) : (K (n + 1)).call 52 [a0, a1, a2, a3] s = aV (aL []) (HT (K n) (u3 (u2 (u1 (u0 e0 a0) a1) a2) a3) s) := by rw [call52, aR (e := (u3 (u2 (u1 (u0 e0 a0) a1) a2) a3)) rfl]; rfl
theorem aeL (n : Nat) (a0 a1 a2 a3 : V) (s : St) : (K (n + 1)).call 53 [a0, a1, a2, a3] s = aV (aL []) (Mv (K n) (u3 (u2 (u1 (u0 e0 a0) a1) a2) a3) s) := by rw [call53, aR (e := (u3 (u2 (u1 (u0 e0 a0) a1) a2) a3)) rfl]; rfl
theorem afS (n : Nat) (a0 a1 : V) (s : St) : (K (n + 1)).call 54 [a0, a1] s = aV (aL []) (BK (K n) (u1 (u0 e0 a0) a1) s) := by rw [call54, aR (e := (u1 (u0 e0 a0) a1)) rfl]; rfl
theorem afQ (n : Nat) (a0 a1 : V) (s : St) : (K (n + 1)).call 55 [a0, a1] s = aV (aL []) (CV (K n) (u1 (u0 e0 a0) a1) s) := by rw [call55, aR (e := (u1 (u0 e0 a0) a1)) rfl]; rfl
theorem agj (n : Nat) (a0 a1 a2 a3 : V) (s : St) : (K (n + 1)).call 56 [a0, a1, a2, a3] s = aV (aL [rC true (nat_lit 9) g8]) (KQ (K n) (u3 (u2 (u1 (u0 e0 a0) a1) a2) a3) s) := by rw [call56, aR (e := (u3 (u2 (u1 (u0 e0 a0) a1) a2) a3)) rfl]; rfl
theorem afM (n : Nat) (a0 : V) (s : St) : (K (n + 1)).call 59 [a0] s = aV (aL [rT g2]) (CZ (K n) (u0 e0 a0) s) := by rw [call59, aR (e := (u0 e0 a0)) rfl]; rfl
theorem afz (n : Nat) (a0 a1 : V) (s : St) : (K (n + 1)).call 70 [a0, a1] s = aV (aL []) (MH (K n) (u1 (u0 e0 a0) a1) s) := by rw [call70, aR (e := (u1 (u0 e0 a0) a1)) rfl]; rfl
theorem afx (n : Nat) (a0 : V) (s : St) : (K (n + 1)).call 71 [a0] s = aV (aL [rT g2]) (HY (K n) (u0 e0 a0) s) := by rw [call71, aR (e := (u0 e0 a0)) rfl]; rfl
theorem afI (n : Nat) (a0 : V) (s : St) : (K (n + 1)).call 72 [a0] s = aV (aL []) (N_ (K n) (u0 e0 a0) s) := by rw [call72, aR (e := (u0 e0 a0)) rfl]; rfl
theorem agx (n : Nat) (a0 a1 : V) (s : St) : (K (n + 1)).call 73 [a0, a1] s = aV (aL [rT g4]) (NF (K n) (u1 (u0 e0 a0) a1) s) := by rw [call73, aR (e := (u1 (u0 e0 a0) a1)) rfl]; rfl
theorem agT (n : Nat) (a0 a1 : V) (s : St) : (K (n + 1)).call 74 [a0, a1] s = aV (aL []) (Kc (K n) (u1 (u0 e0 a0) a1) s) := by rw [call74, aR (e := (u1 (u0 e0 a0) a1)) rfl]; rfl
theorem agN (n : Nat) (a0 a1 a2 a3 : V) (s : St) : (K (n + 1)).call 75 [a0, a1, a2, a3] s = aV (aL [rT g8]) (JR (K n) (u3 (u2 (u1 (u0 e0 a0) a1) a2) a3) s) := by rw [call75, aR (e := (u3 (u2 (u1 (u0 e0 a0) a1) a2) a3)) rfl]; rfl
theorem afK (n : Nat) (a0 a1 a2 a3 : V) (s : St) : (K (n + 1)).call 76 [a0, a1, a2, a3] s = aV (aL [rT g8]) (NL (K n) (u3 (u2 (u1 (u0 e0 a0) a1) a2) a3) s) := by rw [call76, aR (e := (u3 (u2 (u1 (u0 e0 a0) a1) a2) a3)) rfl]; rfl
theorem agL (n : Nat) (a0 a1 : V) (s : St) : (K (n + 1)).call 77 [a0, a1] s = aV (aL [rT g4]) (Lu (K n) (u1 (u0 e0 a0) a1) s) := by rw [call77, aR (e := (u1 (u0 e0 a0) a1)) rfl]; rfl
theorem afT (n : Nat) (a0 a1 a2 a3 : V) (s : St) : (K (n + 1)).call 78 [a0, a1, a2, a3] s = aV (aL [rT g8]) (JL (K n) (u3 (u2 (u1 (u0 e0 a0) a1) a2) a3) s) := by rw [call78, aR (e := (u3 (u2 (u1 (u0 e0 a0) a1) a2) a3)) rfl]; rfl
theorem agP (n : Nat) (a0 a1 : V) (s : St) : (K (n + 1)).call 79 [a0, a1] s = aV (aL [rT g4]) (Bw (K n) (u1 (u0 e0 a0) a1) s) := by rw [call79, aR (e := (u1 (u0 e0 a0) a1)) rfl]; rfl
theorem agE (n : Nat) (a0 : V) (s : St) : (K (n + 1)).call 80 [a0] s = aV (aL [rT g2, rT g3]) (Of (K n) (u0 e0 a0) s) := by rw [call80, aR (e := (u0 e0 a0)) rfl]; rfl
theorem afD (n : Nat) (a0 : V) (s : St) : (K (n + 1)).call 86 [a0] s = aV (aL []) (Ds (K n) (u0 e0 a0) s) := by rw [call86, aR (e := (u0 e0 a0)) rfl]; rfl
theorem agt (n : Nat) (a0 : V) (s : St) : (K (n + 1)).call 87 [a0] s = aV (aL []) (JY (K n) (u0 e0 a0) s) := by rw [call87, aR (e := (u0 e0 a0)) rfl]; rfl
theorem agZ (n : Nat) (a0 : V) (s : St) : (K (n + 1)).call 88 [a0] s = aV (aL []) (I6 (K n) (u0 e0 a0) s) := by rw [call88, aR (e := (u0 e0 a0)) rfl]; rfl
theorem aga (n : Nat) (a0 : V) (s : St) : (K (n + 1)).call 89 [a0] s = aV (aL []) (ES (K n) (u0 e0 a0) s) := by rw [call89, aR (e := (u0 e0 a0)) rfl]; rfl
theorem afu (n : Nat) (a0 : V) (s : St) : (K (n + 1)).call 90 [a0] s = aV (aL []) (B6 (K n) (u0 e0 a0) s) := by rw [call90, aR (e := (u0 e0 a0)) rfl]; rfl
theorem age (n : Nat) (a0 : V) (s : St) : (K (n + 1)).call 91 [a0] s = aV (aL []) (ND (K n) (u0 e0 a0) s) := by rw [call91, aR (e := (u0 e0 a0)) rfl]; rfl
theorem afF (n : Nat) (a0 a1 : V) (s : St) : (K (n + 1)).call 92 [a0, a1] s = aV (aL [rT g4, rT g5, rT g6]) (Ct (K n) (u1 (u0 e0 a0) a1) s) := by rw [call92, aR (e := (u1 (u0 e0 a0) a1)) rfl]; rfl
theorem LS (n : Nat) (a0 : V) (s : St) : (K (n + 1)).call 93 [a0] s = aV (aL [rT g2, rT g3]) (HK (K n) (u0 e0 a0) s) := by rw [call93, aR (e := (u0 e0 a0)) rfl]; rfl
theorem afX (n : Nat) (a0 : V) (s : St) : (K (n + 1)).call 95 [a0] s = aV (aL [rT g2]) (CM (K n) (u0 e0 a0) s) := by rw [call95, aR (e := (u0 e0 a0)) rfl]; rfl
theorem ag8 (n : Nat) (a0 a1 a2 : V) (s : St) : (K (n + 1)).call 96 [a0, a1, a2] s = aV (aL []) (BF (K n) (u2 (u1 (u0 e0 a0) a1) a2) s) := by rw [call96, aR (e := (u2 (u1 (u0 e0 a0) a1) a2)) rfl]; rfl
theorem agH (n : Nat) (a0 a1 : V) (s : St) : (K (n + 1)).call 97 [a0, a1] s = aV (aL []) (Dy (K n) (u1 (u0 e0 a0) a1) s) := by rw [call97, aR (e := (u1 (u0 e0 a0) a1)) rfl]; rfl
theorem agp (n : Nat) (a0 a1 a2 : V) (s : St) : (K (n + 1)).call 99 [a0, a1, a2] s = aV (aL [rT g6]) (JC (K n) (u2 (u1 (u0 e0 a0) a1) a2) s) := by rw [call99, aR (e := (u2 (u1 (u0 e0 a0) a1) a2)) rfl]; rfl
end
end Go.Proofs.YtcgdlgbomjnnnaaGreatLab
