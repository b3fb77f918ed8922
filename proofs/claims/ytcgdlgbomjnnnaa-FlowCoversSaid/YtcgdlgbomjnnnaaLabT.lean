/- The lab: this program's table. Pruned. -/
import Derived.Test.YtcgdlgbomjnnnaaLabG0
namespace Go.Proofs.YtcgdlgbomjnnnaaLab
open Go
set_option linter.unusedVariables false
set_option maxRecDepth 100000
noncomputable section
noncomputable def YU : T aY := (.aa eH (.aa eH (.aa eH (.aa F7 (.aa eH (.aa F31 .nil (.aa X8 .nil .nil)) (.aa Wh (.aa ZW .nil .nil) .nil)) (.aa F23 (.aa ZQ .nil .nil) (.aa eH (.aa ZD .nil .nil) .nil))) (.aa ZY (.aa Xm (.aa eH (.aa YQ .nil .nil) .nil) (.aa F51 (.aa F83 .nil .nil) .nil)) (.aa X_ (.aa eH (.aa YI .nil .nil) .nil) (.aa eH (.aa YZ .nil .nil) .nil)))) (.aa F5 (.aa F9 (.aa XT (.aa Zd (.aa F65 .nil .nil) (.aa Wp .nil .nil)) (.aa Yh (.aa YD .nil .nil) .nil)) (.aa Y_ (.aa WL .nil .nil) (.aa eH (.aa YM .nil .nil) .nil))) (.aa Uz (.aa WI (.aa X7 .nil .nil) .nil) (.aa Yf (.aa NZ (.aa YK .nil .nil) .nil) (.aa eH (.aa Zg .nil .nil) .nil))))) (.aa eH (.aa eH (.aa F8 (.aa eH (.aa Ze (.aa YB .nil .nil) (.aa XX .nil .nil)) (.aa Z_ (.aa Z8 .nil .nil) .nil)) (.aa Z5 (.aa Yp .nil .nil) (.aa eH (.aa ZE .nil .nil) .nil))) (.aa XG (.aa Y7 (.aa eH (.aa ZP .nil .nil) .nil) (.aa F52 (.aa Y5 .nil .nil) .nil)) (.aa Z9 (.aa eH (.aa F76 .nil .nil) .nil) (.aa eH (.aa F92 .nil .nil) .nil)))) (.aa eH (.aa XR (.aa VU (.aa KH (.aa Yw .nil .nil) (.aa ZM .nil .nil)) (.aa XY (.aa F82 .nil .nil) .nil)) (.aa F26 (.aa X2 (.aa Yx .nil .nil) .nil) (.aa eH (.aa ZF .nil .nil) .nil))) (.aa eH (.aa VQ (.aa F38 .nil .nil) (.aa eH (.aa Zw .nil .nil) .nil)) (.aa Yt (.aa V1 (.aa Y9 .nil .nil) .nil) (.aa eH (.aa Zb .nil .nil) .nil))))))
theorem XA : T.qH (aI Try.prog []) YU := (.aa (.no _) (.aa (.no _) (.aa (.no _) (.aa Zz (.aa (.no _) (.aa Tc .nil (.aa QN .nil .nil)) (.aa xq (.aa TO .nil .nil) .nil)) (.aa Pg (.aa T4 .nil .nil) (.aa (.no _) (.aa Pf .nil .nil) .nil))) (.aa Tk (.aa xF (.aa (.no _) (.aa TQ .nil .nil) .nil) (.aa R5 (.aa QU .nil .nil) .nil)) (.aa QD (.aa (.no _) (.aa RG .nil .nil) .nil) (.aa (.no _) (.aa Uc .nil .nil) .nil)))) (.aa aan (.aa X5 (.aa Uq (.aa Q6 (.aa TC .nil .nil) (.aa w9 .nil .nil)) (.aa T7 (.aa RF .nil .nil) .nil)) (.aa QK (.aa xL .nil .nil) (.aa (.no _) (.aa Si .nil .nil) .nil))) (.aa TM (.aa wE (.aa Pn .nil .nil) .nil) (.aa RT (.aa Ub (.aa U_ .nil .nil) .nil) (.aa (.no _) (.aa PS .nil .nil) .nil))))) (.aa (.no _) (.aa (.no _) (.aa Yl (.aa (.no _) (.aa QM (.aa U5 .nil .nil) (.aa UT .nil .nil)) (.aa SU (.aa PW .nil .nil) .nil)) (.aa Ra (.aa T8 .nil .nil) (.aa (.no _) (.aa Us .nil .nil) .nil))) (.aa aaD (.aa Qd (.aa (.no _) (.aa Uv .nil .nil) .nil) (.aa U' (.aa Td .nil .nil) .nil)) (.aa PK (.aa (.no _) (.aa SY .nil .nil) .nil) (.aa (.no _) (.aa Tf .nil .nil) .nil)))) (.aa (.no _) (.aa PC (.aa wR (.aa QZ (.aa UQ .nil .nil) (.aa RH .nil .nil)) (.aa Sf (.aa Tu .nil .nil) .nil)) (.aa Sn (.aa Sk (.aa O9 .nil .nil) .nil) (.aa (.no _) (.aa Tl .nil .nil) .nil))) (.aa (.no _) (.aa xH (.aa Ri .nil .nil) (.aa (.no _) (.aa UP .nil .nil) .nil)) (.aa RZ (.aa wY (.aa Rg .nil .nil) .nil) (.aa (.no _) (.aa SB .nil .nil) .nil))))))
theorem vB : isT ((kc YU 1000000 20).call 12 [] s0) = true := by decide +kernel
theorem Mj : aI Try.prog [] 12 wN := aI.V2 fun W => FZ XA vB .nil W
noncomputable def dM : T aY := (.aa eH (.aa eH (.aa eH (.aa F7 (.aa eH (.aa F31 .nil (.aa X8 .nil .nil)) (.aa Wh (.aa ZW .nil .nil) .nil)) (.aa F23 (.aa ZQ .nil .nil) (.aa eH (.aa ZD .nil .nil) .nil))) (.aa ZY (.aa Xm (.aa eH (.aa YQ .nil .nil) .nil) (.aa F51 (.aa F83 .nil .nil) .nil)) (.aa X_ (.aa eH (.aa YI .nil .nil) .nil) (.aa eH (.aa YZ .nil .nil) .nil)))) (.aa F5 (.aa F9 (.aa XT (.aa Zd (.aa F65 .nil .nil) (.aa Wp .nil .nil)) (.aa Yh (.aa YD .nil .nil) .nil)) (.aa Y_ (.aa WL .nil .nil) (.aa eH (.aa YM .nil .nil) .nil))) (.aa Uz (.aa WI (.aa X7 .nil .nil) .nil) (.aa Yf (.aa NZ (.aa YK .nil .nil) .nil) (.aa eH (.aa Zg .nil .nil) .nil))))) (.aa eH (.aa eH (.aa F8 (.aa eH (.aa Ze (.aa YB .nil .nil) (.aa XX .nil .nil)) (.aa Z_ (.aa Z8 .nil .nil) .nil)) (.aa Z5 (.aa Yp .nil .nil) (.aa eH (.aa ZE .nil .nil) .nil))) (.aa wN (.aa Y7 (.aa eH (.aa ZP .nil .nil) .nil) (.aa F52 (.aa Y5 .nil .nil) .nil)) (.aa Z9 (.aa eH (.aa F76 .nil .nil) .nil) (.aa eH (.aa F92 .nil .nil) .nil)))) (.aa eH (.aa XR (.aa VU (.aa KH (.aa Yw .nil .nil) (.aa ZM .nil .nil)) (.aa XY (.aa F82 .nil .nil) .nil)) (.aa F26 (.aa X2 (.aa Yx .nil .nil) .nil) (.aa eH (.aa ZF .nil .nil) .nil))) (.aa eH (.aa VQ (.aa F38 .nil .nil) (.aa eH (.aa Zw .nil .nil) .nil)) (.aa Yt (.aa V1 (.aa Y9 .nil .nil) .nil) (.aa eH (.aa Zb .nil .nil) .nil))))))
theorem kR : T.qH (aI Try.prog []) dM := (.aa (.no _) (.aa (.no _) (.aa (.no _) (.aa Zz (.aa (.no _) (.aa Tc .nil (.aa QN .nil .nil)) (.aa xq (.aa TO .nil .nil) .nil)) (.aa Pg (.aa T4 .nil .nil) (.aa (.no _) (.aa Pf .nil .nil) .nil))) (.aa Tk (.aa xF (.aa (.no _) (.aa TQ .nil .nil) .nil) (.aa R5 (.aa QU .nil .nil) .nil)) (.aa QD (.aa (.no _) (.aa RG .nil .nil) .nil) (.aa (.no _) (.aa Uc .nil .nil) .nil)))) (.aa aan (.aa X5 (.aa Uq (.aa Q6 (.aa TC .nil .nil) (.aa w9 .nil .nil)) (.aa T7 (.aa RF .nil .nil) .nil)) (.aa QK (.aa xL .nil .nil) (.aa (.no _) (.aa Si .nil .nil) .nil))) (.aa TM (.aa wE (.aa Pn .nil .nil) .nil) (.aa RT (.aa Ub (.aa U_ .nil .nil) .nil) (.aa (.no _) (.aa PS .nil .nil) .nil))))) (.aa (.no _) (.aa (.no _) (.aa Yl (.aa (.no _) (.aa QM (.aa U5 .nil .nil) (.aa UT .nil .nil)) (.aa SU (.aa PW .nil .nil) .nil)) (.aa Ra (.aa T8 .nil .nil) (.aa (.no _) (.aa Us .nil .nil) .nil))) (.aa Mj (.aa Qd (.aa (.no _) (.aa Uv .nil .nil) .nil) (.aa U' (.aa Td .nil .nil) .nil)) (.aa PK (.aa (.no _) (.aa SY .nil .nil) .nil) (.aa (.no _) (.aa Tf .nil .nil) .nil)))) (.aa (.no _) (.aa PC (.aa wR (.aa QZ (.aa UQ .nil .nil) (.aa RH .nil .nil)) (.aa Sf (.aa Tu .nil .nil) .nil)) (.aa Sn (.aa Sk (.aa O9 .nil .nil) .nil) (.aa (.no _) (.aa Tl .nil .nil) .nil))) (.aa (.no _) (.aa xH (.aa Ri .nil .nil) (.aa (.no _) (.aa UP .nil .nil) .nil)) (.aa RZ (.aa wY (.aa Rg .nil .nil) .nil) (.aa (.no _) (.aa SB .nil .nil) .nil))))))
noncomputable def K (n : Nat) : KC := kc dM 1152921504606846976 n
theorem SP (n : Nat) : (K n).fuel = 1152921504606846976 := ME
theorem call5 (n : Nat) (args : List V) (s : St) : (K (n + 1)).call 5 args s = bD F5 (K n) args s := aK rfl
theorem call7 (n : Nat) (args : List V) (s : St) : (K (n + 1)).call 7 args s = bD F7 (K n) args s := aK rfl
theorem call8 (n : Nat) (args : List V) (s : St) : (K (n + 1)).call 8 args s = bD F8 (K n) args s := aK rfl
theorem call9 (n : Nat) (args : List V) (s : St) : (K (n + 1)).call 9 args s = bD F9 (K n) args s := aK rfl
theorem call10 (n : Nat) (args : List V) (s : St) : (K (n + 1)).call 10 args s = bD XR (K n) args s := aK rfl
theorem call11 (n : Nat) (args : List V) (s : St) : (K (n + 1)).call 11 args s = bD ZY (K n) args s := aK rfl
theorem call13 (n : Nat) (args : List V) (s : St) : (K (n + 1)).call 13 args s = bD Uz (K n) args s := aK rfl
theorem call17 (n : Nat) (args : List V) (s : St) : (K (n + 1)).call 17 args s = bD XT (K n) args s := aK rfl
theorem call18 (n : Nat) (args : List V) (s : St) : (K (n + 1)).call 18 args s = bD VU (K n) args s := aK rfl
theorem call19 (n : Nat) (args : List V) (s : St) : (K (n + 1)).call 19 args s = bD Xm (K n) args s := aK rfl
theorem call20 (n : Nat) (args : List V) (s : St) : (K (n + 1)).call 20 args s = bD Y7 (K n) args s := aK rfl
theorem call21 (n : Nat) (args : List V) (s : St) : (K (n + 1)).call 21 args s = bD WI (K n) args s := aK rfl
theorem call22 (n : Nat) (args : List V) (s : St) : (K (n + 1)).call 22 args s = bD VQ (K n) args s := aK rfl
theorem call23 (n : Nat) (args : List V) (s : St) : (K (n + 1)).call 23 args s = bD F23 (K n) args s := aK rfl
theorem call24 (n : Nat) (args : List V) (s : St) : (K (n + 1)).call 24 args s = bD Z5 (K n) args s := aK rfl
theorem call25 (n : Nat) (args : List V) (s : St) : (K (n + 1)).call 25 args s = bD Y_ (K n) args s := aK rfl
theorem call26 (n : Nat) (args : List V) (s : St) : (K (n + 1)).call 26 args s = bD F26 (K n) args s := aK rfl
theorem call27 (n : Nat) (args : List V) (s : St) : (K (n + 1)).call 27 args s = bD X_ (K n) args s := aK rfl
theorem call28 (n : Nat) (args : List V) (s : St) : (K (n + 1)).call 28 args s = bD Z9 (K n) args s := aK rfl
theorem call29 (n : Nat) (args : List V) (s : St) : (K (n + 1)).call 29 args s = bD Yf (K n) args s := aK rfl
theorem call30 (n : Nat) (args : List V) (s : St) : (K (n + 1)).call 30 args s = bD Yt (K n) args s := aK rfl
theorem call31 (n : Nat) (args : List V) (s : St) : (K (n + 1)).call 31 args s = bD F31 (K n) args s := aK rfl
theorem call32 (n : Nat) (args : List V) (s : St) : (K (n + 1)).call 32 args s = bD Ze (K n) args s := aK rfl
theorem call33 (n : Nat) (args : List V) (s : St) : (K (n + 1)).call 33 args s = bD Zd (K n) args s := aK rfl
theorem call34 (n : Nat) (args : List V) (s : St) : (K (n + 1)).call 34 args s = bD KH (K n) args s := aK rfl
theorem call37 (n : Nat) (args : List V) (s : St) : (K (n + 1)).call 37 args s = bD X7 (K n) args s := aK rfl
theorem call38 (n : Nat) (args : List V) (s : St) : (K (n + 1)).call 38 args s = bD F38 (K n) args s := aK rfl
theorem call39 (n : Nat) (args : List V) (s : St) : (K (n + 1)).call 39 args s = bD ZQ (K n) args s := aK rfl
theorem call40 (n : Nat) (args : List V) (s : St) : (K (n + 1)).call 40 args s = bD Yp (K n) args s := aK rfl
theorem call41 (n : Nat) (args : List V) (s : St) : (K (n + 1)).call 41 args s = bD WL (K n) args s := aK rfl
theorem call42 (n : Nat) (args : List V) (s : St) : (K (n + 1)).call 42 args s = bD X2 (K n) args s := aK rfl
theorem call45 (n : Nat) (args : List V) (s : St) : (K (n + 1)).call 45 args s = bD NZ (K n) args s := aK rfl
theorem call46 (n : Nat) (args : List V) (s : St) : (K (n + 1)).call 46 args s = bD V1 (K n) args s := aK rfl
theorem call47 (n : Nat) (args : List V) (s : St) : (K (n + 1)).call 47 args s = bD Wh (K n) args s := aK rfl
theorem call48 (n : Nat) (args : List V) (s : St) : (K (n + 1)).call 48 args s = bD Z_ (K n) args s := aK rfl
theorem call49 (n : Nat) (args : List V) (s : St) : (K (n + 1)).call 49 args s = bD Yh (K n) args s := aK rfl
theorem call50 (n : Nat) (args : List V) (s : St) : (K (n + 1)).call 50 args s = bD XY (K n) args s := aK rfl
theorem call51 (n : Nat) (args : List V) (s : St) : (K (n + 1)).call 51 args s = bD F51 (K n) args s := aK rfl
theorem call52 (n : Nat) (args : List V) (s : St) : (K (n + 1)).call 52 args s = bD F52 (K n) args s := aK rfl
theorem call64 (n : Nat) (args : List V) (s : St) : (K (n + 1)).call 64 args s = bD YB (K n) args s := aK rfl
theorem call65 (n : Nat) (args : List V) (s : St) : (K (n + 1)).call 65 args s = bD F65 (K n) args s := aK rfl
theorem call66 (n : Nat) (args : List V) (s : St) : (K (n + 1)).call 66 args s = bD Yw (K n) args s := aK rfl
theorem call67 (n : Nat) (args : List V) (s : St) : (K (n + 1)).call 67 args s = bD YQ (K n) args s := aK rfl
theorem call68 (n : Nat) (args : List V) (s : St) : (K (n + 1)).call 68 args s = bD ZP (K n) args s := aK rfl
theorem call74 (n : Nat) (args : List V) (s : St) : (K (n + 1)).call 74 args s = bD Yx (K n) args s := aK rfl
theorem call75 (n : Nat) (args : List V) (s : St) : (K (n + 1)).call 75 args s = bD YI (K n) args s := aK rfl
theorem call76 (n : Nat) (args : List V) (s : St) : (K (n + 1)).call 76 args s = bD F76 (K n) args s := aK rfl
theorem call77 (n : Nat) (args : List V) (s : St) : (K (n + 1)).call 77 args s = bD YK (K n) args s := aK rfl
theorem call78 (n : Nat) (args : List V) (s : St) : (K (n + 1)).call 78 args s = bD Y9 (K n) args s := aK rfl
theorem call79 (n : Nat) (args : List V) (s : St) : (K (n + 1)).call 79 args s = bD ZW (K n) args s := aK rfl
theorem call80 (n : Nat) (args : List V) (s : St) : (K (n + 1)).call 80 args s = bD Z8 (K n) args s := aK rfl
theorem call81 (n : Nat) (args : List V) (s : St) : (K (n + 1)).call 81 args s = bD YD (K n) args s := aK rfl
theorem call82 (n : Nat) (args : List V) (s : St) : (K (n + 1)).call 82 args s = bD F82 (K n) args s := aK rfl
theorem call83 (n : Nat) (args : List V) (s : St) : (K (n + 1)).call 83 args s = bD F83 (K n) args s := aK rfl
theorem call84 (n : Nat) (args : List V) (s : St) : (K (n + 1)).call 84 args s = bD Y5 (K n) args s := aK rfl
theorem call86 (n : Nat) (args : List V) (s : St) : (K (n + 1)).call 86 args s = bD Zw (K n) args s := aK rfl
theorem call87 (n : Nat) (args : List V) (s : St) : (K (n + 1)).call 87 args s = bD ZD (K n) args s := aK rfl
theorem call88 (n : Nat) (args : List V) (s : St) : (K (n + 1)).call 88 args s = bD ZE (K n) args s := aK rfl
theorem call89 (n : Nat) (args : List V) (s : St) : (K (n + 1)).call 89 args s = bD YM (K n) args s := aK rfl
theorem call90 (n : Nat) (args : List V) (s : St) : (K (n + 1)).call 90 args s = bD ZF (K n) args s := aK rfl
theorem call91 (n : Nat) (args : List V) (s : St) : (K (n + 1)).call 91 args s = bD YZ (K n) args s := aK rfl
theorem call92 (n : Nat) (args : List V) (s : St) : (K (n + 1)).call 92 args s = bD F92 (K n) args s := aK rfl
theorem call93 (n : Nat) (args : List V) (s : St) : (K (n + 1)).call 93 args s = bD Zg (K n) args s := aK rfl
theorem call94 (n : Nat) (args : List V) (s : St) : (K (n + 1)).call 94 args s = bD Zb (K n) args s := aK rfl
theorem call95 (n : Nat) (args : List V) (s : St) : (K (n + 1)).call 95 args s = bD X8 (K n) args s := aK rfl
theorem call96 (n : Nat) (args : List V) (s : St) : (K (n + 1)).call 96 args s = bD XX (K n) args s := aK rfl
theorem call97 (n : Nat) (args : List V) (s : St) : (K (n + 1)).call 97 args s = bD Wp (K n) args s := aK rfl
theorem call98 (n : Nat) (args : List V) (s : St) : (K (n + 1)).call 98 args s = bD ZM (K n) args s := aK rfl
theorem ac4 (n : Nat) (s : St) : (K (n + 1)).call 12 [] s = some (.bool true, s) := vD rfl
theorem op5 (n : Nat) (a0 : V) (s : St) : (K (n + 1)).call 5 [a0] s = bn (aM [rT g2]) (Wr (K n) (u0 e0 a0) s) := by rw [call5, aT (e := (u0 e0 a0)) rfl]; rfl
theorem op8 (n : Nat) (a0 a1 a2 : V) (s : St) : (K (n + 1)).call 8 [a0, a1, a2] s = bn (aM [rT g6, rT g7]) (VV (K n) (u2 (u1 (u0 e0 a0) a1) a2) s) := by rw [call8, aT (e := (u2 (u1 (u0 e0 a0) a1) a2)) rfl]; rfl
theorem KG (n : Nat) (a0 a1 : V) (s : St) : (K (n + 1)).call 10 [a0, a1] s = bn (aM [rT g4]) (Ej (K n) (u1 (u0 e0 a0) a1) s) := by rw [call10, aT (e := (u1 (u0 e0 a0) a1)) rfl]; rfl
theorem acU (n : Nat) (a0 a1 : V) (s : St) : (K (n + 1)).call 11 [a0, a1] s = bn (aM [rT g4]) (Dk (K n) (u1 (u0 e0 a0) a1) s) := by rw [call11, aT (e := (u1 (u0 e0 a0) a1)) rfl]; rfl
theorem OQ (n : Nat) (a0 a1 : V) (s : St) : (K (n + 1)).call 13 [a0, a1] s = bn (aM [rT g4, rT g5, rT g6]) (Au (K n) (u1 (u0 e0 a0) a1) s) := by rw [call13, aT (e := (u1 (u0 e0 a0) a1)) rfl]; rfl
theorem acP (n : Nat) (a0 a1 : V) (s : St) : (K (n + 1)).call 17 [a0, a1] s = bn (aM [rT g4]) (CC (K n) (u1 (u0 e0 a0) a1) s) := by rw [call17, aT (e := (u1 (u0 e0 a0) a1)) rfl]; rfl
theorem abZ (n : Nat) (a0 : V) (s : St) : (K (n + 1)).call 23 [a0] s = bn (aM [rT g2]) (JO (K n) (u0 e0 a0) s) := by rw [call23, aT (e := (u0 e0 a0)) rfl]; rfl
theorem ab2 (n : Nat) (a0 a1 : V) (s : St) : (K (n + 1)).call 24 [a0, a1] s = bn (aM [rT g4]) (Cc (K n) (u1 (u0 e0 a0) a1) s) := by rw [call24, aT (e := (u1 (u0 e0 a0) a1)) rfl]; rfl
theorem acO (n : Nat) (a0 a1 : V) (s : St) : (K (n + 1)).call 25 [a0, a1] s = bn (aM [rT g3]) (LB (K n) (u1 (u0 e0 a0) a1) s) := by rw [call25, aT (e := (u1 (u0 e0 a0) a1)) rfl]; rfl
theorem M_ (n : Nat) (a0 : V) (s : St) : (K (n + 1)).call 27 [a0] s = bn (aM [rT g2]) (Jq (K n) (u0 e0 a0) s) := by rw [call27, aT (e := (u0 e0 a0)) rfl]; rfl
theorem acG (n : Nat) (a0 a1 a2 : V) (s : St) : (K (n + 1)).call 28 [a0, a1, a2] s = bn (aM [rT g6, rT g7]) (Bm (K n) (u2 (u1 (u0 e0 a0) a1) a2) s) := by rw [call28, aT (e := (u2 (u1 (u0 e0 a0) a1) a2)) rfl]; rfl
theorem acm (n : Nat) (a0 a1 : V) (s : St) : (K (n + 1)).call 29 [a0, a1] s = bn (aM [rT g4]) (Mp (K n) (u1 (u0 e0 a0) a1) s) := by rw [call29, aT (e := (u1 (u0 e0 a0) a1)) rfl]; rfl
theorem abC (n : Nat) (a0 a1 : V) (s : St) : (K (n + 1)).call 30 [a0, a1] s = bn (aM [rT g4]) (Ba (K n) (u1 (u0 e0 a0) a1) s) := by rw [call30, aT (e := (u1 (u0 e0 a0) a1)) rfl]; rfl
theorem aa4 (n : Nat) (a0 : V) (s : St) : (K (n + 1)).call 33 [a0] s = bn (aM [rT g2, rT g3, rT g4]) (Jy (K n) (u0 e0 a0) s) := by rw [call33, aT (e := (u0 e0 a0)) rfl]; rfl
theorem aak (n : Nat) (a0 : V) (s : St) : (K (n + 1)).call 34 [a0] s = bn (aM [rT g2]) (Cj (K n) (u0 e0 a0) s) := by rw [call34, aT (e := (u0 e0 a0)) rfl]; rfl
theorem YF (n : Nat) (a0 a1 : V) (s : St) : (K (n + 1)).call 37 [a0, a1] s = bn (aM [rT g4]) (KM (K n) (u1 (u0 e0 a0) a1) s) := by rw [call37, aT (e := (u1 (u0 e0 a0) a1)) rfl]; rfl
theorem VJ (n : Nat) (a0 a1 : V) (s : St) : (K (n + 1)).call 38 [a0, a1] s = bn (aM [rT g3]) (BO (K n) (u1 (u0 e0 a0) a1) s) := by rw [call38, aT (e := (u1 (u0 e0 a0) a1)) rfl]; rfl
theorem ac0 (n : Nat) (a0 a1 : V) (s : St) : (K (n + 1)).call 39 [a0, a1] s = bn (aM [rT g4, rT g5]) (Bz (K n) (u1 (u0 e0 a0) a1) s) := by rw [call39, aT (e := (u1 (u0 e0 a0) a1)) rfl]; rfl
theorem abI (n : Nat) (a0 a1 a2 a3 : V) (s : St) : (K (n + 1)).call 40 [a0, a1, a2, a3] s = bn (aM []) (Da (K n) (u3 (u2 (u1 (u0 e0 a0) a1) a2) a3) s) := by rw [call40, aT (e := (u3 (u2 (u1 (u0 e0 a0) a1) a2) a3)) rfl]; rfl
theorem acS (n : Nat) (a0 a1 : V) (s : St) : (K (n + 1)).call 42 [a0, a1] s = bn (aM [rT g4]) (DB (K n) (u1 (u0 e0 a0) a1) s) := by rw [call42, aT (e := (u1 (u0 e0 a0) a1)) rfl]; rfl
theorem acV (n : Nat) (a0 : V) (s : St) : (K (n + 1)).call 45 [a0] s = bn (aM [rT g2]) (FO (K n) (u0 e0 a0) s) := by rw [call45, aT (e := (u0 e0 a0)) rfl]; rfl
theorem VG (n : Nat) (a0 a1 a2 a3 a4 a5 a6 a7 : V) (s : St) : (K (n + 1)).call 48 [a0, a1, a2, a3, a4, a5, a6, a7] s = bn (aM [rC true (nat_lit 9) g16, rT g17]) (EV (K n) (u7 (u6 (u5 (u4 (u3 (u2 (u1 (u0 e0 a0) a1) a2) a3) a4) a5) a6) a7) s) := by rw [call48, aT (e := (u7 (u6 (u5 (u4 (u3 (u2 (u1 (u0 e0 a0) a1) a2) a3) a4) a5) a6) a7)) rfl]; rfl
theorem Zv (n : Nat) (a0 a1 : V) (s : St) : (K (n + 1)).call 49 [a0, a1] s = bn (aM [rT g4]) (DK (K n) (u1 (u0 e0 a0) a1) s) := by rw [call49, aT (e := (u1 (u0 e0 a0) a1)) rfl]; rfl
theorem ab' (n : Nat) (a0 a1 : V) (s : St) : (K (n + 1)).call 50 [a0, a1] s = bn (aM [rT g4]) (Gl (K n) (u1 (u0 e0 a0) a1) s) := by rw [call50, aT (e := (u1 (u0 e0 a0) a1)) rfl]; rfl
theorem ab6 (n : Nat) (a0 a1 : V) (s : St) : (K (n + 1)).call 51 [a0, a1] s = bn (aM [rT g4]) (JB (K n) (u1 (u0 e0 a0) a1) s) := by rw [call51, aT (e := (u1 (u0 e0 a0) a1)) rfl]; rfl
theorem ach (n : Nat) (a0 : V) (s : St) : (K (n + 1)).call 52 [a0] s = bn (aM [rT g2]) (Fj (K n) (u0 e0 a0) s) := by rw [call52, aT (e := (u0 e0 a0)) rfl]; rfl
theorem ab5 (n : Nat) (a0 a1 a2 a3 : V) (s : St) : (K (n + 1)).call 64 [a0, a1, a2, a3] s = bn (aM []) (Ck (K n) (u3 (u2 (u1 (u0 e0 a0) a1) a2) a3) s) := by rw [call64, aT (e := (u3 (u2 (u1 (u0 e0 a0) a1) a2) a3)) rfl]; rfl
theorem ZK (n : Nat) (a0 a1 a2 a3 : V) (s : St) : (K (n + 1)).call 65 [a0, a1, a2, a3] s = bn (aM []) (Cn (K n) (u3 (u2 (u1 (u0 e0 a0) a1) a2) a3) s) := by rw [call65, aT (e := (u3 (u2 (u1 (u0 e0 a0) a1) a2) a3)) rfl]; rfl
theorem abK (n : Nat) (a0 a1 : V) (s : St) : (K (n + 1)).call 66 [a0, a1] s = bn (aM []) (CN (K n) (u1 (u0 e0 a0) a1) s) := by rw [call66, aT (e := (u1 (u0 e0 a0) a1)) rfl]; rfl
theorem aby (n : Nat) (a0 a1 : V) (s : St) : (K (n + 1)).call 67 [a0, a1] s = bn (aM []) (J_ (K n) (u1 (u0 e0 a0) a1) s) := by rw [call67, aT (e := (u1 (u0 e0 a0) a1)) rfl]; rfl
theorem acM (n : Nat) (a0 a1 a2 a3 : V) (s : St) : (K (n + 1)).call 68 [a0, a1, a2, a3] s = bn (aM [rC true (nat_lit 9) g8]) (IK (K n) (u3 (u2 (u1 (u0 e0 a0) a1) a2) a3) s) := by rw [call68, aT (e := (u3 (u2 (u1 (u0 e0 a0) a1) a2) a3)) rfl]; rfl
theorem abL (n : Nat) (a0 a1 : V) (s : St) : (K (n + 1)).call 74 [a0, a1] s = bn (aM []) (zF (K n) (u1 (u0 e0 a0) a1) s) := by rw [call74, aT (e := (u1 (u0 e0 a0) a1)) rfl]; rfl
theorem ab_ (n : Nat) (a0 : V) (s : St) : (K (n + 1)).call 75 [a0] s = bn (aM [rT g2]) (Bx (K n) (u0 e0 a0) s) := by rw [call75, aT (e := (u0 e0 a0)) rfl]; rfl
theorem acJ (n : Nat) (a0 : V) (s : St) : (K (n + 1)).call 76 [a0] s = bn (aM []) (I_ (K n) (u0 e0 a0) s) := by rw [call76, aT (e := (u0 e0 a0)) rfl]; rfl
theorem acw (n : Nat) (a0 a1 : V) (s : St) : (K (n + 1)).call 77 [a0, a1] s = bn (aM [rT g4]) (GF (K n) (u1 (u0 e0 a0) a1) s) := by rw [call77, aT (e := (u1 (u0 e0 a0) a1)) rfl]; rfl
theorem adb (n : Nat) (a0 a1 : V) (s : St) : (K (n + 1)).call 78 [a0, a1] s = bn (aM []) (Ik (K n) (u1 (u0 e0 a0) a1) s) := by rw [call78, aT (e := (u1 (u0 e0 a0) a1)) rfl]; rfl
theorem ack (n : Nat) (a0 a1 a2 a3 : V) (s : St) : (K (n + 1)).call 79 [a0, a1, a2, a3] s = bn (aM [rT g8]) (Fz (K n) (u3 (u2 (u1 (u0 e0 a0) a1) a2) a3) s) := by rw [call79, aT (e := (u3 (u2 (u1 (u0 e0 a0) a1) a2) a3)) rfl]; rfl
theorem ab8 (n : Nat) (a0 a1 a2 a3 : V) (s : St) : (K (n + 1)).call 80 [a0, a1, a2, a3] s = bn (aM [rT g8]) (zB (K n) (u3 (u2 (u1 (u0 e0 a0) a1) a2) a3) s) := by rw [call80, aT (e := (u3 (u2 (u1 (u0 e0 a0) a1) a2) a3)) rfl]; rfl
theorem aci (n : Nat) (a0 a1 : V) (s : St) : (K (n + 1)).call 81 [a0, a1] s = bn (aM [rT g4]) (Bb (K n) (u1 (u0 e0 a0) a1) s) := by rw [call81, aT (e := (u1 (u0 e0 a0) a1)) rfl]; rfl
theorem aco (n : Nat) (a0 a1 a2 a3 : V) (s : St) : (K (n + 1)).call 82 [a0, a1, a2, a3] s = bn (aM [rT g8]) (IC (K n) (u3 (u2 (u1 (u0 e0 a0) a1) a2) a3) s) := by rw [call82, aT (e := (u3 (u2 (u1 (u0 e0 a0) a1) a2) a3)) rfl]; rfl
theorem abU (n : Nat) (a0 a1 : V) (s : St) : (K (n + 1)).call 83 [a0, a1] s = bn (aM [rT g4]) (Iv (K n) (u1 (u0 e0 a0) a1) s) := by rw [call83, aT (e := (u1 (u0 e0 a0) a1)) rfl]; rfl
theorem acN (n : Nat) (a0 : V) (s : St) : (K (n + 1)).call 84 [a0] s = bn (aM [rT g2, rT g3]) (Io (K n) (u0 e0 a0) s) := by rw [call84, aT (e := (u0 e0 a0)) rfl]; rfl
theorem acK (n : Nat) (a0 : V) (s : St) : (K (n + 1)).call 86 [a0] s = bn (aM []) (Kx (K n) (u0 e0 a0) s) := by rw [call86, aT (e := (u0 e0 a0)) rfl]; rfl
theorem abR (n : Nat) (a0 : V) (s : St) : (K (n + 1)).call 87 [a0] s = bn (aM []) (J8 (K n) (u0 e0 a0) s) := by rw [call87, aT (e := (u0 e0 a0)) rfl]; rfl
theorem ac2 (n : Nat) (a0 : V) (s : St) : (K (n + 1)).call 88 [a0] s = bn (aM []) (zu (K n) (u0 e0 a0) s) := by rw [call88, aT (e := (u0 e0 a0)) rfl]; rfl
theorem ac3 (n : Nat) (a0 : V) (s : St) : (K (n + 1)).call 89 [a0] s = bn (aM []) (Kg (K n) (u0 e0 a0) s) := by rw [call89, aT (e := (u0 e0 a0)) rfl]; rfl
theorem abT (n : Nat) (a0 : V) (s : St) : (K (n + 1)).call 90 [a0] s = bn (aM []) (IX (K n) (u0 e0 a0) s) := by rw [call90, aT (e := (u0 e0 a0)) rfl]; rfl
theorem abu (n : Nat) (a0 : V) (s : St) : (K (n + 1)).call 91 [a0] s = bn (aM []) (Gs (K n) (u0 e0 a0) s) := by rw [call91, aT (e := (u0 e0 a0)) rfl]; rfl
theorem abx (n : Nat) (a0 a1 : V) (s : St) : (K (n + 1)).call 92 [a0, a1] s = bn (aM [rT g4, rT g5, rT g6]) (Er (K n) (u1 (u0 e0 a0) a1) s) := by rw [call92, aT (e := (u1 (u0 e0 a0) a1)) rfl]; rfl
theorem Em (n : Nat) (a0 : V) (s : St) : (K (n + 1)).call 93 [a0] s = bn (aM [rT g2, rT g3]) (Lr (K n) (u0 e0 a0) s) := by rw [call93, aT (e := (u0 e0 a0)) rfl]; rfl
theorem ab9 (n : Nat) (a0 : V) (s : St) : (K (n + 1)).call 94 [a0] s = bn (aM [rT g2]) (Ka (K n) (u0 e0 a0) s) := by rw [call94, aT (e := (u0 e0 a0)) rfl]; rfl
theorem ab3 (n : Nat) (a0 a1 a2 : V) (s : St) : (K (n + 1)).call 95 [a0, a1, a2] s = bn (aM []) (Cu (K n) (u2 (u1 (u0 e0 a0) a1) a2) s) := by rw [call95, aT (e := (u2 (u1 (u0 e0 a0) a1) a2)) rfl]; rfl
theorem acp (n : Nat) (a0 a1 : V) (s : St) : (K (n + 1)).call 96 [a0, a1] s = bn (aM []) (zh (K n) (u1 (u0 e0 a0) a1) s) := by rw [call96, aT (e := (u1 (u0 e0 a0) a1)) rfl]; rfl
theorem acF (n : Nat) (a0 a1 a2 : V) (s : St) : (K (n + 1)).call 98 [a0, a1, a2] s = bn (aM [rT g6]) (FW (K n) (u2 (u1 (u0 e0 a0) a1) a2) s) := by rw [call98, aT (e := (u2 (u1 (u0 e0 a0) a1) a2)) rfl]; rfl
end
end Go.Proofs.YtcgdlgbomjnnnaaLab
