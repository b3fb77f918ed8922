/- The lab: this program's functions, in pieces. Pruned. -/
import Derived.Test.YtcgdlgbomjnnnaaLabT0
import Derived.Test.YtcgdlgbomjnnnaaLabTb
import Derived.Test.YtcgdlgbomjnnnaaLabSo
namespace Go.Proofs.YtcgdlgbomjnnnaaLab
open Go
set_option linter.unusedVariables false
set_option maxRecDepth 100000
noncomputable section
variable (k:KC)(e:E)(s:St)
def p6_1:Den:=fun _ e s=>ltc (V.bool false) fun v0=>.nrm (u2 e v0) s
def p6_3:Res:=lt (g0 e) fun v0=>bE (eCall 13 [(cV .nils), (cV v0)] k e s) fun v1 s=>bP (pUn (uExt 0) (cV v1) e) fun v2=>bP (pUn (uExt 1) (cV v1) e) fun v3=>bP (pUn (uExt 2) (cV v1) e) fun v4=>.nrm (ws1 (ws0 e fun r=>{r with a3:=v2,a4:=v3,a5:=v4,a12:=v1,a13:=v0,a14:=v1,a15:=v2}) fun r=>{r with a0:=v3,a1:=v4}) s
def p6_5:Res:=lt (g3 e) fun v0=>lt (g4 e) fun v1=>bE (eCall 20 [cV v0,cV v1] k e s) fun v2 s=>.nrm (ws1 (u6 e v2) fun r=>{r with a2:=v0,a3:=v1,a4:=v2}) s
def p6_8:Den:=fun _ e s=>lt (g6 e) fun v0=>bP (pUn uLenS (cV v0) e) fun v1=>lt (g3 e) fun v2=>bP (pUn uLenS (cV v2) e) fun v3=>bP (pBin (bI fNe) (cV v1) (cV v3) e) fun v4=>bP (gdV v4 false (pMove g3 e)) fun v5=>bP (gdV v4 false (pUn uLenS (cV v5) e)) fun v6=>bP (gdV v4 false (pBin (bI fEq) (cV v6) (cV (.i 0)) e)) fun v7=>bP (pPick (cV v4) (cV (.bool true)) (cV v7) e) fun v8=>bP (gdV v8 false (pMove g6 e)) fun v9=>bP (gdV v8 false (pBin (bIdx 1) (cV v9) (cV (.i 0)) e)) fun v10=>bP (gdV v8 false ((dLd (cV v10)) e s)) fun v11=>bP (gdV v8 false (pUn uNot (cV v11) e)) fun v12=>bP (pPick (cV v8) (cV (.bool true)) (cV v12) e) fun v13=>.nrm (ws2 (rw1 e fun a b c d f _ _ _ _ _ _ _ _ _ _ _=>⟨a,b,c,d,f,v0,v1,v2,v3,v4,v4,v5,v6,v7,v8,v8⟩) fun r=>{r with a0:=v9,a1:=v10,a2:=v11,a3:=v12,a4:=v13}) s
def p6_11:Den:=fun _ e s=>ltc (V.bool false) fun v0=>.nrm (u2 e v0) s
def p6_14:Den:=fun _ e s=>ltc (V.i 0) fun v0=>.nrm (u7 e v0) s
def p6_19:Den:=fun _ e s=>lt (g7 e) fun v0=>lt (g3 e) fun v1=>bP (pUn uLenS (cV v1) e) fun v2=>bP (pBin (bI fLt) (cV v0) (cV v2) e) fun v3=>.nrm (ws2 e fun r=>{r with a5:=v0,a6:=v1,a7:=v2,a8:=v3}) s
def p6_25:Den:=fun _ e s=>lt (g6 e) fun v0=>lt (g7 e) fun v1=>bP (pBin (bIdx 1) (cV v0) (cV v1) e) fun v2=>bP ((dLd (cV v2)) e s) fun v3=>bP (pUn uNot (cV v3) e) fun v4=>.nrm (ws2 e fun r=>{r with a11:=v0,a12:=v1,a13:=v2,a14:=v3,a15:=v4}) s
def p6_28:Res:=lt (g3 e) fun v0=>lt (g7 e) fun v1=>bE (eCall 10 [cV v0,cV v1] k e s) fun v2 s=>.nrm (ws3 (u8 e v2) fun r=>{r with a0:=v0,a1:=v1,a2:=v2}) s
def p6_31:Den:=fun _ e s=>ltc (V.i 0) fun v0=>.nrm (u9 e v0) s
def p6_36:Den:=fun _ e s=>lt (g9 e) fun v0=>lt (g8 e) fun v1=>bP (pUn uLenS (cV v1) e) fun v2=>bP (pBin (bI fLt) (cV v0) (cV v2) e) fun v3=>.nrm (ws3 e fun r=>{r with a3:=v0,a4:=v1,a5:=v2,a6:=v3}) s
def p6_41:Den:=fun _ e s=>lt (g6 e) fun v0=>lt (g8 e) fun v1=>lt (g9 e) fun v2=>bP (pBin (bIdx 1) (cV v1) (cV v2) e) fun v3=>bP ((dLd (cV v3)) e s) fun v4=>bP (pBin (bIdx 1) (cV v0) (cV v4) e) fun v5=>bP ((dLd (cV v5)) e s) fun v6=>bP (pUn uNot (cV v6) e) fun v7=>.nrm (u64 (ws3 e fun r=>{r with a9:=v0,a10:=v1,a11:=v2,a12:=v3,a13:=v4,a14:=v5,a15:=v6}) v7) s
def p6_44:Den:=fun _ e s=>ltc (V.bool false) fun v0=>.nrm (u2 e v0) s
def p6_45:Den:=fun _ e s=>lt (g9 e) fun v0=>bP (pBin (bI fAdd) (cV v0) (cV (.i 1)) e) fun v1=>.nrm (ws3 (u9 e v1) fun r=>{r with a7:=v0,a8:=v1}) s
def p6_47:Den:=fun _ e s=>ltc (V.i 0) fun v0=>.nrm (u10 e v0) s
def p6_52:Den:=fun _ e s=>lt (g10 e) fun v0=>lt (g4 e) fun v1=>bP (pUn uLenS (cV v1) e) fun v2=>bP (pBin (bI fLt) (cV v0) (cV v2) e) fun v3=>.nrm (ws4 e fun r=>{r with a1:=v0,a2:=v1,a3:=v2,a4:=v3}) s
def p6_57:Den:=fun _ e s=>lt (g3 e) fun v0=>lt (g7 e) fun v1=>bP (pBin (bIdx 4) (cV v0) (cV v1) e) fun v2=>bP (pUn (uFld 0) (cV v2) e) fun v3=>bP ((dLd (cV v3)) e s) fun v4=>lt (g4 e) fun v5=>lt (g10 e) fun v6=>bP (pBin (bIdx 4) (cV v5) (cV v6) e) fun v7=>bP (pUn (uFld 0) (cV v7) e) fun v8=>bP ((dLd (cV v8)) e s) fun v9=>bP (pBin (bI fGe) (cV v4) (cV v9) e) fun v10=>bP (gdV v10 true (pMove g3 e)) fun v11=>bP (gdV v10 true (pMove g7 e)) fun v12=>bP (gdV v10 true (pBin (bIdx 4) (cV v11) (cV v12) e)) fun v13=>bP (gdV v10 true (pUn (uFld 0) (cV v13) e)) fun v14=>bP (gdV v10 true ((dLd (cV v14)) e s)) fun v15=>bP (gdV v10 true (pMove g4 e)) fun v16=>bP (gdV v10 true (pMove g10 e)) fun v17=>bP (gdV v10 true (pBin (bIdx 4) (cV v16) (cV v17) e)) fun v18=>bP (gdV v10 true (pUn (uFld 1) (cV v18) e)) fun v19=>bP (gdV v10 true ((dLd (cV v19)) e s)) fun v20=>bP (gdV v10 true (pBin (bI fLt) (cV v15) (cV v20) e)) fun v21=>bP (pPick (cV v10) (cV v21) (cV (.bool false)) e) fun v22=>.nrm (rw5 (rw4 e fun a b c d f g h _ _ _ _ _ _ _ _ _=>⟨a,b,c,d,f,g,h,v0,v1,v2,v3,v4,v5,v6,v7,v8⟩) fun _ _ _ _ _ _ _ _ _ _ _ _ _ _ _ r=>⟨v9,v10,v10,v11,v12,v13,v14,v15,v16,v17,v18,v19,v20,v21,v22,r⟩) s
def p6_60:Res:=lt (g3 e) fun v0=>lt (g4 e) fun v1=>lt (g10 e) fun v2=>bP (pBin (bIdx 4) (cV v1) (cV v2) e) fun v3=>bP (pUn (uFld 2) (cV v3) e) fun v4=>bP ((dLd (cV v4)) e s) fun v5=>bE (eCall 11 [cV v0,cV v5] k e s) fun v6 s=>.nrm (ws6 (u95 (u11 e v6) v0) fun r=>{r with a0:=v1,a1:=v2,a2:=v3,a3:=v4,a4:=v5,a5:=v6}) s
def p6_62:Den:=fun _ e s=>lt (g11 e) fun v0=>bP (pBin (bI fLt) (cV v0) (cV (.i 0)) e) fun v1=>bP (gdV v1 false (pMove g6 e)) fun v2=>bP (gdV v1 false (pMove g11 e)) fun v3=>bP (gdV v1 false (pBin (bIdx 1) (cV v2) (cV v3) e)) fun v4=>bP (gdV v1 false ((dLd (cV v4)) e s)) fun v5=>bP (gdV v1 false (pUn uNot (cV v5) e)) fun v6=>bP (pPick (cV v1) (cV (.bool true)) (cV v6) e) fun v7=>.nrm (rw6 e fun a b c d f g _ _ _ _ _ _ _ _ _ r=>⟨a,b,c,d,f,g,v0,v1,v1,v2,v3,v4,v5,v6,v7,r⟩) s
def p6_65:Den:=fun _ e s=>ltc (V.bool false) fun v0=>.nrm (u2 e v0) s
def p6_66:Den:=fun _ e s=>lt (g10 e) fun v0=>bP (pBin (bI fAdd) (cV v0) (cV (.i 1)) e) fun v1=>.nrm (ws4 (u10 e v1) fun r=>{r with a5:=v0,a6:=v1}) s
def p6_67:Den:=fun _ e s=>lt (g7 e) fun v0=>bP (pBin (bI fAdd) (cV v0) (cV (.i 1)) e) fun v1=>.nrm (ws2 (u7 e v1) fun r=>{r with a9:=v0,a10:=v1}) s
def p6_69:Res:=bE (eCall 12 [] k e s) fun v0 s=>.nrm (u111 (u2 e v0) v0) s
def p6_0:Res:=dSeq p6_1 (dSeq p6_3 (dSeq p6_5 (dSeq (dSeq p6_8 (dCond g36 (dSeq p6_11 dRet) dSkip)) (dSeq (dSeq p6_14 (dBlock 0 (dLoop (dSeq (dSeq p6_19 (dCond g40 dSkip (dExit 0))) (dSeq (dBlock 1 (dSeq (dSeq p6_25 (dCond g47 (dExit 1) dSkip)) (dSeq p6_28 (dSeq (dSeq p6_31 (dBlock 2 (dLoop (dSeq (dSeq p6_36 (dCond g54 dSkip (dExit 2))) (dSeq (dBlock 3 (dSeq p6_41 (dCond g64 (dSeq p6_44 dRet) dSkip))) p6_45))))) (dSeq p6_47 (dBlock 4 (dLoop (dSeq (dSeq p6_52 (dCond g68 dSkip (dExit 4))) (dSeq (dBlock 5 (dSeq p6_57 (dCond g94 (dSeq p6_60 (dSeq p6_62 (dCond g110 (dSeq p6_65 dRet) dSkip))) dSkip))) p6_66))))))))) p6_67))))) (dSeq p6_69 dRet))))) k e s
def F6 : FDen := ⟨[u0], p6_0, resV [rT g2]⟩
theorem low6 : lowFunc tt [] fok Try.f6 = some F6 := by kernel_rfl
theorem run6 : FRun Try.prog [] 6 F6 := FRun.of (lowFunc_ok ttOk fokOk mixed Try.func6 low6)
def p7_1:Den:=fun _ e s=>bE (aSt (aAl 4 (ofL [(.i 0), (.i 0), (.i 0), (.i 0)]) e s.next) s) fun v0 s=>.nrm (u6 e v0) s
def p7_3:Res:=lt (g0 e) fun v0=>lt (g1 e) fun v1=>lt (g2 e) fun v2=>bP (pBuild [(.i 0), (.i 0), (.i 0), (.i 0)] [(0, 1, (cV v0)), (1, 1, (cV v1)), (2, 1, (cV v2))] e) fun v3=>bE (eSt 4 g6 (cV v3) k e s) fun v4 s=>.nrm (ws0 e fun r=>{r with a7:=v0,a8:=v1,a9:=v2,a10:=v3}) s
def p7_0:Res:=dSeq p7_1 (dSeq p7_3 dRet) k e s
def F7 : FDen := ⟨[u0, u1, u2], p7_0, resV [rC true (nat_lit 4) g6]⟩
theorem low7 : lowFunc tt [] fok Try.f7 = some F7 := by kernel_rfl
theorem run7 : FRun Try.prog [] 7 F7 := FRun.of (lowFunc_ok ttOk fokOk mixed Try.func7 low7)
def p8_1:Den:=fun _ e s=>ltc (V.i 0) fun v0=>ltc (V.i 0) fun v1=>.nrm (ws0 e fun r=>{r with a6:=v0,a7:=v1}) s
def p8_4:Den:=fun _ e s=>lt (g0 e) fun v0=>bP (pUn uLenS (cV v0) e) fun v1=>bP (pBin (bI fEq) (cV v1) (cV (.i 0)) e) fun v2=>.nrm (ws1 (u15 e v0) fun r=>{r with a0:=v1,a1:=v2}) s
def p8_7:Den:=fun _ e s=>ltc (V.i 17) fun v0=>ltc (V.i 0) fun v1=>.nrm (ws0 e fun r=>{r with a6:=v0,a7:=v1}) s
def p8_10:Den:=fun _ e s=>lt (g0 e) fun v0=>bP (pUn uLenS (cV v0) e) fun v1=>ltc (V.i 0) fun v2=>.nrm (ws1 e fun r=>{r with a2:=v0,a3:=v1,a4:=v2}) s
def p8_14:Den:=fun _ e s=>bP (pBin (bI fLt) g20 g19 e) fun v0=>.nrm (u21 e v0) s
def p8_20:Res:=bP (pBin (bIdx 4) g18 g20 e) fun v0=>bP ((dLdN 4 (cV v0)) e s) fun v1=>bE (aSt (aAl 4 (ofL [(.i 0), (.i 0), (.i 0), (.i 0)]) e s.next) s) fun v2 s=>bE (eSt 4 (cV v2) (cV v1) k e s) fun v3 s=>.nrm (ws1 (u9 e v2) fun r=>{r with a6:=v0,a7:=v1}) s
def p8_22:Res:=bP (pUn (uFld 1) g9 e) fun v0=>bP ((dLd (cV v0)) e s) fun v1=>bE (eCall 21 [cV v1] k e s) fun v2 s=>bP (gdV v2 true (pMove g0 e)) fun v3=>bP (gdV v2 true (pUn (uFld 2) g9 e)) fun v4=>bP (gdV v2 true ((dLd (cV v4)) e s)) fun v5=>bE (gdW v2 true s (eCall 11 [cV v3,cV v5] k e s)) fun v6 s=>bP (gdV v2 true (pBin (bI fLt) (cV v6) (cV (.i 0)) e)) fun v7=>bP (pPick (cV v2) (cV v7) (cV (.bool false)) e) fun v8=>.nrm (ws2 (ws1 e fun r=>{r with a8:=v0,a9:=v1,a10:=v2,a11:=v2,a12:=v3,a13:=v4,a14:=v5,a15:=v6}) fun r=>{r with a0:=v7,a1:=v8}) s
def p8_25:Den:=fun _ e s=>bP (pUn (uFld 0) g9 e) fun v0=>bP ((dLd (cV v0)) e s) fun v1=>ltc (V.i 16) fun v2=>.nrm (ws2 (ws0 e fun r=>{r with a6:=v2,a7:=v1}) fun r=>{r with a2:=v0,a3:=v1}) s
def p8_26:Den:=fun _ e s=>bP (pBin (bI fAdd) g20 (cV (.i 1)) e) fun v0=>.nrm (u36 (u20 e v0) v0) s
def p8_29:Res:=lt (g0 e) fun v0=>lt (g0 e) fun v1=>bP (pUn uLenS (cV v1) e) fun v2=>bP (pBin (bI fSub) (cV v2) (cV (.i 1)) e) fun v3=>bP (pBin (bIdx 4) (cV v0) (cV v3) e) fun v4=>bP ((dLdN 4 (cV v4)) e s) fun v5=>bE (aSt (aAl 4 (ofL [(.i 0), (.i 0), (.i 0), (.i 0)]) e s.next) s) fun v6 s=>bE (eSt 4 (cV v6) (cV v5) k e s) fun v7 s=>.nrm (ws2 (u10 e v6) fun r=>{r with a5:=v0,a6:=v1,a7:=v2,a8:=v3,a9:=v4,a10:=v5}) s
def p8_31:Res:=bP (pUn (uFld 1) g10 e) fun v0=>bP ((dLd (cV v0)) e s) fun v1=>bE (eCall 22 [cV v1] k e s) fun v2 s=>bP (pUn uNot (cV v2) e) fun v3=>.nrm (ws2 e fun r=>{r with a11:=v0,a12:=v1,a13:=v2,a14:=v3}) s
def p8_34:Den:=fun _ e s=>bP (pUn (uFld 0) g10 e) fun v0=>bP ((dLd (cV v0)) e s) fun v1=>ltc (V.i 17) fun v2=>.nrm (u48 (u47 (ws0 e fun r=>{r with a6:=v2,a7:=v1}) v0) v1) s
def p8_37:Den:=fun _ e s=>lt (g1 e) fun v0=>bP (pUn uLenS (cV v0) e) fun v1=>ltc (V.i 0) fun v2=>.nrm (ws3 e fun r=>{r with a1:=v0,a2:=v1,a3:=v2}) s
def p8_41:Den:=fun _ e s=>bP (pBin (bI fLt) g51 g50 e) fun v0=>.nrm (u52 e v0) s
def p8_47:Res:=bP (pBin (bIdx 4) g49 g51 e) fun v0=>bP ((dLdN 4 (cV v0)) e s) fun v1=>bE (aSt (aAl 4 (ofL [(.i 0), (.i 0), (.i 0), (.str [])]) e s.next) s) fun v2 s=>bE (eSt 4 (cV v2) (cV v1) k e s) fun v3 s=>.nrm (ws3 (u12 e v2) fun r=>{r with a5:=v0,a6:=v1}) s
def p8_49:Res:=dDraw [⟨none, (.p (pMove g0)), u55⟩, ⟨none, (.p (pUn (uFld 0) g12)), u56⟩, ⟨none, (.d 1 0 (dLd g56)), u57⟩, ⟨none, (.e (eCall 11 [g55, g57])), u58⟩, ⟨none, (.p (pBin (bI fLt) g58 (cV (.i 0)))), u59⟩, ⟨none, (.p (pMove g59)), u60⟩, ⟨(some (60, false)), (.p (pMove g0)), u61⟩, ⟨(some (60, false)), (.p (pUn (uFld 2) g12)), u62⟩, ⟨(some (60, false)), (.d 1 0 (dLd g62)), u63⟩, ⟨(some (60, false)), (.e (eCall 11 [g61, g63])), u64⟩, ⟨(some (60, false)), (.p (pBin (bI fLt) g64 (cV (.i 0)))), u65⟩, ⟨none, (.p (pPick g60 (cV (.bool true)) g65)), u66⟩, ⟨none, (.p (pMove g66)), u67⟩, ⟨(some (67, false)), (.p (pMove g0)), u68⟩, ⟨(some (67, false)), (.p (pUn (uFld 1) g12)), u69⟩, ⟨(some (67, false)), (.d 1 0 (dLd g69)), u70⟩, ⟨(some (67, false)), (.e (eCall 11 [g68, g70])), u71⟩, ⟨(some (67, false)), (.p (pBin (bI fLt) g71 (cV (.i 0)))), u72⟩, ⟨(some (67, false)), (.p (pMove g72)), u73⟩, ⟨(some (73, true)), (.p (pUn (uFld 1) g12)), u74⟩, ⟨(some (73, true)), (.d 3 4 (dLd g74)), u75⟩, ⟨(some (73, true)), (.p (pMove g0)), u76⟩, ⟨(some (73, true)), (.e (eCall 23 [g76])), u77⟩, ⟨(some (73, true)), (.p (pBin (bI fNe) g75 g77)), u78⟩, ⟨(some (67, false)), (.p (pPick g73 g78 (cV (.bool false)))), u79⟩, ⟨none, (.p (pPick g67 (cV (.bool true)) g79)), u80⟩, ⟨none, (.p (pMove g80)), u81⟩, ⟨(some (81, false)), (.p (pUn (uFld 0) g12)), u82⟩, ⟨(some (81, false)), (.d 1 0 (dLd g82)), u83⟩, ⟨(some (81, false)), (.p (pUn (uFld 1) g12)), u84⟩, ⟨(some (81, false)), (.d 1 0 (dLd g84)), u85⟩, ⟨(some (81, false)), (.p (pBin (bI fGe) g83 g85)), u86⟩, ⟨none, (.p (pPick g81 (cV (.bool true)) g86)), u87⟩] k e s
def p8_52:Den:=fun _ e s=>bP (pUn (uFld 0) g12 e) fun v0=>bP ((dLd (cV v0)) e s) fun v1=>ltc (V.i 16) fun v2=>.nrm (ws5 (ws0 e fun r=>{r with a6:=v2,a7:=v1}) fun r=>{r with a8:=v0,a9:=v1}) s
def p8_53:Den:=fun _ e s=>bP (pBin (bI fAdd) g51 (cV (.i 1)) e) fun v0=>.nrm (u90 (u51 e v0) v0) s
def p8_56:Den:=fun _ e s=>lt (g2 e) fun v0=>bP (pUn uLenS (cV v0) e) fun v1=>ltc (V.i 0) fun v2=>.nrm (ws5 e fun r=>{r with a11:=v0,a12:=v1,a13:=v2}) s
def p8_60:Den:=fun _ e s=>bP (pBin (bI fLt) g93 g92 e) fun v0=>.nrm (u94 e v0) s
def p8_66:Res:=lt (g93 e) fun v0=>bP (pBin (bIdx 3) g91 g93 e) fun v1=>bP ((dLdN 3 (cV v1)) e s) fun v2=>bE (aSt (aAl 3 (ofL [(.i 0), .nils, .nils]) e s.next) s) fun v3 s=>bE (eSt 3 (cV v3) (cV v2) k e s) fun v4 s=>.nrm (ws6 (u95 (ws0 e fun r=>{r with a13:=v0,a14:=v3}) v0) fun r=>{r with a0:=v1,a1:=v2}) s
def p8_69:Res:=lt (g0 e) fun v0=>bP (pUn (uFld 0) g14 e) fun v1=>bP ((dLd (cV v1)) e s) fun v2=>bE (eCall 11 [cV v0,cV v2] k e s) fun v3 s=>bP (pBin (bI fLt) (cV v3) (cV (.i 0)) e) fun v4=>.nrm (ws6 e fun r=>{r with a2:=v4,a3:=v0,a4:=v1,a5:=v2,a6:=v3,a7:=v4}) s
def p8_72:Den:=fun _ e s=>bP (pUn (uFld 0) g14 e) fun v0=>bP ((dLd (cV v0)) e s) fun v1=>ltc (V.i 16) fun v2=>.nrm (ws6 (ws0 e fun r=>{r with a6:=v2,a7:=v1}) fun r=>{r with a8:=v0,a9:=v1}) s
def p8_74:Res:=lt (g2 e) fun v0=>lt (g13 e) fun v1=>bP (pSl 3 (cV v0) none (some (cV v1)) none e) fun v2=>bP (pFun 25 [] [g14] e) fun v3=>bE (eCall 24 [cV v2,cV v3] k e s) fun v4 s=>.nrm (ws6 e fun r=>{r with a10:=v4,a11:=v0,a12:=v1,a13:=v2,a14:=v3,a15:=v4}) s
def p8_77:Den:=fun _ e s=>bP (pUn (uFld 0) g14 e) fun v0=>bP ((dLd (cV v0)) e s) fun v1=>ltc (V.i 21) fun v2=>.nrm (ws7 (ws0 e fun r=>{r with a6:=v2,a7:=v1}) fun r=>{r with a0:=v0,a1:=v1}) s
def p8_78:Den:=fun _ e s=>bP (pBin (bI fAdd) g93 (cV (.i 1)) e) fun v0=>.nrm (u114 (u93 e v0) v0) s
def p8_80:Den:=fun _ e s=>ltc (V.i 0) fun v0=>ltc (V.i 0) fun v1=>.nrm (ws0 e fun r=>{r with a6:=v0,a7:=v1}) s
def p8_54:Res:=dSeq (dSeq p8_56 (dBlock 4 (dLoop (dSeq p8_60 (dSeq (dCond g94 dSkip (dExit 4)) (dSeq (dBlock 5 (dSeq p8_66 (dBlock 6 (dSeq p8_69 (dCond g98 (dSeq p8_72 dRet) (dSeq p8_74 (dCond g106 (dSeq p8_77 dRet) dSkip))))))) p8_78)))))) (dSeq p8_80 dRet) k e s
def p8_35:Res:=dSeq (dSeq p8_37 (dBlock 2 (dLoop (dSeq p8_41 (dSeq (dCond g52 dSkip (dExit 2)) (dSeq (dBlock 3 (dSeq p8_47 (dSeq p8_49 (dCond g87 (dSeq p8_52 dRet) dSkip)))) p8_53)))))) p8_54 k e s
def p8_27:Res:=dSeq (dSeq p8_29 (dSeq p8_31 (dCond g46 (dSeq p8_34 dRet) dSkip))) p8_35 k e s
def p8_0:Res:=dSeq p8_1 (dSeq (dSeq p8_4 (dCond g17 (dSeq p8_7 dRet) dSkip)) (dSeq (dSeq p8_10 (dBlock 0 (dLoop (dSeq p8_14 (dSeq (dCond g21 dSkip (dExit 0)) (dSeq (dBlock 1 (dSeq p8_20 (dSeq p8_22 (dCond g33 (dSeq p8_25 dRet) dSkip)))) p8_26)))))) p8_27)) k e s
def F8 : FDen := ⟨[u0, u1, u2], p8_0, resV [rT g6, rT g7]⟩
theorem low8 : lowFunc tt [] fok Try.f8 = some F8 := by kernel_rfl
theorem run8 : FRun Try.prog [] 8 F8 := FRun.of (lowFunc_ok ttOk fokOk mixed Try.func8 low8)
def p9_1:Den:=fun _ e s=>ltc (V.bool false) fun v0=>.nrm (u4 e v0) s
def p9_4:Den:=fun _ e s=>lt (g0 e) fun v0=>bP (pUn uLenS (cV v0) e) fun v1=>lt (g1 e) fun v2=>bP (pUn uLenS (cV v2) e) fun v3=>bP (pBin (bI fNe) (cV v1) (cV v3) e) fun v4=>.nrm (ws0 e fun r=>{r with a6:=v0,a7:=v1,a8:=v2,a9:=v3,a10:=v4}) s
def p9_7:Den:=fun _ e s=>ltc (V.bool false) fun v0=>.nrm (u4 e v0) s
def p9_10:Den:=fun _ e s=>ltc (V.i 0) fun v0=>.nrm (u5 e v0) s
def p9_15:Den:=fun _ e s=>lt (g5 e) fun v0=>lt (g0 e) fun v1=>bP (pUn uLenS (cV v1) e) fun v2=>bP (pBin (bI fLt) (cV v0) (cV v2) e) fun v3=>.nrm (ws0 e fun r=>{r with a11:=v0,a12:=v1,a13:=v2,a14:=v3}) s
def p9_20:Den:=fun _ e s=>lt (g0 e) fun v0=>lt (g5 e) fun v1=>bP (pBin (bIdx 1) (cV v0) (cV v1) e) fun v2=>bP ((dLd (cV v2)) e s) fun v3=>lt (g1 e) fun v4=>lt (g5 e) fun v5=>bP (pBin (bIdx 1) (cV v4) (cV v5) e) fun v6=>bP ((dLd (cV v6)) e s) fun v7=>bP (pBin (bI fNe) (cV v3) (cV v7) e) fun v8=>.nrm (ws1 e fun r=>{r with a1:=v0,a2:=v1,a3:=v2,a4:=v3,a5:=v4,a6:=v5,a7:=v6,a8:=v7,a9:=v8}) s
def p9_23:Den:=fun _ e s=>ltc (V.bool false) fun v0=>.nrm (u4 e v0) s
def p9_24:Den:=fun _ e s=>lt (g5 e) fun v0=>bP (pBin (bI fAdd) (cV v0) (cV (.i 1)) e) fun v1=>.nrm (u16 (ws0 e fun r=>{r with a5:=v1,a15:=v0}) v1) s
def p9_26:Den:=fun _ e s=>ltc (V.bool true) fun v0=>.nrm (u4 e v0) s
def p9_0:Res:=dSeq p9_1 (dSeq (dSeq p9_4 (dCond g10 (dSeq p9_7 dRet) dSkip)) (dSeq (dSeq p9_10 (dBlock 0 (dLoop (dSeq (dSeq p9_15 (dCond g14 dSkip (dExit 0))) (dSeq (dBlock 1 (dSeq p9_20 (dCond g25 (dSeq p9_23 dRet) dSkip))) p9_24))))) (dSeq p9_26 dRet))) k e s
def F9 : FDen := ⟨[u0, u1], p9_0, resV [rT g4]⟩
theorem low9 : lowFunc tt [] fok Try.f9 = some F9 := by kernel_rfl
theorem run9 : FRun Try.prog [] 9 F9 := FRun.of (lowFunc_ok ttOk fokOk mixed Try.func9 low9)
def p10_1:Den:=fun _ e s=>ltc (V.nils) fun v0=>.nrm (u4 e v0) s
def p10_4:Den:=fun _ e s=>lt (g1 e) fun v0=>bP (pBin (bI fLt) (cV v0) (cV (.i 0)) e) fun v1=>bP (gdV v1 false (pMove g1 e)) fun v2=>bP (gdV v1 false (pMove g0 e)) fun v3=>bP (gdV v1 false (pUn uLenS (cV v3) e)) fun v4=>bP (gdV v1 false (pBin (bI fGe) (cV v2) (cV v4) e)) fun v5=>bP (pPick (cV v1) (cV (.bool true)) (cV v5) e) fun v6=>.nrm (ws0 e fun r=>{r with a7:=v0,a8:=v1,a9:=v1,a10:=v2,a11:=v3,a12:=v4,a13:=v5,a14:=v6}) s
def p10_7:Den:=fun _ e s=>ltc (V.nils) fun v0=>.nrm (u4 e v0) s
def p10_9:Den:=fun _ e s=>ltc (V.nils) fun v0=>.nrm (u5 e v0) s
def p10_12:Res:=lt (g0 e) fun v0=>lt (g1 e) fun v1=>bP (pBin (bIdx 4) (cV v0) (cV v1) e) fun v2=>bP (pUn (uFld 1) (cV v2) e) fun v3=>bP ((dLd (cV v3)) e s) fun v4=>bE (eCall 22 [cV v4] k e s) fun v5 s=>bP (pUn uNot (cV v5) e) fun v6=>bP (gdV v6 true (pMove g1 e)) fun v7=>bP (gdV v6 true (pBin (bI fAdd) (cV v7) (cV (.i 1)) e)) fun v8=>bP (gdV v6 true (pMove g0 e)) fun v9=>bP (gdV v6 true (pUn uLenS (cV v9) e)) fun v10=>bP (gdV v6 true (pBin (bI fLt) (cV v8) (cV v10) e)) fun v11=>bP (pPick (cV v6) (cV v11) (cV (.bool false)) e) fun v12=>.nrm (rw1 (u15 e v0) fun _ _ _ _ _ _ _ _ _ _ _ _ _ p q r=>⟨v1,v2,v3,v4,v5,v6,v6,v7,v8,v9,v10,v11,v12,p,q,r⟩) s
def p10_14:Res:=lt (g5 e) fun v0=>lt (g1 e) fun v1=>bP (pBin (bI fAdd) (cV v1) (cV (.i 1)) e) fun v2=>bE (aSt (aBSl 1 1 [(.i 0)] [(0, 1, (cV v2))] e s.next) s) fun v3 s=>bE (eAp8 1 (cV v0) (cV v3) k e s) fun v4 s=>.nrm (ws2 (ws1 (u5 e v4) fun r=>{r with a13:=v0,a14:=v1,a15:=v2}) fun r=>{r with a0:=v3,a1:=v4}) s
def p10_17:Res:=lt (g0 e) fun v0=>lt (g1 e) fun v1=>bP (pBin (bIdx 4) (cV v0) (cV v1) e) fun v2=>bP (pUn (uFld 1) (cV v2) e) fun v3=>bP ((dLd (cV v3)) e s) fun v4=>bE (eCall 21 [cV v4] k e s) fun v5 s=>.nrm (ws2 e fun r=>{r with a2:=v0,a3:=v1,a4:=v2,a5:=v3,a6:=v4,a7:=v5}) s
def p10_20:Res:=lt (g0 e) fun v0=>lt (g0 e) fun v1=>lt (g1 e) fun v2=>bP (pBin (bIdx 4) (cV v1) (cV v2) e) fun v3=>bP (pUn (uFld 2) (cV v3) e) fun v4=>bP ((dLd (cV v4)) e s) fun v5=>bE (eCall 11 [cV v0,cV v5] k e s) fun v6 s=>.nrm (ws2 (u6 e v6) fun r=>{r with a8:=v0,a9:=v1,a10:=v2,a11:=v3,a12:=v4,a13:=v5,a14:=v6}) s
def p10_22:Den:=fun _ e s=>lt (g6 e) fun v0=>bP (pBin (bI fGe) (cV v0) (cV (.i 0)) e) fun v1=>.nrm (u48 (u47 e v0) v1) s
def p10_24:Res:=lt (g5 e) fun v0=>lt (g6 e) fun v1=>bE (aSt (aBSl 1 1 [(.i 0)] [(0, 1, (cV v1))] e s.next) s) fun v2 s=>bE (eAp8 1 (cV v0) (cV v2) k e s) fun v3 s=>.nrm (ws3 (u5 e v3) fun r=>{r with a1:=v0,a2:=v1,a3:=v2,a4:=v3}) s
def p10_26:Res:=lt (g5 e) fun v0=>bE (eCall 26 [cV v0] k e s) fun v1 s=>.nrm (ws3 e fun r=>{r with a5:=v0,a6:=v1}) s
def p10_28:Res:=lt (g5 e) fun v0=>bE (eCall 27 [cV v0] k e s) fun v1 s=>.nrm (ws3 (u4 e v1) fun r=>{r with a7:=v0,a8:=v1}) s
def p10_25:Res:=dSeq p10_26 (dSeq p10_28 dRet) k e s
def p10_15:Res:=dSeq (dSeq p10_17 (dCond g39 (dSeq p10_20 (dSeq p10_22 (dCond g48 p10_24 dSkip))) dSkip)) p10_25 k e s
def p10_0:Res:=dSeq p10_1 (dSeq (dSeq p10_4 (dCond g14 (dSeq p10_7 dRet) dSkip)) (dSeq p10_9 (dSeq (dSeq p10_12 (dCond g28 p10_14 dSkip)) p10_15))) k e s
def F10 : FDen := ⟨[u0, u1], p10_0, resV [rT g4]⟩
theorem low10 : lowFunc tt [] fok Try.f10 = some F10 := by kernel_rfl
theorem run10 : FRun Try.prog [] 10 F10 := FRun.of (lowFunc_ok ttOk fokOk mixed Try.func10 low10)
def p11_1:Den:=fun _ e s=>ltc (V.i 0) fun v0=>.nrm (u4 e v0) s
def p11_3:Res:=lt (g0 e) fun v0=>lt (g1 e) fun v1=>bE (eCall 28 [(cV v0), (cV v1), (cV (.func 29 [] []))] k e s) fun v2 s=>bP (pUn (uExt 0) (cV v2) e) fun v3=>bP (pUn (uExt 1) (cV v2) e) fun v4=>.nrm (ws0 e fun r=>{r with a5:=v3,a6:=v4,a7:=v2,a8:=v0,a9:=v1,a10:=v2,a11:=v3,a12:=v4}) s
def p11_6:Den:=fun _ e s=>lt (g6 e) fun v0=>bP (pUn uNot (cV v0) e) fun v1=>.nrm (ws0 e fun r=>{r with a13:=v0,a14:=v1}) s
def p11_9:Den:=fun _ e s=>ltc (V.i (-1)) fun v0=>.nrm (u4 e v0) s
def p11_11:Den:=fun _ e s=>lt (g5 e) fun v0=>.nrm (ws0 e fun r=>{r with a4:=v0,a15:=v0}) s
def p11_0:Res:=dSeq p11_1 (dSeq p11_3 (dSeq (dSeq p11_6 (dCond g14 (dSeq p11_9 dRet) dSkip)) (dSeq p11_11 dRet))) k e s
def F11 : FDen := ⟨[u0, u1], p11_0, resV [rT g4]⟩
theorem low11 : lowFunc tt [] fok Try.f11 = some F11 := by kernel_rfl
theorem run11 : FRun Try.prog [] 11 F11 := FRun.of (lowFunc_ok ttOk fokOk mixed Try.func11 low11)
def p12_1:Den:=fun _ e s=>ltc (V.bool false) fun v0=>.nrm (u0 e v0) s
def p12_3:Res:=bE (eCall 7 [(cV (.i 0)), (cV (.i 0)), (cV (.i 0))] k e s) fun v0 s=>bE (aSt (aBSl 1 4 [(.i 0), (.i 0), (.i 0), (.i 0)] [(0, 4, (cV v0))] e s.next) s) fun v1 s=>bE (eCall 8 [(cV v1), (cV .nils), (cV .nils)] k e s) fun v2 s=>bP (pUn (uExt 0) (cV v2) e) fun v3=>bP (pUn (uExt 1) (cV v2) e) fun v4=>.nrm (ws0 e fun r=>{r with a1:=v3,a2:=v4,a4:=v2,a5:=v0,a6:=v1,a7:=v2,a8:=v3,a9:=v4}) s
def p12_5:Res:=bE (eCall 7 [(cV (.i 0)), (cV (.i 167)), (cV (.i 3))] k e s) fun v0 s=>bE (eCall 7 [(cV (.i 3)), (cV (.i 167)), (cV (.i 0))] k e s) fun v1 s=>bE (aSt (aBSl 2 4 [(.i 0), (.i 0), (.i 0), (.i 0), (.i 0), (.i 0), (.i 0), (.i 0)] [(0, 4, (cV v0)), (4, 4, (cV v1))] e s.next) s) fun v2 s=>bE (eCall 17 [(cV v2), (cV .nils)] k e s) fun v3 s=>.nrm (ws0 e fun r=>{r with a3:=v3,a10:=v0,a11:=v1,a12:=v2,a13:=v3}) s
def p12_7:Res:=lt (g1 e) fun v0=>bP (pBin (bI fEq) (cV v0) (cV (.i 17)) e) fun v1=>bP (gdV v1 true (pMove g2 e)) fun v2=>bP (gdV v1 true (pBin (bI fEq) (cV v2) (cV (.i 0)) e)) fun v3=>bP (pPick (cV v1) (cV v3) (cV (.bool false)) e) fun v4=>bP (gdV v4 true (pMove g3 e)) fun v5=>bE (gdW v4 true s (aSt (aBSl 1 1 [(.i 0)] [(0, 1, (cV (.i 1)))] e s.next) s)) fun v6 s=>bP (gdV v4 true (pBuild [(.i 0), (.i 0), .nils] [(0, 1, (cV (.i 0))), (1, 1, (cV (.i 1))), (2, 1, (cV v6))] e)) fun v7=>bE (gdW v4 true s (aSt (aBSl 1 1 [(.i 0)] [(0, 1, (cV (.i 0)))] e s.next) s)) fun v8 s=>bP (gdV v4 true (pBuild [(.i 0), (.i 0), .nils] [(0, 1, (cV (.i 1))), (1, 1, (cV (.i 2))), (2, 1, (cV v8))] e)) fun v9=>bE (gdW v4 true s (aSt (aBSl 2 3 [(.i 0), (.i 0), .nils, (.i 0), (.i 0), .nils] [(0, 3, (cV v7)), (3, 3, (cV v9))] e s.next) s)) fun v10 s=>bE (gdW v4 true s (eCall 31 [cV v5,cV v10] k e s)) fun v11 s=>bP (pPick (cV v4) (cV v11) (cV (.bool false)) e) fun v12=>bE (gdW v12 true s (eCall 7 [(cV (.i 0)), (cV (.i 177)), (cV (.i 0))] k e s)) fun v13 s=>bE (gdW v12 true s (eCall 7 [(cV (.i 1)), (cV (.i 177)), (cV (.i 0))] k e s)) fun v14 s=>bE (gdW v12 true s (aSt (aBSl 2 4 [(.i 0), (.i 0), (.i 0), (.i 0), (.i 0), (.i 0), (.i 0), (.i 0)] [(0, 4, (cV v13)), (4, 4, (cV v14))] e s.next) s)) fun v15 s=>bE (gdW v12 true s (eCall 20 [(cV v15), (cV .nils)] k e s)) fun v16 s=>bE (gdW v12 true s (aSt (aBSl 2 1 [(.bool false), (.bool false)] [(0, 1, (cV (.bool true))), (1, 1, (cV (.bool false)))] e s.next) s)) fun v17 s=>bE (gdW v12 true s (eCall 32 [cV v16,cV v17] k e s)) fun v18 s=>bP (pPick (cV v12) (cV v18) (cV (.bool false)) e) fun v19=>.nrm (ws2 (rw1 (ws0 e fun r=>{r with a0:=v19,a14:=v0,a15:=v1}) fun _ _ _ _ _ _ _ _ _ _ _ _ _ _ _ _=>⟨v1,v2,v3,v4,v4,v5,v6,v7,v8,v9,v10,v11,v12,v12,v13,v14⟩) fun r=>{r with a0:=v15,a1:=v16,a2:=v17,a3:=v18,a4:=v19}) s
def p12_0:Res:=dSeq p12_1 (dSeq p12_3 (dSeq p12_5 (dSeq p12_7 dRet))) k e s
def F12 : FDen := ⟨[], p12_0, resV [rT g0]⟩
theorem low12 : lowFunc tt [] fok Try.f12 = some F12 := by kernel_rfl
theorem run12 : FRun Try.prog [] 12 F12 := FRun.of (lowFunc_ok ttOk fokOk mixed Try.func12 low12)
def p13_1:Den:=fun _ e s=>ltc (V.nils) fun v0=>ltc (V.nils) fun v1=>ltc (V.nils) fun v2=>.nrm (ws0 e fun r=>{r with a4:=v0,a5:=v1,a6:=v2}) s
def p13_3:Res:=lt (g0 e) fun v0=>bE (eCall 33 [cV v0] k e s) fun v1 s=>bP (pUn (uExt 0) (cV v1) e) fun v2=>bP (pUn (uExt 1) (cV v1) e) fun v3=>bP (pUn (uExt 2) (cV v1) e) fun v4=>.nrm (ws1 (ws0 e fun r=>{r with a7:=v2,a8:=v3,a9:=v4,a12:=v1,a13:=v0,a14:=v1,a15:=v2}) fun r=>{r with a0:=v3,a1:=v4}) s
def p13_6:Den:=fun _ e s=>lt (g8 e) fun v0=>bP (pBin (bI fEq) (cV v0) (cV (.i 0)) e) fun v1=>bP (gdV v1 true (pMove g7 e)) fun v2=>bP (gdV v1 true (pUn uLenS (cV v2) e)) fun v3=>bP (gdV v1 true (pBin (bI fGt) (cV v3) (cV (.i 0)) e)) fun v4=>bP (pPick (cV v1) (cV v4) (cV (.bool false)) e) fun v5=>bP (gdV v5 true (pMove g0 e)) fun v6=>bP (gdV v5 true (pUn uLenS (cV v6) e)) fun v7=>bP (gdV v5 true (pBin (bI fLt) (cV v7) (cV (.i 300)) e)) fun v8=>bP (pPick (cV v5) (cV v8) (cV (.bool false)) e) fun v9=>.nrm (rw1 e fun a b _ _ _ _ _ _ _ _ _ _ _ _ q r=>⟨a,b,v0,v1,v1,v2,v3,v4,v5,v5,v6,v7,v8,v9,q,r⟩) s
def p13_9:Den:=fun _ e s=>lt (g7 e) fun v0=>ltc (V.nils) fun v1=>ltc (V.nils) fun v2=>.nrm (u30 (ws0 e fun r=>{r with a4:=v0,a5:=v1,a6:=v2}) v0) s
def p13_11:Res:=lt (g1 e) fun v0=>bE (eCall 34 [cV v0] k e s) fun v1 s=>.nrm (u32 (u31 (u10 e v1) v0) v1) s
def p13_13:Res:=lt (g10 e) fun v0=>lt (g10 e) fun v1=>bP (pUn uLenS (cV v1) e) fun v2=>bP (pBin (bI fSub) (cV v2) (cV (.i 1)) e) fun v3=>bP (pBin (bIdx 5) (cV v0) (cV v3) e) fun v4=>bP (pUn (uFld 4) (cV v4) e) fun v5=>bP ((dLd (cV v5)) e s) fun v6=>bP (pBin (bIdx 9) (cV v6) (cV (.i 0)) e) fun v7=>bP ((dLdN 9 (cV v7)) e s) fun v8=>bE (aSt (aAl 9 (ofL [(.str []), (.str []), (.bool false), (.bool false), (.i 0), (.i 0), .nils, .nils, .nils]) e s.next) s) fun v9 s=>bE (eSt 9 (cV v9) (cV v8) k e s) fun v10 s=>.nrm (ws2 (u11 e v9) fun r=>{r with a1:=v0,a2:=v1,a3:=v2,a4:=v3,a5:=v4,a6:=v5,a7:=v6,a8:=v7,a9:=v8}) s
def p13_15:Res:=bP (pUn (uFld 6) g11 e) fun v0=>bP ((dLd (cV v0)) e s) fun v1=>bE (eCall 33 [cV v1] k e s) fun v2 s=>bP (pUn (uExt 0) (cV v2) e) fun v3=>bP (pUn (uExt 1) (cV v2) e) fun v4=>bP (pUn (uExt 2) (cV v2) e) fun v5=>.nrm (u48 (ws2 (u7 e v3) fun r=>{r with a10:=v2,a11:=v0,a12:=v1,a13:=v2,a14:=v3,a15:=v4}) v5) s
def p13_17:Den:=fun _ e s=>lt (g7 e) fun v0=>bP (pUn (uFld 7) g11 e) fun v1=>bP ((dLd (cV v1)) e s) fun v2=>bP (pUn (uFld 8) g11 e) fun v3=>bP ((dLd (cV v3)) e s) fun v4=>.nrm (ws3 (ws0 e fun r=>{r with a4:=v0,a5:=v2,a6:=v4}) fun r=>{r with a1:=v0,a2:=v1,a3:=v2,a4:=v3,a5:=v4}) s
def p13_0:Res:=dSeq p13_1 (dSeq p13_3 (dSeq (dSeq p13_6 (dCond g29 (dSeq p13_9 dRet) dSkip)) (dSeq p13_11 (dSeq p13_13 (dSeq p13_15 (dSeq p13_17 dRet)))))) k e s
def F13 : FDen := ⟨[u0, u1], p13_0, resV [rT g4, rT g5, rT g6]⟩
theorem low13 : lowFunc tt [] fok Try.f13 = some F13 := by kernel_rfl
theorem run13 : FRun Try.prog [] 13 F13 := FRun.of (lowFunc_ok ttOk fokOk mixed Try.func13 low13)
def p17_1:Den:=fun _ e s=>bE (aSt (aBox g0 e s.next) s) fun v0 s=>ltc (V.nils) fun v1=>.nrm (ws0 e fun r=>{r with a2:=v0,a4:=v1}) s
def p17_4:Den:=fun _ e s=>bP ((dLd g2) e s) fun v0=>bP (pUn uLenS (cV v0) e) fun v1=>bP (pBin (bI fEq) (cV v1) (cV (.i 0)) e) fun v2=>.nrm (ws1 e fun r=>{r with a2:=v0,a3:=v1,a4:=v2}) s
def p17_7:Den:=fun _ e s=>ltc (V.nils) fun v0=>.nrm (u4 e v0) s
def p17_9:Den:=fun _ e s=>bE (aSt (aBSl 1 1 [(.i 0)] [(0, 1, (cV (.i 0)))] e s.next) s) fun v0 s=>.nrm (u21 (u5 e v0) v0) s
def p17_12:Den:=fun _ e s=>bP ((dLd g2) e s) fun v0=>bP (pUn uLenS (cV v0) e) fun v1=>ltc (V.i 0) fun v2=>.nrm (ws1 e fun r=>{r with a6:=v0,a7:=v1,a8:=v2}) s
def p17_16:Den:=fun _ e s=>bP (pBin (bI fLt) g24 g23 e) fun v0=>.nrm (u25 e v0) s
def p17_22:Res:=lt (g24 e) fun v0=>bP (pBin (bIdx 4) g22 g24 e) fun v1=>bP ((dLdN 4 (cV v1)) e s) fun v2=>bE (aSt (aAl 4 (ofL [(.i 0), (.i 0), (.i 0), (.i 0)]) e s.next) s) fun v3 s=>bE (eSt 4 (cV v3) (cV v2) k e s) fun v4 s=>.nrm (ws1 (ws0 e fun r=>{r with a6:=v0,a7:=v3}) fun r=>{r with a10:=v0,a11:=v1,a12:=v2}) s
def p17_25:Res:=bP (pUn (uFld 1) g7 e) fun v0=>bP ((dLd (cV v0)) e s) fun v1=>bE (eCall 21 [cV v1] k e s) fun v2 s=>.nrm (ws1 e fun r=>{r with a13:=v0,a14:=v1,a15:=v2}) s
def p17_27:Res:=lt (g5 e) fun v0=>bP ((dLd g2) e s) fun v1=>bP (pUn (uFld 2) g7 e) fun v2=>bP ((dLd (cV v2)) e s) fun v3=>bE (eCall 11 [cV v1,cV v3] k e s) fun v4 s=>bE (aSt (aBSl 1 1 [(.i 0)] [(0, 1, (cV v4))] e s.next) s) fun v5 s=>bE (eAp8 1 (cV v0) (cV v5) k e s) fun v6 s=>.nrm (ws2 (u5 e v6) fun r=>{r with a0:=v0,a1:=v1,a2:=v2,a3:=v3,a4:=v4,a5:=v5,a6:=v6}) s
def p17_29:Res:=bP (pUn (uFld 1) g7 e) fun v0=>bP ((dLd (cV v0)) e s) fun v1=>bE (eCall 21 [cV v1] k e s) fun v2 s=>bP (gdV v2 false (pUn (uFld 1) g7 e)) fun v3=>bP (gdV v2 false ((dLd (cV v3)) e s)) fun v4=>bE (gdW v2 false s (eCall 22 [cV v4] k e s)) fun v5 s=>bP (pPick (cV v2) (cV (.bool true)) (cV v5) e) fun v6=>.nrm (ws2 e fun r=>{r with a7:=v0,a8:=v1,a9:=v2,a10:=v2,a11:=v3,a12:=v4,a13:=v5,a14:=v6}) s
def p17_31:Res:=lt (g5 e) fun v0=>lt (g6 e) fun v1=>bP (pBin (bI fAdd) (cV v1) (cV (.i 1)) e) fun v2=>bE (aSt (aBSl 1 1 [(.i 0)] [(0, 1, (cV v2))] e s.next) s) fun v3 s=>bE (eAp8 1 (cV v0) (cV v3) k e s) fun v4 s=>.nrm (ws3 (u47 (u5 e v4) v0) fun r=>{r with a0:=v1,a1:=v2,a2:=v3,a3:=v4}) s
def p17_32:Den:=fun _ e s=>bP (pBin (bI fAdd) g24 (cV (.i 1)) e) fun v0=>.nrm (u52 (u24 e v0) v0) s
def p17_35:Den:=fun _ e s=>lt (g1 e) fun v0=>bP (pUn uLenS (cV v0) e) fun v1=>ltc (V.i 0) fun v2=>.nrm (ws3 e fun r=>{r with a5:=v0,a6:=v1,a7:=v2}) s
def p17_39:Den:=fun _ e s=>bP (pBin (bI fLt) g55 g54 e) fun v0=>.nrm (u56 e v0) s
def p17_45:Res:=bP (pBin (bIdx 4) g53 g55 e) fun v0=>bP ((dLdN 4 (cV v0)) e s) fun v1=>bE (aSt (aAl 4 (ofL [(.i 0), (.i 0), (.i 0), (.str [])]) e s.next) s) fun v2 s=>bE (eSt 4 (cV v2) (cV v1) k e s) fun v3 s=>.nrm (ws3 (u9 e v2) fun r=>{r with a9:=v0,a10:=v1}) s
def p17_46:Res:=dDraw [⟨none, (.p (pMove g5)), u59⟩, ⟨none, (.d 0 0 (dLd g2)), u60⟩, ⟨none, (.p (pUn (uFld 2) g9)), u61⟩, ⟨none, (.d 0 0 (dLd g61)), u62⟩, ⟨none, (.e (eCall 11 [g60, g62])), u63⟩, ⟨none, (.d 0 1 (dLd g2)), u64⟩, ⟨none, (.p (pUn (uFld 0) g9)), u65⟩, ⟨none, (.d 0 1 (dLd g65)), u66⟩, ⟨none, (.e (eCall 11 [g64, g66])), u67⟩, ⟨none, (.d 0 2 (dLd g2)), u68⟩, ⟨none, (.p (pUn (uFld 1) g9)), u69⟩, ⟨none, (.d 0 2 (dLd g69)), u70⟩, ⟨none, (.e (eCall 11 [g68, g70])), u71⟩, ⟨none, (.a (aBSl 3 1 [(.i 0), (.i 0), (.i 0)] [(0, 1, g63), (1, 1, g67), (2, 1, g71)])), u72⟩, ⟨none, (.e (eAp8 1 g59 g72)), u73⟩, ⟨none, (.p (pMove g73)), u5⟩] k e s
def p17_47:Den:=fun _ e s=>bP (pBin (bI fAdd) g55 (cV (.i 1)) e) fun v0=>.nrm (u74 (u55 e v0) v0) s
def p17_49:Res:=lt (g5 e) fun v0=>bP (pFun 38 [] [g2] e) fun v1=>bE (eCall 37 [cV v0,cV v1] k e s) fun v2 s=>.nrm (ws4 (u5 e v2) fun r=>{r with a11:=v0,a12:=v1,a13:=v2}) s
def p17_51:Res:=lt (g5 e) fun v0=>bE (eCall 26 [cV v0] k e s) fun v1 s=>.nrm (ws4 e fun r=>{r with a14:=v0,a15:=v1}) s
def p17_53:Res:=lt (g5 e) fun v0=>bE (eCall 27 [cV v0] k e s) fun v1 s=>.nrm (ws5 (u5 e v1) fun r=>{r with a0:=v0,a1:=v1}) s
def p17_55:Den:=fun _ e s=>ltc (V.nils) fun v0=>.nrm (u10 e v0) s
def p17_59:Den:=fun _ e s=>lt (g5 e) fun v0=>bP (pUn uLenS (cV v0) e) fun v1=>ltc (V.i 0) fun v2=>.nrm (ws5 e fun r=>{r with a2:=v0,a3:=v1,a4:=v2}) s
def p17_63:Den:=fun _ e s=>bP (pBin (bI fLt) g84 g83 e) fun v0=>.nrm (u85 e v0) s
def p17_69:Den:=fun _ e s=>lt (g84 e) fun v0=>bP (pBin (bIdx 1) g82 g84 e) fun v1=>bP ((dLd (cV v1)) e s) fun v2=>.nrm (ws5 (ws0 e fun r=>{r with a11:=v0,a12:=v2}) fun r=>{r with a6:=v0,a7:=v1,a8:=v2}) s
def p17_71:Res:=lt (g12 e) fun v0=>bP ((dLd g2) e s) fun v1=>bP (pUn uLenS (cV v1) e) fun v2=>bP (pBuild [(.i 0), (.i 0), .nils] [(0, 1, (cV v0)), (1, 1, (cV v2))] e) fun v3=>bE (aSt (aAl 3 (ofL [(.i 0), (.i 0), .nils]) e s.next) s) fun v4 s=>bE (eSt 3 (cV v4) (cV v3) k e s) fun v5 s=>.nrm (ws5 (u13 e v4) fun r=>{r with a9:=v0,a10:=v1,a11:=v2,a12:=v3}) s
def p17_74:Den:=fun _ e s=>lt (g11 e) fun v0=>bP (pBin (bI fAdd) (cV v0) (cV (.i 1)) e) fun v1=>lt (g5 e) fun v2=>bP (pUn uLenS (cV v2) e) fun v3=>bP (pBin (bI fLt) (cV v1) (cV v3) e) fun v4=>.nrm (ws6 (ws5 e fun r=>{r with a13:=v0,a14:=v1,a15:=v2}) fun r=>{r with a0:=v3,a1:=v4}) s
def p17_76:Res:=lt (g5 e) fun v0=>lt (g11 e) fun v1=>bP (pBin (bI fAdd) (cV v1) (cV (.i 1)) e) fun v2=>bP (pBin (bIdx 1) (cV v0) (cV v2) e) fun v3=>bP ((dLd (cV v3)) e s) fun v4=>bP (pUn (uFld 1) g13 e) fun v5=>bE (eSt 1 (cV v5) (cV v4) k e s) fun v6 s=>.nrm (ws6 e fun r=>{r with a2:=v0,a3:=v1,a4:=v2,a5:=v3,a6:=v4,a7:=v5}) s
def p17_79:Res:=bP ((dLd g2) e s) fun v0=>bP (pUn (uFld 1) g13 e) fun v1=>bP ((dLd (cV v1)) e s) fun v2=>bP (pBin (bI fSub) (cV v2) (cV (.i 1)) e) fun v3=>bE (eCall 10 [cV v0,cV v3] k e s) fun v4 s=>bP (pUn uLenS (cV v4) e) fun v5=>ltc (V.i 0) fun v6=>.nrm (ws6 e fun r=>{r with a8:=v0,a9:=v1,a10:=v2,a11:=v3,a12:=v4,a13:=v5,a14:=v6}) s
def p17_83:Den:=fun _ e s=>bP (pBin (bI fLt) g110 g109 e) fun v0=>.nrm (u111 e v0) s
def p17_89:Den:=fun _ e s=>bP (pBin (bIdx 1) g108 g110 e) fun v0=>bP ((dLd (cV v0)) e s) fun v1=>.nrm (ws7 (u15 e v1) fun r=>{r with a0:=v0,a1:=v1}) s
def p17_91:Res:=lt (g5 e) fun v0=>lt (g15 e) fun v1=>bE (eCall 39 [cV v0,cV v1] k e s) fun v2 s=>bP (pUn (uExt 0) (cV v2) e) fun v3=>bP (pUn (uExt 1) (cV v2) e) fun v4=>.nrm (ws7 (ws1 e fun r=>{r with a0:=v3,a1:=v4}) fun r=>{r with a2:=v2,a3:=v0,a4:=v1,a5:=v2,a6:=v3,a7:=v4}) s
def p17_93:Den:=fun _ e s=>lt (g17 e) fun v0=>.nrm (u120 e v0) s
def p17_95:Res:=bP (pUn (uFld 2) g13 e) fun v0=>bP ((dLd (cV v0)) e s) fun v1=>lt (g16 e) fun v2=>bE (aSt (aBSl 1 1 [(.i 0)] [(0, 1, (cV v2))] e s.next) s) fun v3 s=>bE (eAp8 1 (cV v1) (cV v3) k e s) fun v4 s=>bP (pUn (uFld 2) g13 e) fun v5=>bE (eSt 1 (cV v5) (cV v4) k e s) fun v6 s=>.nrm (ws7 e fun r=>{r with a9:=v0,a10:=v1,a11:=v2,a12:=v3,a13:=v4,a14:=v5}) s
def p17_96:Den:=fun _ e s=>bP (pBin (bI fAdd) g110 (cV (.i 1)) e) fun v0=>.nrm (u127 (u110 e v0) v0) s
def p17_98:Res:=lt (g10 e) fun v0=>bP ((dLdN 3 g13) e s) fun v1=>bE (aSt (aBSl 1 3 [(.i 0), (.i 0), .nils] [(0, 3, (cV v1))] e s.next) s) fun v2 s=>bE (eApW 3 (cV v0) (cV v2) k e s) fun v3 s=>.nrm (ws8 (u10 e v3) fun r=>{r with a0:=v0,a1:=v1,a2:=v2,a3:=v3}) s
def p17_100:Den:=fun _ e s=>bP (pUn (uFld 1) g13 e) fun v0=>bP ((dLd (cV v0)) e s) fun v1=>bP ((dLd g2) e s) fun v2=>bP (pUn uLenS (cV v2) e) fun v3=>bP (pBin (bI fEq) (cV v1) (cV v3) e) fun v4=>.nrm (ws8 e fun r=>{r with a4:=v0,a5:=v1,a6:=v2,a7:=v3,a8:=v4}) s
def p17_77:Res:=dSeq (dSeq p17_79 (dBlock 6 (dLoop (dSeq p17_83 (dSeq (dCond g111 dSkip (dExit 6)) (dSeq (dBlock 7 (dSeq p17_89 (dSeq p17_91 (dSeq p17_93 (dCond g120 p17_95 dSkip))))) p17_96)))))) (dSeq p17_98 (dSeq p17_100 (dCond g136 (dExit 4) dSkip))) k e s
def p17_102:Den:=fun _ e s=>bP (pBin (bI fAdd) g84 (cV (.i 1)) e) fun v0=>.nrm (u137 (u84 e v0) v0) s
def p17_104:Den:=fun _ e s=>lt (g10 e) fun v0=>.nrm (u138 (u4 e v0) v0) s
def p17_48:Res:=dSeq p17_49 (dSeq p17_51 (dSeq p17_53 (dSeq p17_55 (dSeq dSkip (dSeq (dSeq p17_59 (dBlock 4 (dLoop (dSeq p17_63 (dSeq (dCond g85 dSkip (dExit 4)) (dSeq (dBlock 5 (dSeq p17_69 (dSeq p17_71 (dSeq (dSeq p17_74 (dCond g97 p17_76 dSkip)) p17_77)))) p17_102)))))) (dSeq p17_104 dRet)))))) k e s
def p17_33:Res:=dSeq (dSeq p17_35 (dBlock 2 (dLoop (dSeq p17_39 (dSeq (dCond g56 dSkip (dExit 2)) (dSeq (dBlock 3 (dSeq p17_45 p17_46)) p17_47)))))) p17_48 k e s
def p17_0:Res:=dSeq p17_1 (dSeq (dSeq p17_4 (dCond g20 (dSeq p17_7 dRet) dSkip)) (dSeq p17_9 (dSeq (dSeq p17_12 (dBlock 0 (dLoop (dSeq p17_16 (dSeq (dCond g25 dSkip (dExit 0)) (dSeq (dBlock 1 (dSeq p17_22 (dSeq (dSeq p17_25 (dCond g31 p17_27 dSkip)) (dSeq p17_29 (dCond g46 p17_31 dSkip))))) p17_32)))))) p17_33))) k e s
def F17 : FDen := ⟨[u0, u1], p17_0, resV [rT g4]⟩
theorem low17 : lowFunc tt [] fok Try.f17 = some F17 := by kernel_rfl
theorem run17 : FRun Try.prog [] 17 F17 := FRun.of (lowFunc_ok ttOk fokOk mixed Try.func17 low17)
noncomputable def F18 : FDen := fOf1 (lookI 0 256 fun i => .bool (brI i))
def p20_1:Den:=fun _ e s=>bE (aSt (aBox g0 e s.next) s) fun v0 s=>ltc (V.nils) fun v1=>.nrm (ws0 e fun r=>{r with a2:=v0,a4:=v1}) s
def p20_3:Res:=bP ((dLd g2) e s) fun v0=>bP (pUn uLenS (cV v0) e) fun v1=>bE (aSt (aMkS 1 1 [(.bool false)] (cV v1) (cV v1) e s.next) s) fun v2 s=>bE (aSt (aAl 1 (ofL [.nils]) e s.next) s) fun v3 s=>bE (eSt 1 (cV v3) (cV v2) k e s) fun v4 s=>.nrm (ws0 e fun r=>{r with a5:=v3,a13:=v0,a14:=v1,a15:=v2}) s
def p20_5:Den:=fun _ e s=>bE (aSt (aAl 1 (ofL [.nils]) e s.next) s) fun v0 s=>.nrm (u6 e v0) s
def p20_7:Den:=fun _ e s=>bP (pFun 40 [] [g2, g5, g6] e) fun v0=>.nrm (u16 (u7 e v0) v0) s
def p20_9:Res:=lt (g7 e) fun v0=>bE (eCallV fok (cV v0) [(cV (.i 0))] k e s) fun v1 s=>.nrm (ws1 e fun r=>{r with a1:=v0,a2:=v1}) s
def p20_15:Den:=fun _ e s=>bP ((dLd g6) e s) fun v0=>bP (pUn uLenS (cV v0) e) fun v1=>bP (pBin (bI fGt) (cV v1) (cV (.i 0)) e) fun v2=>.nrm (ws1 e fun r=>{r with a3:=v0,a4:=v1,a5:=v2}) s
def p20_19:Den:=fun _ e s=>bP ((dLd g6) e s) fun v0=>bP ((dLd g6) e s) fun v1=>bP (pUn uLenS (cV v1) e) fun v2=>bP (pBin (bI fSub) (cV v2) (cV (.i 1)) e) fun v3=>bP (pBin (bIdx 1) (cV v0) (cV v3) e) fun v4=>bP ((dLd (cV v4)) e s) fun v5=>.nrm (ws1 (u8 e v5) fun r=>{r with a6:=v0,a7:=v1,a8:=v2,a9:=v3,a10:=v4,a11:=v5}) s
def p20_21:Res:=bP ((dLd g6) e s) fun v0=>bP ((dLd g6) e s) fun v1=>bP (pUn uLenS (cV v1) e) fun v2=>bP (pBin (bI fSub) (cV v2) (cV (.i 1)) e) fun v3=>bP (pSl 1 (cV v0) none (some (cV v3)) none e) fun v4=>bE (eSt 1 g6 (cV v4) k e s) fun v5 s=>.nrm (u32 (ws1 e fun r=>{r with a12:=v0,a13:=v1,a14:=v2,a15:=v3}) v4) s
def p20_24:Res:=bP ((dLd g2) e s) fun v0=>lt (g8 e) fun v1=>bE (eCall 10 [cV v0,cV v1] k e s) fun v2 s=>bP (pUn uLenS (cV v2) e) fun v3=>ltc (V.i 0) fun v4=>.nrm (ws2 e fun r=>{r with a1:=v0,a2:=v1,a3:=v2,a4:=v3,a5:=v4}) s
def p20_28:Den:=fun _ e s=>bP (pBin (bI fLt) g37 g36 e) fun v0=>.nrm (u38 e v0) s
def p20_34:Den:=fun _ e s=>bP (pBin (bIdx 1) g35 g37 e) fun v0=>bP ((dLd (cV v0)) e s) fun v1=>.nrm (ws2 (u10 e v1) fun r=>{r with a7:=v0,a8:=v1}) s
def p20_35:Res:=lt (g7 e) fun v0=>lt (g10 e) fun v1=>bE (eCallV fok (cV v0) [cV v1] k e s) fun v2 s=>.nrm (ws2 e fun r=>{r with a9:=v0,a10:=v1,a11:=v2}) s
def p20_36:Den:=fun _ e s=>bP (pBin (bI fAdd) g37 (cV (.i 1)) e) fun v0=>.nrm (ws2 e fun r=>{r with a5:=v0,a12:=v0}) s
def p20_38:Den:=fun _ e s=>lt (g1 e) fun v0=>bP (pUn uLenS (cV v0) e) fun v1=>ltc (V.i 0) fun v2=>.nrm (ws2 e fun r=>{r with a13:=v0,a14:=v1,a15:=v2}) s
def p20_42:Den:=fun _ e s=>bP (pBin (bI fLt) g47 g46 e) fun v0=>.nrm (u48 e v0) s
def p20_48:Res:=bP (pBin (bIdx 4) g45 g47 e) fun v0=>bP ((dLdN 4 (cV v0)) e s) fun v1=>bE (aSt (aAl 4 (ofL [(.i 0), (.i 0), (.i 0), (.str [])]) e s.next) s) fun v2 s=>bE (eSt 4 (cV v2) (cV v1) k e s) fun v3 s=>.nrm (ws3 (u12 e v2) fun r=>{r with a1:=v0,a2:=v1}) s
def p20_50:Den:=fun _ e s=>bP (pUn (uFld 0) g12 e) fun v0=>bP ((dLd (cV v0)) e s) fun v1=>bP ((dLd g2) e s) fun v2=>lt (g8 e) fun v3=>bP (pBin (bIdx 4) (cV v2) (cV v3) e) fun v4=>bP (pUn (uFld 0) (cV v4) e) fun v5=>bP ((dLd (cV v5)) e s) fun v6=>bP (pBin (bI fLe) (cV v1) (cV v6) e) fun v7=>bP (gdV v7 true ((dLd g2) e s)) fun v8=>bP (gdV v7 true (pMove g8 e)) fun v9=>bP (gdV v7 true (pBin (bIdx 4) (cV v8) (cV v9) e)) fun v10=>bP (gdV v7 true (pUn (uFld 0) (cV v10) e)) fun v11=>bP (gdV v7 true ((dLd (cV v11)) e s)) fun v12=>bP (gdV v7 true (pUn (uFld 1) g12 e)) fun v13=>bP (gdV v7 true ((dLd (cV v13)) e s)) fun v14=>bP (gdV v7 true (pBin (bI fLt) (cV v12) (cV v14) e)) fun v15=>bP (pPick (cV v7) (cV v15) (cV (.bool false)) e) fun v16=>.nrm (ws4 (rw3 e fun a b c _ _ _ _ _ _ _ _ _ _ _ _ _=>⟨a,b,c,v0,v1,v2,v3,v4,v5,v6,v7,v7,v8,v9,v10,v11⟩) fun r=>{r with a0:=v12,a1:=v13,a2:=v14,a3:=v15,a4:=v16}) s
def p20_52:Res:=lt (g7 e) fun v0=>bP ((dLd g2) e s) fun v1=>bP (pUn (uFld 2) g12 e) fun v2=>bP ((dLd (cV v2)) e s) fun v3=>bE (eCall 11 [cV v1,cV v3] k e s) fun v4 s=>bE (eCallV fok (cV v0) [cV v4] k e s) fun v5 s=>.nrm (ws4 e fun r=>{r with a5:=v0,a6:=v1,a7:=v2,a8:=v3,a9:=v4,a10:=v5}) s
def p20_53:Den:=fun _ e s=>bP (pBin (bI fAdd) g47 (cV (.i 1)) e) fun v0=>.nrm (u75 (u47 e v0) v0) s
def p20_55:Den:=fun _ e s=>bP ((dLd g5) e s) fun v0=>.nrm (u76 (u4 e v0) v0) s
def p20_0:Res:=dSeq p20_1 (dSeq p20_3 (dSeq p20_5 (dSeq p20_7 (dSeq p20_9 (dSeq (dBlock 0 (dLoop (dSeq (dSeq p20_15 (dCond g21 dSkip (dExit 0))) (dBlock 1 (dSeq p20_19 (dSeq p20_21 (dSeq (dSeq p20_24 (dBlock 2 (dLoop (dSeq p20_28 (dSeq (dCond g38 dSkip (dExit 2)) (dSeq (dBlock 3 (dSeq p20_34 p20_35)) p20_36)))))) (dSeq p20_38 (dBlock 4 (dLoop (dSeq p20_42 (dSeq (dCond g48 dSkip (dExit 4)) (dSeq (dBlock 5 (dSeq p20_48 (dSeq p20_50 (dCond g68 p20_52 dSkip)))) p20_53))))))))))))) (dSeq p20_55 dRet)))))) k e s
def F20 : FDen := ⟨[u0, u1], p20_0, resV [rT g4]⟩
theorem low20 : lowFunc tt [] fok Try.f20 = some F20 := by kernel_rfl
theorem run20 : FRun Try.prog [] 20 F20 := FRun.of (lowFunc_ok ttOk fokOk mixed Try.func20 low20)
noncomputable def F21 : FDen := fOf1 (lookI 0 256 fun i => .bool (brI i))
noncomputable def F22 : FDen := fOf1 (lookI 0 256 fun i => .bool (endsI i))
def p23_1:Den:=fun _ e s=>ltc (V.i 0) fun v0=>.nrm (u2 e v0) s
def p23_3:Res:=lt (g0 e) fun v0=>lt (g0 e) fun v1=>bP (pUn uLenS (cV v1) e) fun v2=>bP (pBin (bI fSub) (cV v2) (cV (.i 1)) e) fun v3=>bP (pBin (bIdx 4) (cV v0) (cV v3) e) fun v4=>bP ((dLdN 4 (cV v4)) e s) fun v5=>bE (aSt (aAl 4 (ofL [(.i 0), (.i 0), (.i 0), (.i 0)]) e s.next) s) fun v6 s=>bE (eSt 4 (cV v6) (cV v5) k e s) fun v7 s=>.nrm (ws0 e fun r=>{r with a3:=v6,a4:=v0,a5:=v1,a6:=v2,a7:=v3,a8:=v4,a9:=v5}) s
def p23_5:Res:=dDraw [⟨none, (.p (pUn (uFld 0) g3)), u10⟩, ⟨none, (.d 0 1 (dLd g10)), u11⟩, ⟨none, (.p (pUn (uFld 1) g3)), u12⟩, ⟨none, (.d 1 0 (dLd g12)), u13⟩, ⟨none, (.e (eCall 41 [g13])), u14⟩, ⟨none, (.p (pBin (bI fAdd) g11 g14)), u15⟩, ⟨none, (.p (pMove g15)), u2⟩] k e s
def p23_0:Res:=dSeq p23_1 (dSeq p23_3 (dSeq p23_5 dRet)) k e s
def F23 : FDen := ⟨[u0], p23_0, resV [rT g2]⟩
theorem low23 : lowFunc tt [] fok Try.f23 = some F23 := by kernel_rfl
theorem run23 : FRun Try.prog [] 23 F23 := FRun.of (lowFunc_ok ttOk fokOk mixed Try.func23 low23)
def p24_1:Den:=fun _ e s=>ltc (V.bool false) fun v0=>.nrm (u4 e v0) s
def p24_3:Res:=lt (g0 e) fun v0=>lt (g1 e) fun v1=>bE (eCall 42 [cV v0,cV v1] k e s) fun v2 s=>bP (pBin (bI fGe) (cV v2) (cV (.i 0)) e) fun v3=>.nrm (ws0 e fun r=>{r with a4:=v3,a5:=v0,a6:=v1,a7:=v2,a8:=v3}) s
def p24_0:Res:=dSeq p24_1 (dSeq p24_3 dRet) k e s
def F24 : FDen := ⟨[u0, u1], p24_0, resV [rT g4]⟩
theorem low24 : lowFunc tt [] fok Try.f24 = some F24 := by kernel_rfl
theorem run24 : FRun Try.prog [] 24 F24 := FRun.of (lowFunc_ok ttOk fokOk mixed Try.func24 low24)
def p25_1:Den:=fun _ e s=>bE (aSt (aBox g0 e s.next) s) fun v0 s=>ltc (V.bool false) fun v1=>.nrm (ws0 e fun r=>{r with a2:=v0,a3:=v1}) s
def p25_3:Den:=fun _ e s=>bP (pUn (uFld 0) g2 e) fun v0=>bP ((dLd (cV v0)) e s) fun v1=>bP (pUn (uFld 0) g1 e) fun v2=>bP ((dLd (cV v2)) e s) fun v3=>bP (pBin (bI fGe) (cV v1) (cV v3) e) fun v4=>.nrm (ws0 e fun r=>{r with a3:=v4,a4:=v0,a5:=v1,a6:=v2,a7:=v3,a8:=v4}) s
def p25_0:Res:=dSeq p25_1 (dSeq p25_3 dRet) k e s
def F25 : FDen := ⟨[u0, u1], p25_0, resV [rT g3]⟩
theorem low25 : lowFunc tt [] fok Try.f25 = some F25 := by kernel_rfl
theorem run25 : FRun Try.prog [] 25 F25 := FRun.of (lowFunc_ok ttOk fokOk mixed Try.func25 low25)
noncomputable def F26 : FDen := fSrt
def p27_1:Den:=fun _ e s=>ltc (V.nils) fun v0=>.nrm (u2 e v0) s
def p27_4:Den:=fun _ e s=>lt (g0 e) fun v0=>bP (pUn uLenS (cV v0) e) fun v1=>bP (pBin (bI fLt) (cV v1) (cV (.i 2)) e) fun v2=>.nrm (ws0 e fun r=>{r with a6:=v0,a7:=v1,a8:=v2}) s
def p27_7:Den:=fun _ e s=>lt (g0 e) fun v0=>.nrm (ws0 e fun r=>{r with a2:=v0,a9:=v0}) s
def p27_10:Den:=fun _ e s=>ltc (V.i 1) fun v0=>.nrm (u3 e v0) s
def p27_15:Den:=fun _ e s=>lt (g3 e) fun v0=>lt (g0 e) fun v1=>bP (pUn uLenS (cV v1) e) fun v2=>bP (pBin (bI fLt) (cV v0) (cV v2) e) fun v3=>.nrm (ws0 e fun r=>{r with a10:=v0,a11:=v1,a12:=v2,a13:=v3}) s
def p27_20:Den:=fun _ e s=>lt (g0 e) fun v0=>lt (g3 e) fun v1=>bP (pBin (bIdx 1) (cV v0) (cV v1) e) fun v2=>bP ((dLd (cV v2)) e s) fun v3=>lt (g0 e) fun v4=>lt (g3 e) fun v5=>bP (pBin (bI fSub) (cV v5) (cV (.i 1)) e) fun v6=>bP (pBin (bIdx 1) (cV v4) (cV v6) e) fun v7=>bP ((dLd (cV v7)) e s) fun v8=>bP (pBin (bI fEq) (cV v3) (cV v8) e) fun v9=>.nrm (rw1 e fun _ _ _ _ _ _ _ _ _ _ m n o p q r=>⟨v0,v1,v2,v3,v4,v5,v6,v7,v8,v9,m,n,o,p,q,r⟩) s
def p27_23:Den:=fun _ e s=>lt (g0 e) fun v0=>lt (g3 e) fun v1=>bP (pSl 1 (cV v0) (some (cV v1)) none none e) fun v2=>.nrm (ws1 (u4 e v2) fun r=>{r with a10:=v0,a11:=v1,a12:=v2}) s
def p27_26:Den:=fun _ e s=>ltc (V.i 1) fun v0=>.nrm (u5 e v0) s
def p27_31:Den:=fun _ e s=>lt (g5 e) fun v0=>lt (g4 e) fun v1=>bP (pUn uLenS (cV v1) e) fun v2=>bP (pBin (bI fLt) (cV v0) (cV v2) e) fun v3=>.nrm (u32 (ws1 e fun r=>{r with a13:=v0,a14:=v1,a15:=v2}) v3) s
def p27_36:Den:=fun _ e s=>lt (g4 e) fun v0=>lt (g5 e) fun v1=>bP (pBin (bIdx 1) (cV v0) (cV v1) e) fun v2=>bP ((dLd (cV v2)) e s) fun v3=>lt (g4 e) fun v4=>lt (g5 e) fun v5=>bP (pBin (bI fSub) (cV v5) (cV (.i 1)) e) fun v6=>bP (pBin (bIdx 1) (cV v4) (cV v6) e) fun v7=>bP ((dLd (cV v7)) e s) fun v8=>bP (pBin (bI fNe) (cV v3) (cV v8) e) fun v9=>.nrm (rw2 e fun a b c _ _ _ _ _ _ _ _ _ _ p q r=>⟨a,b,c,v0,v1,v2,v3,v4,v5,v6,v7,v8,v9,p,q,r⟩) s
def p27_39:Res:=lt (g0 e) fun v0=>lt (g3 e) fun v1=>lt (g4 e) fun v2=>lt (g5 e) fun v3=>bP (pBin (bIdx 1) (cV v2) (cV v3) e) fun v4=>bP ((dLd (cV v4)) e s) fun v5=>bP (pBin (bIdx 1) (cV v0) (cV v1) e) fun v6=>bE (eSt 1 (cV v6) (cV v5) k e s) fun v7 s=>.nrm (ws3 (ws2 e fun r=>{r with a13:=v0,a14:=v1,a15:=v2}) fun r=>{r with a0:=v3,a1:=v4,a2:=v5,a3:=v6}) s
def p27_40:Den:=fun _ e s=>lt (g3 e) fun v0=>bP (pBin (bI fAdd) (cV v0) (cV (.i 1)) e) fun v1=>.nrm (ws3 (u3 e v1) fun r=>{r with a4:=v0,a5:=v1}) s
def p27_41:Den:=fun _ e s=>lt (g5 e) fun v0=>bP (pBin (bI fAdd) (cV v0) (cV (.i 1)) e) fun v1=>.nrm (ws2 (u5 e v1) fun r=>{r with a1:=v0,a2:=v1}) s
def p27_43:Res:=lt (g0 e) fun v0=>lt (g3 e) fun v1=>bP (pSl 1 (cV v0) (some (cV v1)) none none e) fun v2=>bE (eClr [(.i 0)] (cV v2) k e s) fun v3 s=>.nrm (ws3 e fun r=>{r with a6:=v0,a7:=v1,a8:=v2}) s
def p27_45:Den:=fun _ e s=>lt (g0 e) fun v0=>lt (g3 e) fun v1=>bP (pSl 1 (cV v0) none (some (cV v1)) none e) fun v2=>.nrm (ws3 (u2 e v2) fun r=>{r with a9:=v0,a10:=v1,a11:=v2}) s
def p27_46:Den:=fun _ e s=>lt (g3 e) fun v0=>bP (pBin (bI fAdd) (cV v0) (cV (.i 1)) e) fun v1=>.nrm (ws0 e fun r=>{r with a3:=v1,a14:=v0,a15:=v1}) s
def p27_48:Den:=fun _ e s=>lt (g0 e) fun v0=>.nrm (u60 (u2 e v0) v0) s
def p27_0:Res:=dSeq p27_1 (dSeq (dSeq p27_4 (dCond g8 (dSeq p27_7 dRet) dSkip)) (dSeq (dSeq p27_10 (dBlock 0 (dLoop (dSeq (dSeq p27_15 (dCond g13 dSkip (dExit 0))) (dSeq (dBlock 1 (dSeq p27_20 (dCond g25 (dSeq p27_23 (dSeq (dSeq p27_26 (dBlock 2 (dLoop (dSeq (dSeq p27_31 (dCond g32 dSkip (dExit 2))) (dSeq (dBlock 3 (dSeq p27_36 (dCond g44 (dSeq p27_39 p27_40) dSkip))) p27_41))))) (dSeq p27_43 (dSeq p27_45 dRet)))) dSkip))) p27_46))))) (dSeq p27_48 dRet))) k e s
def F27 : FDen := ⟨[u0], p27_0, resV [rT g2]⟩
theorem low27 : lowFunc tt [] fok Try.f27 = some F27 := by kernel_rfl
theorem run27 : FRun Try.prog [] 27 F27 := FRun.of (lowFunc_ok ttOk fokOk mixed Try.func27 low27)
def p28_1:Den:=fun _ e s=>ltc (V.i 0) fun v0=>ltc (V.bool false) fun v1=>.nrm (ws0 e fun r=>{r with a6:=v0,a7:=v1}) s
def p28_3:Den:=fun _ e s=>lt (g0 e) fun v0=>bP (pUn uLenS (cV v0) e) fun v1=>.nrm (ws0 e fun r=>{r with a8:=v1,a12:=v0,a13:=v1}) s
def p28_5:Den:=fun _ e s=>lt (g8 e) fun v0=>ltc (V.i 0) fun v1=>.nrm (ws0 e fun r=>{r with a9:=v1,a10:=v0,a14:=v0}) s
def p28_11:Den:=fun _ e s=>lt (g9 e) fun v0=>lt (g10 e) fun v1=>bP (pBin (bI fLt) (cV v0) (cV v1) e) fun v2=>.nrm (ws1 (u15 e v0) fun r=>{r with a0:=v1,a1:=v2}) s
def p28_15:Den:=fun _ e s=>lt (g9 e) fun v0=>lt (g10 e) fun v1=>bP (pBin (bI fAdd) (cV v0) (cV v1) e) fun v2=>bP (pUn (cInt .u64) (cV v2) e) fun v3=>bP (pBin (bSh .shr .u64) (cV v3) (cV (.int .u64 1)) e) fun v4=>bP (pUn (cInt .i64) (cV v4) e) fun v5=>.nrm (ws1 (u11 e v5) fun r=>{r with a2:=v0,a3:=v1,a4:=v2,a5:=v3,a6:=v4,a7:=v5}) s
def p28_17:Res:=lt (g2 e) fun v0=>lt (g0 e) fun v1=>lt (g11 e) fun v2=>bP (pBin (bIdx 4) (cV v1) (cV v2) e) fun v3=>bP ((dLdN 4 (cV v3)) e s) fun v4=>lt (g1 e) fun v5=>bE (eCallV fok (cV v0) [cV v4,cV v5] k e s) fun v6 s=>bP (pBin (bI fLt) (cV v6) (cV (.i 0)) e) fun v7=>.nrm (ws1 e fun r=>{r with a8:=v0,a9:=v1,a10:=v2,a11:=v3,a12:=v4,a13:=v5,a14:=v6,a15:=v7}) s
def p28_19:Den:=fun _ e s=>lt (g11 e) fun v0=>bP (pBin (bI fAdd) (cV v0) (cV (.i 1)) e) fun v1=>.nrm (ws2 (u9 e v1) fun r=>{r with a0:=v0,a1:=v1}) s
def p28_20:Den:=fun _ e s=>lt (g11 e) fun v0=>.nrm (u34 (u10 e v0) v0) s
def p28_22:Res:=lt (g9 e) fun v0=>lt (g9 e) fun v1=>lt (g8 e) fun v2=>bP (pBin (bI fLt) (cV v1) (cV v2) e) fun v3=>bP (gdV v3 true (pMove g2 e)) fun v4=>bP (gdV v3 true (pMove g0 e)) fun v5=>bP (gdV v3 true (pMove g9 e)) fun v6=>bP (gdV v3 true (pBin (bIdx 4) (cV v5) (cV v6) e)) fun v7=>bP (gdV v3 true ((dLdN 4 (cV v7)) e s)) fun v8=>bP (gdV v3 true (pMove g1 e)) fun v9=>bE (gdW v3 true s (eCallV fok (cV v4) [cV v8,cV v9] k e s)) fun v10 s=>bP (gdV v3 true (pBin (bI fEq) (cV v10) (cV (.i 0)) e)) fun v11=>bP (pPick (cV v3) (cV v11) (cV (.bool false)) e) fun v12=>.nrm (u48 (rw2 (ws0 e fun r=>{r with a6:=v0,a7:=v12}) fun a b c _ _ _ _ _ _ _ _ _ _ _ _ _=>⟨a,b,c,v0,v1,v2,v3,v3,v4,v5,v6,v7,v8,v9,v10,v11⟩) v12) s
def p28_0:Res:=dSeq p28_1 (dSeq p28_3 (dSeq p28_5 (dSeq (dBlock 0 (dLoop (dSeq (dSeq p28_11 (dCond g17 dSkip (dExit 0))) (dBlock 1 (dSeq p28_15 (dSeq p28_17 (dCond g31 p28_19 p28_20))))))) (dSeq p28_22 dRet)))) k e s
def F28 : FDen := ⟨[u0, u1, u2], p28_0, resV [rT g6, rT g7]⟩
theorem low28 : lowFunc tt [] fok Try.f28 = some F28 := by kernel_rfl
theorem run28 : FRun Try.prog [] 28 F28 := FRun.of (lowFunc_ok ttOk fokOk mixed Try.func28 low28)
def p29_1:Den:=fun _ e s=>bE (aSt (aBox g0 e s.next) s) fun v0 s=>ltc (V.i 0) fun v1=>.nrm (ws0 e fun r=>{r with a2:=v0,a4:=v1}) s
def p29_3:Res:=bP (pUn (uFld 0) g2 e) fun v0=>bP ((dLd (cV v0)) e s) fun v1=>lt (g1 e) fun v2=>bE (eCall 30 [cV v1,cV v2] k e s) fun v3 s=>.nrm (ws0 e fun r=>{r with a4:=v3,a5:=v0,a6:=v1,a7:=v2,a8:=v3}) s
def p29_0:Res:=dSeq p29_1 (dSeq p29_3 dRet) k e s
def F29 : FDen := ⟨[u0, u1], p29_0, resV [rT g4]⟩
theorem low29 : lowFunc tt [] fok Try.f29 = some F29 := by kernel_rfl
theorem run29 : FRun Try.prog [] 29 F29 := FRun.of (lowFunc_ok ttOk fokOk mixed Try.func29 low29)
def p30_1:Den:=fun _ e s=>ltc (V.i 0) fun v0=>.nrm (u4 e v0) s
def p30_3:Res:=lt (g0 e) fun v0=>bE (eCall 45 [cV v0] k e s) fun v1 s=>.nrm (ws0 e fun r=>{r with a5:=v1,a7:=v0,a8:=v1}) s
def p30_5:Res:=lt (g1 e) fun v0=>bE (eCall 45 [cV v0] k e s) fun v1 s=>.nrm (ws0 e fun r=>{r with a6:=v1,a9:=v0,a10:=v1}) s
def p30_8:Den:=fun _ e s=>lt (g5 e) fun v0=>.nrm (u11 e v0) s
def p30_12:Den:=fun _ e s=>lt (g6 e) fun v0=>.nrm (u12 e v0) s
def p30_15:Den:=fun _ e s=>ltc (V.i 0) fun v0=>.nrm (u4 e v0) s
def p30_17:Den:=fun _ e s=>ltc (V.i (-1)) fun v0=>.nrm (u4 e v0) s
def p30_20:Den:=fun _ e s=>lt (g6 e) fun v0=>.nrm (u13 e v0) s
def p30_23:Den:=fun _ e s=>ltc (V.i 1) fun v0=>.nrm (u4 e v0) s
def p30_26:Den:=fun _ e s=>lt (g0 e) fun v0=>lt (g1 e) fun v1=>bP (pBin (bI fLt) (cV v0) (cV v1) e) fun v2=>.nrm (u16 (ws0 e fun r=>{r with a14:=v0,a15:=v1}) v2) s
def p30_29:Den:=fun _ e s=>ltc (V.i (-1)) fun v0=>.nrm (u4 e v0) s
def p30_32:Den:=fun _ e s=>lt (g0 e) fun v0=>lt (g1 e) fun v1=>bP (pBin (bI fGt) (cV v0) (cV v1) e) fun v2=>.nrm (ws1 e fun r=>{r with a1:=v0,a2:=v1,a3:=v2}) s
def p30_35:Den:=fun _ e s=>ltc (V.i 1) fun v0=>.nrm (u4 e v0) s
def p30_37:Den:=fun _ e s=>ltc (V.i 0) fun v0=>.nrm (u4 e v0) s
def p30_0:Res:=dSeq p30_1 (dSeq p30_3 (dSeq p30_5 (dSeq (dSeq p30_8 (dCond g11 (dSeq (dSeq p30_12 (dCond g12 (dSeq p30_15 dRet) dSkip)) (dSeq p30_17 dRet)) dSkip)) (dSeq (dSeq p30_20 (dCond g13 (dSeq p30_23 dRet) dSkip)) (dSeq (dSeq p30_26 (dCond g16 (dSeq p30_29 dRet) dSkip)) (dSeq (dSeq p30_32 (dCond g19 (dSeq p30_35 dRet) dSkip)) (dSeq p30_37 dRet))))))) k e s
def F30 : FDen := ⟨[u0, u1], p30_0, resV [rT g4]⟩
theorem low30 : lowFunc tt [] fok Try.f30 = some F30 := by kernel_rfl
theorem run30 : FRun Try.prog [] 30 F30 := FRun.of (lowFunc_ok ttOk fokOk mixed Try.func30 low30)
def p31_1:Den:=fun _ e s=>ltc (V.bool false) fun v0=>.nrm (u4 e v0) s
def p31_4:Den:=fun _ e s=>lt (g0 e) fun v0=>bP (pUn uLenS (cV v0) e) fun v1=>lt (g1 e) fun v2=>bP (pUn uLenS (cV v2) e) fun v3=>bP (pBin (bI fNe) (cV v1) (cV v3) e) fun v4=>.nrm (ws0 e fun r=>{r with a6:=v0,a7:=v1,a8:=v2,a9:=v3,a10:=v4}) s
def p31_7:Den:=fun _ e s=>ltc (V.bool false) fun v0=>.nrm (u4 e v0) s
def p31_10:Den:=fun _ e s=>ltc (V.i 0) fun v0=>.nrm (u5 e v0) s
def p31_15:Den:=fun _ e s=>lt (g5 e) fun v0=>lt (g0 e) fun v1=>bP (pUn uLenS (cV v1) e) fun v2=>bP (pBin (bI fLt) (cV v0) (cV v2) e) fun v3=>.nrm (ws0 e fun r=>{r with a11:=v0,a12:=v1,a13:=v2,a14:=v3}) s
def p31_20:Res:=lt (g0 e) fun v0=>lt (g5 e) fun v1=>bP (pBin (bIdx 3) (cV v0) (cV v1) e) fun v2=>bP (pUn (uFld 0) (cV v2) e) fun v3=>bP ((dLd (cV v3)) e s) fun v4=>lt (g1 e) fun v5=>lt (g5 e) fun v6=>bP (pBin (bIdx 3) (cV v5) (cV v6) e) fun v7=>bP (pUn (uFld 0) (cV v7) e) fun v8=>bP ((dLd (cV v8)) e s) fun v9=>bP (pBin (bI fNe) (cV v4) (cV v9) e) fun v10=>bP (gdV v10 false (pMove g0 e)) fun v11=>bP (gdV v10 false (pMove g5 e)) fun v12=>bP (gdV v10 false (pBin (bIdx 3) (cV v11) (cV v12) e)) fun v13=>bP (gdV v10 false (pUn (uFld 1) (cV v13) e)) fun v14=>bP (gdV v10 false ((dLd (cV v14)) e s)) fun v15=>bP (gdV v10 false (pMove g1 e)) fun v16=>bP (gdV v10 false (pMove g5 e)) fun v17=>bP (gdV v10 false (pBin (bIdx 3) (cV v16) (cV v17) e)) fun v18=>bP (gdV v10 false (pUn (uFld 1) (cV v18) e)) fun v19=>bP (gdV v10 false ((dLd (cV v19)) e s)) fun v20=>bP (gdV v10 false (pBin (bI fNe) (cV v15) (cV v20) e)) fun v21=>bP (pPick (cV v10) (cV (.bool true)) (cV v21) e) fun v22=>bP (gdV v22 false (pMove g0 e)) fun v23=>bP (gdV v22 false (pMove g5 e)) fun v24=>bP (gdV v22 false (pBin (bIdx 3) (cV v23) (cV v24) e)) fun v25=>bP (gdV v22 false (pUn (uFld 2) (cV v25) e)) fun v26=>bP (gdV v22 false ((dLd (cV v26)) e s)) fun v27=>bP (gdV v22 false (pMove g1 e)) fun v28=>bP (gdV v22 false (pMove g5 e)) fun v29=>bP (gdV v22 false (pBin (bIdx 3) (cV v28) (cV v29) e)) fun v30=>bP (gdV v22 false (pUn (uFld 2) (cV v30) e)) fun v31=>bP (gdV v22 false ((dLd (cV v31)) e s)) fun v32=>bE (gdW v22 false s (eCall 9 [cV v27,cV v32] k e s)) fun v33 s=>bP (gdV v22 false (pUn uNot (cV v33) e)) fun v34=>bP (pPick (cV v22) (cV (.bool true)) (cV v34) e) fun v35=>.nrm (ws3 (rw2 (rw1 e fun a _ _ _ _ _ _ _ _ _ _ _ _ _ _ _=>⟨a,v0,v1,v2,v3,v4,v5,v6,v7,v8,v9,v10,v10,v11,v12,v13⟩) fun _ _ _ _ _ _ _ _ _ _ _ _ _ _ _ _=>⟨v14,v15,v16,v17,v18,v19,v20,v21,v22,v22,v23,v24,v25,v26,v27,v28⟩) fun r=>{r with a0:=v29,a1:=v30,a2:=v31,a3:=v32,a4:=v33,a5:=v34,a6:=v35}) s
def p31_23:Den:=fun _ e s=>ltc (V.bool false) fun v0=>.nrm (u4 e v0) s
def p31_24:Den:=fun _ e s=>lt (g5 e) fun v0=>bP (pBin (bI fAdd) (cV v0) (cV (.i 1)) e) fun v1=>.nrm (u16 (ws0 e fun r=>{r with a5:=v1,a15:=v0}) v1) s
def p31_26:Den:=fun _ e s=>ltc (V.bool true) fun v0=>.nrm (u4 e v0) s
def p31_0:Res:=dSeq p31_1 (dSeq (dSeq p31_4 (dCond g10 (dSeq p31_7 dRet) dSkip)) (dSeq (dSeq p31_10 (dBlock 0 (dLoop (dSeq (dSeq p31_15 (dCond g14 dSkip (dExit 0))) (dSeq (dBlock 1 (dSeq p31_20 (dCond g54 (dSeq p31_23 dRet) dSkip))) p31_24))))) (dSeq p31_26 dRet))) k e s
def F31 : FDen := ⟨[u0, u1], p31_0, resV [rT g4]⟩
theorem low31 : lowFunc tt [] fok Try.f31 = some F31 := by kernel_rfl
theorem run31 : FRun Try.prog [] 31 F31 := FRun.of (lowFunc_ok ttOk fokOk mixed Try.func31 low31)
def p32_1:Den:=fun _ e s=>ltc (V.bool false) fun v0=>.nrm (u4 e v0) s
def p32_4:Den:=fun _ e s=>lt (g0 e) fun v0=>bP (pUn uLenS (cV v0) e) fun v1=>lt (g1 e) fun v2=>bP (pUn uLenS (cV v2) e) fun v3=>bP (pBin (bI fNe) (cV v1) (cV v3) e) fun v4=>.nrm (ws0 e fun r=>{r with a6:=v0,a7:=v1,a8:=v2,a9:=v3,a10:=v4}) s
def p32_7:Den:=fun _ e s=>ltc (V.bool false) fun v0=>.nrm (u4 e v0) s
def p32_10:Den:=fun _ e s=>ltc (V.i 0) fun v0=>.nrm (u5 e v0) s
def p32_15:Den:=fun _ e s=>lt (g5 e) fun v0=>lt (g0 e) fun v1=>bP (pUn uLenS (cV v1) e) fun v2=>bP (pBin (bI fLt) (cV v0) (cV v2) e) fun v3=>.nrm (ws0 e fun r=>{r with a11:=v0,a12:=v1,a13:=v2,a14:=v3}) s
def p32_20:Den:=fun _ e s=>lt (g0 e) fun v0=>lt (g5 e) fun v1=>bP (pBin (bIdx 1) (cV v0) (cV v1) e) fun v2=>bP ((dLd (cV v2)) e s) fun v3=>lt (g1 e) fun v4=>lt (g5 e) fun v5=>bP (pBin (bIdx 1) (cV v4) (cV v5) e) fun v6=>bP ((dLd (cV v6)) e s) fun v7=>bP (pBin (bBool true) (cV v3) (cV v7) e) fun v8=>.nrm (ws1 e fun r=>{r with a1:=v0,a2:=v1,a3:=v2,a4:=v3,a5:=v4,a6:=v5,a7:=v6,a8:=v7,a9:=v8}) s
def p32_23:Den:=fun _ e s=>ltc (V.bool false) fun v0=>.nrm (u4 e v0) s
def p32_24:Den:=fun _ e s=>lt (g5 e) fun v0=>bP (pBin (bI fAdd) (cV v0) (cV (.i 1)) e) fun v1=>.nrm (u16 (ws0 e fun r=>{r with a5:=v1,a15:=v0}) v1) s
def p32_26:Den:=fun _ e s=>ltc (V.bool true) fun v0=>.nrm (u4 e v0) s
def p32_0:Res:=dSeq p32_1 (dSeq (dSeq p32_4 (dCond g10 (dSeq p32_7 dRet) dSkip)) (dSeq (dSeq p32_10 (dBlock 0 (dLoop (dSeq (dSeq p32_15 (dCond g14 dSkip (dExit 0))) (dSeq (dBlock 1 (dSeq p32_20 (dCond g25 (dSeq p32_23 dRet) dSkip))) p32_24))))) (dSeq p32_26 dRet))) k e s
def F32 : FDen := ⟨[u0, u1], p32_0, resV [rT g4]⟩
theorem low32 : lowFunc tt [] fok Try.f32 = some F32 := by kernel_rfl
theorem run32 : FRun Try.prog [] 32 F32 := FRun.of (lowFunc_ok ttOk fokOk mixed Try.func32 low32)
def p33_1:Den:=fun _ e s=>ltc (V.nils) fun v0=>ltc (V.i 0) fun v1=>ltc (V.i 0) fun v2=>.nrm (ws0 e fun r=>{r with a2:=v0,a3:=v1,a4:=v2}) s
def p33_4:Den:=fun _ e s=>lt (g0 e) fun v0=>bP (pUn uLenS (cV v0) e) fun v1=>bP (pBin (bI fGt) (cV v1) (cV (.i 1024)) e) fun v2=>.nrm (ws0 e fun r=>{r with a9:=v0,a10:=v1,a11:=v2}) s
def p33_7:Den:=fun _ e s=>ltc (V.nils) fun v0=>ltc (V.i 3) fun v1=>ltc (V.i 0) fun v2=>.nrm (ws0 e fun r=>{r with a2:=v0,a3:=v1,a4:=v2}) s
def p33_9:Den:=fun _ e s=>ltc (V.nils) fun v0=>.nrm (u5 e v0) s
def p33_12:Den:=fun _ e s=>ltc (V.i 0) fun v0=>.nrm (u6 e v0) s
def p33_17:Den:=fun _ e s=>lt (g6 e) fun v0=>lt (g0 e) fun v1=>bP (pUn uLenS (cV v1) e) fun v2=>bP (pBin (bI fLt) (cV v0) (cV v2) e) fun v3=>.nrm (ws0 e fun r=>{r with a12:=v0,a13:=v1,a14:=v2,a15:=v3}) s
def p33_21:Res:=lt (g6 e) fun v0=>lt (g0 e) fun v1=>lt (g6 e) fun v2=>bP (pBin (bIdx 1) (cV v1) (cV v2) e) fun v3=>bP ((dLd (cV v3)) e s) fun v4=>bP (pUn (cInt .i64) (cV v4) e) fun v5=>bP (pBuild [(.i 0), (.i 0), (.i 0), (.i 0)] [(0, 1, (cV v0)), (1, 1, (cV v5))] e) fun v6=>bE (aSt (aAl 4 (ofL [(.i 0), (.i 0), (.i 0), (.i 0)]) e s.next) s) fun v7 s=>bE (eSt 4 (cV v7) (cV v6) k e s) fun v8 s=>.nrm (ws1 (u7 e v7) fun r=>{r with a0:=v0,a1:=v1,a2:=v2,a3:=v3,a4:=v4,a5:=v5,a6:=v6}) s
def p33_23:Res:=bP (pUn (uFld 1) g7 e) fun v0=>bP ((dLd (cV v0)) e s) fun v1=>bE (eCall 46 [cV v1] k e s) fun v2 s=>.nrm (ws1 (u8 e v2) fun r=>{r with a7:=v0,a8:=v1,a9:=v2}) s
def p33_26:Den:=fun _ e s=>lt (g8 e) fun v0=>bP (pBin (bI fEq) (cV v0) (cV (.i 0)) e) fun v1=>.nrm (ws1 e fun r=>{r with a10:=v0,a11:=v1}) s
def p33_29:Den:=fun _ e s=>lt (g6 e) fun v0=>ltc (V.nils) fun v1=>ltc (V.i 15) fun v2=>.nrm (u28 (ws0 e fun r=>{r with a2:=v1,a3:=v2,a4:=v0}) v0) s
def p33_32:Den:=fun _ e s=>lt (g6 e) fun v0=>lt (g8 e) fun v1=>bP (pBin (bI fAdd) (cV v0) (cV v1) e) fun v2=>lt (g0 e) fun v3=>bP (pUn uLenS (cV v3) e) fun v4=>bP (pBin (bI fGt) (cV v2) (cV v4) e) fun v5=>.nrm (ws2 (ws1 e fun r=>{r with a13:=v0,a14:=v1,a15:=v2}) fun r=>{r with a0:=v3,a1:=v4,a2:=v5}) s
def p33_35:Den:=fun _ e s=>lt (g6 e) fun v0=>ltc (V.nils) fun v1=>ltc (V.i 10) fun v2=>.nrm (u35 (ws0 e fun r=>{r with a2:=v1,a3:=v2,a4:=v0}) v0) s
def p33_39:Den:=fun _ e s=>bP (pUn (uFld 1) g7 e) fun v0=>bP ((dLd (cV v0)) e s) fun v1=>bP (pBin (bI fEq) (cV v1) (cV (.i 132)) e) fun v2=>.nrm (ws2 e fun r=>{r with a4:=v2,a5:=v0,a6:=v1,a7:=v2}) s
def p33_42:Res:=lt (g0 e) fun v0=>lt (g6 e) fun v1=>bP (pBin (bI fAdd) (cV v1) (cV (.i 1)) e) fun v2=>bP (pBin (bIdx 1) (cV v0) (cV v2) e) fun v3=>bP ((dLd (cV v3)) e s) fun v4=>bP (pUn (cInt .i64) (cV v4) e) fun v5=>bP (pUn (uFld 2) g7 e) fun v6=>bE (eSt 1 (cV v6) (cV v5) k e s) fun v7 s=>.nrm (ws2 e fun r=>{r with a8:=v0,a9:=v1,a10:=v2,a11:=v3,a12:=v4,a13:=v5,a14:=v6}) s
def p33_43:Res:=lt (g0 e) fun v0=>lt (g6 e) fun v1=>bP (pBin (bI fAdd) (cV v1) (cV (.i 2)) e) fun v2=>bP (pBin (bIdx 1) (cV v0) (cV v2) e) fun v3=>bP ((dLd (cV v3)) e s) fun v4=>bP (pUn (cInt .i8) (cV v4) e) fun v5=>bP (pUn (cInt .i64) (cV v5) e) fun v6=>bP (pUn (uFld 3) g7 e) fun v7=>bE (eSt 1 (cV v7) (cV v6) k e s) fun v8 s=>.nrm (ws3 (u47 e v0) fun r=>{r with a0:=v1,a1:=v2,a2:=v3,a3:=v4,a4:=v5,a5:=v6,a6:=v7}) s
def p33_45:Res:=lt (g8 e) fun v0=>bP (pBin (bI fEq) (cV v0) (cV (.i 2)) e) fun v1=>bP (gdV v1 true (pUn (uFld 1) g7 e)) fun v2=>bP (gdV v1 true ((dLd (cV v2)) e s)) fun v3=>bE (gdW v1 true s (eCall 47 [cV v3] k e s)) fun v4 s=>bP (pPick (cV v1) (cV v4) (cV (.bool false)) e) fun v5=>.nrm (ws3 e fun r=>{r with a7:=v5,a8:=v0,a9:=v1,a10:=v1,a11:=v2,a12:=v3,a13:=v4,a14:=v5}) s
def p33_47:Res:=lt (g0 e) fun v0=>lt (g6 e) fun v1=>bP (pBin (bI fAdd) (cV v1) (cV (.i 1)) e) fun v2=>bP (pBin (bIdx 1) (cV v0) (cV v2) e) fun v3=>bP ((dLd (cV v3)) e s) fun v4=>bP (pUn (cInt .i8) (cV v4) e) fun v5=>bP (pUn (cInt .i64) (cV v5) e) fun v6=>bP (pUn (uFld 2) g7 e) fun v7=>bE (eSt 1 (cV v7) (cV v6) k e s) fun v8 s=>.nrm (ws4 (u63 e v0) fun r=>{r with a0:=v1,a1:=v2,a2:=v3,a3:=v4,a4:=v5,a5:=v6,a6:=v7}) s
def p33_49:Den:=fun _ e s=>lt (g8 e) fun v0=>bP (pBin (bI fEq) (cV v0) (cV (.i 2)) e) fun v1=>.nrm (ws4 e fun r=>{r with a7:=v1,a8:=v0,a9:=v1}) s
def p33_51:Res:=lt (g0 e) fun v0=>lt (g6 e) fun v1=>bP (pBin (bI fAdd) (cV v1) (cV (.i 1)) e) fun v2=>bP (pBin (bIdx 1) (cV v0) (cV v2) e) fun v3=>bP ((dLd (cV v3)) e s) fun v4=>bP (pUn (cInt .i64) (cV v4) e) fun v5=>bP (pUn (uFld 2) g7 e) fun v6=>bE (eSt 1 (cV v6) (cV v5) k e s) fun v7 s=>.nrm (u80 (ws4 e fun r=>{r with a10:=v0,a11:=v1,a12:=v2,a13:=v3,a14:=v4,a15:=v5}) v6) s
def p33_53:Res:=lt (g8 e) fun v0=>bP (pBin (bI fEq) (cV v0) (cV (.i 3)) e) fun v1=>bP (gdV v1 true (pUn (uFld 1) g7 e)) fun v2=>bP (gdV v1 true ((dLd (cV v2)) e s)) fun v3=>bE (gdW v1 true s (eCall 47 [cV v3] k e s)) fun v4 s=>bP (pPick (cV v1) (cV v4) (cV (.bool false)) e) fun v5=>.nrm (ws5 e fun r=>{r with a1:=v5,a2:=v0,a3:=v1,a4:=v1,a5:=v2,a6:=v3,a7:=v4,a8:=v5}) s
def p33_55:Res:=lt (g0 e) fun v0=>lt (g6 e) fun v1=>bP (pBin (bI fAdd) (cV v1) (cV (.i 1)) e) fun v2=>bP (pBin (bIdx 1) (cV v0) (cV v2) e) fun v3=>bP ((dLd (cV v3)) e s) fun v4=>bP (pUn (cInt .u16) (cV v4) e) fun v5=>bP (pBin (bSh .shl .u16) (cV v5) (cV (.int .u64 8)) e) fun v6=>lt (g0 e) fun v7=>lt (g6 e) fun v8=>bP (pBin (bI fAdd) (cV v8) (cV (.i 2)) e) fun v9=>bP (pBin (bIdx 1) (cV v7) (cV v9) e) fun v10=>bP ((dLd (cV v10)) e s) fun v11=>bP (pUn (cInt .u16) (cV v11) e) fun v12=>bP (pBin (bK .u16 fun a b=>mkI .u16 (bitsI .or .u16 a b)) (cV v6) (cV v12) e) fun v13=>bP (pUn (cInt .i16) (cV v13) e) fun v14=>bP (pUn (cInt .i64) (cV v14) e) fun v15=>bP (pUn (uFld 2) g7 e) fun v16=>bE (eSt 1 (cV v16) (cV v15) k e s) fun v17 s=>.nrm (rw6 (ws5 e fun r=>{r with a9:=v0,a10:=v1,a11:=v2,a12:=v3,a13:=v4,a14:=v5,a15:=v6}) fun _ _ _ _ _ _ _ _ _ _ m n o p q r=>⟨v7,v8,v9,v10,v11,v12,v13,v14,v15,v16,m,n,o,p,q,r⟩) s
def p33_57:Den:=fun _ e s=>lt (g8 e) fun v0=>bP (pBin (bI fEq) (cV v0) (cV (.i 3)) e) fun v1=>.nrm (ws6 e fun r=>{r with a10:=v1,a11:=v0,a12:=v1}) s
def p33_59:Res:=lt (g0 e) fun v0=>lt (g6 e) fun v1=>bP (pBin (bI fAdd) (cV v1) (cV (.i 1)) e) fun v2=>bP (pBin (bIdx 1) (cV v0) (cV v2) e) fun v3=>bP ((dLd (cV v3)) e s) fun v4=>bP (pUn (cInt .i64) (cV v4) e) fun v5=>bP (pBin (bSh .shl .i64) (cV v5) (cV (.int .u64 8)) e) fun v6=>lt (g0 e) fun v7=>lt (g6 e) fun v8=>bP (pBin (bI fAdd) (cV v8) (cV (.i 2)) e) fun v9=>bP (pBin (bIdx 1) (cV v7) (cV v9) e) fun v10=>bP ((dLd (cV v10)) e s) fun v11=>bP (pUn (cInt .i64) (cV v11) e) fun v12=>bP (pBin (bI fun a b=>mkI .i64 (bitsI .or .i64 a b)) (cV v6) (cV v12) e) fun v13=>bP (pUn (uFld 2) g7 e) fun v14=>bE (eSt 1 (cV v14) (cV v13) k e s) fun v15 s=>.nrm (rw7 (ws6 e fun r=>{r with a13:=v0,a14:=v1,a15:=v2}) fun _ _ _ _ _ _ _ _ _ _ _ _ o p q r=>⟨v3,v4,v5,v6,v7,v8,v9,v10,v11,v12,v13,v14,o,p,q,r⟩) s
def p33_62:Res:=bP (pUn (uFld 1) g7 e) fun v0=>bP ((dLd (cV v0)) e s) fun v1=>bE (eCall 18 [cV v1] k e s) fun v2 s=>.nrm (ws7 e fun r=>{r with a12:=v0,a13:=v1,a14:=v2}) s
def p33_64:Res:=bP (pUn (uFld 2) g7 e) fun v0=>bP ((dLd (cV v0)) e s) fun v1=>lt (g6 e) fun v2=>bP (pBin (bI fAdd) (cV v1) (cV v2) e) fun v3=>bP (pUn (uFld 2) g7 e) fun v4=>bE (eSt 1 (cV v4) (cV v3) k e s) fun v5 s=>.nrm (ws8 (u127 e v0) fun r=>{r with a0:=v1,a1:=v2,a2:=v3,a3:=v4}) s
def p33_66:Res:=lt (g5 e) fun v0=>bP ((dLdN 4 g7) e s) fun v1=>bE (aSt (aBSl 1 4 [(.i 0), (.i 0), (.i 0), (.i 0)] [(0, 4, (cV v1))] e s.next) s) fun v2 s=>bE (eApW 4 (cV v0) (cV v2) k e s) fun v3 s=>.nrm (ws8 (u5 e v3) fun r=>{r with a4:=v0,a5:=v1,a6:=v2,a7:=v3}) s
def p33_67:Den:=fun _ e s=>lt (g6 e) fun v0=>lt (g8 e) fun v1=>bP (pBin (bI fAdd) (cV v0) (cV v1) e) fun v2=>.nrm (ws8 (u6 e v2) fun r=>{r with a8:=v0,a9:=v1,a10:=v2}) s
def p33_69:Den:=fun _ e s=>lt (g5 e) fun v0=>ltc (V.i 0) fun v1=>ltc (V.i 0) fun v2=>.nrm (u139 (ws0 e fun r=>{r with a2:=v0,a3:=v1,a4:=v2}) v0) s
def p33_0:Res:=dSeq p33_1 (dSeq (dSeq p33_4 (dCond g11 (dSeq p33_7 dRet) dSkip)) (dSeq p33_9 (dSeq (dSeq p33_12 (dBlock 0 (dLoop (dSeq (dSeq p33_17 (dCond g15 dSkip (dExit 0))) (dBlock 1 (dSeq p33_21 (dSeq p33_23 (dSeq (dSeq p33_26 (dCond g27 (dSeq p33_29 dRet) dSkip)) (dSeq (dSeq p33_32 (dCond g34 (dSeq p33_35 dRet) dSkip)) (dSeq (dBlock 2 (dSeq p33_39 (dCond g36 (dSeq p33_42 p33_43) (dSeq p33_45 (dCond g55 p33_47 (dSeq p33_49 (dCond g71 p33_51 (dSeq p33_53 (dCond g81 p33_55 (dSeq p33_57 (dCond g106 p33_59 dSkip))))))))))) (dSeq (dSeq p33_62 (dCond g126 p33_64 dSkip)) (dSeq p33_66 p33_67)))))))))))) (dSeq p33_69 dRet)))) k e s
def F33 : FDen := ⟨[u0], p33_0, resV [rT g2, rT g3, rT g4]⟩
theorem low33 : lowFunc tt [] fok Try.f33 = some F33 := by kernel_rfl
theorem run33 : FRun Try.prog [] 33 F33 := FRun.of (lowFunc_ok ttOk fokOk mixed Try.func33 low33)
def p34_1:Den:=fun _ e s=>ltc (V.nils) fun v0=>.nrm (u2 e v0) s
def p34_3:Den:=fun _ e s=>lt (g0 e) fun v0=>bP (pBuild [.nils, (.i 0)] [(0, 1, (cV v0))] e) fun v1=>bE (aSt (aBox (cV v1) e s.next) s) fun v2 s=>.nrm (ws0 e fun r=>{r with a3:=v2,a11:=v0,a12:=v1,a13:=v2}) s
def p34_5:Res:=bP (pBuild [(.str []), (.str []), (.bool false)] [(0, 1, (cV (.str [120]))), (1, 1, (cV (.str [73])))] e) fun v0=>bP (pBuild [(.str []), (.str []), (.bool false)] [(0, 1, (cV (.str [110, 101, 120, 116]))), (1, 1, (cV (.str [76, 65, 59])))] e) fun v1=>bP (pBuild [(.str []), (.str []), (.bool false)] [(0, 1, (cV (.str [115]))), (1, 1, (cV (.str [73]))), (2, 1, (cV (.bool true)))] e) fun v2=>bP (pBuild [(.str []), (.str []), (.bool false)] [(0, 1, (cV (.str [114]))), (1, 1, (cV (.str [76, 65, 59]))), (2, 1, (cV (.bool true)))] e) fun v3=>bE (aSt (aBSl 4 3 [(.str []), (.str []), (.bool false), (.str []), (.str []), (.bool false), (.str []), (.str []), (.bool false), (.str []), (.str []), (.bool false)] [(0, 3, (cV v0)), (3, 3, (cV v1)), (6, 3, (cV v2)), (9, 3, (cV v3))] e s.next) s) fun v4 s=>bP (pBuild [(.str []), (.str []), .nils, .nils, .nils] [(0, 1, (cV (.str [65]))), (1, 1, (cV (.str [79, 98, 106, 101, 99, 116]))), (3, 1, (cV v4))] e) fun v5=>bE (aSt (aAl 5 (ofL [(.str []), (.str []), .nils, .nils, .nils]) e s.next) s) fun v6 s=>bE (eSt 5 (cV v6) (cV v5) k e s) fun v7 s=>.nrm (ws1 (ws0 e fun r=>{r with a4:=v6,a14:=v0,a15:=v1}) fun r=>{r with a0:=v2,a1:=v3,a2:=v4,a3:=v5}) s
def p34_7:Res:=lt (g3 e) fun v0=>bP (pUn (uFld 2) g4 e) fun v1=>bP ((dLd (cV v1)) e s) fun v2=>bE (eCall 48 [(cV v0), (cV v2), (cV (.str [103, 111])), (cV (.str [40, 73, 41, 73])), (cV (.bool false)), (cV (.bool false)), (cV (.bool true)), (cV (.i 2))] k e s) fun v3 s=>bP (pUn (uExt 0) (cV v3) e) fun v4=>bP (pUn (uExt 1) (cV v3) e) fun v5=>bE (aSt (aAl 9 (ofL [(.str []), (.str []), (.bool false), (.bool false), (.i 0), (.i 0), .nils, .nils, .nils]) e s.next) s) fun v6 s=>bE (eSt 9 (cV v6) (cV v4) k e s) fun v7 s=>.nrm (ws1 (ws0 e fun r=>{r with a5:=v6,a6:=v5}) fun r=>{r with a4:=v3,a5:=v0,a6:=v1,a7:=v2,a8:=v3,a9:=v4,a10:=v5}) s
def p34_9:Res:=lt (g6 e) fun v0=>bP (pUn (uFld 2) g4 e) fun v1=>bE (eSt 1 (cV v1) (cV v0) k e s) fun v2 s=>.nrm (ws1 e fun r=>{r with a11:=v0,a12:=v1}) s
def p34_11:Res:=bP (pUn (uFld 4) g4 e) fun v0=>bP ((dLd (cV v0)) e s) fun v1=>bP ((dLdN 9 g5) e s) fun v2=>bE (aSt (aBSl 1 9 [(.str []), (.str []), (.bool false), (.bool false), (.i 0), (.i 0), .nils, .nils, .nils] [(0, 9, (cV v2))] e s.next) s) fun v3 s=>bE (eApW 9 (cV v1) (cV v3) k e s) fun v4 s=>bP (pUn (uFld 4) g4 e) fun v5=>bE (eSt 1 (cV v5) (cV v4) k e s) fun v6 s=>.nrm (ws2 (ws1 e fun r=>{r with a13:=v0,a14:=v1,a15:=v2}) fun r=>{r with a0:=v3,a1:=v4,a2:=v5}) s
def p34_13:Res:=bP (pBuild [(.str []), (.str []), (.bool false)] [(0, 1, (cV (.str [121]))), (1, 1, (cV (.str [73])))] e) fun v0=>bP (pBuild [(.str []), (.str []), (.bool false)] [(0, 1, (cV (.str [111, 116, 104, 101, 114]))), (1, 1, (cV (.str [76, 65, 59])))] e) fun v1=>bE (aSt (aBSl 2 3 [(.str []), (.str []), (.bool false), (.str []), (.str []), (.bool false)] [(0, 3, (cV v0)), (3, 3, (cV v1))] e s.next) s) fun v2 s=>bP (pBuild [(.str []), (.str []), .nils, .nils, .nils] [(0, 1, (cV (.str [66]))), (1, 1, (cV (.str [65]))), (3, 1, (cV v2))] e) fun v3=>bE (aSt (aAl 5 (ofL [(.str []), (.str []), .nils, .nils, .nils]) e s.next) s) fun v4 s=>bE (eSt 5 (cV v4) (cV v3) k e s) fun v5 s=>.nrm (ws2 (u7 e v4) fun r=>{r with a3:=v0,a4:=v1,a5:=v2,a6:=v3}) s
def p34_16:Res:=lt (g3 e) fun v0=>bE (eCall 49 [(cV v0), (cV (.i 2))] k e s) fun v1 s=>bP (pBin (bI fEq) (cV v1) (cV (.i 0)) e) fun v2=>.nrm (ws2 e fun r=>{r with a7:=v0,a8:=v1,a9:=v2}) s
def p34_19:Res:=lt (g3 e) fun v0=>bP (pUn (uFld 2) g7 e) fun v1=>bP ((dLd (cV v1)) e s) fun v2=>bE (eCall 48 [(cV v0), (cV v2), (cV (.str [103, 111])), (cV (.str [40, 73, 41, 73])), (cV (.bool false)), (cV (.bool false)), (cV (.bool true)), (cV (.i 2))] k e s) fun v3 s=>bP (pUn (uExt 0) (cV v3) e) fun v4=>bP (pUn (uExt 1) (cV v3) e) fun v5=>bE (eSt 9 g5 (cV v4) k e s) fun v6 s=>.nrm (u48 (ws2 (u6 e v5) fun r=>{r with a10:=v3,a11:=v0,a12:=v1,a13:=v2,a14:=v3,a15:=v4}) v5) s
def p34_21:Res:=lt (g6 e) fun v0=>bP (pUn (uFld 2) g7 e) fun v1=>bE (eSt 1 (cV v1) (cV v0) k e s) fun v2 s=>.nrm (ws3 e fun r=>{r with a1:=v0,a2:=v1}) s
def p34_22:Res:=bP (pUn (uFld 4) g7 e) fun v0=>bP ((dLd (cV v0)) e s) fun v1=>bP ((dLdN 9 g5) e s) fun v2=>bE (aSt (aBSl 1 9 [(.str []), (.str []), (.bool false), (.bool false), (.i 0), (.i 0), .nils, .nils, .nils] [(0, 9, (cV v2))] e s.next) s) fun v3 s=>bE (eApW 9 (cV v1) (cV v3) k e s) fun v4 s=>bP (pUn (uFld 4) g7 e) fun v5=>bE (eSt 1 (cV v5) (cV v4) k e s) fun v6 s=>.nrm (ws3 e fun r=>{r with a3:=v0,a4:=v1,a5:=v2,a6:=v3,a7:=v4,a8:=v5}) s
def p34_24:Res:=bP (pBuild [(.str []), (.str []), .nils, .nils, .nils] [(0, 1, (cV (.str [84]))), (1, 1, (cV (.str [84, 104, 114, 101, 97, 100])))] e) fun v0=>bE (aSt (aAl 5 (ofL [(.str []), (.str []), .nils, .nils, .nils]) e s.next) s) fun v1 s=>bE (eSt 5 (cV v1) (cV v0) k e s) fun v2 s=>.nrm (u57 (u8 e v1) v0) s
def p34_26:Res:=lt (g3 e) fun v0=>bP (pUn (uFld 2) g8 e) fun v1=>bP ((dLd (cV v1)) e s) fun v2=>bE (eCall 48 [(cV v0), (cV v2), (cV (.str [114, 117, 110])), (cV (.str [40, 41, 86])), (cV (.bool false)), (cV (.bool false)), (cV (.bool false)), (cV (.i 1))] k e s) fun v3 s=>bP (pUn (uExt 0) (cV v3) e) fun v4=>bP (pUn (uExt 1) (cV v3) e) fun v5=>bE (eSt 9 g5 (cV v4) k e s) fun v6 s=>.nrm (u64 (ws3 (u6 e v5) fun r=>{r with a10:=v3,a11:=v0,a12:=v1,a13:=v2,a14:=v3,a15:=v4}) v5) s
def p34_28:Res:=lt (g6 e) fun v0=>bP (pUn (uFld 2) g8 e) fun v1=>bE (eSt 1 (cV v1) (cV v0) k e s) fun v2 s=>.nrm (ws4 e fun r=>{r with a1:=v0,a2:=v1}) s
def p34_30:Res:=bP (pUn (uFld 4) g8 e) fun v0=>bP ((dLd (cV v0)) e s) fun v1=>bP ((dLdN 9 g5) e s) fun v2=>bE (aSt (aBSl 1 9 [(.str []), (.str []), (.bool false), (.bool false), (.i 0), (.i 0), .nils, .nils, .nils] [(0, 9, (cV v2))] e s.next) s) fun v3 s=>bE (eApW 9 (cV v1) (cV v3) k e s) fun v4 s=>bP (pUn (uFld 4) g8 e) fun v5=>bE (eSt 1 (cV v5) (cV v4) k e s) fun v6 s=>.nrm (ws4 e fun r=>{r with a3:=v0,a4:=v1,a5:=v2,a6:=v3,a7:=v4,a8:=v5}) s
def p34_32:Res:=bP (pBuild [(.str []), (.str []), .nils, .nils, .nils] [(0, 1, (cV (.str [77, 97, 105, 110]))), (1, 1, (cV (.str [79, 98, 106, 101, 99, 116])))] e) fun v0=>bE (aSt (aAl 5 (ofL [(.str []), (.str []), .nils, .nils, .nils]) e s.next) s) fun v1 s=>bE (eSt 5 (cV v1) (cV v0) k e s) fun v2 s=>.nrm (u73 (u9 e v1) v0) s
def p34_34:Res:=lt (g3 e) fun v0=>bP (pUn (uFld 2) g9 e) fun v1=>bP ((dLd (cV v1)) e s) fun v2=>bE (eCall 48 [(cV v0), (cV v2), (cV (.str [109, 97, 105, 110])), (cV (.str [40, 41, 86])), (cV (.bool true)), (cV (.bool false)), (cV (.bool false)), (cV (.i 0))] k e s) fun v3 s=>bP (pUn (uExt 0) (cV v3) e) fun v4=>bP (pUn (uExt 1) (cV v3) e) fun v5=>bE (eSt 9 g5 (cV v4) k e s) fun v6 s=>.nrm (u80 (ws4 (u6 e v5) fun r=>{r with a10:=v3,a11:=v0,a12:=v1,a13:=v2,a14:=v3,a15:=v4}) v5) s
def p34_36:Res:=lt (g3 e) fun v0=>lt (g6 e) fun v1=>bE (eCall 48 [(cV v0), (cV v1), (cV (.str [99, 97, 108, 99])), (cV (.str [40, 73, 73, 41, 73])), (cV (.bool true)), (cV (.bool true)), (cV (.bool true)), (cV (.i 2))] k e s) fun v2 s=>bP (pUn (uExt 0) (cV v2) e) fun v3=>bP (pUn (uExt 1) (cV v2) e) fun v4=>bE (aSt (aAl 9 (ofL [(.str []), (.str []), (.bool false), (.bool false), (.i 0), (.i 0), .nils, .nils, .nils]) e s.next) s) fun v5 s=>bE (eSt 9 (cV v5) (cV v3) k e s) fun v6 s=>.nrm (ws5 (ws0 e fun r=>{r with a6:=v4,a10:=v5}) fun r=>{r with a1:=v2,a2:=v0,a3:=v1,a4:=v2,a5:=v3,a6:=v4}) s
def p34_38:Res:=lt (g6 e) fun v0=>bP (pUn (uFld 2) g9 e) fun v1=>bE (eSt 1 (cV v1) (cV v0) k e s) fun v2 s=>.nrm (ws5 e fun r=>{r with a7:=v0,a8:=v1}) s
def p34_40:Res:=bP (pUn (uFld 4) g9 e) fun v0=>bP ((dLd (cV v0)) e s) fun v1=>bP ((dLdN 9 g5) e s) fun v2=>bP ((dLdN 9 g10) e s) fun v3=>bE (aSt (aBSl 2 9 [(.str []), (.str []), (.bool false), (.bool false), (.i 0), (.i 0), .nils, .nils, .nils, (.str []), (.str []), (.bool false), (.bool false), (.i 0), (.i 0), .nils, .nils, .nils] [(0, 9, (cV v2)), (9, 9, (cV v3))] e s.next) s) fun v4 s=>bE (eApW 9 (cV v1) (cV v4) k e s) fun v5 s=>bP (pUn (uFld 4) g9 e) fun v6=>bE (eSt 1 (cV v6) (cV v5) k e s) fun v7 s=>.nrm (ws5 e fun r=>{r with a9:=v0,a10:=v1,a11:=v2,a12:=v3,a13:=v4,a14:=v5,a15:=v6}) s
def p34_42:Den:=fun _ e s=>bP ((dLdN 5 g4) e s) fun v0=>bP ((dLdN 5 g7) e s) fun v1=>bP ((dLdN 5 g8) e s) fun v2=>bP ((dLdN 5 g9) e s) fun v3=>bE (aSt (aBSl 4 5 [(.str []), (.str []), .nils, .nils, .nils, (.str []), (.str []), .nils, .nils, .nils, (.str []), (.str []), .nils, .nils, .nils, (.str []), (.str []), .nils, .nils, .nils] [(0, 5, (cV v0)), (5, 5, (cV v1)), (10, 5, (cV v2)), (15, 5, (cV v3))] e s.next) s) fun v4 s=>.nrm (ws6 (u2 e v4) fun r=>{r with a0:=v0,a1:=v1,a2:=v2,a3:=v3,a4:=v4}) s
def p34_23:Res:=dSeq p34_24 (dSeq p34_26 (dSeq p34_28 (dSeq p34_30 (dSeq p34_32 (dSeq p34_34 (dSeq p34_36 (dSeq p34_38 (dSeq p34_40 (dSeq p34_42 dRet))))))))) k e s
def p34_0:Res:=dSeq p34_1 (dSeq p34_3 (dSeq p34_5 (dSeq p34_7 (dSeq p34_9 (dSeq p34_11 (dSeq p34_13 (dSeq (dSeq p34_16 (dCond g41 (dSeq p34_19 (dSeq p34_21 p34_22)) dSkip)) p34_23))))))) k e s
def F34 : FDen := ⟨[u0], p34_0, resV [rT g2]⟩
theorem low34 : lowFunc tt [] fok Try.f34 = some F34 := by kernel_rfl
theorem run34 : FRun Try.prog [] 34 F34 := FRun.of (lowFunc_ok ttOk fokOk mixed Try.func34 low34)
def p37_1:Den:=fun _ e s=>ltc (V.nils) fun v0=>.nrm (u4 e v0) s
def p37_3:Res:=lt (g0 e) fun v0=>lt (g1 e) fun v1=>bE (eCall 50 [cV v0,cV v1] k e s) fun v2 s=>.nrm (ws0 e fun r=>{r with a5:=v2,a8:=v0,a9:=v1,a10:=v2}) s
def p37_6:Den:=fun _ e s=>lt (g5 e) fun v0=>bP (pBin (bI fEq) (cV v0) (cV (.i (-1))) e) fun v1=>.nrm (ws0 e fun r=>{r with a11:=v0,a12:=v1}) s
def p37_9:Den:=fun _ e s=>lt (g0 e) fun v0=>.nrm (ws0 e fun r=>{r with a4:=v0,a13:=v0}) s
def p37_12:Den:=fun _ e s=>lt (g5 e) fun v0=>bP (pBin (bI fAdd) (cV v0) (cV (.i 1)) e) fun v1=>.nrm (ws0 e fun r=>{r with a6:=v1,a14:=v0,a15:=v1}) s
def p37_17:Den:=fun _ e s=>lt (g6 e) fun v0=>lt (g0 e) fun v1=>bP (pUn uLenS (cV v1) e) fun v2=>bP (pBin (bI fLt) (cV v0) (cV v2) e) fun v3=>.nrm (ws1 e fun r=>{r with a0:=v0,a1:=v1,a2:=v2,a3:=v3}) s
def p37_22:Den:=fun _ e s=>lt (g0 e) fun v0=>lt (g6 e) fun v1=>bP (pBin (bIdx 1) (cV v0) (cV v1) e) fun v2=>bP ((dLd (cV v2)) e s) fun v3=>.nrm (ws1 (u7 e v3) fun r=>{r with a6:=v0,a7:=v1,a8:=v2,a9:=v3}) s
def p37_24:Res:=lt (g1 e) fun v0=>lt (g7 e) fun v1=>bE (eCallV fok (cV v0) [cV v1] k e s) fun v2 s=>bP (pUn uNot (cV v2) e) fun v3=>.nrm (ws1 e fun r=>{r with a10:=v0,a11:=v1,a12:=v2,a13:=v3}) s
def p37_27:Res:=lt (g0 e) fun v0=>lt (g5 e) fun v1=>lt (g7 e) fun v2=>bP (pBin (bIdx 1) (cV v0) (cV v1) e) fun v3=>bE (eSt 1 (cV v3) (cV v2) k e s) fun v4 s=>.nrm (ws2 (ws1 e fun r=>{r with a14:=v0,a15:=v1}) fun r=>{r with a0:=v2,a1:=v3}) s
def p37_28:Den:=fun _ e s=>lt (g5 e) fun v0=>bP (pBin (bI fAdd) (cV v0) (cV (.i 1)) e) fun v1=>.nrm (ws2 (u5 e v1) fun r=>{r with a2:=v0,a3:=v1}) s
def p37_29:Den:=fun _ e s=>lt (g6 e) fun v0=>bP (pBin (bI fAdd) (cV v0) (cV (.i 1)) e) fun v1=>.nrm (ws1 (u6 e v1) fun r=>{r with a4:=v0,a5:=v1}) s
def p37_31:Res:=lt (g0 e) fun v0=>lt (g5 e) fun v1=>bP (pSl 1 (cV v0) (some (cV v1)) none none e) fun v2=>bE (eClr [(.i 0)] (cV v2) k e s) fun v3 s=>.nrm (ws2 e fun r=>{r with a4:=v0,a5:=v1,a6:=v2}) s
def p37_33:Den:=fun _ e s=>lt (g0 e) fun v0=>lt (g5 e) fun v1=>bP (pSl 1 (cV v0) none (some (cV v1)) none e) fun v2=>.nrm (ws2 (u4 e v2) fun r=>{r with a7:=v0,a8:=v1,a9:=v2}) s
def p37_0:Res:=dSeq p37_1 (dSeq p37_3 (dSeq (dSeq p37_6 (dCond g12 (dSeq p37_9 dRet) dSkip)) (dSeq (dSeq p37_12 (dBlock 0 (dLoop (dSeq (dSeq p37_17 (dCond g19 dSkip (dExit 0))) (dSeq (dBlock 1 (dSeq p37_22 (dSeq p37_24 (dCond g29 (dSeq p37_27 p37_28) dSkip)))) p37_29))))) (dSeq p37_31 (dSeq p37_33 dRet))))) k e s
def F37 : FDen := ⟨[u0, u1], p37_0, resV [rT g4]⟩
theorem low37 : lowFunc tt [] fok Try.f37 = some F37 := by kernel_rfl
theorem run37 : FRun Try.prog [] 37 F37 := FRun.of (lowFunc_ok ttOk fokOk mixed Try.func37 low37)
def p38_1:Den:=fun _ e s=>ltc (V.bool false) fun v0=>.nrm (u3 e v0) s
def p38_3:Den:=fun _ e s=>lt (g0 e) fun v0=>bP (pBin (bI fLt) (cV v0) (cV (.i 0)) e) fun v1=>bP (gdV v1 false (pMove g0 e)) fun v2=>bP (gdV v1 false ((dLd g1) e s)) fun v3=>bP (gdV v1 false (pUn uLenS (cV v3) e)) fun v4=>bP (gdV v1 false (pBin (bI fGe) (cV v2) (cV v4) e)) fun v5=>bP (pPick (cV v1) (cV (.bool true)) (cV v5) e) fun v6=>.nrm (ws0 e fun r=>{r with a3:=v6,a4:=v0,a5:=v1,a6:=v1,a7:=v2,a8:=v3,a9:=v4,a10:=v5,a11:=v6}) s
def p38_0:Res:=dSeq p38_1 (dSeq p38_3 dRet) k e s
def F38 : FDen := ⟨[u0, u1], p38_0, resV [rT g3]⟩
theorem low38 : lowFunc tt [] fok Try.f38 = some F38 := by kernel_rfl
theorem run38 : FRun Try.prog [] 38 F38 := FRun.of (lowFunc_ok ttOk fokOk mixed Try.func38 low38)
def p39_1:Den:=fun _ e s=>ltc (V.i 0) fun v0=>ltc (V.bool false) fun v1=>.nrm (ws0 e fun r=>{r with a4:=v0,a5:=v1}) s
def p39_3:Den:=fun _ e s=>lt (g0 e) fun v0=>bP (pUn uLenS (cV v0) e) fun v1=>.nrm (ws0 e fun r=>{r with a6:=v1,a10:=v0,a11:=v1}) s
def p39_5:Den:=fun _ e s=>lt (g6 e) fun v0=>ltc (V.i 0) fun v1=>.nrm (ws0 e fun r=>{r with a7:=v1,a8:=v0,a12:=v0}) s
def p39_11:Den:=fun _ e s=>lt (g7 e) fun v0=>lt (g8 e) fun v1=>bP (pBin (bI fLt) (cV v0) (cV v1) e) fun v2=>.nrm (ws0 e fun r=>{r with a13:=v0,a14:=v1,a15:=v2}) s
def p39_15:Den:=fun _ e s=>lt (g7 e) fun v0=>lt (g8 e) fun v1=>bP (pBin (bI fAdd) (cV v0) (cV v1) e) fun v2=>bP (pUn (cInt .u64) (cV v2) e) fun v3=>bP (pBin (bSh .shr .u64) (cV v3) (cV (.int .u64 1)) e) fun v4=>bP (pUn (cInt .i64) (cV v4) e) fun v5=>.nrm (ws1 (u9 e v5) fun r=>{r with a0:=v0,a1:=v1,a2:=v2,a3:=v3,a4:=v4,a5:=v5}) s
def p39_17:Res:=lt (g0 e) fun v0=>lt (g9 e) fun v1=>bP (pBin (bIdx 1) (cV v0) (cV v1) e) fun v2=>bP ((dLd (cV v2)) e s) fun v3=>lt (g1 e) fun v4=>bE (eCall 51 [cV v3,cV v4] k e s) fun v5 s=>.nrm (ws1 e fun r=>{r with a6:=v0,a7:=v1,a8:=v2,a9:=v3,a10:=v4,a11:=v5}) s
def p39_19:Den:=fun _ e s=>lt (g9 e) fun v0=>bP (pBin (bI fAdd) (cV v0) (cV (.i 1)) e) fun v1=>.nrm (ws1 (u7 e v1) fun r=>{r with a12:=v0,a13:=v1}) s
def p39_20:Den:=fun _ e s=>lt (g9 e) fun v0=>.nrm (u30 (u8 e v0) v0) s
def p39_22:Res:=lt (g7 e) fun v0=>lt (g7 e) fun v1=>lt (g6 e) fun v2=>bP (pBin (bI fLt) (cV v1) (cV v2) e) fun v3=>bP (gdV v3 true (pMove g0 e)) fun v4=>bP (gdV v3 true (pMove g7 e)) fun v5=>bP (gdV v3 true (pBin (bIdx 1) (cV v4) (cV v5) e)) fun v6=>bP (gdV v3 true ((dLd (cV v6)) e s)) fun v7=>bP (gdV v3 true (pMove g1 e)) fun v8=>bP (gdV v3 true (pBin (bI fEq) (cV v7) (cV v8) e)) fun v9=>bP (gdV v3 true (pMove (cV v9) e)) fun v10=>bP (gdV v10 false (pMove g0 e)) fun v11=>bP (gdV v10 false (pMove g7 e)) fun v12=>bP (gdV v10 false (pBin (bIdx 1) (cV v11) (cV v12) e)) fun v13=>bP (gdV v10 false ((dLd (cV v13)) e s)) fun v14=>bE (gdW v10 false s (eCall 52 [cV v14] k e s)) fun v15 s=>bP (gdV v10 false (pMove (cV v15) e)) fun v16=>bP (gdV v16 true (pMove g1 e)) fun v17=>bE (gdW v16 true s (eCall 52 [cV v17] k e s)) fun v18 s=>bP (gdV v10 false (pPick (cV v16) (cV v18) (cV (.bool false)) e)) fun v19=>bP (gdV v3 true (pPick (cV v10) (cV (.bool true)) (cV v19) e)) fun v20=>bP (pPick (cV v3) (cV v20) (cV (.bool false)) e) fun v21=>.nrm (ws3 (rw2 (u31 (ws0 e fun r=>{r with a4:=v0,a5:=v21}) v0) fun _ _ _ _ _ _ _ _ _ _ _ _ _ _ _ _=>⟨v1,v2,v3,v3,v4,v5,v6,v7,v8,v9,v10,v11,v12,v13,v14,v15⟩) fun r=>{r with a0:=v16,a1:=v17,a2:=v18,a3:=v19,a4:=v20,a5:=v21}) s
def p39_0:Res:=dSeq p39_1 (dSeq p39_3 (dSeq p39_5 (dSeq (dBlock 0 (dLoop (dSeq (dSeq p39_11 (dCond g15 dSkip (dExit 0))) (dBlock 1 (dSeq p39_15 (dSeq p39_17 (dCond g27 p39_19 p39_20))))))) (dSeq p39_22 dRet)))) k e s
def F39 : FDen := ⟨[u0, u1], p39_0, resV [rT g4, rT g5]⟩
theorem low39 : lowFunc tt [] fok Try.f39 = some F39 := by kernel_rfl
theorem run39 : FRun Try.prog [] 39 F39 := FRun.of (lowFunc_ok ttOk fokOk mixed Try.func39 low39)
def p40_1:Den:=fun _ e s=>lt (g0 e) fun v0=>bP (pBin (bI fGe) (cV v0) (cV (.i 0)) e) fun v1=>bP (gdV v1 true (pMove g0 e)) fun v2=>bP (gdV v1 true ((dLd g1) e s)) fun v3=>bP (gdV v1 true (pUn uLenS (cV v3) e)) fun v4=>bP (gdV v1 true (pBin (bI fLt) (cV v2) (cV v4) e)) fun v5=>bP (pPick (cV v1) (cV v5) (cV (.bool false)) e) fun v6=>bP (gdV v6 true ((dLd g2) e s)) fun v7=>bP (gdV v6 true (pMove g0 e)) fun v8=>bP (gdV v6 true (pBin (bIdx 1) (cV v7) (cV v8) e)) fun v9=>bP (gdV v6 true ((dLd (cV v9)) e s)) fun v10=>bP (gdV v6 true (pUn uNot (cV v10) e)) fun v11=>bP (pPick (cV v6) (cV v11) (cV (.bool false)) e) fun v12=>.nrm (ws1 (rw0 e fun a b c d f _ _ _ _ _ _ _ _ _ _ _=>⟨a,b,c,d,f,v0,v1,v1,v2,v3,v4,v5,v6,v6,v7,v8⟩) fun r=>{r with a0:=v9,a1:=v10,a2:=v11,a3:=v12}) s
def p40_4:Res:=bP ((dLd g2) e s) fun v0=>lt (g0 e) fun v1=>bP (pBin (bIdx 1) (cV v0) (cV v1) e) fun v2=>bE (eSt 1 (cV v2) (cV (.bool true)) k e s) fun v3 s=>.nrm (ws1 e fun r=>{r with a4:=v0,a5:=v1,a6:=v2}) s
def p40_5:Res:=bP ((dLd g3) e s) fun v0=>lt (g0 e) fun v1=>bE (aSt (aBSl 1 1 [(.i 0)] [(0, 1, (cV v1))] e s.next) s) fun v2 s=>bE (eAp8 1 (cV v0) (cV v2) k e s) fun v3 s=>bE (eSt 1 g3 (cV v3) k e s) fun v4 s=>.nrm (ws1 e fun r=>{r with a7:=v0,a8:=v1,a9:=v2,a10:=v3}) s
def p40_0:Res:=dSeq p40_1 (dCond g19 (dSeq p40_4 p40_5) dSkip) k e s
def F40 : FDen := ⟨[u0, u1, u2, u3], p40_0, resV []⟩
theorem low40 : lowFunc tt [] fok Try.f40 = some F40 := by kernel_rfl
theorem run40 : FRun Try.prog [] 40 F40 := FRun.of (lowFunc_ok ttOk fokOk mixed Try.func40 low40)
noncomputable def F41 : FDen := fOf1 (lookI 0 256 fun i => .i (sizeI i))
def p42_1:Den:=fun _ e s=>ltc (V.i 0) fun v0=>.nrm (u4 e v0) s
def p42_4:Den:=fun _ e s=>lt (g0 e) fun v0=>bP (pUn uLenS (cV v0) e) fun v1=>ltc (V.i 0) fun v2=>.nrm (ws0 e fun r=>{r with a6:=v0,a7:=v1,a8:=v2}) s
def p42_8:Den:=fun _ e s=>bP (pBin (bI fLt) g8 g7 e) fun v0=>.nrm (u9 e v0) s
def p42_14:Den:=fun _ e s=>lt (g8 e) fun v0=>.nrm (ws0 e fun r=>{r with a5:=v0,a10:=v0}) s
def p42_16:Res:=lt (g1 e) fun v0=>lt (g0 e) fun v1=>lt (g5 e) fun v2=>bP (pBin (bIdx 3) (cV v1) (cV v2) e) fun v3=>bP ((dLdN 3 (cV v3)) e s) fun v4=>bE (eCallV fok (cV v0) [cV v4] k e s) fun v5 s=>.nrm (u16 (ws0 e fun r=>{r with a11:=v0,a12:=v1,a13:=v2,a14:=v3,a15:=v4}) v5) s
def p42_19:Den:=fun _ e s=>lt (g5 e) fun v0=>.nrm (u17 (u4 e v0) v0) s
def p42_20:Den:=fun _ e s=>bP (pBin (bI fAdd) g8 (cV (.i 1)) e) fun v0=>.nrm (u18 (u8 e v0) v0) s
def p42_22:Den:=fun _ e s=>ltc (V.i (-1)) fun v0=>.nrm (u4 e v0) s
def p42_0:Res:=dSeq p42_1 (dSeq (dSeq p42_4 (dBlock 0 (dLoop (dSeq p42_8 (dSeq (dCond g9 dSkip (dExit 0)) (dSeq (dBlock 1 (dSeq p42_14 (dSeq p42_16 (dCond g16 (dSeq p42_19 dRet) dSkip)))) p42_20)))))) (dSeq p42_22 dRet)) k e s
def F42 : FDen := ⟨[u0, u1], p42_0, resV [rT g4]⟩
theorem low42 : lowFunc tt [] fok Try.f42 = some F42 := by kernel_rfl
theorem run42 : FRun Try.prog [] 42 F42 := FRun.of (lowFunc_ok ttOk fokOk mixed Try.func42 low42)
def p45_1:Den:=fun _ e s=>ltc (V.bool false) fun v0=>.nrm (u2 e v0) s
def p45_3:Den:=fun _ e s=>lt (g0 e) fun v0=>lt (g0 e) fun v1=>bP (pBin (bI fNe) (cV v0) (cV v1) e) fun v2=>.nrm (ws0 e fun r=>{r with a2:=v2,a3:=v0,a4:=v1,a5:=v2}) s
def p45_0:Res:=dSeq p45_1 (dSeq p45_3 dRet) k e s
def F45 : FDen := ⟨[u0], p45_0, resV [rT g2]⟩
theorem low45 : lowFunc tt [] fok Try.f45 = some F45 := by kernel_rfl
theorem run45 : FRun Try.prog [] 45 F45 := FRun.of (lowFunc_ok ttOk fokOk mixed Try.func45 low45)
noncomputable def F46 : FDen := fOf1 (lookI 0 256 fun i => .i (sizeI i))
noncomputable def F47 : FDen := fOf1 (lookI 0 256 fun i => .bool (sgnI i))
def p48_1:Den:=fun _ e s=>bE (aSt (aAl 9 (ofL [(.str []), (.str []), (.bool false), (.bool false), (.i 0), (.i 0), .nils, .nils, .nils]) e s.next) s) fun v0 s=>ltc (V.nils) fun v1=>.nrm (ws1 e fun r=>{r with a0:=v0,a1:=v1}) s
def p48_3:Den:=fun _ e s=>lt (g0 e) fun v0=>lt (g1 e) fun v1=>lt (g5 e) fun v2=>bP (pBuild [.nilp, .nils, .nils, (.i 0), (.bool false), (.i 0), (.i 0), .nils, .nils, .nils] [(0, 1, (cV v0)), (1, 1, (cV v1)), (4, 1, (cV v2)), (5, 1, (cV (.i 110)))] e) fun v3=>bE (aSt (aBox (cV v3) e s.next) s) fun v4 s=>.nrm (ws1 e fun r=>{r with a2:=v4,a4:=v0,a5:=v1,a6:=v2,a7:=v3,a8:=v4}) s
def p48_6:Den:=fun _ e s=>lt (g4 e) fun v0=>bP (pUn uNot (cV v0) e) fun v1=>.nrm (ws1 e fun r=>{r with a9:=v0,a10:=v1}) s
def p48_9:Res:=lt (g18 e) fun v0=>bE (eCall 64 [(cV v0), (cV (.i 25)), (cV (.i 0)), (cV (.i 0))] k e s) fun v1 s=>.nrm (ws1 e fun r=>{r with a11:=v0,a12:=v1}) s
def p48_11:Den:=fun _ e s=>lt (g2 e) fun v0=>bP (pBin (bS fun a b=>some (.bool (eqL a b))) (cV v0) (cV (.str [103, 111])) e) fun v1=>.nrm (ws1 e fun r=>{r with a13:=v0,a14:=v1}) s
def p48_14:Res:=lt (g18 e) fun v0=>bE (eCall 64 [(cV v0), (cV (.i 58)), (cV (.i 4)), (cV (.i 0))] k e s) fun v1 s=>.nrm (u32 (u31 e v0) v1) s
def p48_16:Res:=lt (g18 e) fun v0=>bE (eCall 64 [(cV v0), (cV (.i 21)), (cV (.i 1)), (cV (.i 0))] k e s) fun v1 s=>.nrm (ws2 e fun r=>{r with a1:=v0,a2:=v1}) s
def p48_18:Res:=lt (g18 e) fun v0=>bE (eCall 64 [(cV v0), (cV (.i 54)), (cV (.i 2)), (cV (.i 0))] k e s) fun v1 s=>.nrm (ws2 e fun r=>{r with a3:=v0,a4:=v1}) s
def p48_20:Res:=lt (g18 e) fun v0=>bE (eCall 64 [(cV v0), (cV (.i 3)), (cV (.i 0)), (cV (.i 0))] k e s) fun v1 s=>.nrm (ws2 e fun r=>{r with a5:=v0,a6:=v1}) s
def p48_21:Res:=lt (g18 e) fun v0=>bE (eCall 64 [(cV v0), (cV (.i 54)), (cV (.i 0)), (cV (.i 0))] k e s) fun v1 s=>.nrm (ws2 e fun r=>{r with a7:=v0,a8:=v1}) s
def p48_23:Res:=lt (g18 e) fun v0=>bE (eCall 64 [(cV v0), (cV (.i 58)), (cV (.i 8)), (cV (.i 0))] k e s) fun v1 s=>.nrm (ws2 e fun r=>{r with a9:=v0,a10:=v1}) s
def p48_25:Res:=lt (g18 e) fun v0=>bE (eCall 64 [(cV v0), (cV (.i 3)), (cV (.i 0)), (cV (.i 0))] k e s) fun v1 s=>.nrm (ws2 e fun r=>{r with a11:=v0,a12:=v1}) s
def p48_27:Res:=lt (g18 e) fun v0=>bE (eCall 64 [(cV v0), (cV (.i 54)), (cV (.i 0)), (cV (.i 0))] k e s) fun v1 s=>.nrm (ws2 e fun r=>{r with a13:=v0,a14:=v1}) s
def p48_29:Res:=lt (g18 e) fun v0=>bE (eCall 64 [(cV v0), (cV (.i 3)), (cV (.i 0)), (cV (.i 0))] k e s) fun v1 s=>.nrm (u48 (u47 e v0) v1) s
def p48_30:Res:=lt (g18 e) fun v0=>bE (eCall 64 [(cV v0), (cV (.i 54)), (cV (.i 1)), (cV (.i 0))] k e s) fun v1 s=>.nrm (ws3 e fun r=>{r with a1:=v0,a2:=v1}) s
def p48_32:Res:=lt (g18 e) fun v0=>lt (g4 e) fun v1=>lt (g2 e) fun v2=>lt (g7 e) fun v3=>bE (eCall 65 [cV v0,cV v1,cV v2,cV v3] k e s) fun v4 s=>.nrm (ws3 e fun r=>{r with a3:=v0,a4:=v1,a5:=v2,a6:=v3,a7:=v4}) s
def p48_34:Res:=lt (g18 e) fun v0=>bE (eCall 66 [(cV v0), (cV (.i 6))] k e s) fun v1 s=>.nrm (ws3 e fun r=>{r with a8:=v0,a9:=v1}) s
def p48_37:Den:=fun _ e s=>lt (g6 e) fun v0=>.nrm (u58 e v0) s
def p48_40:Res:=lt (g18 e) fun v0=>bE (eCall 67 [(cV v0), (cV (.i 2))] k e s) fun v1 s=>.nrm (ws3 e fun r=>{r with a11:=v0,a12:=v1}) s
def p48_41:Res:=lt (g18 e) fun v0=>bE (eCall 64 [(cV v0), (cV (.i 172)), (cV (.i 0)), (cV (.i 0))] k e s) fun v1 s=>.nrm (ws3 e fun r=>{r with a13:=v0,a14:=v1}) s
def p48_42:Res:=lt (g18 e) fun v0=>bE (eCall 64 [(cV v0), (cV (.i 177)), (cV (.i 0)), (cV (.i 0))] k e s) fun v1 s=>.nrm (u64 (u63 e v0) v1) s
def p48_44:Res:=lt (g18 e) fun v0=>lt (g2 e) fun v1=>lt (g3 e) fun v2=>lt (g4 e) fun v3=>bE (eCall 68 [cV v0,cV v1,cV v2,cV v3] k e s) fun v4 s=>bE (aSt (aAl 9 (ofL [(.str []), (.str []), (.bool false), (.bool false), (.i 0), (.i 0), .nils, .nils, .nils]) e s.next) s) fun v5 s=>bE (eSt 9 (cV v5) (cV v4) k e s) fun v6 s=>.nrm (ws4 (u19 e v5) fun r=>{r with a1:=v0,a2:=v1,a3:=v2,a4:=v3,a5:=v4}) s
def p48_46:Res:=dDraw [⟨none, (.d 1 0 (dLdN 9 g19)), u70⟩, ⟨none, (.p (pMove g18)), u71⟩, ⟨none, (.p (pUn uChk g71)), u72⟩, ⟨none, (.p (pUn (uFld 1) g72)), u73⟩, ⟨none, (.d 0 1 (dLd g73)), u74⟩, ⟨none, (.e (eSt 9 g16 g70)), uNone⟩, ⟨none, (.p (pMove g74)), u17⟩] k e s
def p48_43:Res:=dSeq p48_44 (dSeq p48_46 dRet) k e s
def p48_31:Res:=dSeq p48_32 (dSeq p48_34 (dSeq (dSeq p48_37 (dCond g58 (dSeq p48_40 p48_41) p48_42)) p48_43)) k e s
def p48_0:Res:=dSeq p48_1 (dSeq p48_3 (dSeq (dSeq p48_6 (dCond g26 (dSeq p48_9 (dSeq p48_11 (dCond g30 (dSeq p48_14 (dSeq p48_16 (dSeq p48_18 (dSeq p48_20 p48_21)))) (dSeq p48_23 (dSeq p48_25 (dSeq p48_27 (dSeq p48_29 p48_30))))))) dSkip)) p48_31)) k e s
def F48 : FDen := ⟨[u0, u1, u2, u3, u4, u5, u6, u7], p48_0, resV [rC true (nat_lit 9) g16, rT g17]⟩
theorem low48 : lowFunc tt [] fok Try.f48 = some F48 := by kernel_rfl
theorem run48 : FRun Try.prog [] 48 F48 := FRun.of (lowFunc_ok ttOk fokOk mixed Try.func48 low48)
def p49_1:Den:=fun _ e s=>ltc (V.i 0) fun v0=>.nrm (u4 e v0) s
def p49_3:Den:=fun _ e s=>ltc (V.i 0) fun v0=>.nrm (u5 e v0) s
def p49_6:Den:=fun _ e s=>lt (g0 e) fun v0=>bP (pUn uChk (cV v0) e) fun v1=>bP (pUn (uFld 1) (cV v1) e) fun v2=>bP ((dLd (cV v2)) e s) fun v3=>lt (g0 e) fun v4=>bP (pUn uChk (cV v4) e) fun v5=>bP (pUn (uFld 0) (cV v5) e) fun v6=>bP ((dLd (cV v6)) e s) fun v7=>bP (pUn uLenS (cV v7) e) fun v8=>bP (pBin (bI fLt) (cV v3) (cV v8) e) fun v9=>.nrm (rw0 e fun a b c d f g _ _ _ _ _ _ _ _ _ _=>⟨a,b,c,d,f,g,v0,v1,v2,v3,v4,v5,v6,v7,v8,v9⟩) s
def p49_9:Den:=fun _ e s=>lt (g0 e) fun v0=>bP (pUn uChk (cV v0) e) fun v1=>bP (pUn (uFld 0) (cV v1) e) fun v2=>bP ((dLd (cV v2)) e s) fun v3=>lt (g0 e) fun v4=>bP (pUn uChk (cV v4) e) fun v5=>bP (pUn (uFld 1) (cV v5) e) fun v6=>bP ((dLd (cV v6)) e s) fun v7=>bP (pBin (bIdx 1) (cV v3) (cV v7) e) fun v8=>bP ((dLd (cV v8)) e s) fun v9=>.nrm (rw1 (u5 e v9) fun _ _ _ _ _ _ _ _ _ _ m n o p q r=>⟨v0,v1,v2,v3,v4,v5,v6,v7,v8,v9,m,n,o,p,q,r⟩) s
def p49_10:Res:=lt (g0 e) fun v0=>bP (pUn uChk (cV v0) e) fun v1=>bP (pUn (uFld 1) (cV v1) e) fun v2=>bP ((dLd (cV v2)) e s) fun v3=>bP (pBin (bI fAdd) (cV v3) (cV (.i 1)) e) fun v4=>bP (pUn uChk (cV v0) e) fun v5=>bP (pUn (uFld 1) (cV v5) e) fun v6=>bE (eSt 1 (cV v6) (cV v4) k e s) fun v7 s=>.nrm (u32 (ws1 e fun r=>{r with a10:=v0,a11:=v1,a12:=v2,a13:=v3,a14:=v4,a15:=v5}) v6) s
def p49_13:Den:=fun _ e s=>lt (g5 e) fun v0=>bP (pBin (bI fLt) (cV v0) (cV (.i 0)) e) fun v1=>.nrm (ws2 e fun r=>{r with a1:=v0,a2:=v1}) s
def p49_15:Den:=fun _ e s=>lt (g5 e) fun v0=>bP (pBin (bI fAdd) (cV v0) (cV (.i 1)) e) fun v1=>bP (pUn uNeg (cV v1) e) fun v2=>.nrm (ws2 (u5 e v2) fun r=>{r with a3:=v0,a4:=v1,a5:=v2}) s
def p49_17:Den:=fun _ e s=>lt (g5 e) fun v0=>lt (g1 e) fun v1=>bP (pBin rem64 (cV v0) (cV v1) e) fun v2=>.nrm (ws2 (u4 e v2) fun r=>{r with a6:=v0,a7:=v1,a8:=v2}) s
def p49_0:Res:=dSeq p49_1 (dSeq p49_3 (dSeq (dSeq p49_6 (dCond g15 (dSeq p49_9 p49_10) dSkip)) (dSeq (dSeq p49_13 (dCond g34 p49_15 dSkip)) (dSeq p49_17 dRet)))) k e s
def F49 : FDen := ⟨[u0, u1], p49_0, resV [rT g4]⟩
theorem low49 : lowFunc tt [] fok Try.f49 = some F49 := by kernel_rfl
theorem run49 : FRun Try.prog [] 49 F49 := FRun.of (lowFunc_ok ttOk fokOk mixed Try.func49 low49)
def p50_1:Den:=fun _ e s=>ltc (V.i 0) fun v0=>.nrm (u4 e v0) s
def p50_4:Den:=fun _ e s=>lt (g0 e) fun v0=>bP (pUn uLenS (cV v0) e) fun v1=>ltc (V.i 0) fun v2=>.nrm (ws0 e fun r=>{r with a6:=v0,a7:=v1,a8:=v2}) s
def p50_8:Den:=fun _ e s=>bP (pBin (bI fLt) g8 g7 e) fun v0=>.nrm (u9 e v0) s
def p50_14:Den:=fun _ e s=>lt (g8 e) fun v0=>.nrm (ws0 e fun r=>{r with a5:=v0,a10:=v0}) s
def p50_16:Res:=lt (g1 e) fun v0=>lt (g0 e) fun v1=>lt (g5 e) fun v2=>bP (pBin (bIdx 1) (cV v1) (cV v2) e) fun v3=>bP ((dLd (cV v3)) e s) fun v4=>bE (eCallV fok (cV v0) [cV v4] k e s) fun v5 s=>.nrm (u16 (ws0 e fun r=>{r with a11:=v0,a12:=v1,a13:=v2,a14:=v3,a15:=v4}) v5) s
def p50_19:Den:=fun _ e s=>lt (g5 e) fun v0=>.nrm (u17 (u4 e v0) v0) s
def p50_20:Den:=fun _ e s=>bP (pBin (bI fAdd) g8 (cV (.i 1)) e) fun v0=>.nrm (u18 (u8 e v0) v0) s
def p50_22:Den:=fun _ e s=>ltc (V.i (-1)) fun v0=>.nrm (u4 e v0) s
def p50_0:Res:=dSeq p50_1 (dSeq (dSeq p50_4 (dBlock 0 (dLoop (dSeq p50_8 (dSeq (dCond g9 dSkip (dExit 0)) (dSeq (dBlock 1 (dSeq p50_14 (dSeq p50_16 (dCond g16 (dSeq p50_19 dRet) dSkip)))) p50_20)))))) (dSeq p50_22 dRet)) k e s
def F50 : FDen := ⟨[u0, u1], p50_0, resV [rT g4]⟩
theorem low50 : lowFunc tt [] fok Try.f50 = some F50 := by kernel_rfl
theorem run50 : FRun Try.prog [] 50 F50 := FRun.of (lowFunc_ok ttOk fokOk mixed Try.func50 low50)
def p51_1:Den:=fun _ e s=>ltc (V.bool false) fun v0=>.nrm (u4 e v0) s
def p51_3:Res:=lt (g0 e) fun v0=>bE (eCall 45 [cV v0] k e s) fun v1 s=>bP (gdV v1 true (pMove g1 e)) fun v2=>bE (gdW v1 true s (eCall 45 [cV v2] k e s)) fun v3 s=>bP (gdV v1 true (pUn uNot (cV v3) e)) fun v4=>bP (pPick (cV v1) (cV v4) (cV (.bool false)) e) fun v5=>bP (gdV v5 false (pMove g0 e)) fun v6=>bP (gdV v5 false (pMove g1 e)) fun v7=>bP (gdV v5 false (pBin (bI fLt) (cV v6) (cV v7) e)) fun v8=>bP (pPick (cV v5) (cV (.bool true)) (cV v8) e) fun v9=>.nrm (u16 (rw0 e fun a b c d _ _ _ _ _ _ _ _ _ _ _ _=>⟨a,b,c,d,v9,v0,v1,v1,v2,v3,v4,v5,v5,v6,v7,v8⟩) v9) s
def p51_0:Res:=dSeq p51_1 (dSeq p51_3 dRet) k e s
def F51 : FDen := ⟨[u0, u1], p51_0, resV [rT g4]⟩
theorem low51 : lowFunc tt [] fok Try.f51 = some F51 := by kernel_rfl
theorem run51 : FRun Try.prog [] 51 F51 := FRun.of (lowFunc_ok ttOk fokOk mixed Try.func51 low51)
def p52_1:Den:=fun _ e s=>ltc (V.bool false) fun v0=>.nrm (u2 e v0) s
def p52_3:Den:=fun _ e s=>lt (g0 e) fun v0=>lt (g0 e) fun v1=>bP (pBin (bI fNe) (cV v0) (cV v1) e) fun v2=>.nrm (ws0 e fun r=>{r with a2:=v2,a3:=v0,a4:=v1,a5:=v2}) s
def p52_0:Res:=dSeq p52_1 (dSeq p52_3 dRet) k e s
def F52 : FDen := ⟨[u0], p52_0, resV [rT g2]⟩
theorem low52 : lowFunc tt [] fok Try.f52 = some F52 := by kernel_rfl
theorem run52 : FRun Try.prog [] 52 F52 := FRun.of (lowFunc_ok ttOk fokOk mixed Try.func52 low52)
def p64_1:Res:=lt (g0 e) fun v0=>lt (g0 e) fun v1=>bP (pUn uChk (cV v1) e) fun v2=>bP (pUn (uFld 2) (cV v2) e) fun v3=>bP ((dLd (cV v3)) e s) fun v4=>lt (g1 e) fun v5=>lt (g2 e) fun v6=>lt (g3 e) fun v7=>bP (pBuild [(.i 0), (.i 0), (.i 0), (.i 0)] [(1, 1, (cV v5)), (2, 1, (cV v6)), (3, 1, (cV v7))] e) fun v8=>bP (pBuild [(.i 0), (.i 0), (.i 0), (.i 0), (.i 0), (.i 0)] [(0, 4, (cV v8)), (4, 1, (cV (.i (-1)))), (5, 1, (cV (.i (-1))))] e) fun v9=>bE (aSt (aBSl 1 6 [(.i 0), (.i 0), (.i 0), (.i 0), (.i 0), (.i 0)] [(0, 6, (cV v9))] e s.next) s) fun v10 s=>bE (eApW 6 (cV v4) (cV v10) k e s) fun v11 s=>bP (pUn uChk (cV v0) e) fun v12=>bP (pUn (uFld 2) (cV v12) e) fun v13=>bE (eSt 1 (cV v13) (cV v11) k e s) fun v14 s=>.nrm (ws1 (ws0 e fun r=>{r with a8:=v0,a9:=v1,a10:=v2,a11:=v3,a12:=v4,a13:=v5,a14:=v6,a15:=v7}) fun r=>{r with a0:=v8,a1:=v9,a2:=v10,a3:=v11,a4:=v12,a5:=v13}) s
def p64_2:Res:=lt (g0 e) fun v0=>bP (pUn uChk (cV v0) e) fun v1=>bP (pUn (uFld 5) (cV v1) e) fun v2=>bP ((dLd (cV v2)) e s) fun v3=>bP (pBin (bI fSub) (cV v3) (cV (.i 1)) e) fun v4=>bP (pUn uChk (cV v0) e) fun v5=>bP (pUn (uFld 5) (cV v5) e) fun v6=>bE (eSt 1 (cV v6) (cV v4) k e s) fun v7 s=>.nrm (ws1 e fun r=>{r with a6:=v0,a7:=v1,a8:=v2,a9:=v3,a10:=v4,a11:=v5,a12:=v6}) s
def p64_0:Res:=dSeq p64_1 p64_2 k e s
def F64 : FDen := ⟨[u0, u1, u2, u3], p64_0, resV []⟩
theorem low64 : lowFunc tt [] fok Try.f64 = some F64 := by kernel_rfl
theorem run64 : FRun Try.prog [] 64 F64 := FRun.of (lowFunc_ok ttOk fokOk mixed Try.func64 low64)
def p65_2:Den:=fun _ e s=>lt (g1 e) fun v0=>.nrm (u10 e v0) s
def p65_5:Res:=lt (g0 e) fun v0=>lt (g3 e) fun v1=>bE (eCall 74 [cV v0,cV v1] k e s) fun v2 s=>.nrm (ws0 e fun r=>{r with a11:=v0,a12:=v1,a13:=v2}) s
def p65_7:Res:=lt (g0 e) fun v0=>bE (eCall 75 [cV v0] k e s) fun v1 s=>.nrm (ws0 e fun r=>{r with a8:=v1,a14:=v0,a15:=v1}) s
def p65_9:Den:=fun _ e s=>ltc (V.i 1) fun v0=>.nrm (u9 e v0) s
def p65_14:Den:=fun _ e s=>lt (g9 e) fun v0=>lt (g8 e) fun v1=>bP (pUn uLenS (cV v1) e) fun v2=>bP (pBin (bI fLt) (cV v0) (cV v2) e) fun v3=>.nrm (ws1 e fun r=>{r with a0:=v0,a1:=v1,a2:=v2,a3:=v3}) s
def p65_20:Den:=fun _ e s=>lt (g2 e) fun v0=>bP (pBin (bS fun a b=>some (.bool (eqL a b))) (cV v0) (cV (.str [103, 111])) e) fun v1=>bP (gdV v1 true (pMove g9 e)) fun v2=>bP (gdV v1 true (pBin (bI fEq) (cV v2) (cV (.i 1)) e)) fun v3=>bP (gdV v1 true (pMove (cV v3) e)) fun v4=>bP (gdV v4 false (pMove g9 e)) fun v5=>bP (gdV v4 false (pBin (bI fEq) (cV v5) (cV (.i 2)) e)) fun v6=>bP (gdV v1 true (pPick (cV v4) (cV (.bool true)) (cV v6) e)) fun v7=>bP (gdV v1 true (pMove (cV v7) e)) fun v8=>bP (gdV v8 false (pMove g9 e)) fun v9=>bP (gdV v8 false (pBin (bI fEq) (cV v9) (cV (.i 4)) e)) fun v10=>bP (gdV v1 true (pPick (cV v8) (cV (.bool true)) (cV v10) e)) fun v11=>bP (pPick (cV v1) (cV v11) (cV (.bool false)) e) fun v12=>bP (gdV v12 false (pMove g2 e)) fun v13=>bP (gdV v12 false (pBin (bS fun a b=>some (.bool (eqL a b))) (cV v13) (cV (.str [114, 117, 110])) e)) fun v14=>bP (gdV v12 false (pMove (cV v14) e)) fun v15=>bP (gdV v15 true (pMove g9 e)) fun v16=>bP (gdV v15 true (pBin (bI fEq) (cV v16) (cV (.i 1)) e)) fun v17=>bP (gdV v15 true (pMove (cV v17) e)) fun v18=>bP (gdV v18 false (pMove g9 e)) fun v19=>bP (gdV v18 false (pBin (bI fEq) (cV v19) (cV (.i 8)) e)) fun v20=>bP (gdV v15 true (pPick (cV v18) (cV (.bool true)) (cV v20) e)) fun v21=>bP (gdV v12 false (pPick (cV v15) (cV v21) (cV (.bool false)) e)) fun v22=>bP (pPick (cV v12) (cV (.bool true)) (cV v22) e) fun v23=>.nrm (rw2 (rw1 e fun a b c d f g _ _ _ _ _ _ _ _ _ _=>⟨a,b,c,d,f,g,v0,v1,v1,v2,v3,v4,v5,v6,v7,v8⟩) fun _ _ _ _ _ _ _ _ _ _ _ _ _ _ _ _=>⟨v9,v10,v11,v12,v12,v13,v14,v15,v16,v17,v18,v19,v20,v21,v22,v23⟩) s
def p65_23:Den:=fun _ e s=>lt (g8 e) fun v0=>lt (g9 e) fun v1=>bP (pBin (bIdx 1) (cV v0) (cV v1) e) fun v2=>bP ((dLd (cV v2)) e s) fun v3=>bP (pBin (bS fun a b=>some (.bool (eqL a b))) (cV v3) (cV (.str [73])) e) fun v4=>.nrm (ws3 e fun r=>{r with a0:=v0,a1:=v1,a2:=v2,a3:=v3,a4:=v4}) s
def p65_26:Res:=lt (g0 e) fun v0=>bE (eCall 64 [(cV v0), (cV (.i 3)), (cV (.i 0)), (cV (.i 0))] k e s) fun v1 s=>.nrm (ws3 e fun r=>{r with a5:=v0,a6:=v1}) s
def p65_27:Res:=lt (g0 e) fun v0=>lt (g9 e) fun v1=>bE (eCall 64 [(cV v0), (cV (.i 54)), (cV v1), (cV (.i 0))] k e s) fun v2 s=>.nrm (ws3 e fun r=>{r with a7:=v0,a8:=v1,a9:=v2}) s
def p65_29:Res:=lt (g0 e) fun v0=>bE (eCall 64 [(cV v0), (cV (.i 1)), (cV (.i 0)), (cV (.i 0))] k e s) fun v1 s=>.nrm (ws3 e fun r=>{r with a10:=v0,a11:=v1}) s
def p65_30:Res:=lt (g0 e) fun v0=>lt (g9 e) fun v1=>bE (eCall 64 [(cV v0), (cV (.i 58)), (cV v1), (cV (.i 0))] k e s) fun v2 s=>.nrm (ws3 e fun r=>{r with a12:=v0,a13:=v1,a14:=v2}) s
def p65_31:Den:=fun _ e s=>lt (g9 e) fun v0=>bP (pBin (bI fAdd) (cV v0) (cV (.i 1)) e) fun v1=>.nrm (ws1 (u9 e v1) fun r=>{r with a4:=v0,a5:=v1}) s
def p65_16:Res:=dSeq (dBlock 1 (dSeq (dSeq p65_20 (dCond g47 (dExit 1) dSkip)) (dSeq p65_23 (dCond g52 (dSeq p65_26 p65_27) (dSeq p65_29 p65_30))))) p65_31 k e s
def p65_0:Res:=dSeq (dSeq p65_2 (dCond g10 (dSeq p65_5 dRet) dSkip)) (dSeq p65_7 (dSeq p65_9 (dBlock 0 (dLoop (dSeq (dSeq p65_14 (dCond g19 dSkip (dExit 0))) p65_16))))) k e s
def F65 : FDen := ⟨[u0, u1, u2, u3], p65_0, resV []⟩
theorem low65 : lowFunc tt [] fok Try.f65 = some F65 := by kernel_rfl
theorem run65 : FRun Try.prog [] 65 F65 := FRun.of (lowFunc_ok ttOk fokOk mixed Try.func65 low65)
def p66_1:Res:=lt (g0 e) fun v0=>bP (pUn uChk (cV v0) e) fun v1=>bP (pUn (uFld 0) (cV v1) e) fun v2=>bP ((dLd (cV v2)) e s) fun v3=>lt (g1 e) fun v4=>bE (eCall 49 [cV v3,cV v4] k e s) fun v5 s=>bP (pBin (bI fAdd) (cV (.i 1)) (cV v5) e) fun v6=>.nrm (ws0 e fun r=>{r with a4:=v6,a5:=v0,a6:=v1,a7:=v2,a8:=v3,a9:=v4,a10:=v5,a11:=v6}) s
def p66_6:Den:=fun _ e s=>lt (g4 e) fun v0=>bP (pBin (bI fGt) (cV v0) (cV (.i 0)) e) fun v1=>bP (gdV v1 true (pMove g0 e)) fun v2=>bP (gdV v1 true (pUn uChk (cV v2) e)) fun v3=>bP (gdV v1 true (pUn (uFld 5) (cV v3) e)) fun v4=>bP (gdV v1 true ((dLd (cV v4)) e s)) fun v5=>bP (gdV v1 true (pBin (bI fGt) (cV v5) (cV (.i 25)) e)) fun v6=>bP (pPick (cV v1) (cV v6) (cV (.bool false)) e) fun v7=>.nrm (ws1 (ws0 e fun r=>{r with a12:=v0,a13:=v1,a14:=v1,a15:=v2}) fun r=>{r with a0:=v3,a1:=v4,a2:=v5,a3:=v6,a4:=v7}) s
def p66_10:Res:=lt (g0 e) fun v0=>bE (eCall 76 [cV v0] k e s) fun v1 s=>.nrm (ws1 e fun r=>{r with a7:=v0,a8:=v1}) s
def p66_11:Den:=fun _ e s=>lt (g4 e) fun v0=>bP (pBin (bI fSub) (cV v0) (cV (.i 1)) e) fun v1=>.nrm (ws1 (u4 e v1) fun r=>{r with a5:=v0,a6:=v1}) s
def p66_0:Res:=dSeq p66_1 (dBlock 0 (dLoop (dSeq (dSeq p66_6 (dCond g20 dSkip (dExit 0))) (dSeq (dBlock 1 p66_10) p66_11)))) k e s
def F66 : FDen := ⟨[u0, u1], p66_0, resV []⟩
theorem low66 : lowFunc tt [] fok Try.f66 = some F66 := by kernel_rfl
theorem run66 : FRun Try.prog [] 66 F66 := FRun.of (lowFunc_ok ttOk fokOk mixed Try.func66 low66)
def p67_1:Res:=lt (g0 e) fun v0=>bP (pUn uChk (cV v0) e) fun v1=>bP (pUn (uFld 0) (cV v1) e) fun v2=>bP ((dLd (cV v2)) e s) fun v3=>bE (eCall 49 [(cV v3), (cV (.i 12))] k e s) fun v4 s=>.nrm (ws0 e fun r=>{r with a4:=v4,a5:=v0,a6:=v1,a7:=v2,a8:=v3,a9:=v4}) s
def p67_4:Den:=fun _ e s=>lt (g1 e) fun v0=>bP (pBin (bI fLe) (cV v0) (cV (.i 0)) e) fun v1=>bP (gdV v1 false (pMove g0 e)) fun v2=>bP (gdV v1 false (pUn uChk (cV v2) e)) fun v3=>bP (gdV v1 false (pUn (uFld 5) (cV v3) e)) fun v4=>bP (gdV v1 false ((dLd (cV v4)) e s)) fun v5=>bP (gdV v1 false (pBin (bI fLt) (cV v5) (cV (.i 20)) e)) fun v6=>bP (pPick (cV v1) (cV (.bool true)) (cV v6) e) fun v7=>.nrm (ws1 (ws0 e fun r=>{r with a10:=v0,a11:=v1,a12:=v1,a13:=v2,a14:=v3,a15:=v4}) fun r=>{r with a0:=v5,a1:=v6,a2:=v7}) s
def p67_6:Den:=fun _ e s=>lt (g4 e) fun v0=>bP (pBin rem64 (cV v0) (cV (.i 3)) e) fun v1=>.nrm (ws1 (u4 e v1) fun r=>{r with a3:=v0,a4:=v1}) s
def p67_9:Den:=fun _ e s=>lt (g0 e) fun v0=>bP (pUn uChk (cV v0) e) fun v1=>bP (pUn (uFld 4) (cV v1) e) fun v2=>bP ((dLd (cV v2)) e s) fun v3=>bP (gdV v3 true (pMove g4 e)) fun v4=>bP (gdV v3 true (pBin (bI fGt) (cV v4) (cV (.i 6)) e)) fun v5=>bP (pPick (cV v3) (cV v5) (cV (.bool false)) e) fun v6=>.nrm (ws1 e fun r=>{r with a5:=v0,a6:=v1,a7:=v2,a8:=v3,a9:=v3,a10:=v4,a11:=v5,a12:=v6}) s
def p67_11:Den:=fun _ e s=>lt (g4 e) fun v0=>bP (pBin rem64 (cV v0) (cV (.i 7)) e) fun v1=>.nrm (ws1 (u4 e v1) fun r=>{r with a13:=v0,a14:=v1}) s
def p67_13:Den:=fun _ e s=>lt (g4 e) fun v0=>.nrm (u31 e v0) s
def p67_16:Den:=fun _ e s=>bP (pBin (bI fEq) g31 (cV (.i 0)) e) fun v0=>.nrm (ws2 e fun r=>{r with a0:=v0,a1:=v0}) s
def p67_18:Res:=lt (g0 e) fun v0=>lt (g0 e) fun v1=>bP (pUn uChk (cV v1) e) fun v2=>bP (pUn (uFld 0) (cV v2) e) fun v3=>bP ((dLd (cV v3)) e s) fun v4=>bE (eCall 49 [(cV v4), (cV (.i 6))] k e s) fun v5 s=>bP (pBin (bI fAdd) (cV (.i 3)) (cV v5) e) fun v6=>bE (eCall 64 [(cV v0), (cV v6), (cV (.i 0)), (cV (.i 0))] k e s) fun v7 s=>.nrm (ws2 e fun r=>{r with a2:=v0,a3:=v1,a4:=v2,a5:=v3,a6:=v4,a7:=v5,a8:=v6,a9:=v7}) s
def p67_20:Den:=fun _ e s=>bP (pBin (bI fEq) g31 (cV (.i 1)) e) fun v0=>.nrm (ws2 e fun r=>{r with a10:=v0,a11:=v0}) s
def p67_22:Res:=lt (g0 e) fun v0=>lt (g0 e) fun v1=>bP (pUn uChk (cV v1) e) fun v2=>bP (pUn (uFld 0) (cV v2) e) fun v3=>bP ((dLd (cV v3)) e s) fun v4=>bE (eCall 49 [(cV v4), (cV (.i 4))] k e s) fun v5 s=>bE (eCall 64 [(cV v0), (cV (.i 21)), (cV v5), (cV (.i 0))] k e s) fun v6 s=>.nrm (ws3 (ws2 e fun r=>{r with a12:=v0,a13:=v1,a14:=v2,a15:=v3}) fun r=>{r with a0:=v4,a1:=v5,a2:=v6}) s
def p67_24:Den:=fun _ e s=>bP (pBin (bI fEq) g31 (cV (.i 2)) e) fun v0=>.nrm (ws3 e fun r=>{r with a3:=v0,a4:=v0}) s
def p67_26:Res:=lt (g0 e) fun v0=>lt (g0 e) fun v1=>bP (pUn uChk (cV v1) e) fun v2=>bP (pUn (uFld 0) (cV v2) e) fun v3=>bP ((dLd (cV v3)) e s) fun v4=>bE (eCall 49 [(cV v4), (cV (.i 2000))] k e s) fun v5 s=>bP (pBin (bI fSub) (cV v5) (cV (.i 1000)) e) fun v6=>bE (eCall 64 [(cV v0), (cV (.i 17)), (cV v6), (cV (.i 0))] k e s) fun v7 s=>.nrm (ws3 e fun r=>{r with a5:=v0,a6:=v1,a7:=v2,a8:=v3,a9:=v4,a10:=v5,a11:=v6,a12:=v7}) s
def p67_29:Den:=fun _ e s=>bP (pBin (bI fEq) g31 (cV (.i 3)) e) fun v0=>.nrm (ws3 e fun r=>{r with a13:=v0,a14:=v0}) s
def p67_31:Den:=fun _ e s=>bP (pBin (bI fEq) g31 (cV (.i 4)) e) fun v0=>.nrm (ws3 e fun r=>{r with a13:=v0,a15:=v0}) s
def p67_34:Res:=lt (g0 e) fun v0=>lt (g1 e) fun v1=>bP (pBin (bI fSub) (cV v1) (cV (.i 1)) e) fun v2=>bE (eCall 67 [cV v0,cV v2] k e s) fun v3 s=>.nrm (ws4 e fun r=>{r with a0:=v0,a1:=v1,a2:=v2,a3:=v3}) s
def p67_36:Res:=lt (g0 e) fun v0=>lt (g1 e) fun v1=>bP (pBin (bI fSub) (cV v1) (cV (.i 1)) e) fun v2=>bE (eCall 67 [cV v0,cV v2] k e s) fun v3 s=>.nrm (ws4 e fun r=>{r with a4:=v0,a5:=v1,a6:=v2,a7:=v3}) s
def p67_37:Res:=lt (g0 e) fun v0=>bE (aSt (aBSl 11 1 [(.i 0), (.i 0), (.i 0), (.i 0), (.i 0), (.i 0), (.i 0), (.i 0), (.i 0), (.i 0), (.i 0)] [(0, 1, (cV (.i 96))), (1, 1, (cV (.i 100))), (2, 1, (cV (.i 104))), (3, 1, (cV (.i 108))), (4, 1, (cV (.i 112))), (5, 1, (cV (.i 120))), (6, 1, (cV (.i 122))), (7, 1, (cV (.i 124))), (8, 1, (cV (.i 126))), (9, 1, (cV (.i 128))), (10, 1, (cV (.i 130)))] e s.next) s) fun v1 s=>lt (g0 e) fun v2=>bP (pUn uChk (cV v2) e) fun v3=>bP (pUn (uFld 0) (cV v3) e) fun v4=>bP ((dLd (cV v4)) e s) fun v5=>bE (eCall 49 [(cV v5), (cV (.i 11))] k e s) fun v6 s=>bP (pBin (bIdx 1) (cV v1) (cV v6) e) fun v7=>bP ((dLd (cV v7)) e s) fun v8=>bE (eCall 64 [(cV v0), (cV v8), (cV (.i 0)), (cV (.i 0))] k e s) fun v9 s=>.nrm (ws5 (ws4 e fun r=>{r with a8:=v0,a9:=v1,a10:=v2,a11:=v3,a12:=v4,a13:=v5,a14:=v6,a15:=v7}) fun r=>{r with a0:=v8,a1:=v9}) s
def p67_39:Den:=fun _ e s=>bP (pBin (bI fEq) g31 (cV (.i 5)) e) fun v0=>.nrm (ws5 e fun r=>{r with a2:=v0,a3:=v0}) s
def p67_42:Res:=lt (g0 e) fun v0=>lt (g1 e) fun v1=>bP (pBin (bI fSub) (cV v1) (cV (.i 1)) e) fun v2=>bE (eCall 67 [cV v0,cV v2] k e s) fun v3 s=>.nrm (ws5 e fun r=>{r with a4:=v0,a5:=v1,a6:=v2,a7:=v3}) s
def p67_43:Res:=lt (g0 e) fun v0=>bE (eCall 64 [(cV v0), (cV (.i 116)), (cV (.i 0)), (cV (.i 0))] k e s) fun v1 s=>.nrm (ws5 e fun r=>{r with a8:=v0,a9:=v1}) s
def p67_45:Den:=fun _ e s=>bP (pBin (bI fEq) g31 (cV (.i 6)) e) fun v0=>.nrm (ws5 e fun r=>{r with a10:=v0,a11:=v0}) s
def p67_47:Res:=lt (g0 e) fun v0=>lt (g0 e) fun v1=>bE (aSt (aBSl 4 1 [(.int .i32 0), (.int .i32 0), (.int .i32 0), (.int .i32 0)] [(0, 1, (cV (.int .i32 1073741824))), (1, 1, (cV (.int .i32 (-2147483648)))), (2, 1, (cV (.int .i32 2147483647))), (3, 1, (cV (.int .i32 77)))] e s.next) s) fun v2 s=>lt (g0 e) fun v3=>bP (pUn uChk (cV v3) e) fun v4=>bP (pUn (uFld 0) (cV v4) e) fun v5=>bP ((dLd (cV v5)) e s) fun v6=>bE (eCall 49 [(cV v6), (cV (.i 4))] k e s) fun v7 s=>bP (pBin (bIdx 1) (cV v2) (cV v7) e) fun v8=>bP ((dLd (cV v8)) e s) fun v9=>bP (pBuild [(.i 0), (.int .i32 0), (.str []), (.str []), (.str [])] [(0, 1, (cV (.i 3))), (1, 1, (cV v9))] e) fun v10=>bE (eCall 77 [cV v1,cV v10] k e s) fun v11 s=>bE (eCall 64 [(cV v0), (cV (.i 18)), (cV v11), (cV (.i 0))] k e s) fun v12 s=>.nrm (ws6 (ws5 e fun r=>{r with a12:=v0,a13:=v1,a14:=v2,a15:=v3}) fun r=>{r with a0:=v4,a1:=v5,a2:=v6,a3:=v7,a4:=v8,a5:=v9,a6:=v10,a7:=v11,a8:=v12}) s
def p67_49:Den:=fun _ e s=>bP (pBin (bI fEq) g31 (cV (.i 7)) e) fun v0=>.nrm (ws6 e fun r=>{r with a9:=v0,a10:=v0}) s
def p67_52:Res:=lt (g0 e) fun v0=>lt (g1 e) fun v1=>bP (pBin (bI fSub) (cV v1) (cV (.i 1)) e) fun v2=>bE (eCall 78 [cV v0,cV v2] k e s) fun v3 s=>.nrm (ws6 e fun r=>{r with a11:=v0,a12:=v1,a13:=v2,a14:=v3}) s
def p67_53:Res:=lt (g0 e) fun v0=>lt (g0 e) fun v1=>bE (eCall 79 [(cV v1), (cV (.str [65])), (cV (.str [120])), (cV (.str [73]))] k e s) fun v2 s=>bE (eCall 64 [(cV v0), (cV (.i 180)), (cV v2), (cV (.i 0))] k e s) fun v3 s=>.nrm (ws7 (u111 e v0) fun r=>{r with a0:=v1,a1:=v2,a2:=v3}) s
def p67_55:Den:=fun _ e s=>bP (pBin (bI fEq) g31 (cV (.i 8)) e) fun v0=>.nrm (ws7 e fun r=>{r with a3:=v0,a4:=v0}) s
def p67_58:Res:=lt (g0 e) fun v0=>bE (eCall 64 [(cV v0), (cV (.i 25)), (cV (.i 6)), (cV (.i 0))] k e s) fun v1 s=>.nrm (ws7 e fun r=>{r with a5:=v0,a6:=v1}) s
def p67_60:Res:=lt (g0 e) fun v0=>lt (g1 e) fun v1=>bP (pBin (bI fSub) (cV v1) (cV (.i 1)) e) fun v2=>bE (eCall 67 [cV v0,cV v2] k e s) fun v3 s=>.nrm (ws7 e fun r=>{r with a7:=v0,a8:=v1,a9:=v2,a10:=v3}) s
def p67_61:Res:=lt (g0 e) fun v0=>bE (eCall 64 [(cV v0), (cV (.i 46)), (cV (.i 0)), (cV (.i 0))] k e s) fun v1 s=>.nrm (ws7 e fun r=>{r with a11:=v0,a12:=v1}) s
def p67_63:Den:=fun _ e s=>bP (pBin (bI fEq) g31 (cV (.i 9)) e) fun v0=>.nrm (ws7 e fun r=>{r with a13:=v0,a14:=v0}) s
def p67_66:Res:=lt (g0 e) fun v0=>lt (g1 e) fun v1=>bP (pBin (bI fSub) (cV v1) (cV (.i 1)) e) fun v2=>bE (eCall 67 [cV v0,cV v2] k e s) fun v3 s=>.nrm (ws8 (u127 e v0) fun r=>{r with a0:=v1,a1:=v2,a2:=v3}) s
def p67_68:Res:=lt (g0 e) fun v0=>lt (g1 e) fun v1=>bP (pBin (bI fSub) (cV v1) (cV (.i 1)) e) fun v2=>bE (eCall 67 [cV v0,cV v2] k e s) fun v3 s=>.nrm (ws8 e fun r=>{r with a3:=v0,a4:=v1,a5:=v2,a6:=v3}) s
def p67_69:Res:=lt (g0 e) fun v0=>lt (g0 e) fun v1=>bE (eCall 80 [(cV v1), (cV (.str [77, 97, 105, 110])), (cV (.str [99, 97, 108, 99])), (cV (.str [40, 73, 73, 41, 73]))] k e s) fun v2 s=>bE (eCall 64 [(cV v0), (cV (.i 184)), (cV v2), (cV (.i 0))] k e s) fun v3 s=>.nrm (ws8 e fun r=>{r with a7:=v0,a8:=v1,a9:=v2,a10:=v3}) s
def p67_71:Den:=fun _ e s=>bP (pBin (bI fEq) g31 (cV (.i 10)) e) fun v0=>.nrm (ws8 e fun r=>{r with a11:=v0,a12:=v0}) s
def p67_74:Res:=lt (g0 e) fun v0=>lt (g1 e) fun v1=>bP (pBin (bI fSub) (cV v1) (cV (.i 1)) e) fun v2=>bE (eCall 78 [cV v0,cV v2] k e s) fun v3 s=>.nrm (u144 (ws8 e fun r=>{r with a13:=v0,a14:=v1,a15:=v2}) v3) s
def p67_76:Res:=lt (g0 e) fun v0=>lt (g1 e) fun v1=>bP (pBin (bI fSub) (cV v1) (cV (.i 1)) e) fun v2=>bE (eCall 67 [cV v0,cV v2] k e s) fun v3 s=>.nrm (ws9 e fun r=>{r with a1:=v0,a2:=v1,a3:=v2,a4:=v3}) s
def p67_77:Res:=lt (g0 e) fun v0=>lt (g0 e) fun v1=>bE (eCall 80 [(cV v1), (cV (.str [65])), (cV (.str [103, 111])), (cV (.str [40, 73, 41, 73]))] k e s) fun v2 s=>bE (eCall 64 [(cV v0), (cV (.i 182)), (cV v2), (cV (.i 0))] k e s) fun v3 s=>.nrm (ws9 e fun r=>{r with a5:=v0,a6:=v1,a7:=v2,a8:=v3}) s
def p67_79:Den:=fun _ e s=>bP (pBin (bI fEq) g31 (cV (.i 11)) e) fun v0=>.nrm (ws9 e fun r=>{r with a9:=v0,a10:=v0}) s
def p67_82:Res:=lt (g0 e) fun v0=>lt (g1 e) fun v1=>bP (pBin (bI fSub) (cV v1) (cV (.i 1)) e) fun v2=>bE (eCall 78 [cV v0,cV v2] k e s) fun v3 s=>.nrm (ws9 e fun r=>{r with a11:=v0,a12:=v1,a13:=v2,a14:=v3}) s
def p67_83:Res:=lt (g0 e) fun v0=>lt (g0 e) fun v1=>bE (aSt (aBSl 3 1 [(.str []), (.str []), (.str [])] [(0, 1, (cV (.str [65]))), (1, 1, (cV (.str [66]))), (2, 1, (cV (.str [79, 98, 106, 101, 99, 116])))] e s.next) s) fun v2 s=>lt (g0 e) fun v3=>bP (pUn uChk (cV v3) e) fun v4=>bP (pUn (uFld 0) (cV v4) e) fun v5=>bP ((dLd (cV v5)) e s) fun v6=>bE (eCall 49 [(cV v6), (cV (.i 3))] k e s) fun v7 s=>bP (pBin (bIdx 1) (cV v2) (cV v7) e) fun v8=>bP ((dLd (cV v8)) e s) fun v9=>bE (eCall 81 [cV v1,cV v9] k e s) fun v10 s=>bE (eCall 64 [(cV v0), (cV (.i 193)), (cV v10), (cV (.i 0))] k e s) fun v11 s=>.nrm (rw10 (u159 e v0) fun _ _ _ _ _ _ _ _ _ _ _ n o p q r=>⟨v1,v2,v3,v4,v5,v6,v7,v8,v9,v10,v11,n,o,p,q,r⟩) s
def p67_12:Res:=dSeq p67_13 (dBlock 0 (dSeq p67_16 (dCond g32 p67_18 (dSeq p67_20 (dCond g42 p67_22 (dSeq p67_24 (dCond g51 p67_26 (dSeq (dSeq p67_29 (dCond g61 dSkip p67_31)) (dCond g61 (dSeq p67_34 (dSeq p67_36 p67_37)) (dSeq p67_39 (dCond g82 (dSeq p67_42 p67_43) (dSeq p67_45 (dCond g90 p67_47 (dSeq p67_49 (dCond g105 (dSeq p67_52 p67_53) (dSeq p67_55 (dCond g115 (dSeq p67_58 (dSeq p67_60 p67_61)) (dSeq p67_63 (dCond g125 (dSeq p67_66 (dSeq p67_68 p67_69)) (dSeq p67_71 (dCond g139 (dSeq p67_74 (dSeq p67_76 p67_77)) (dSeq p67_79 (dCond g153 (dSeq p67_82 p67_83) dSkip))))))))))))))))))))))) k e s
def p67_7:Res:=dSeq (dSeq p67_9 (dCond g28 p67_11 dSkip)) p67_12 k e s
def p67_0:Res:=dSeq p67_1 (dSeq (dSeq p67_4 (dCond g18 p67_6 dSkip)) p67_7) k e s
def F67 : FDen := ⟨[u0, u1], p67_0, resV []⟩
theorem low67 : lowFunc tt [] fok Try.f67 = some F67 := by kernel_rfl
theorem run67 : FRun Try.prog [] 67 F67 := FRun.of (lowFunc_ok ttOk fokOk mixed Try.func67 low67)
def p68_1:Den:=fun _ e s=>bE (aSt (aAl 9 (ofL [(.str []), (.str []), (.bool false), (.bool false), (.i 0), (.i 0), .nils, .nils, .nils]) e s.next) s) fun v0 s=>.nrm (u8 e v0) s
def p68_3:Den:=fun _ e s=>lt (g0 e) fun v0=>bP (pUn uChk (cV v0) e) fun v1=>bP (pUn (uFld 3) (cV v1) e) fun v2=>bP ((dLd (cV v2)) e s) fun v3=>bE (aSt (aMkS 1 8 [(.i 0)] (cV v3) (cV v3) e s.next) s) fun v4 s=>.nrm (ws1 (u9 e v4) fun r=>{r with a2:=v0,a3:=v1,a4:=v2,a5:=v3,a6:=v4}) s
def p68_5:Den:=fun _ e s=>ltc (V.i 0) fun v0=>.nrm (u10 e v0) s
def p68_8:Den:=fun _ e s=>ltc (V.i 0) fun v0=>.nrm (u11 e v0) s
def p68_13:Den:=fun _ e s=>lt (g11 e) fun v0=>lt (g0 e) fun v1=>bP (pUn uChk (cV v1) e) fun v2=>bP (pUn (uFld 2) (cV v2) e) fun v3=>bP ((dLd (cV v3)) e s) fun v4=>bP (pUn uLenS (cV v4) e) fun v5=>bP (pBin (bI fLt) (cV v0) (cV v5) e) fun v6=>.nrm (ws1 e fun r=>{r with a7:=v0,a8:=v1,a9:=v2,a10:=v3,a11:=v4,a12:=v5,a13:=v6}) s
def p68_19:Den:=fun _ e s=>lt (g0 e) fun v0=>bP (pUn uChk (cV v0) e) fun v1=>bP (pUn (uFld 2) (cV v1) e) fun v2=>bP ((dLd (cV v2)) e s) fun v3=>lt (g11 e) fun v4=>bP (pBin (bIdx 6) (cV v3) (cV v4) e) fun v5=>bP (pUn (uFld 5) (cV v5) e) fun v6=>bP ((dLd (cV v6)) e s) fun v7=>bP (pBin (bI fGe) (cV v7) (cV (.i 0)) e) fun v8=>.nrm (ws2 e fun r=>{r with a0:=v0,a1:=v1,a2:=v2,a3:=v3,a4:=v4,a5:=v5,a6:=v6,a7:=v7,a8:=v8}) s
def p68_22:Res:=lt (g9 e) fun v0=>lt (g0 e) fun v1=>bP (pUn uChk (cV v1) e) fun v2=>bP (pUn (uFld 2) (cV v2) e) fun v3=>bP ((dLd (cV v3)) e s) fun v4=>lt (g11 e) fun v5=>bP (pBin (bIdx 6) (cV v4) (cV v5) e) fun v6=>bP (pUn (uFld 5) (cV v6) e) fun v7=>bP ((dLd (cV v7)) e s) fun v8=>lt (g10 e) fun v9=>bP (pBin (bIdx 1) (cV v0) (cV v8) e) fun v10=>bE (eSt 1 (cV v10) (cV v9) k e s) fun v11 s=>.nrm (ws3 (ws2 e fun r=>{r with a9:=v0,a10:=v1,a11:=v2,a12:=v3,a13:=v4,a14:=v5,a15:=v6}) fun r=>{r with a0:=v7,a1:=v8,a2:=v9,a3:=v10}) s
def p68_23:Res:=lt (g10 e) fun v0=>lt (g0 e) fun v1=>bP (pUn uChk (cV v1) e) fun v2=>bP (pUn (uFld 2) (cV v2) e) fun v3=>bP ((dLd (cV v3)) e s) fun v4=>lt (g11 e) fun v5=>bP (pBin (bIdx 6) (cV v4) (cV v5) e) fun v6=>bP (pUn (uFld 0) (cV v6) e) fun v7=>bP (pUn (uFld 1) (cV v7) e) fun v8=>bP ((dLd (cV v8)) e s) fun v9=>bE (eCall 46 [cV v9] k e s) fun v10 s=>bP (pBin (bI fAdd) (cV v0) (cV v10) e) fun v11=>.nrm (rw3 (u10 e v11) fun a b c d _ _ _ _ _ _ _ _ _ _ _ _=>⟨a,b,c,d,v0,v1,v2,v3,v4,v5,v6,v7,v8,v9,v10,v11⟩) s
def p68_24:Den:=fun _ e s=>lt (g11 e) fun v0=>bP (pBin (bI fAdd) (cV v0) (cV (.i 1)) e) fun v1=>.nrm (ws1 (u11 e v1) fun r=>{r with a14:=v0,a15:=v1}) s
def p68_26:Den:=fun _ e s=>ltc (V.nils) fun v0=>.nrm (u12 e v0) s
def p68_28:Den:=fun _ e s=>ltc (V.i 0) fun v0=>.nrm (u10 e v0) s
def p68_30:Res:=lt (g1 e) fun v0=>lt (g2 e) fun v1=>lt (g3 e) fun v2=>lt (g0 e) fun v3=>bE (eCall 75 [cV v3] k e s) fun v4 s=>bP (pUn uLenS (cV v4) e) fun v5=>bP (pBuild [(.str []), (.str []), (.bool false), (.bool false), (.i 0), (.i 0), .nils, .nils, .nils] [(0, 1, (cV v0)), (1, 1, (cV v1)), (2, 1, (cV v2)), (4, 1, (cV (.i 16))), (5, 1, (cV v5))] e) fun v6=>bE (aSt (aAl 9 (ofL [(.str []), (.str []), (.bool false), (.bool false), (.i 0), (.i 0), .nils, .nils, .nils]) e s.next) s) fun v7 s=>bE (eSt 9 (cV v7) (cV v6) k e s) fun v8 s=>.nrm (ws4 (u13 e v7) fun r=>{r with a0:=v0,a1:=v1,a2:=v2,a3:=v3,a4:=v4,a5:=v5,a6:=v6}) s
def p68_33:Den:=fun _ e s=>ltc (V.i 0) fun v0=>.nrm (u14 e v0) s
def p68_38:Den:=fun _ e s=>lt (g14 e) fun v0=>lt (g0 e) fun v1=>bP (pUn uChk (cV v1) e) fun v2=>bP (pUn (uFld 2) (cV v2) e) fun v3=>bP ((dLd (cV v3)) e s) fun v4=>bP (pUn uLenS (cV v4) e) fun v5=>bP (pBin (bI fLt) (cV v0) (cV v5) e) fun v6=>.nrm (ws4 e fun r=>{r with a7:=v0,a8:=v1,a9:=v2,a10:=v3,a11:=v4,a12:=v5,a13:=v6}) s
def p68_43:Res:=lt (g0 e) fun v0=>bP (pUn uChk (cV v0) e) fun v1=>bP (pUn (uFld 2) (cV v1) e) fun v2=>bP ((dLd (cV v2)) e s) fun v3=>lt (g14 e) fun v4=>bP (pBin (bIdx 6) (cV v3) (cV v4) e) fun v5=>bP ((dLdN 6 (cV v5)) e s) fun v6=>bE (aSt (aAl 6 (ofL [(.i 0), (.i 0), (.i 0), (.i 0), (.i 0), (.i 0)]) e s.next) s) fun v7 s=>bE (eSt 6 (cV v7) (cV v6) k e s) fun v8 s=>.nrm (ws5 (u15 e v7) fun r=>{r with a0:=v0,a1:=v1,a2:=v2,a3:=v3,a4:=v4,a5:=v5,a6:=v6}) s
def p68_46:Den:=fun _ e s=>bP (pUn (uFld 5) g15 e) fun v0=>bP ((dLd (cV v0)) e s) fun v1=>bP (pBin (bI fGe) (cV v1) (cV (.i 0)) e) fun v2=>.nrm (ws5 e fun r=>{r with a7:=v0,a8:=v1,a9:=v2}) s
def p68_49:Res:=dDraw [⟨none, (.p (pUn (uFld 8) g13)), u90⟩, ⟨none, (.d 0 2 (dLd g90)), u91⟩, ⟨none, (.p (pMove g10)), u92⟩, ⟨none, (.p (pMove g0)), u93⟩, ⟨none, (.e (eCall 75 [g93])), u94⟩, ⟨none, (.p (pMove g0)), u95⟩, ⟨none, (.p (pUn (uFld 5) g15)), u96⟩, ⟨none, (.d 0 1 (dLd g96)), u97⟩, ⟨none, (.e (eCall 83 [g95, g97])), u98⟩, ⟨none, (.e (eCall 82 [g91, g92, g94, g98])), u99⟩, ⟨none, (.p (pUn (uFld 8) g13)), u100⟩, ⟨none, (.e (eSt 1 g100 g99)), uNone⟩] k e s
def p68_51:Res:=lt (g10 e) fun v0=>bP (pUn (uFld 0) g15 e) fun v1=>bP (pUn (uFld 0) (cV v1) e) fun v2=>bE (eSt 1 (cV v2) (cV v0) k e s) fun v3 s=>.nrm (ws6 e fun r=>{r with a5:=v0,a6:=v1,a7:=v2}) s
def p68_54:Den:=fun _ e s=>bP (pUn (uFld 4) g15 e) fun v0=>bP ((dLd (cV v0)) e s) fun v1=>bP (pBin (bI fGe) (cV v1) (cV (.i 0)) e) fun v2=>.nrm (ws6 e fun r=>{r with a8:=v0,a9:=v1,a10:=v2}) s
def p68_56:Res:=lt (g9 e) fun v0=>bP (pUn (uFld 4) g15 e) fun v1=>bP ((dLd (cV v1)) e s) fun v2=>bP (pBin (bIdx 1) (cV v0) (cV v2) e) fun v3=>bP ((dLd (cV v3)) e s) fun v4=>bP (pUn (uFld 0) g15 e) fun v5=>bP (pUn (uFld 2) (cV v5) e) fun v6=>bE (eSt 1 (cV v6) (cV v4) k e s) fun v7 s=>.nrm (ws7 (ws6 e fun r=>{r with a11:=v0,a12:=v1,a13:=v2,a14:=v3,a15:=v4}) fun r=>{r with a0:=v5,a1:=v6}) s
def p68_58:Res:=lt (g12 e) fun v0=>bP (pUn (uFld 0) g15 e) fun v1=>bP ((dLdN 4 (cV v1)) e s) fun v2=>bE (aSt (aBSl 1 4 [(.i 0), (.i 0), (.i 0), (.i 0)] [(0, 4, (cV v2))] e s.next) s) fun v3 s=>bE (eApW 4 (cV v0) (cV v3) k e s) fun v4 s=>.nrm (ws7 (u12 e v4) fun r=>{r with a2:=v0,a3:=v1,a4:=v2,a5:=v3,a6:=v4}) s
def p68_59:Res:=lt (g10 e) fun v0=>bP (pUn (uFld 0) g15 e) fun v1=>bP (pUn (uFld 1) (cV v1) e) fun v2=>bP ((dLd (cV v2)) e s) fun v3=>bE (eCall 46 [cV v3] k e s) fun v4 s=>bP (pBin (bI fAdd) (cV v0) (cV v4) e) fun v5=>.nrm (ws7 (u10 e v5) fun r=>{r with a7:=v0,a8:=v1,a9:=v2,a10:=v3,a11:=v4,a12:=v5}) s
def p68_60:Den:=fun _ e s=>lt (g14 e) fun v0=>bP (pBin (bI fAdd) (cV v0) (cV (.i 1)) e) fun v1=>.nrm (ws4 (u14 e v1) fun r=>{r with a14:=v0,a15:=v1}) s
def p68_62:Res:=lt (g12 e) fun v0=>bE (eCall 84 [cV v0] k e s) fun v1 s=>bP (pUn (uExt 0) (cV v1) e) fun v2=>bP (pUn (uExt 1) (cV v1) e) fun v3=>bP (pUn (uFld 6) g13 e) fun v4=>bE (eSt 1 (cV v4) (cV v2) k e s) fun v5 s=>.nrm (ws8 (ws7 e fun r=>{r with a13:=v1,a14:=v0,a15:=v1}) fun r=>{r with a0:=v2,a1:=v3,a2:=v4}) s
def p68_65:Den:=fun _ e s=>lt (g0 e) fun v0=>bP (pUn uChk (cV v0) e) fun v1=>bP (pUn (uFld 7) (cV v1) e) fun v2=>bP ((dLd (cV v2)) e s) fun v3=>bP (pUn uLenS (cV v3) e) fun v4=>bP (pBin (bI fSub) (cV v4) (cV (.i 1)) e) fun v5=>.nrm (ws8 (u16 e v5) fun r=>{r with a3:=v0,a4:=v1,a5:=v2,a6:=v3,a7:=v4,a8:=v5}) s
def p68_70:Den:=fun _ e s=>lt (g16 e) fun v0=>bP (pBin (bI fGe) (cV v0) (cV (.i 0)) e) fun v1=>.nrm (ws8 e fun r=>{r with a9:=v0,a10:=v1}) s
def p68_75:Res:=dDraw [⟨none, (.p (pMove g0)), u141⟩, ⟨none, (.p (pUn uChk g141)), u142⟩, ⟨none, (.p (pUn (uFld 7) g142)), u143⟩, ⟨none, (.d 0 0 (dLd g143)), u144⟩, ⟨none, (.p (pMove g0)), u145⟩, ⟨none, (.p (pUn uChk g145)), u146⟩, ⟨none, (.p (pUn (uFld 7) g146)), u147⟩, ⟨none, (.d 0 0 (dLd g147)), u148⟩, ⟨none, (.p (pUn uLenS g148)), u149⟩, ⟨none, (.p (pBin (bI fSub) g149 (cV (.i 1)))), u150⟩, ⟨none, (.p (pMove g16)), u151⟩, ⟨none, (.p (pBin (bI fSub) g150 g151)), u152⟩, ⟨none, (.p (pBin (bIdx 3) g144 g152)), u153⟩, ⟨none, (.d 0 0 (dLdN 3 g153)), u154⟩, ⟨none, (.a (aAl 3 (ofL [(.i 0), (.i 0), (.i 0)]))), u17⟩, ⟨none, (.e (eSt 3 g17 g154)), uNone⟩] k e s
def p68_76:Res:=dDraw [⟨none, (.p (pUn (uFld 7) g13)), u155⟩, ⟨none, (.d 0 0 (dLd g155)), u156⟩, ⟨none, (.p (pMove g9)), u157⟩, ⟨none, (.p (pUn (uFld 0) g17)), u158⟩, ⟨none, (.d 0 0 (dLd g158)), u159⟩, ⟨none, (.p (pBin (bIdx 1) g157 g159)), u160⟩, ⟨none, (.d 0 0 (dLd g160)), u161⟩, ⟨none, (.p (pMove g9)), u162⟩, ⟨none, (.p (pUn (uFld 1) g17)), u163⟩, ⟨none, (.d 0 0 (dLd g163)), u164⟩, ⟨none, (.p (pBin (bIdx 1) g162 g164)), u165⟩, ⟨none, (.d 0 0 (dLd g165)), u166⟩, ⟨none, (.p (pMove g9)), u167⟩, ⟨none, (.p (pUn (uFld 2) g17)), u168⟩, ⟨none, (.d 0 0 (dLd g168)), u169⟩, ⟨none, (.p (pBin (bIdx 1) g167 g169)), u170⟩, ⟨none, (.d 0 0 (dLd g170)), u171⟩, ⟨none, (.p (pBuild [(.i 0), (.i 0), (.i 0), (.str [])] [(0, 1, g161), (1, 1, g166), (2, 1, g171), (3, 1, (cV (.str [84, 104, 114, 111, 119, 97, 98, 108, 101])))])), u172⟩, ⟨none, (.a (aBSl 1 4 [(.i 0), (.i 0), (.i 0), (.str [])] [(0, 4, g172)])), u173⟩, ⟨none, (.e (eApW 4 g156 g173)), u174⟩, ⟨none, (.p (pUn (uFld 7) g13)), u175⟩, ⟨none, (.e (eSt 1 g175 g174)), uNone⟩] k e s
def p68_77:Den:=fun _ e s=>lt (g16 e) fun v0=>bP (pBin (bI fSub) (cV v0) (cV (.i 1)) e) fun v1=>.nrm (ws8 (u16 e v1) fun r=>{r with a11:=v0,a12:=v1}) s
def p68_79:Res:=bP ((dLdN 9 g13) e s) fun v0=>bE (eSt 9 g8 (cV v0) k e s) fun v1 s=>.nrm (u176 e v0) s
def p68_78:Res:=dSeq p68_79 dRet k e s
def p68_61:Res:=dSeq p68_62 (dSeq (dSeq p68_65 (dBlock 4 (dLoop (dSeq (dSeq p68_70 (dCond g138 dSkip (dExit 4))) (dSeq (dBlock 5 (dSeq p68_75 p68_76)) p68_77))))) p68_78) k e s
def p68_25:Res:=dSeq p68_26 (dSeq p68_28 (dSeq p68_30 (dSeq (dSeq p68_33 (dBlock 2 (dLoop (dSeq (dSeq p68_38 (dCond g77 dSkip (dExit 2))) (dSeq (dBlock 3 (dSeq p68_43 (dSeq (dSeq p68_46 (dCond g89 (dSeq p68_49 (dExit 3)) dSkip)) (dSeq p68_51 (dSeq (dSeq p68_54 (dCond g106 p68_56 dSkip)) (dSeq p68_58 p68_59)))))) p68_60))))) p68_61))) k e s
def p68_0:Res:=dSeq p68_1 (dSeq p68_3 (dSeq p68_5 (dSeq (dSeq p68_8 (dBlock 0 (dLoop (dSeq (dSeq p68_13 (dCond g29 dSkip (dExit 0))) (dSeq (dBlock 1 (dSeq (dSeq p68_19 (dCond g40 (dSeq p68_22 (dExit 1)) dSkip)) p68_23)) p68_24))))) p68_25))) k e s
def F68 : FDen := ⟨[u0, u1, u2, u3], p68_0, resV [rC true (nat_lit 9) g8]⟩
theorem low68 : lowFunc tt [] fok Try.f68 = some F68 := by kernel_rfl
theorem run68 : FRun Try.prog [] 68 F68 := FRun.of (lowFunc_ok ttOk fokOk mixed Try.func68 low68)
def p74_1:Res:=lt (g0 e) fun v0=>bE (eCall 75 [cV v0] k e s) fun v1 s=>.nrm (ws0 e fun r=>{r with a4:=v1,a6:=v0,a7:=v1}) s
def p74_3:Den:=fun _ e s=>lt (g1 e) fun v0=>.nrm (ws0 e fun r=>{r with a5:=v0,a8:=v0}) s
def p74_8:Den:=fun _ e s=>lt (g5 e) fun v0=>lt (g4 e) fun v1=>bP (pUn uLenS (cV v1) e) fun v2=>bP (pBin (bI fLt) (cV v0) (cV v2) e) fun v3=>.nrm (ws0 e fun r=>{r with a9:=v0,a10:=v1,a11:=v2,a12:=v3}) s
def p74_13:Den:=fun _ e s=>lt (g4 e) fun v0=>lt (g5 e) fun v1=>bP (pBin (bIdx 1) (cV v0) (cV v1) e) fun v2=>bP ((dLd (cV v2)) e s) fun v3=>bP (pBin (bS fun a b=>some (.bool (eqL a b))) (cV v3) (cV (.str [73])) e) fun v4=>.nrm (ws1 (u15 e v0) fun r=>{r with a0:=v1,a1:=v2,a2:=v3,a3:=v4}) s
def p74_16:Res:=lt (g0 e) fun v0=>bE (eCall 64 [(cV v0), (cV (.i 3)), (cV (.i 0)), (cV (.i 0))] k e s) fun v1 s=>.nrm (ws1 e fun r=>{r with a4:=v0,a5:=v1}) s
def p74_17:Res:=lt (g0 e) fun v0=>lt (g5 e) fun v1=>bE (eCall 64 [(cV v0), (cV (.i 54)), (cV v1), (cV (.i 0))] k e s) fun v2 s=>.nrm (ws1 e fun r=>{r with a6:=v0,a7:=v1,a8:=v2}) s
def p74_19:Res:=lt (g0 e) fun v0=>bE (eCall 64 [(cV v0), (cV (.i 1)), (cV (.i 0)), (cV (.i 0))] k e s) fun v1 s=>.nrm (ws1 e fun r=>{r with a9:=v0,a10:=v1}) s
def p74_20:Res:=lt (g0 e) fun v0=>lt (g5 e) fun v1=>bE (eCall 64 [(cV v0), (cV (.i 58)), (cV v1), (cV (.i 0))] k e s) fun v2 s=>.nrm (ws1 e fun r=>{r with a11:=v0,a12:=v1,a13:=v2}) s
def p74_21:Den:=fun _ e s=>lt (g5 e) fun v0=>bP (pBin (bI fAdd) (cV v0) (cV (.i 1)) e) fun v1=>.nrm (ws0 e fun r=>{r with a5:=v1,a13:=v0,a14:=v1}) s
def p74_0:Res:=dSeq p74_1 (dSeq p74_3 (dBlock 0 (dLoop (dSeq (dSeq p74_8 (dCond g12 dSkip (dExit 0))) (dSeq (dBlock 1 (dSeq p74_13 (dCond g19 (dSeq p74_16 p74_17) (dSeq p74_19 p74_20)))) p74_21))))) k e s
def F74 : FDen := ⟨[u0, u1], p74_0, resV []⟩
theorem low74 : lowFunc tt [] fok Try.f74 = some F74 := by kernel_rfl
theorem run74 : FRun Try.prog [] 74 F74 := FRun.of (lowFunc_ok ttOk fokOk mixed Try.func74 low74)
def p75_1:Den:=fun _ e s=>ltc (V.nils) fun v0=>.nrm (u2 e v0) s
def p75_4:Den:=fun _ e s=>lt (g0 e) fun v0=>bP (pUn uChk (cV v0) e) fun v1=>bP (pUn (uFld 9) (cV v1) e) fun v2=>bP ((dLd (cV v2)) e s) fun v3=>bP (pBin (bNil true nilS) (cV v3) (cV .nils) e) fun v4=>.nrm (ws0 e fun r=>{r with a3:=v0,a4:=v1,a5:=v2,a6:=v3,a7:=v4}) s
def p75_7:Den:=fun _ e s=>lt (g0 e) fun v0=>bP (pUn uChk (cV v0) e) fun v1=>bP (pUn (uFld 9) (cV v1) e) fun v2=>bP ((dLd (cV v2)) e s) fun v3=>.nrm (ws0 e fun r=>{r with a2:=v3,a8:=v0,a9:=v1,a10:=v2,a11:=v3}) s
def p75_10:Den:=fun _ e s=>lt (g0 e) fun v0=>bP (pUn uChk (cV v0) e) fun v1=>bP (pUn (uFld 4) (cV v1) e) fun v2=>bP ((dLd (cV v2)) e s) fun v3=>.nrm (ws0 e fun r=>{r with a12:=v0,a13:=v1,a14:=v2,a15:=v3}) s
def p75_13:Den:=fun _ e s=>bE (aSt (aBSl 4 1 [(.str []), (.str []), (.str []), (.str [])] [(0, 1, (cV (.str [73]))), (1, 1, (cV (.str [73]))), (2, 1, (cV (.str [73]))), (3, 1, (cV (.str [73])))] e s.next) s) fun v0 s=>.nrm (u16 (u2 e v0) v0) s
def p75_15:Den:=fun _ e s=>bE (aSt (aBSl 10 1 [(.str []), (.str []), (.str []), (.str []), (.str []), (.str []), (.str []), (.str []), (.str []), (.str [])] [(0, 1, (cV (.str [73]))), (1, 1, (cV (.str [73]))), (2, 1, (cV (.str [73]))), (3, 1, (cV (.str [73]))), (4, 1, (cV (.str [76, 65, 59]))), (5, 1, (cV (.str [76, 65, 59]))), (6, 1, (cV (.str [91, 73]))), (7, 1, (cV (.str [76, 84, 104, 114, 111, 119, 97, 98, 108, 101, 59]))), (8, 1, (cV (.str [76, 84, 59]))), (9, 1, (cV (.str [91, 76, 65, 59])))] e s.next) s) fun v0 s=>.nrm (u17 (u2 e v0) v0) s
def p75_0:Res:=dSeq p75_1 (dSeq (dSeq p75_4 (dCond g7 (dSeq p75_7 dRet) dSkip)) (dSeq (dSeq p75_10 (dCond g15 (dSeq p75_13 dRet) dSkip)) (dSeq p75_15 dRet))) k e s
def F75 : FDen := ⟨[u0], p75_0, resV [rT g2]⟩
theorem low75 : lowFunc tt [] fok Try.f75 = some F75 := by kernel_rfl
theorem run75 : FRun Try.prog [] 75 F75 := FRun.of (lowFunc_ok ttOk fokOk mixed Try.func75 low75)
def p76_1:Res:=lt (g0 e) fun v0=>bP (pUn uChk (cV v0) e) fun v1=>bP (pUn (uFld 0) (cV v1) e) fun v2=>bP ((dLd (cV v2)) e s) fun v3=>bE (eCall 49 [(cV v3), (cV (.i 16))] k e s) fun v4 s=>.nrm (ws0 e fun r=>{r with a2:=v4,a3:=v0,a4:=v1,a5:=v2,a6:=v3,a7:=v4}) s
def p76_4:Den:=fun _ e s=>lt (g0 e) fun v0=>bP (pUn uChk (cV v0) e) fun v1=>bP (pUn (uFld 4) (cV v1) e) fun v2=>bP ((dLd (cV v2)) e s) fun v3=>.nrm (ws0 e fun r=>{r with a8:=v0,a9:=v1,a10:=v2,a11:=v3}) s
def p76_6:Den:=fun _ e s=>lt (g2 e) fun v0=>bP (pBin rem64 (cV v0) (cV (.i 5)) e) fun v1=>.nrm (ws0 e fun r=>{r with a2:=v1,a12:=v0,a13:=v1}) s
def p76_8:Res:=lt (g0 e) fun v0=>bP (pUn uChk (cV v0) e) fun v1=>bP (pUn (uFld 6) (cV v1) e) fun v2=>bP ((dLd (cV v2)) e s) fun v3=>bP (pBin (bI fAdd) (cV v3) (cV (.i 1)) e) fun v4=>bP (pUn uChk (cV v0) e) fun v5=>bP (pUn (uFld 6) (cV v5) e) fun v6=>bE (eSt 1 (cV v6) (cV v4) k e s) fun v7 s=>.nrm (ws1 (ws0 e fun r=>{r with a14:=v0,a15:=v1}) fun r=>{r with a0:=v2,a1:=v3,a2:=v4,a3:=v5,a4:=v6}) s
def p76_11:Den:=fun _ e s=>lt (g0 e) fun v0=>bP (pUn uChk (cV v0) e) fun v1=>bP (pUn (uFld 6) (cV v1) e) fun v2=>bP ((dLd (cV v2)) e s) fun v3=>bP (pBin (bI fGt) (cV v3) (cV (.i 4)) e) fun v4=>bP (gdV v4 false (pMove g0 e)) fun v5=>bP (gdV v4 false (pUn uChk (cV v5) e)) fun v6=>bP (gdV v4 false (pUn (uFld 3) (cV v6) e)) fun v7=>bP (gdV v4 false ((dLd (cV v7)) e s)) fun v8=>bP (gdV v4 false (pBin (bI fGt) (cV v8) (cV (.i 50)) e)) fun v9=>bP (pPick (cV v4) (cV (.bool true)) (cV v9) e) fun v10=>.nrm (u32 (rw1 e fun a b c d f _ _ _ _ _ _ _ _ _ _ _=>⟨a,b,c,d,f,v0,v1,v2,v3,v4,v4,v5,v6,v7,v8,v9⟩) v10) s
def p76_13:Den:=fun _ e s=>lt (g2 e) fun v0=>bP (pBin rem64 (cV v0) (cV (.i 2)) e) fun v1=>.nrm (ws2 (u2 e v1) fun r=>{r with a1:=v0,a2:=v1}) s
def p76_16:Den:=fun _ e s=>lt (g2 e) fun v0=>.nrm (u35 e v0) s
def p76_19:Den:=fun _ e s=>bP (pBin (bI fEq) g35 (cV (.i 0)) e) fun v0=>.nrm (ws2 e fun r=>{r with a4:=v0,a5:=v0}) s
def p76_22:Res:=lt (g0 e) fun v0=>bE (eCall 67 [(cV v0), (cV (.i 3))] k e s) fun v1 s=>.nrm (ws2 e fun r=>{r with a6:=v0,a7:=v1}) s
def p76_23:Res:=lt (g0 e) fun v0=>lt (g0 e) fun v1=>bP (pUn uChk (cV v1) e) fun v2=>bP (pUn (uFld 0) (cV v2) e) fun v3=>bP ((dLd (cV v3)) e s) fun v4=>bE (eCall 49 [(cV v4), (cV (.i 4))] k e s) fun v5 s=>bE (eCall 64 [(cV v0), (cV (.i 54)), (cV v5), (cV (.i 0))] k e s) fun v6 s=>.nrm (ws2 e fun r=>{r with a8:=v0,a9:=v1,a10:=v2,a11:=v3,a12:=v4,a13:=v5,a14:=v6}) s
def p76_25:Den:=fun _ e s=>bP (pBin (bI fEq) g35 (cV (.i 1)) e) fun v0=>.nrm (u48 (u47 e v0) v0) s
def p76_27:Res:=dDraw [⟨none, (.p (pMove g0)), u49⟩, ⟨none, (.p (pMove g0)), u50⟩, ⟨none, (.p (pUn uChk g50)), u51⟩, ⟨none, (.p (pUn (uFld 0) g51)), u52⟩, ⟨none, (.d 1 0 (dLd g52)), u53⟩, ⟨none, (.e (eCall 49 [g53, (cV (.i 4))])), u54⟩, ⟨none, (.p (pMove g0)), u55⟩, ⟨none, (.p (pUn uChk g55)), u56⟩, ⟨none, (.p (pUn (uFld 0) g56)), u57⟩, ⟨none, (.d 0 1 (dLd g57)), u58⟩, ⟨none, (.e (eCall 49 [g58, (cV (.i 9))])), u59⟩, ⟨none, (.p (pBin (bI fSub) g59 (cV (.i 4)))), u60⟩, ⟨none, (.e (eCall 64 [g49, (cV (.i 132)), g54, g60])), u61⟩] k e s
def p76_29:Den:=fun _ e s=>bP (pBin (bI fEq) g35 (cV (.i 2)) e) fun v0=>.nrm (ws3 e fun r=>{r with a14:=v0,a15:=v0}) s
def p76_31:Res:=lt (g0 e) fun v0=>bE (eCall 86 [cV v0] k e s) fun v1 s=>.nrm (ws4 e fun r=>{r with a0:=v0,a1:=v1}) s
def p76_33:Den:=fun _ e s=>bP (pBin (bI fEq) g35 (cV (.i 3)) e) fun v0=>.nrm (ws4 e fun r=>{r with a2:=v0,a3:=v0}) s
def p76_35:Res:=lt (g0 e) fun v0=>bE (eCall 87 [cV v0] k e s) fun v1 s=>.nrm (ws4 e fun r=>{r with a4:=v0,a5:=v1}) s
def p76_37:Den:=fun _ e s=>bP (pBin (bI fEq) g35 (cV (.i 4)) e) fun v0=>.nrm (ws4 e fun r=>{r with a6:=v0,a7:=v0}) s
def p76_40:Res:=lt (g0 e) fun v0=>bE (eCall 67 [(cV v0), (cV (.i 2))] k e s) fun v1 s=>.nrm (ws4 e fun r=>{r with a8:=v0,a9:=v1}) s
def p76_42:Res:=lt (g0 e) fun v0=>bE (eCall 64 [(cV v0), (cV (.i 89)), (cV (.i 0)), (cV (.i 0))] k e s) fun v1 s=>.nrm (ws4 e fun r=>{r with a10:=v0,a11:=v1}) s
def p76_44:Res:=lt (g0 e) fun v0=>bE (eCall 64 [(cV v0), (cV (.i 95)), (cV (.i 0)), (cV (.i 0))] k e s) fun v1 s=>.nrm (ws4 e fun r=>{r with a12:=v0,a13:=v1}) s
def p76_46:Res:=lt (g0 e) fun v0=>bE (eCall 64 [(cV v0), (cV (.i 87)), (cV (.i 0)), (cV (.i 0))] k e s) fun v1 s=>.nrm (ws4 e fun r=>{r with a14:=v0,a15:=v1}) s
def p76_47:Res:=lt (g0 e) fun v0=>lt (g0 e) fun v1=>bP (pUn uChk (cV v1) e) fun v2=>bP (pUn (uFld 0) (cV v2) e) fun v3=>bP ((dLd (cV v3)) e s) fun v4=>bE (eCall 49 [(cV v4), (cV (.i 4))] k e s) fun v5 s=>bE (eCall 64 [(cV v0), (cV (.i 54)), (cV v5), (cV (.i 0))] k e s) fun v6 s=>.nrm (ws5 e fun r=>{r with a0:=v0,a1:=v1,a2:=v2,a3:=v3,a4:=v4,a5:=v5,a6:=v6}) s
def p76_50:Den:=fun _ e s=>bP (pBin (bI fEq) g35 (cV (.i 5)) e) fun v0=>.nrm (ws5 e fun r=>{r with a7:=v0,a8:=v0}) s
def p76_52:Den:=fun _ e s=>bP (pBin (bI fEq) g35 (cV (.i 6)) e) fun v0=>.nrm (ws5 e fun r=>{r with a7:=v0,a9:=v0}) s
def p76_55:Res:=lt (g0 e) fun v0=>bE (eCall 67 [(cV v0), (cV (.i 3))] k e s) fun v1 s=>.nrm (ws5 e fun r=>{r with a10:=v0,a11:=v1}) s
def p76_56:Res:=lt (g0 e) fun v0=>lt (g0 e) fun v1=>bE (eCall 80 [(cV v1), (cV (.str [83, 121, 115, 116, 101, 109])), (cV (.str [112, 114, 105, 110, 116])), (cV (.str [40, 73, 41, 86]))] k e s) fun v2 s=>bE (eCall 64 [(cV v0), (cV (.i 184)), (cV v2), (cV (.i 0))] k e s) fun v3 s=>.nrm (ws5 e fun r=>{r with a12:=v0,a13:=v1,a14:=v2,a15:=v3}) s
def p76_58:Den:=fun _ e s=>bP (pBin (bI fEq) g35 (cV (.i 7)) e) fun v0=>.nrm (ws6 e fun r=>{r with a0:=v0,a1:=v0}) s
def p76_61:Res:=lt (g0 e) fun v0=>bE (eCall 78 [(cV v0), (cV (.i 3))] k e s) fun v1 s=>.nrm (ws6 e fun r=>{r with a2:=v0,a3:=v1}) s
def p76_62:Res:=lt (g0 e) fun v0=>lt (g0 e) fun v1=>bP (pUn uChk (cV v1) e) fun v2=>bP (pUn (uFld 0) (cV v2) e) fun v3=>bP ((dLd (cV v3)) e s) fun v4=>bE (eCall 49 [(cV v4), (cV (.i 2))] k e s) fun v5 s=>bP (pBin (bI fAdd) (cV (.i 4)) (cV v5) e) fun v6=>bE (eCall 64 [(cV v0), (cV (.i 58)), (cV v6), (cV (.i 0))] k e s) fun v7 s=>.nrm (ws6 e fun r=>{r with a4:=v0,a5:=v1,a6:=v2,a7:=v3,a8:=v4,a9:=v5,a10:=v6,a11:=v7}) s
def p76_64:Den:=fun _ e s=>bP (pBin (bI fEq) g35 (cV (.i 8)) e) fun v0=>.nrm (ws6 e fun r=>{r with a12:=v0,a13:=v0}) s
def p76_67:Res:=lt (g0 e) fun v0=>bE (eCall 78 [(cV v0), (cV (.i 2))] k e s) fun v1 s=>.nrm (ws6 e fun r=>{r with a14:=v0,a15:=v1}) s
def p76_69:Res:=lt (g0 e) fun v0=>bE (eCall 67 [(cV v0), (cV (.i 2))] k e s) fun v1 s=>.nrm (ws7 e fun r=>{r with a0:=v0,a1:=v1}) s
def p76_70:Res:=lt (g0 e) fun v0=>lt (g0 e) fun v1=>bE (eCall 79 [(cV v1), (cV (.str [65])), (cV (.str [120])), (cV (.str [73]))] k e s) fun v2 s=>bE (eCall 64 [(cV v0), (cV (.i 181)), (cV v2), (cV (.i 0))] k e s) fun v3 s=>.nrm (ws7 e fun r=>{r with a2:=v0,a3:=v1,a4:=v2,a5:=v3}) s
def p76_72:Den:=fun _ e s=>bP (pBin (bI fEq) g35 (cV (.i 9)) e) fun v0=>.nrm (ws7 e fun r=>{r with a6:=v0,a7:=v0}) s
def p76_75:Res:=lt (g0 e) fun v0=>bE (eCall 78 [(cV v0), (cV (.i 1))] k e s) fun v1 s=>.nrm (ws7 e fun r=>{r with a8:=v0,a9:=v1}) s
def p76_77:Res:=lt (g0 e) fun v0=>bE (eCall 78 [(cV v0), (cV (.i 2))] k e s) fun v1 s=>.nrm (ws7 e fun r=>{r with a10:=v0,a11:=v1}) s
def p76_78:Res:=lt (g0 e) fun v0=>lt (g0 e) fun v1=>bE (eCall 79 [(cV v1), (cV (.str [65])), (cV (.str [110, 101, 120, 116])), (cV (.str [76, 65, 59]))] k e s) fun v2 s=>bE (eCall 64 [(cV v0), (cV (.i 181)), (cV v2), (cV (.i 0))] k e s) fun v3 s=>.nrm (ws7 e fun r=>{r with a12:=v0,a13:=v1,a14:=v2,a15:=v3}) s
def p76_80:Den:=fun _ e s=>bP (pBin (bI fEq) g35 (cV (.i 10)) e) fun v0=>.nrm (ws8 e fun r=>{r with a0:=v0,a1:=v0}) s
def p76_83:Res:=lt (g0 e) fun v0=>bE (eCall 78 [(cV v0), (cV (.i 2))] k e s) fun v1 s=>.nrm (ws8 e fun r=>{r with a2:=v0,a3:=v1}) s
def p76_84:Res:=lt (g0 e) fun v0=>lt (g0 e) fun v1=>bE (eCall 79 [(cV v1), (cV (.str [65])), (cV (.str [114])), (cV (.str [76, 65, 59]))] k e s) fun v2 s=>bE (eCall 64 [(cV v0), (cV (.i 179)), (cV v2), (cV (.i 0))] k e s) fun v3 s=>.nrm (ws8 e fun r=>{r with a4:=v0,a5:=v1,a6:=v2,a7:=v3}) s
def p76_86:Den:=fun _ e s=>bP (pBin (bI fEq) g35 (cV (.i 11)) e) fun v0=>.nrm (ws8 e fun r=>{r with a8:=v0,a9:=v0}) s
def p76_88:Res:=lt (g0 e) fun v0=>bE (eCall 88 [cV v0] k e s) fun v1 s=>.nrm (ws8 e fun r=>{r with a10:=v0,a11:=v1}) s
def p76_90:Den:=fun _ e s=>bP (pBin (bI fEq) g35 (cV (.i 12)) e) fun v0=>.nrm (ws8 e fun r=>{r with a12:=v0,a13:=v0}) s
def p76_92:Res:=lt (g0 e) fun v0=>bE (eCall 89 [cV v0] k e s) fun v1 s=>.nrm (ws8 e fun r=>{r with a14:=v0,a15:=v1}) s
def p76_94:Den:=fun _ e s=>bP (pBin (bI fEq) g35 (cV (.i 13)) e) fun v0=>.nrm (ws9 e fun r=>{r with a0:=v0,a1:=v0}) s
def p76_96:Res:=lt (g0 e) fun v0=>bE (eCall 90 [cV v0] k e s) fun v1 s=>.nrm (ws9 e fun r=>{r with a2:=v0,a3:=v1}) s
def p76_98:Den:=fun _ e s=>bP (pBin (bI fEq) g35 (cV (.i 14)) e) fun v0=>.nrm (ws9 e fun r=>{r with a4:=v0,a5:=v0}) s
def p76_100:Res:=lt (g0 e) fun v0=>bE (eCall 91 [cV v0] k e s) fun v1 s=>.nrm (ws9 e fun r=>{r with a6:=v0,a7:=v1}) s
def p76_102:Den:=fun _ e s=>bP (pBin (bI fEq) g35 (cV (.i 15)) e) fun v0=>.nrm (ws9 e fun r=>{r with a8:=v0,a9:=v0}) s
def p76_105:Res:=lt (g0 e) fun v0=>lt (g0 e) fun v1=>bE (aSt (aBSl 3 1 [(.str []), (.str []), (.str [])] [(0, 1, (cV (.str [73, 110, 100, 101, 120]))), (1, 1, (cV (.str [84, 104, 114, 111, 119, 97, 98, 108, 101]))), (2, 1, (cV (.str [67, 97, 115, 116])))] e s.next) s) fun v2 s=>lt (g0 e) fun v3=>bP (pUn uChk (cV v3) e) fun v4=>bP (pUn (uFld 0) (cV v4) e) fun v5=>bP ((dLd (cV v5)) e s) fun v6=>bE (eCall 49 [(cV v6), (cV (.i 3))] k e s) fun v7 s=>bP (pBin (bIdx 1) (cV v2) (cV v7) e) fun v8=>bP ((dLd (cV v8)) e s) fun v9=>bE (eCall 81 [cV v1,cV v9] k e s) fun v10 s=>bE (eCall 64 [(cV v0), (cV (.i 187)), (cV v10), (cV (.i 0))] k e s) fun v11 s=>.nrm (ws10 (ws9 e fun r=>{r with a10:=v0,a11:=v1,a12:=v2,a13:=v3,a14:=v4,a15:=v5}) fun r=>{r with a0:=v6,a1:=v7,a2:=v8,a3:=v9,a4:=v10,a5:=v11}) s
def p76_106:Res:=lt (g0 e) fun v0=>bE (eCall 64 [(cV v0), (cV (.i 58)), (cV (.i 7)), (cV (.i 0))] k e s) fun v1 s=>.nrm (ws10 e fun r=>{r with a6:=v0,a7:=v1}) s
def p76_107:Res:=lt (g0 e) fun v0=>bP (pUn uChk (cV v0) e) fun v1=>bP (pUn (uFld 6) (cV v1) e) fun v2=>bP ((dLd (cV v2)) e s) fun v3=>bP (pBin (bI fSub) (cV v3) (cV (.i 1)) e) fun v4=>bP (pUn uChk (cV v0) e) fun v5=>bP (pUn (uFld 6) (cV v5) e) fun v6=>bE (eSt 1 (cV v6) (cV v4) k e s) fun v7 s=>.nrm (ws10 e fun r=>{r with a8:=v0,a9:=v1,a10:=v2,a11:=v3,a12:=v4,a13:=v5,a14:=v6}) s
def p76_14:Res:=dSeq (dSeq p76_16 (dBlock 0 (dSeq p76_19 (dCond g36 (dSeq p76_22 p76_23) (dSeq p76_25 (dCond g47 p76_27 (dSeq p76_29 (dCond g62 p76_31 (dSeq p76_33 (dCond g66 p76_35 (dSeq p76_37 (dCond g70 (dSeq p76_40 (dSeq p76_42 (dSeq p76_44 (dSeq p76_46 p76_47)))) (dSeq (dSeq p76_50 (dCond g87 dSkip p76_52)) (dCond g87 (dSeq p76_55 p76_56) (dSeq p76_58 (dCond g96 (dSeq p76_61 p76_62) (dSeq p76_64 (dCond g108 (dSeq p76_67 (dSeq p76_69 p76_70)) (dSeq p76_72 (dCond g118 (dSeq p76_75 (dSeq p76_77 p76_78)) (dSeq p76_80 (dCond g128 (dSeq p76_83 p76_84) (dSeq p76_86 (dCond g136 p76_88 (dSeq p76_90 (dCond g140 p76_92 (dSeq p76_94 (dCond g144 p76_96 (dSeq p76_98 (dCond g148 p76_100 (dSeq p76_102 (dCond g152 (dSeq p76_105 p76_106) dSkip)))))))))))))))))))))))))))))))) p76_107 k e s
def p76_9:Res:=dSeq (dSeq p76_11 (dCond g32 p76_13 dSkip)) p76_14 k e s
def p76_0:Res:=dSeq p76_1 (dSeq (dSeq p76_4 (dCond g11 p76_6 dSkip)) (dSeq p76_8 p76_9)) k e s
def F76 : FDen := ⟨[u0], p76_0, resV []⟩
theorem low76 : lowFunc tt [] fok Try.f76 = some F76 := by kernel_rfl
theorem run76 : FRun Try.prog [] 76 F76 := FRun.of (lowFunc_ok ttOk fokOk mixed Try.func76 low76)
def p77_1:Den:=fun _ e s=>bE (aSt (aBox g1 e s.next) s) fun v0 s=>ltc (V.i 0) fun v1=>.nrm (ws0 e fun r=>{r with a3:=v0,a4:=v1}) s
def p77_3:Res:=lt (g0 e) fun v0=>bP (pUn uChk (cV v0) e) fun v1=>bP (pUn (uFld 1) (cV v1) e) fun v2=>bP ((dLd (cV v2)) e s) fun v3=>bP ((dLdN 5 g3) e s) fun v4=>bE (eCall 92 [cV v3,cV v4] k e s) fun v5 s=>bP (pUn (uExt 0) (cV v5) e) fun v6=>bP (pUn (uExt 1) (cV v5) e) fun v7=>bP (pUn (uExt 2) (cV v5) e) fun v8=>.nrm (ws1 (rw0 e fun a b c d f _ _ _ _ _ _ _ _ _ _ _=>⟨a,b,c,d,f,v6,v7,v8,v5,v0,v1,v2,v3,v4,v5,v6⟩) fun r=>{r with a0:=v7,a1:=v8}) s
def p77_5:Res:=lt (g0 e) fun v0=>lt (g5 e) fun v1=>bP (pUn uChk (cV v0) e) fun v2=>bP (pUn (uFld 1) (cV v2) e) fun v3=>bE (eSt 1 (cV v3) (cV v1) k e s) fun v4 s=>.nrm (ws1 e fun r=>{r with a2:=v0,a3:=v1,a4:=v2,a5:=v3}) s
def p77_7:Den:=fun _ e s=>lt (g6 e) fun v0=>.nrm (u22 (u4 e v0) v0) s
def p77_0:Res:=dSeq p77_1 (dSeq p77_3 (dSeq p77_5 (dSeq p77_7 dRet))) k e s
def F77 : FDen := ⟨[u0, u1], p77_0, resV [rT g4]⟩
theorem low77 : lowFunc tt [] fok Try.f77 = some F77 := by kernel_rfl
theorem run77 : FRun Try.prog [] 77 F77 := FRun.of (lowFunc_ok ttOk fokOk mixed Try.func77 low77)
def p78_1:Res:=lt (g0 e) fun v0=>bP (pUn uChk (cV v0) e) fun v1=>bP (pUn (uFld 0) (cV v1) e) fun v2=>bP ((dLd (cV v2)) e s) fun v3=>bE (eCall 49 [(cV v3), (cV (.i 8))] k e s) fun v4 s=>.nrm (ws0 e fun r=>{r with a4:=v4,a5:=v0,a6:=v1,a7:=v2,a8:=v3,a9:=v4}) s
def p78_4:Den:=fun _ e s=>lt (g1 e) fun v0=>bP (pBin (bI fLe) (cV v0) (cV (.i 0)) e) fun v1=>bP (gdV v1 false (pMove g0 e)) fun v2=>bP (gdV v1 false (pUn uChk (cV v2) e)) fun v3=>bP (gdV v1 false (pUn (uFld 5) (cV v3) e)) fun v4=>bP (gdV v1 false ((dLd (cV v4)) e s)) fun v5=>bP (gdV v1 false (pBin (bI fLt) (cV v5) (cV (.i 20)) e)) fun v6=>bP (pPick (cV v1) (cV (.bool true)) (cV v6) e) fun v7=>.nrm (ws1 (ws0 e fun r=>{r with a10:=v0,a11:=v1,a12:=v1,a13:=v2,a14:=v3,a15:=v4}) fun r=>{r with a0:=v5,a1:=v6,a2:=v7}) s
def p78_6:Den:=fun _ e s=>lt (g4 e) fun v0=>bP (pBin rem64 (cV v0) (cV (.i 4)) e) fun v1=>.nrm (ws1 (u4 e v1) fun r=>{r with a3:=v0,a4:=v1}) s
def p78_8:Den:=fun _ e s=>lt (g4 e) fun v0=>.nrm (u21 e v0) s
def p78_12:Den:=fun _ e s=>bP (pBin (bI fEq) g21 (cV (.i 0)) e) fun v0=>.nrm (ws1 e fun r=>{r with a6:=v0,a7:=v0}) s
def p78_14:Den:=fun _ e s=>bP (pBin (bI fEq) g21 (cV (.i 1)) e) fun v0=>.nrm (ws1 e fun r=>{r with a6:=v0,a8:=v0}) s
def p78_16:Res:=lt (g0 e) fun v0=>lt (g0 e) fun v1=>bP (pUn uChk (cV v1) e) fun v2=>bP (pUn (uFld 0) (cV v2) e) fun v3=>bP ((dLd (cV v3)) e s) fun v4=>bE (eCall 49 [(cV v4), (cV (.i 2))] k e s) fun v5 s=>bP (pBin (bI fAdd) (cV (.i 4)) (cV v5) e) fun v6=>bE (eCall 64 [(cV v0), (cV (.i 25)), (cV v6), (cV (.i 0))] k e s) fun v7 s=>.nrm (u32 (ws1 e fun r=>{r with a9:=v0,a10:=v1,a11:=v2,a12:=v3,a13:=v4,a14:=v5,a15:=v6}) v7) s
def p78_18:Den:=fun _ e s=>bP (pBin (bI fEq) g21 (cV (.i 2)) e) fun v0=>.nrm (ws2 e fun r=>{r with a1:=v0,a2:=v0}) s
def p78_20:Res:=lt (g0 e) fun v0=>lt (g0 e) fun v1=>bE (eCall 81 [(cV v1), (cV (.str [65]))] k e s) fun v2 s=>bE (eCall 64 [(cV v0), (cV (.i 187)), (cV v2), (cV (.i 0))] k e s) fun v3 s=>.nrm (ws2 e fun r=>{r with a3:=v0,a4:=v1,a5:=v2,a6:=v3}) s
def p78_22:Den:=fun _ e s=>bP (pBin (bI fEq) g21 (cV (.i 3)) e) fun v0=>.nrm (ws2 e fun r=>{r with a7:=v0,a8:=v0}) s
def p78_24:Res:=lt (g0 e) fun v0=>lt (g0 e) fun v1=>bE (eCall 81 [(cV v1), (cV (.str [66]))] k e s) fun v2 s=>bE (eCall 64 [(cV v0), (cV (.i 187)), (cV v2), (cV (.i 0))] k e s) fun v3 s=>.nrm (ws2 e fun r=>{r with a9:=v0,a10:=v1,a11:=v2,a12:=v3}) s
def p78_26:Den:=fun _ e s=>bP (pBin (bI fEq) g21 (cV (.i 4)) e) fun v0=>.nrm (ws2 e fun r=>{r with a13:=v0,a14:=v0}) s
def p78_29:Res:=lt (g0 e) fun v0=>lt (g1 e) fun v1=>bP (pBin (bI fSub) (cV v1) (cV (.i 1)) e) fun v2=>bE (eCall 78 [cV v0,cV v2] k e s) fun v3 s=>.nrm (ws3 (u47 e v0) fun r=>{r with a0:=v1,a1:=v2,a2:=v3}) s
def p78_30:Res:=lt (g0 e) fun v0=>lt (g0 e) fun v1=>bE (eCall 79 [(cV v1), (cV (.str [65])), (cV (.str [110, 101, 120, 116])), (cV (.str [76, 65, 59]))] k e s) fun v2 s=>bE (eCall 64 [(cV v0), (cV (.i 180)), (cV v2), (cV (.i 0))] k e s) fun v3 s=>.nrm (ws3 e fun r=>{r with a3:=v0,a4:=v1,a5:=v2,a6:=v3}) s
def p78_32:Den:=fun _ e s=>bP (pBin (bI fEq) g21 (cV (.i 5)) e) fun v0=>.nrm (ws3 e fun r=>{r with a7:=v0,a8:=v0}) s
def p78_34:Res:=lt (g0 e) fun v0=>lt (g0 e) fun v1=>bE (eCall 79 [(cV v1), (cV (.str [65])), (cV (.str [114])), (cV (.str [76, 65, 59]))] k e s) fun v2 s=>bE (eCall 64 [(cV v0), (cV (.i 178)), (cV v2), (cV (.i 0))] k e s) fun v3 s=>.nrm (ws3 e fun r=>{r with a9:=v0,a10:=v1,a11:=v2,a12:=v3}) s
def p78_36:Den:=fun _ e s=>bP (pBin (bI fEq) g21 (cV (.i 6)) e) fun v0=>.nrm (ws3 e fun r=>{r with a13:=v0,a14:=v0}) s
def p78_39:Res:=lt (g0 e) fun v0=>bE (eCall 64 [(cV v0), (cV (.i 25)), (cV (.i 9)), (cV (.i 0))] k e s) fun v1 s=>.nrm (u64 (u63 e v0) v1) s
def p78_41:Res:=lt (g0 e) fun v0=>lt (g1 e) fun v1=>bP (pBin (bI fSub) (cV v1) (cV (.i 1)) e) fun v2=>bE (eCall 67 [cV v0,cV v2] k e s) fun v3 s=>.nrm (ws4 e fun r=>{r with a1:=v0,a2:=v1,a3:=v2,a4:=v3}) s
def p78_42:Res:=lt (g0 e) fun v0=>bE (eCall 64 [(cV v0), (cV (.i 50)), (cV (.i 0)), (cV (.i 0))] k e s) fun v1 s=>.nrm (ws4 e fun r=>{r with a5:=v0,a6:=v1}) s
def p78_44:Den:=fun _ e s=>bP (pBin (bI fEq) g21 (cV (.i 7)) e) fun v0=>.nrm (ws4 e fun r=>{r with a7:=v0,a8:=v0}) s
def p78_47:Res:=lt (g0 e) fun v0=>lt (g1 e) fun v1=>bP (pBin (bI fSub) (cV v1) (cV (.i 1)) e) fun v2=>bE (eCall 78 [cV v0,cV v2] k e s) fun v3 s=>.nrm (ws4 e fun r=>{r with a9:=v0,a10:=v1,a11:=v2,a12:=v3}) s
def p78_48:Res:=lt (g0 e) fun v0=>lt (g0 e) fun v1=>bE (aSt (aBSl 2 1 [(.str []), (.str [])] [(0, 1, (cV (.str [65]))), (1, 1, (cV (.str [66])))] e s.next) s) fun v2 s=>lt (g0 e) fun v3=>bP (pUn uChk (cV v3) e) fun v4=>bP (pUn (uFld 0) (cV v4) e) fun v5=>bP ((dLd (cV v5)) e s) fun v6=>bE (eCall 49 [(cV v6), (cV (.i 2))] k e s) fun v7 s=>bP (pBin (bIdx 1) (cV v2) (cV v7) e) fun v8=>bP ((dLd (cV v8)) e s) fun v9=>bE (eCall 81 [cV v1,cV v9] k e s) fun v10 s=>bE (eCall 64 [(cV v0), (cV (.i 192)), (cV v10), (cV (.i 0))] k e s) fun v11 s=>.nrm (ws5 (ws4 e fun r=>{r with a13:=v0,a14:=v1,a15:=v2}) fun r=>{r with a0:=v3,a1:=v4,a2:=v5,a3:=v6,a4:=v7,a5:=v8,a6:=v9,a7:=v10,a8:=v11}) s
def p78_7:Res:=dSeq p78_8 (dBlock 0 (dSeq (dSeq p78_12 (dCond g22 dSkip p78_14)) (dCond g22 p78_16 (dSeq p78_18 (dCond g33 p78_20 (dSeq p78_22 (dCond g39 p78_24 (dSeq p78_26 (dCond g45 (dSeq p78_29 p78_30) (dSeq p78_32 (dCond g55 p78_34 (dSeq p78_36 (dCond g61 (dSeq p78_39 (dSeq p78_41 p78_42)) (dSeq p78_44 (dCond g71 (dSeq p78_47 p78_48) dSkip))))))))))))))) k e s
def p78_0:Res:=dSeq p78_1 (dSeq (dSeq p78_4 (dCond g18 p78_6 dSkip)) p78_7) k e s
def F78 : FDen := ⟨[u0, u1], p78_0, resV []⟩
theorem low78 : lowFunc tt [] fok Try.f78 = some F78 := by kernel_rfl
theorem run78 : FRun Try.prog [] 78 F78 := FRun.of (lowFunc_ok ttOk fokOk mixed Try.func78 low78)
def p79_1:Den:=fun _ e s=>ltc (V.i 0) fun v0=>.nrm (u8 e v0) s
def p79_3:Res:=lt (g0 e) fun v0=>lt (g1 e) fun v1=>lt (g2 e) fun v2=>lt (g3 e) fun v3=>bP (pBuild [(.i 0), (.int .i32 0), (.str []), (.str []), (.str [])] [(0, 1, (cV (.i 9))), (2, 1, (cV v1)), (3, 1, (cV v2)), (4, 1, (cV v3))] e) fun v4=>bE (eCall 77 [cV v0,cV v4] k e s) fun v5 s=>.nrm (ws0 e fun r=>{r with a8:=v5,a9:=v0,a10:=v1,a11:=v2,a12:=v3,a13:=v4,a14:=v5}) s
def p79_0:Res:=dSeq p79_1 (dSeq p79_3 dRet) k e s
def F79 : FDen := ⟨[u0, u1, u2, u3], p79_0, resV [rT g8]⟩
theorem low79 : lowFunc tt [] fok Try.f79 = some F79 := by kernel_rfl
theorem run79 : FRun Try.prog [] 79 F79 := FRun.of (lowFunc_ok ttOk fokOk mixed Try.func79 low79)
def p80_1:Den:=fun _ e s=>ltc (V.i 0) fun v0=>.nrm (u8 e v0) s
def p80_3:Res:=lt (g0 e) fun v0=>lt (g1 e) fun v1=>lt (g2 e) fun v2=>lt (g3 e) fun v3=>bP (pBuild [(.i 0), (.int .i32 0), (.str []), (.str []), (.str [])] [(0, 1, (cV (.i 10))), (2, 1, (cV v1)), (3, 1, (cV v2)), (4, 1, (cV v3))] e) fun v4=>bE (eCall 77 [cV v0,cV v4] k e s) fun v5 s=>.nrm (ws0 e fun r=>{r with a8:=v5,a9:=v0,a10:=v1,a11:=v2,a12:=v3,a13:=v4,a14:=v5}) s
def p80_0:Res:=dSeq p80_1 (dSeq p80_3 dRet) k e s
def F80 : FDen := ⟨[u0, u1, u2, u3], p80_0, resV [rT g8]⟩
theorem low80 : lowFunc tt [] fok Try.f80 = some F80 := by kernel_rfl
theorem run80 : FRun Try.prog [] 80 F80 := FRun.of (lowFunc_ok ttOk fokOk mixed Try.func80 low80)
def p81_1:Den:=fun _ e s=>ltc (V.i 0) fun v0=>.nrm (u4 e v0) s
def p81_3:Res:=lt (g0 e) fun v0=>lt (g1 e) fun v1=>bP (pBuild [(.i 0), (.int .i32 0), (.str []), (.str []), (.str [])] [(0, 1, (cV (.i 7))), (2, 1, (cV v1))] e) fun v2=>bE (eCall 77 [cV v0,cV v2] k e s) fun v3 s=>.nrm (ws0 e fun r=>{r with a4:=v3,a5:=v0,a6:=v1,a7:=v2,a8:=v3}) s
def p81_0:Res:=dSeq p81_1 (dSeq p81_3 dRet) k e s
def F81 : FDen := ⟨[u0, u1], p81_0, resV [rT g4]⟩
theorem low81 : lowFunc tt [] fok Try.f81 = some F81 := by kernel_rfl
theorem run81 : FRun Try.prog [] 81 F81 := FRun.of (lowFunc_ok ttOk fokOk mixed Try.func81 low81)
def p82_1:Den:=fun _ e s=>ltc (V.nils) fun v0=>.nrm (u8 e v0) s
def p82_3:Res:=lt (g1 e) fun v0=>lt (g2 e) fun v1=>bP (pBuild [(.i 0), .nils, .nils] [(0, 1, (cV v0)), (1, 1, (cV v1))] e) fun v2=>bE (aSt (aAl 3 (ofL [(.i 0), .nils, .nils]) e s.next) s) fun v3 s=>bE (eSt 3 (cV v3) (cV v2) k e s) fun v4 s=>.nrm (ws0 e fun r=>{r with a9:=v3,a10:=v0,a11:=v1,a12:=v2}) s
def p82_6:Den:=fun _ e s=>lt (g3 e) fun v0=>.nrm (u13 e v0) s
def p82_8:Res:=bE (aSt (aBSl 1 1 [(.str [])] [(0, 1, (cV (.str [76, 84, 104, 114, 111, 119, 97, 98, 108, 101, 59])))] e s.next) s) fun v0 s=>bP (pUn (uFld 2) g9 e) fun v1=>bE (eSt 1 (cV v1) (cV v0) k e s) fun v2 s=>.nrm (ws0 e fun r=>{r with a14:=v0,a15:=v1}) s
def p82_11:Den:=fun _ e s=>lt (g0 e) fun v0=>bP (pUn uLenS (cV v0) e) fun v1=>bP (pBin (bI fGt) (cV v1) (cV (.i 0)) e) fun v2=>bP (gdV v2 true (pMove g0 e)) fun v3=>bP (gdV v2 true (pMove g0 e)) fun v4=>bP (gdV v2 true (pUn uLenS (cV v4) e)) fun v5=>bP (gdV v2 true (pBin (bI fSub) (cV v5) (cV (.i 1)) e)) fun v6=>bP (gdV v2 true (pBin (bIdx 3) (cV v3) (cV v6) e)) fun v7=>bP (gdV v2 true (pUn (uFld 0) (cV v7) e)) fun v8=>bP (gdV v2 true ((dLd (cV v8)) e s)) fun v9=>bP (gdV v2 true (pMove g1 e)) fun v10=>bP (gdV v2 true (pBin (bI fEq) (cV v9) (cV v10) e)) fun v11=>bP (pPick (cV v2) (cV v11) (cV (.bool false)) e) fun v12=>.nrm (rw1 e fun _ _ _ _ _ _ _ _ _ _ _ _ _ _ q r=>⟨v0,v1,v2,v2,v3,v4,v5,v6,v7,v8,v9,v10,v11,v12,q,r⟩) s
def p82_14:Den:=fun _ e s=>lt (g0 e) fun v0=>.nrm (u30 (u8 e v0) v0) s
def p82_16:Res:=lt (g0 e) fun v0=>bP ((dLdN 3 g9) e s) fun v1=>bE (aSt (aBSl 1 3 [(.i 0), .nils, .nils] [(0, 3, (cV v1))] e s.next) s) fun v2 s=>bE (eApW 3 (cV v0) (cV v2) k e s) fun v3 s=>.nrm (ws2 (u31 (u8 e v3) v0) fun r=>{r with a0:=v1,a1:=v2,a2:=v3}) s
def p82_0:Res:=dSeq p82_1 (dSeq p82_3 (dSeq (dSeq p82_6 (dCond g13 p82_8 dSkip)) (dSeq (dSeq p82_11 (dCond g29 (dSeq p82_14 dRet) dSkip)) (dSeq p82_16 dRet)))) k e s
def F82 : FDen := ⟨[u0, u1, u2, u3], p82_0, resV [rT g8]⟩
theorem low82 : lowFunc tt [] fok Try.f82 = some F82 := by kernel_rfl
theorem run82 : FRun Try.prog [] 82 F82 := FRun.of (lowFunc_ok ttOk fokOk mixed Try.func82 low82)
def p83_1:Den:=fun _ e s=>ltc (V.bool false) fun v0=>.nrm (u4 e v0) s
def p83_4:Den:=fun _ e s=>ltc (V.i 0) fun v0=>.nrm (u5 e v0) s
def p83_9:Den:=fun _ e s=>lt (g5 e) fun v0=>lt (g0 e) fun v1=>bP (pUn uChk (cV v1) e) fun v2=>bP (pUn (uFld 8) (cV v2) e) fun v3=>bP ((dLd (cV v3)) e s) fun v4=>bP (pUn uLenS (cV v4) e) fun v5=>bP (pBin (bI fLt) (cV v0) (cV v5) e) fun v6=>.nrm (ws0 e fun r=>{r with a6:=v0,a7:=v1,a8:=v2,a9:=v3,a10:=v4,a11:=v5,a12:=v6}) s
def p83_14:Den:=fun _ e s=>lt (g0 e) fun v0=>bP (pUn uChk (cV v0) e) fun v1=>bP (pUn (uFld 8) (cV v1) e) fun v2=>bP ((dLd (cV v2)) e s) fun v3=>lt (g5 e) fun v4=>bP (pBin (bIdx 1) (cV v3) (cV v4) e) fun v5=>bP ((dLd (cV v5)) e s) fun v6=>lt (g1 e) fun v7=>bP (pBin (bI fEq) (cV v6) (cV v7) e) fun v8=>.nrm (ws1 (u15 e v0) fun r=>{r with a0:=v1,a1:=v2,a2:=v3,a3:=v4,a4:=v5,a5:=v6,a6:=v7,a7:=v8}) s
def p83_17:Den:=fun _ e s=>ltc (V.bool true) fun v0=>.nrm (u4 e v0) s
def p83_18:Den:=fun _ e s=>lt (g5 e) fun v0=>bP (pBin (bI fAdd) (cV v0) (cV (.i 1)) e) fun v1=>.nrm (ws0 e fun r=>{r with a5:=v1,a13:=v0,a14:=v1}) s
def p83_20:Den:=fun _ e s=>ltc (V.bool false) fun v0=>.nrm (u4 e v0) s
def p83_0:Res:=dSeq p83_1 (dSeq (dSeq p83_4 (dBlock 0 (dLoop (dSeq (dSeq p83_9 (dCond g12 dSkip (dExit 0))) (dSeq (dBlock 1 (dSeq p83_14 (dCond g23 (dSeq p83_17 dRet) dSkip))) p83_18))))) (dSeq p83_20 dRet)) k e s
def F83 : FDen := ⟨[u0, u1], p83_0, resV [rT g4]⟩
theorem low83 : lowFunc tt [] fok Try.f83 = some F83 := by kernel_rfl
theorem run83 : FRun Try.prog [] 83 F83 := FRun.of (lowFunc_ok ttOk fokOk mixed Try.func83 low83)
def p84_1:Den:=fun _ e s=>ltc (V.nils) fun v0=>ltc (V.i 0) fun v1=>.nrm (ws0 e fun r=>{r with a2:=v0,a3:=v1}) s
def p84_3:Den:=fun _ e s=>ltc (V.nils) fun v0=>.nrm (u4 e v0) s
def p84_6:Den:=fun _ e s=>ltc (V.i 0) fun v0=>.nrm (u5 e v0) s
def p84_11:Den:=fun _ e s=>lt (g5 e) fun v0=>lt (g0 e) fun v1=>bP (pUn uLenS (cV v1) e) fun v2=>bP (pBin (bI fLt) (cV v0) (cV v2) e) fun v3=>.nrm (ws0 e fun r=>{r with a8:=v0,a9:=v1,a10:=v2,a11:=v3}) s
def p84_17:Res:=lt (g0 e) fun v0=>lt (g5 e) fun v1=>bP (pBin (bIdx 4) (cV v0) (cV v1) e) fun v2=>bP (pUn (uFld 1) (cV v2) e) fun v3=>bP ((dLd (cV v3)) e s) fun v4=>bE (eCall 46 [cV v4] k e s) fun v5 s=>bP (pBin (bI fEq) (cV v5) (cV (.i 0)) e) fun v6=>.nrm (ws1 (ws0 e fun r=>{r with a14:=v0,a15:=v1}) fun r=>{r with a0:=v2,a1:=v3,a2:=v4,a3:=v5,a4:=v6}) s
def p84_20:Den:=fun _ e s=>ltc (V.nils) fun v0=>ltc (V.i 15) fun v1=>.nrm (ws0 e fun r=>{r with a2:=v0,a3:=v1}) s
def p84_23:Den:=fun _ e s=>lt (g0 e) fun v0=>lt (g5 e) fun v1=>bP (pBin (bIdx 4) (cV v0) (cV v1) e) fun v2=>bP (pUn (uFld 0) (cV v2) e) fun v3=>bP ((dLd (cV v3)) e s) fun v4=>lt (g4 e) fun v5=>bP (pUn uLenS (cV v5) e) fun v6=>bP (pBin (bI fNe) (cV v4) (cV v6) e) fun v7=>.nrm (ws1 e fun r=>{r with a5:=v0,a6:=v1,a7:=v2,a8:=v3,a9:=v4,a10:=v5,a11:=v6,a12:=v7}) s
def p84_26:Den:=fun _ e s=>ltc (V.nils) fun v0=>ltc (V.i 16) fun v1=>.nrm (ws0 e fun r=>{r with a2:=v0,a3:=v1}) s
def p84_28:Res:=lt (g0 e) fun v0=>lt (g5 e) fun v1=>bP (pBin (bIdx 4) (cV v0) (cV v1) e) fun v2=>bP ((dLdN 4 (cV v2)) e s) fun v3=>bE (eCall 93 [cV v3] k e s) fun v4 s=>bP (pUn (uExt 0) (cV v4) e) fun v5=>bP (pUn (uExt 1) (cV v4) e) fun v6=>.nrm (ws2 (ws1 (ws0 e fun r=>{r with a6:=v5,a7:=v6}) fun r=>{r with a13:=v4,a14:=v0,a15:=v1}) fun r=>{r with a0:=v2,a1:=v3,a2:=v4,a3:=v5,a4:=v6}) s
def p84_31:Den:=fun _ e s=>lt (g7 e) fun v0=>bP (pUn uNot (cV v0) e) fun v1=>.nrm (ws2 e fun r=>{r with a5:=v0,a6:=v1}) s
def p84_34:Den:=fun _ e s=>ltc (V.nils) fun v0=>ltc (V.i 1) fun v1=>.nrm (ws0 e fun r=>{r with a2:=v0,a3:=v1}) s
def p84_35:Res:=lt (g4 e) fun v0=>lt (g6 e) fun v1=>bE (eAp8 1 (cV v0) (cV v1) k e s) fun v2 s=>.nrm (ws2 (u4 e v2) fun r=>{r with a7:=v0,a8:=v1,a9:=v2}) s
def p84_36:Den:=fun _ e s=>lt (g5 e) fun v0=>bP (pBin (bI fAdd) (cV v0) (cV (.i 1)) e) fun v1=>.nrm (ws0 e fun r=>{r with a5:=v1,a12:=v0,a13:=v1}) s
def p84_39:Den:=fun _ e s=>lt (g4 e) fun v0=>bP (pUn uLenS (cV v0) e) fun v1=>bP (pBin (bI fGt) (cV v1) (cV (.i 1024)) e) fun v2=>.nrm (ws2 e fun r=>{r with a10:=v0,a11:=v1,a12:=v2}) s
def p84_42:Den:=fun _ e s=>ltc (V.nils) fun v0=>ltc (V.i 3) fun v1=>.nrm (ws0 e fun r=>{r with a2:=v0,a3:=v1}) s
def p84_44:Den:=fun _ e s=>lt (g4 e) fun v0=>ltc (V.i 0) fun v1=>.nrm (u45 (ws0 e fun r=>{r with a2:=v0,a3:=v1}) v0) s
def p84_0:Res:=dSeq p84_1 (dSeq p84_3 (dSeq (dSeq p84_6 (dBlock 0 (dLoop (dSeq (dSeq p84_11 (dCond g11 dSkip (dExit 0))) (dSeq (dBlock 1 (dSeq (dSeq p84_17 (dCond g20 (dSeq p84_20 dRet) dSkip)) (dSeq (dSeq p84_23 (dCond g28 (dSeq p84_26 dRet) dSkip)) (dSeq p84_28 (dSeq (dSeq p84_31 (dCond g38 (dSeq p84_34 dRet) dSkip)) p84_35))))) p84_36))))) (dSeq (dSeq p84_39 (dCond g44 (dSeq p84_42 dRet) dSkip)) (dSeq p84_44 dRet)))) k e s
def F84 : FDen := ⟨[u0], p84_0, resV [rT g2, rT g3]⟩
theorem low84 : lowFunc tt [] fok Try.f84 = some F84 := by kernel_rfl
theorem run84 : FRun Try.prog [] 84 F84 := FRun.of (lowFunc_ok ttOk fokOk mixed Try.func84 low84)
def p86_1:Res:=lt (g0 e) fun v0=>bE (eCall 94 [cV v0] k e s) fun v1 s=>.nrm (ws0 e fun r=>{r with a2:=v1,a5:=v0,a6:=v1}) s
def p86_3:Res:=lt (g0 e) fun v0=>bE (eCall 94 [cV v0] k e s) fun v1 s=>.nrm (ws0 e fun r=>{r with a3:=v1,a7:=v0,a8:=v1}) s
def p86_5:Res:=lt (g0 e) fun v0=>bP (pUn uChk (cV v0) e) fun v1=>bP (pUn (uFld 0) (cV v1) e) fun v2=>bP ((dLd (cV v2)) e s) fun v3=>bE (eCall 49 [(cV v3), (cV (.i 4))] k e s) fun v4 s=>.nrm (ws0 e fun r=>{r with a4:=v4,a9:=v0,a10:=v1,a11:=v2,a12:=v3,a13:=v4}) s
def p86_9:Den:=fun _ e s=>lt (g4 e) fun v0=>bP (pBin (bI fEq) (cV v0) (cV (.i 0)) e) fun v1=>bP (gdV v1 true (pMove g0 e)) fun v2=>bP (gdV v1 true (pUn uChk (cV v2) e)) fun v3=>bP (gdV v1 true (pUn (uFld 4) (cV v3) e)) fun v4=>bP (gdV v1 true ((dLd (cV v4)) e s)) fun v5=>bP (gdV v1 true (pUn uNot (cV v5) e)) fun v6=>bP (pPick (cV v1) (cV v6) (cV (.bool false)) e) fun v7=>.nrm (ws2 (ws1 e fun r=>{r with a11:=v7,a12:=v0,a13:=v1,a14:=v1,a15:=v2}) fun r=>{r with a0:=v3,a1:=v4,a2:=v5,a3:=v6,a4:=v7}) s
def p86_12:Res:=lt (g0 e) fun v0=>bE (eCall 78 [(cV v0), (cV (.i 2))] k e s) fun v1 s=>.nrm (ws2 e fun r=>{r with a5:=v0,a6:=v1}) s
def p86_13:Res:=lt (g0 e) fun v0=>bE (aSt (aBSl 2 1 [(.i 0), (.i 0)] [(0, 1, (cV (.i 198))), (1, 1, (cV (.i 199)))] e s.next) s) fun v1 s=>lt (g0 e) fun v2=>bP (pUn uChk (cV v2) e) fun v3=>bP (pUn (uFld 0) (cV v3) e) fun v4=>bP ((dLd (cV v4)) e s) fun v5=>bE (eCall 49 [(cV v5), (cV (.i 2))] k e s) fun v6 s=>bP (pBin (bIdx 1) (cV v1) (cV v6) e) fun v7=>bP ((dLd (cV v7)) e s) fun v8=>lt (g2 e) fun v9=>bE (eCall 95 [cV v0,cV v8,cV v9] k e s) fun v10 s=>.nrm (ws3 (rw2 e fun a b c d f g h _ _ _ _ _ _ _ _ _=>⟨a,b,c,d,f,g,h,v0,v1,v2,v3,v4,v5,v6,v7,v8⟩) fun r=>{r with a0:=v9,a1:=v10}) s
def p86_15:Den:=fun _ e s=>lt (g4 e) fun v0=>bP (pBin (bI fEq) (cV v0) (cV (.i 1)) e) fun v1=>bP (gdV v1 true (pMove g0 e)) fun v2=>bP (gdV v1 true (pUn uChk (cV v2) e)) fun v3=>bP (gdV v1 true (pUn (uFld 4) (cV v3) e)) fun v4=>bP (gdV v1 true ((dLd (cV v4)) e s)) fun v5=>bP (gdV v1 true (pUn uNot (cV v5) e)) fun v6=>bP (pPick (cV v1) (cV v6) (cV (.bool false)) e) fun v7=>.nrm (rw3 e fun a b _ _ _ _ _ _ _ _ _ _ o p q r=>⟨a,b,v7,v0,v1,v1,v2,v3,v4,v5,v6,v7,o,p,q,r⟩) s
def p86_18:Res:=lt (g0 e) fun v0=>bE (eCall 78 [(cV v0), (cV (.i 1))] k e s) fun v1 s=>.nrm (ws3 e fun r=>{r with a12:=v0,a13:=v1}) s
def p86_20:Res:=lt (g0 e) fun v0=>bE (eCall 78 [(cV v0), (cV (.i 1))] k e s) fun v1 s=>.nrm (ws3 e fun r=>{r with a14:=v0,a15:=v1}) s
def p86_21:Res:=lt (g0 e) fun v0=>bE (aSt (aBSl 2 1 [(.i 0), (.i 0)] [(0, 1, (cV (.i 165))), (1, 1, (cV (.i 166)))] e s.next) s) fun v1 s=>lt (g0 e) fun v2=>bP (pUn uChk (cV v2) e) fun v3=>bP (pUn (uFld 0) (cV v3) e) fun v4=>bP ((dLd (cV v4)) e s) fun v5=>bE (eCall 49 [(cV v5), (cV (.i 2))] k e s) fun v6 s=>bP (pBin (bIdx 1) (cV v1) (cV v6) e) fun v7=>bP ((dLd (cV v7)) e s) fun v8=>lt (g2 e) fun v9=>bE (eCall 95 [cV v0,cV v8,cV v9] k e s) fun v10 s=>.nrm (rw4 e fun _ _ _ _ _ _ _ _ _ _ _ n o p q r=>⟨v0,v1,v2,v3,v4,v5,v6,v7,v8,v9,v10,n,o,p,q,r⟩) s
def p86_23:Den:=fun _ e s=>lt (g4 e) fun v0=>bP (pBin (bI fEq) (cV v0) (cV (.i 2)) e) fun v1=>.nrm (ws4 e fun r=>{r with a11:=v1,a12:=v0,a13:=v1}) s
def p86_26:Res:=lt (g0 e) fun v0=>bE (eCall 67 [(cV v0), (cV (.i 2))] k e s) fun v1 s=>.nrm (ws4 e fun r=>{r with a14:=v0,a15:=v1}) s
def p86_27:Res:=lt (g0 e) fun v0=>lt (g0 e) fun v1=>bP (pUn uChk (cV v1) e) fun v2=>bP (pUn (uFld 0) (cV v2) e) fun v3=>bP ((dLd (cV v3)) e s) fun v4=>bE (eCall 49 [(cV v4), (cV (.i 6))] k e s) fun v5 s=>bP (pBin (bI fAdd) (cV (.i 153)) (cV v5) e) fun v6=>lt (g2 e) fun v7=>bE (eCall 95 [cV v0,cV v6,cV v7] k e s) fun v8 s=>.nrm (ws5 e fun r=>{r with a0:=v0,a1:=v1,a2:=v2,a3:=v3,a4:=v4,a5:=v5,a6:=v6,a7:=v7,a8:=v8}) s
def p86_29:Res:=lt (g0 e) fun v0=>bE (eCall 67 [(cV v0), (cV (.i 2))] k e s) fun v1 s=>.nrm (ws0 e fun r=>{r with a14:=v0,a15:=v1}) s
def p86_31:Res:=lt (g0 e) fun v0=>bE (eCall 67 [(cV v0), (cV (.i 2))] k e s) fun v1 s=>.nrm (ws1 e fun r=>{r with a0:=v0,a1:=v1}) s
def p86_32:Res:=lt (g0 e) fun v0=>lt (g0 e) fun v1=>bP (pUn uChk (cV v1) e) fun v2=>bP (pUn (uFld 0) (cV v2) e) fun v3=>bP ((dLd (cV v3)) e s) fun v4=>bE (eCall 49 [(cV v4), (cV (.i 6))] k e s) fun v5 s=>bP (pBin (bI fAdd) (cV (.i 159)) (cV v5) e) fun v6=>lt (g2 e) fun v7=>bE (eCall 95 [cV v0,cV v6,cV v7] k e s) fun v8 s=>.nrm (ws1 e fun r=>{r with a2:=v0,a3:=v1,a4:=v2,a5:=v3,a6:=v4,a7:=v5,a8:=v6,a9:=v7,a10:=v8}) s
def p86_34:Res:=lt (g0 e) fun v0=>bE (eCall 66 [(cV v0), (cV (.i 2))] k e s) fun v1 s=>.nrm (ws5 e fun r=>{r with a9:=v0,a10:=v1}) s
def p86_36:Res:=lt (g0 e) fun v0=>lt (g3 e) fun v1=>bE (eCall 95 [(cV v0), (cV (.i 167)), (cV v1)] k e s) fun v2 s=>.nrm (ws5 e fun r=>{r with a11:=v0,a12:=v1,a13:=v2}) s
def p86_38:Res:=lt (g0 e) fun v0=>lt (g2 e) fun v1=>bE (eCall 96 [cV v0,cV v1] k e s) fun v2 s=>.nrm (u96 (ws5 e fun r=>{r with a14:=v0,a15:=v1}) v2) s
def p86_40:Res:=lt (g0 e) fun v0=>bE (eCall 66 [(cV v0), (cV (.i 2))] k e s) fun v1 s=>.nrm (ws6 e fun r=>{r with a1:=v0,a2:=v1}) s
def p86_42:Res:=lt (g0 e) fun v0=>lt (g3 e) fun v1=>bE (eCall 96 [cV v0,cV v1] k e s) fun v2 s=>.nrm (ws6 e fun r=>{r with a3:=v0,a4:=v1,a5:=v2}) s
def p86_43:Res:=lt (g0 e) fun v0=>bE (eCall 64 [(cV v0), (cV (.i 0)), (cV (.i 0)), (cV (.i 0))] k e s) fun v1 s=>.nrm (ws6 e fun r=>{r with a6:=v0,a7:=v1}) s
def p86_0:Res:=dSeq p86_1 (dSeq p86_3 (dSeq p86_5 (dSeq (dBlock 0 (dSeq p86_9 (dCond g27 (dSeq p86_12 p86_13) (dSeq p86_15 (dCond g50 (dSeq p86_18 (dSeq p86_20 p86_21)) (dSeq p86_23 (dCond g75 (dSeq p86_26 p86_27) (dSeq p86_29 (dSeq p86_31 p86_32))))))))) (dSeq p86_34 (dSeq p86_36 (dSeq p86_38 (dSeq p86_40 (dSeq p86_42 p86_43)))))))) k e s
def F86 : FDen := ⟨[u0], p86_0, resV []⟩
theorem low86 : lowFunc tt [] fok Try.f86 = some F86 := by kernel_rfl
theorem run86 : FRun Try.prog [] 86 F86 := FRun.of (lowFunc_ok ttOk fokOk mixed Try.func86 low86)
def p87_1:Res:=lt (g0 e) fun v0=>bE (eCall 94 [cV v0] k e s) fun v1 s=>.nrm (ws0 e fun r=>{r with a2:=v1,a5:=v0,a6:=v1}) s
def p87_3:Res:=lt (g0 e) fun v0=>bE (eCall 94 [cV v0] k e s) fun v1 s=>.nrm (ws0 e fun r=>{r with a3:=v1,a7:=v0,a8:=v1}) s
def p87_5:Res:=lt (g0 e) fun v0=>bP (pUn uChk (cV v0) e) fun v1=>bP (pUn (uFld 0) (cV v1) e) fun v2=>bP ((dLd (cV v2)) e s) fun v3=>bE (eCall 49 [(cV v3), (cV (.i 4))] k e s) fun v4 s=>.nrm (ws0 e fun r=>{r with a4:=v4,a9:=v0,a10:=v1,a11:=v2,a12:=v3,a13:=v4}) s
def p87_7:Res:=lt (g0 e) fun v0=>bE (eCall 64 [(cV v0), (cV (.i 3)), (cV (.i 0)), (cV (.i 0))] k e s) fun v1 s=>.nrm (ws0 e fun r=>{r with a14:=v0,a15:=v1}) s
def p87_9:Res:=lt (g0 e) fun v0=>lt (g4 e) fun v1=>bE (eCall 64 [(cV v0), (cV (.i 54)), (cV v1), (cV (.i 0))] k e s) fun v2 s=>.nrm (ws1 e fun r=>{r with a0:=v0,a1:=v1,a2:=v2}) s
def p87_11:Res:=lt (g0 e) fun v0=>lt (g2 e) fun v1=>bE (eCall 96 [cV v0,cV v1] k e s) fun v2 s=>.nrm (ws1 e fun r=>{r with a3:=v0,a4:=v1,a5:=v2}) s
def p87_13:Res:=lt (g0 e) fun v0=>lt (g4 e) fun v1=>bE (eCall 64 [(cV v0), (cV (.i 21)), (cV v1), (cV (.i 0))] k e s) fun v2 s=>.nrm (ws1 e fun r=>{r with a6:=v0,a7:=v1,a8:=v2}) s
def p87_15:Res:=lt (g0 e) fun v0=>lt (g0 e) fun v1=>bP (pUn uChk (cV v1) e) fun v2=>bP (pUn (uFld 0) (cV v2) e) fun v3=>bP ((dLd (cV v3)) e s) fun v4=>bE (eCall 49 [(cV v4), (cV (.i 6))] k e s) fun v5 s=>bP (pBin (bI fAdd) (cV (.i 3)) (cV v5) e) fun v6=>bE (eCall 64 [(cV v0), (cV v6), (cV (.i 0)), (cV (.i 0))] k e s) fun v7 s=>.nrm (u32 (ws1 e fun r=>{r with a9:=v0,a10:=v1,a11:=v2,a12:=v3,a13:=v4,a14:=v5,a15:=v6}) v7) s
def p87_17:Res:=lt (g0 e) fun v0=>lt (g3 e) fun v1=>bE (eCall 95 [(cV v0), (cV (.i 162)), (cV v1)] k e s) fun v2 s=>.nrm (ws2 e fun r=>{r with a1:=v0,a2:=v1,a3:=v2}) s
def p87_19:Res:=lt (g0 e) fun v0=>bE (eCall 66 [(cV v0), (cV (.i 2))] k e s) fun v1 s=>.nrm (ws2 e fun r=>{r with a4:=v0,a5:=v1}) s
def p87_21:Res:=lt (g0 e) fun v0=>lt (g4 e) fun v1=>bE (eCall 64 [(cV v0), (cV (.i 132)), (cV v1), (cV (.i 1))] k e s) fun v2 s=>.nrm (ws2 e fun r=>{r with a6:=v0,a7:=v1,a8:=v2}) s
def p87_23:Res:=lt (g0 e) fun v0=>lt (g2 e) fun v1=>bE (eCall 95 [(cV v0), (cV (.i 167)), (cV v1)] k e s) fun v2 s=>.nrm (ws2 e fun r=>{r with a9:=v0,a10:=v1,a11:=v2}) s
def p87_25:Res:=lt (g0 e) fun v0=>lt (g3 e) fun v1=>bE (eCall 96 [cV v0,cV v1] k e s) fun v2 s=>.nrm (ws2 e fun r=>{r with a12:=v0,a13:=v1,a14:=v2}) s
def p87_26:Res:=lt (g0 e) fun v0=>bE (eCall 64 [(cV v0), (cV (.i 0)), (cV (.i 0)), (cV (.i 0))] k e s) fun v1 s=>.nrm (u48 (u47 e v0) v1) s
def p87_0:Res:=dSeq p87_1 (dSeq p87_3 (dSeq p87_5 (dSeq p87_7 (dSeq p87_9 (dSeq p87_11 (dSeq p87_13 (dSeq p87_15 (dSeq p87_17 (dSeq p87_19 (dSeq p87_21 (dSeq p87_23 (dSeq p87_25 p87_26)))))))))))) k e s
def F87 : FDen := ⟨[u0], p87_0, resV []⟩
theorem low87 : lowFunc tt [] fok Try.f87 = some F87 := by kernel_rfl
theorem run87 : FRun Try.prog [] 87 F87 := FRun.of (lowFunc_ok ttOk fokOk mixed Try.func87 low87)
def p88_1:Res:=lt (g0 e) fun v0=>bP (pUn uChk (cV v0) e) fun v1=>bP (pUn (uFld 0) (cV v1) e) fun v2=>bP ((dLd (cV v2)) e s) fun v3=>bE (eCall 49 [(cV v3), (cV (.i 4))] k e s) fun v4 s=>.nrm (ws0 e fun r=>{r with a2:=v0,a3:=v1,a4:=v2,a5:=v3,a6:=v4}) s
def p88_4:Den:=fun _ e s=>bP (pBin (bI fEq) g6 (cV (.i 0)) e) fun v0=>.nrm (ws0 e fun r=>{r with a7:=v0,a8:=v0}) s
def p88_7:Res:=lt (g0 e) fun v0=>bE (eCall 67 [(cV v0), (cV (.i 1))] k e s) fun v1 s=>.nrm (ws0 e fun r=>{r with a9:=v0,a10:=v1}) s
def p88_9:Res:=lt (g0 e) fun v0=>bE (eCall 64 [(cV v0), (cV (.i 188)), (cV (.i 10)), (cV (.i 0))] k e s) fun v1 s=>.nrm (ws0 e fun r=>{r with a11:=v0,a12:=v1}) s
def p88_10:Res:=lt (g0 e) fun v0=>bE (eCall 64 [(cV v0), (cV (.i 58)), (cV (.i 6)), (cV (.i 0))] k e s) fun v1 s=>.nrm (ws0 e fun r=>{r with a13:=v0,a14:=v1}) s
def p88_12:Den:=fun _ e s=>bP (pBin (bI fEq) g6 (cV (.i 1)) e) fun v0=>.nrm (u16 (u15 e v0) v0) s
def p88_15:Res:=lt (g0 e) fun v0=>lt (g0 e) fun v1=>bP (pUn uChk (cV v1) e) fun v2=>bP (pUn (uFld 0) (cV v2) e) fun v3=>bP ((dLd (cV v3)) e s) fun v4=>bE (eCall 49 [(cV v4), (cV (.i 9))] k e s) fun v5 s=>bE (eCall 64 [(cV v0), (cV (.i 16)), (cV v5), (cV (.i 0))] k e s) fun v6 s=>.nrm (ws1 e fun r=>{r with a1:=v0,a2:=v1,a3:=v2,a4:=v3,a5:=v4,a6:=v5,a7:=v6}) s
def p88_17:Res:=lt (g0 e) fun v0=>lt (g0 e) fun v1=>bE (aSt (aBSl 2 1 [(.str []), (.str [])] [(0, 1, (cV (.str [65]))), (1, 1, (cV (.str [66])))] e s.next) s) fun v2 s=>lt (g0 e) fun v3=>bP (pUn uChk (cV v3) e) fun v4=>bP (pUn (uFld 0) (cV v4) e) fun v5=>bP ((dLd (cV v5)) e s) fun v6=>bE (eCall 49 [(cV v6), (cV (.i 2))] k e s) fun v7 s=>bP (pBin (bIdx 1) (cV v2) (cV v7) e) fun v8=>bP ((dLd (cV v8)) e s) fun v9=>bE (eCall 81 [cV v1,cV v9] k e s) fun v10 s=>bE (eCall 64 [(cV v0), (cV (.i 189)), (cV v10), (cV (.i 0))] k e s) fun v11 s=>.nrm (ws2 (ws1 e fun r=>{r with a8:=v0,a9:=v1,a10:=v2,a11:=v3,a12:=v4,a13:=v5,a14:=v6,a15:=v7}) fun r=>{r with a0:=v8,a1:=v9,a2:=v10,a3:=v11}) s
def p88_18:Res:=lt (g0 e) fun v0=>bE (eCall 64 [(cV v0), (cV (.i 58)), (cV (.i 9)), (cV (.i 0))] k e s) fun v1 s=>.nrm (ws2 e fun r=>{r with a4:=v0,a5:=v1}) s
def p88_20:Den:=fun _ e s=>bP (pBin (bI fEq) g6 (cV (.i 2)) e) fun v0=>.nrm (ws2 e fun r=>{r with a6:=v0,a7:=v0}) s
def p88_23:Res:=lt (g0 e) fun v0=>bE (eCall 64 [(cV v0), (cV (.i 25)), (cV (.i 6)), (cV (.i 0))] k e s) fun v1 s=>.nrm (ws2 e fun r=>{r with a8:=v0,a9:=v1}) s
def p88_25:Res:=lt (g0 e) fun v0=>bE (eCall 67 [(cV v0), (cV (.i 1))] k e s) fun v1 s=>.nrm (ws2 e fun r=>{r with a10:=v0,a11:=v1}) s
def p88_27:Res:=lt (g0 e) fun v0=>bE (eCall 67 [(cV v0), (cV (.i 2))] k e s) fun v1 s=>.nrm (ws2 e fun r=>{r with a12:=v0,a13:=v1}) s
def p88_28:Res:=lt (g0 e) fun v0=>bE (eCall 64 [(cV v0), (cV (.i 79)), (cV (.i 0)), (cV (.i 0))] k e s) fun v1 s=>.nrm (ws2 e fun r=>{r with a14:=v0,a15:=v1}) s
def p88_30:Den:=fun _ e s=>bP (pBin (bI fEq) g6 (cV (.i 3)) e) fun v0=>.nrm (ws3 e fun r=>{r with a0:=v0,a1:=v0}) s
def p88_33:Res:=lt (g0 e) fun v0=>bE (eCall 64 [(cV v0), (cV (.i 25)), (cV (.i 9)), (cV (.i 0))] k e s) fun v1 s=>.nrm (ws3 e fun r=>{r with a2:=v0,a3:=v1}) s
def p88_35:Res:=lt (g0 e) fun v0=>lt (g0 e) fun v1=>bP (pUn uChk (cV v1) e) fun v2=>bP (pUn (uFld 0) (cV v2) e) fun v3=>bP ((dLd (cV v3)) e s) fun v4=>bE (eCall 49 [(cV v4), (cV (.i 4))] k e s) fun v5 s=>bP (pBin (bI fAdd) (cV (.i 3)) (cV v5) e) fun v6=>bE (eCall 64 [(cV v0), (cV v6), (cV (.i 0)), (cV (.i 0))] k e s) fun v7 s=>.nrm (ws3 e fun r=>{r with a4:=v0,a5:=v1,a6:=v2,a7:=v3,a8:=v4,a9:=v5,a10:=v6,a11:=v7}) s
def p88_37:Res:=lt (g0 e) fun v0=>bE (eCall 78 [(cV v0), (cV (.i 2))] k e s) fun v1 s=>.nrm (ws3 e fun r=>{r with a12:=v0,a13:=v1}) s
def p88_38:Res:=lt (g0 e) fun v0=>bE (eCall 64 [(cV v0), (cV (.i 83)), (cV (.i 0)), (cV (.i 0))] k e s) fun v1 s=>.nrm (ws3 e fun r=>{r with a14:=v0,a15:=v1}) s
def p88_0:Res:=dSeq p88_1 (dBlock 0 (dSeq p88_4 (dCond g7 (dSeq p88_7 (dSeq p88_9 p88_10)) (dSeq p88_12 (dCond g15 (dSeq p88_15 (dSeq p88_17 p88_18)) (dSeq p88_20 (dCond g38 (dSeq p88_23 (dSeq p88_25 (dSeq p88_27 p88_28))) (dSeq p88_30 (dCond g48 (dSeq p88_33 (dSeq p88_35 (dSeq p88_37 p88_38))) dSkip))))))))) k e s
def F88 : FDen := ⟨[u0], p88_0, resV []⟩
theorem low88 : lowFunc tt [] fok Try.f88 = some F88 := by kernel_rfl
theorem run88 : FRun Try.prog [] 88 F88 := FRun.of (lowFunc_ok ttOk fokOk mixed Try.func88 low88)
def p89_1:Res:=lt (g0 e) fun v0=>bE (eCall 94 [cV v0] k e s) fun v1 s=>.nrm (ws0 e fun r=>{r with a2:=v1,a6:=v0,a7:=v1}) s
def p89_3:Res:=lt (g0 e) fun v0=>bE (eCall 94 [cV v0] k e s) fun v1 s=>.nrm (ws0 e fun r=>{r with a3:=v1,a8:=v0,a9:=v1}) s
def p89_5:Res:=lt (g0 e) fun v0=>bE (eCall 94 [cV v0] k e s) fun v1 s=>.nrm (ws0 e fun r=>{r with a4:=v1,a10:=v0,a11:=v1}) s
def p89_7:Res:=lt (g0 e) fun v0=>bE (eCall 94 [cV v0] k e s) fun v1 s=>.nrm (ws0 e fun r=>{r with a5:=v1,a12:=v0,a13:=v1}) s
def p89_9:Res:=lt (g0 e) fun v0=>lt (g2 e) fun v1=>bE (eCall 96 [cV v0,cV v1] k e s) fun v2 s=>.nrm (u16 (ws0 e fun r=>{r with a14:=v0,a15:=v1}) v2) s
def p89_11:Res:=lt (g0 e) fun v0=>bE (eCall 64 [(cV v0), (cV (.i 0)), (cV (.i 0)), (cV (.i 0))] k e s) fun v1 s=>.nrm (ws1 e fun r=>{r with a1:=v0,a2:=v1}) s
def p89_13:Res:=lt (g0 e) fun v0=>bE (eCall 66 [(cV v0), (cV (.i 2))] k e s) fun v1 s=>.nrm (ws1 e fun r=>{r with a3:=v0,a4:=v1}) s
def p89_15:Res:=lt (g0 e) fun v0=>lt (g3 e) fun v1=>bE (eCall 96 [cV v0,cV v1] k e s) fun v2 s=>.nrm (ws1 e fun r=>{r with a5:=v0,a6:=v1,a7:=v2}) s
def p89_17:Res:=lt (g0 e) fun v0=>lt (g5 e) fun v1=>bE (eCall 95 [(cV v0), (cV (.i 167)), (cV v1)] k e s) fun v2 s=>.nrm (ws1 e fun r=>{r with a8:=v0,a9:=v1,a10:=v2}) s
def p89_19:Res:=lt (g0 e) fun v0=>lt (g4 e) fun v1=>bE (eCall 96 [cV v0,cV v1] k e s) fun v2 s=>.nrm (ws1 e fun r=>{r with a11:=v0,a12:=v1,a13:=v2}) s
def p89_21:Res:=lt (g0 e) fun v0=>lt (g0 e) fun v1=>bP (pUn uChk (cV v1) e) fun v2=>bP (pUn (uFld 8) (cV v2) e) fun v3=>bP ((dLd (cV v3)) e s) fun v4=>lt (g4 e) fun v5=>bE (aSt (aBSl 1 1 [(.i 0)] [(0, 1, (cV v5))] e s.next) s) fun v6 s=>bE (eAp8 1 (cV v4) (cV v6) k e s) fun v7 s=>bP (pUn uChk (cV v0) e) fun v8=>bP (pUn (uFld 8) (cV v8) e) fun v9=>bE (eSt 1 (cV v9) (cV v7) k e s) fun v10 s=>.nrm (ws2 (ws1 e fun r=>{r with a14:=v0,a15:=v1}) fun r=>{r with a0:=v2,a1:=v3,a2:=v4,a3:=v5,a4:=v6,a5:=v7,a6:=v8,a7:=v9}) s
def p89_23:Res:=lt (g0 e) fun v0=>bE (eCall 64 [(cV v0), (cV (.i 58)), (cV (.i 7)), (cV (.i 0))] k e s) fun v1 s=>.nrm (ws2 e fun r=>{r with a8:=v0,a9:=v1}) s
def p89_25:Res:=lt (g0 e) fun v0=>lt (g0 e) fun v1=>bP (pUn uChk (cV v1) e) fun v2=>bP (pUn (uFld 7) (cV v2) e) fun v3=>bP ((dLd (cV v3)) e s) fun v4=>lt (g2 e) fun v5=>lt (g3 e) fun v6=>lt (g4 e) fun v7=>bP (pBuild [(.i 0), (.i 0), (.i 0)] [(0, 1, (cV v5)), (1, 1, (cV v6)), (2, 1, (cV v7))] e) fun v8=>bE (aSt (aBSl 1 3 [(.i 0), (.i 0), (.i 0)] [(0, 3, (cV v8))] e s.next) s) fun v9 s=>bE (eApW 3 (cV v4) (cV v9) k e s) fun v10 s=>bP (pUn uChk (cV v0) e) fun v11=>bP (pUn (uFld 7) (cV v11) e) fun v12=>bE (eSt 1 (cV v12) (cV v10) k e s) fun v13 s=>.nrm (ws3 (ws2 e fun r=>{r with a10:=v0,a11:=v1,a12:=v2,a13:=v3,a14:=v4,a15:=v5}) fun r=>{r with a0:=v6,a1:=v7,a2:=v8,a3:=v9,a4:=v10,a5:=v11,a6:=v12}) s
def p89_27:Res:=lt (g0 e) fun v0=>bE (eCall 66 [(cV v0), (cV (.i 1))] k e s) fun v1 s=>.nrm (ws3 e fun r=>{r with a7:=v0,a8:=v1}) s
def p89_30:Res:=lt (g0 e) fun v0=>bP (pUn uChk (cV v0) e) fun v1=>bP (pUn (uFld 0) (cV v1) e) fun v2=>bP ((dLd (cV v2)) e s) fun v3=>bE (eCall 49 [(cV v3), (cV (.i 4))] k e s) fun v4 s=>bP (pBin (bI fEq) (cV v4) (cV (.i 0)) e) fun v5=>.nrm (ws3 e fun r=>{r with a9:=v0,a10:=v1,a11:=v2,a12:=v3,a13:=v4,a14:=v5}) s
def p89_33:Res:=lt (g0 e) fun v0=>bE (eCall 64 [(cV v0), (cV (.i 25)), (cV (.i 7)), (cV (.i 0))] k e s) fun v1 s=>.nrm (u64 (u63 e v0) v1) s
def p89_34:Res:=lt (g0 e) fun v0=>bE (eCall 64 [(cV v0), (cV (.i 191)), (cV (.i 0)), (cV (.i 0))] k e s) fun v1 s=>.nrm (ws4 e fun r=>{r with a1:=v0,a2:=v1}) s
def p89_36:Res:=lt (g0 e) fun v0=>lt (g5 e) fun v1=>bE (eCall 96 [cV v0,cV v1] k e s) fun v2 s=>.nrm (ws4 e fun r=>{r with a3:=v0,a4:=v1,a5:=v2}) s
def p89_37:Res:=lt (g0 e) fun v0=>bE (eCall 64 [(cV v0), (cV (.i 0)), (cV (.i 0)), (cV (.i 0))] k e s) fun v1 s=>.nrm (ws4 e fun r=>{r with a6:=v0,a7:=v1}) s
def p89_0:Res:=dSeq p89_1 (dSeq p89_3 (dSeq p89_5 (dSeq p89_7 (dSeq p89_9 (dSeq p89_11 (dSeq p89_13 (dSeq p89_15 (dSeq p89_17 (dSeq p89_19 (dSeq p89_21 (dSeq p89_23 (dSeq p89_25 (dSeq p89_27 (dSeq (dSeq p89_30 (dCond g62 (dSeq p89_33 p89_34) dSkip)) (dSeq p89_36 p89_37))))))))))))))) k e s
def F89 : FDen := ⟨[u0], p89_0, resV []⟩
theorem low89 : lowFunc tt [] fok Try.f89 = some F89 := by kernel_rfl
theorem run89 : FRun Try.prog [] 89 F89 := FRun.of (lowFunc_ok ttOk fokOk mixed Try.func89 low89)
def p90_1:Res:=lt (g0 e) fun v0=>bP (pUn uChk (cV v0) e) fun v1=>bP (pUn (uFld 0) (cV v1) e) fun v2=>bP ((dLd (cV v2)) e s) fun v3=>bE (eCall 49 [(cV v3), (cV (.i 2))] k e s) fun v4 s=>bP (pBin (bI fAdd) (cV (.i 4)) (cV v4) e) fun v5=>.nrm (ws0 e fun r=>{r with a2:=v5,a4:=v0,a5:=v1,a6:=v2,a7:=v3,a8:=v4,a9:=v5}) s
def p90_3:Res:=lt (g0 e) fun v0=>lt (g2 e) fun v1=>bE (eCall 64 [(cV v0), (cV (.i 25)), (cV v1), (cV (.i 0))] k e s) fun v2 s=>.nrm (ws0 e fun r=>{r with a10:=v0,a11:=v1,a12:=v2}) s
def p90_5:Res:=lt (g0 e) fun v0=>bE (eCall 64 [(cV v0), (cV (.i 194)), (cV (.i 0)), (cV (.i 0))] k e s) fun v1 s=>.nrm (ws0 e fun r=>{r with a13:=v0,a14:=v1}) s
def p90_7:Res:=lt (g0 e) fun v0=>bE (eCall 66 [(cV v0), (cV (.i 1))] k e s) fun v1 s=>.nrm (u16 (u15 e v0) v1) s
def p90_9:Res:=lt (g0 e) fun v0=>bP (pUn uChk (cV v0) e) fun v1=>bP (pUn (uFld 0) (cV v1) e) fun v2=>bP ((dLd (cV v2)) e s) fun v3=>bE (eCall 49 [(cV v3), (cV (.i 4))] k e s) fun v4 s=>.nrm (ws1 (u3 e v4) fun r=>{r with a1:=v0,a2:=v1,a3:=v2,a4:=v3,a5:=v4}) s
def p90_12:Den:=fun _ e s=>lt (g3 e) fun v0=>bP (pBin (bI fLt) (cV v0) (cV (.i 3)) e) fun v1=>.nrm (ws1 e fun r=>{r with a6:=v0,a7:=v1}) s
def p90_15:Res:=lt (g0 e) fun v0=>lt (g2 e) fun v1=>bE (eCall 64 [(cV v0), (cV (.i 25)), (cV v1), (cV (.i 0))] k e s) fun v2 s=>.nrm (ws1 e fun r=>{r with a8:=v0,a9:=v1,a10:=v2}) s
def p90_16:Res:=lt (g0 e) fun v0=>lt (g0 e) fun v1=>bE (aSt (aBSl 3 1 [(.str []), (.str []), (.str [])] [(0, 1, (cV (.str [110, 111, 116, 105, 102, 121]))), (1, 1, (cV (.str [110, 111, 116, 105, 102, 121, 65, 108, 108]))), (2, 1, (cV (.str [119, 97, 105, 116])))] e s.next) s) fun v2 s=>lt (g3 e) fun v3=>bP (pBin (bIdx 1) (cV v2) (cV v3) e) fun v4=>bP ((dLd (cV v4)) e s) fun v5=>bE (eCall 80 [(cV v1), (cV (.str [79, 98, 106, 101, 99, 116])), (cV v5), (cV (.str [40, 41, 86]))] k e s) fun v6 s=>bE (eCall 64 [(cV v0), (cV (.i 182)), (cV v6), (cV (.i 0))] k e s) fun v7 s=>.nrm (ws2 (ws1 e fun r=>{r with a11:=v0,a12:=v1,a13:=v2,a14:=v3,a15:=v4}) fun r=>{r with a0:=v5,a1:=v6,a2:=v7}) s
def p90_18:Res:=lt (g0 e) fun v0=>lt (g2 e) fun v1=>bE (eCall 64 [(cV v0), (cV (.i 25)), (cV v1), (cV (.i 0))] k e s) fun v2 s=>.nrm (ws2 e fun r=>{r with a3:=v0,a4:=v1,a5:=v2}) s
def p90_19:Res:=lt (g0 e) fun v0=>bE (eCall 64 [(cV v0), (cV (.i 195)), (cV (.i 0)), (cV (.i 0))] k e s) fun v1 s=>.nrm (ws2 e fun r=>{r with a6:=v0,a7:=v1}) s
def p90_0:Res:=dSeq p90_1 (dSeq p90_3 (dSeq p90_5 (dSeq p90_7 (dSeq p90_9 (dSeq (dSeq p90_12 (dCond g23 (dSeq p90_15 p90_16) dSkip)) (dSeq p90_18 p90_19)))))) k e s
def F90 : FDen := ⟨[u0], p90_0, resV []⟩
theorem low90 : lowFunc tt [] fok Try.f90 = some F90 := by kernel_rfl
theorem run90 : FRun Try.prog [] 90 F90 := FRun.of (lowFunc_ok ttOk fokOk mixed Try.func90 low90)
def p91_1:Res:=lt (g0 e) fun v0=>bP (pUn uChk (cV v0) e) fun v1=>bP (pUn (uFld 0) (cV v1) e) fun v2=>bP ((dLd (cV v2)) e s) fun v3=>bE (eCall 49 [(cV v3), (cV (.i 4))] k e s) fun v4 s=>.nrm (ws0 e fun r=>{r with a2:=v0,a3:=v1,a4:=v2,a5:=v3,a6:=v4}) s
def p91_4:Den:=fun _ e s=>bP (pBin (bI fEq) g6 (cV (.i 0)) e) fun v0=>.nrm (ws0 e fun r=>{r with a7:=v0,a8:=v0}) s
def p91_7:Res:=lt (g0 e) fun v0=>lt (g0 e) fun v1=>bE (eCall 81 [(cV v1), (cV (.str [84]))] k e s) fun v2 s=>bE (eCall 64 [(cV v0), (cV (.i 187)), (cV v2), (cV (.i 0))] k e s) fun v3 s=>.nrm (ws0 e fun r=>{r with a9:=v0,a10:=v1,a11:=v2,a12:=v3}) s
def p91_8:Res:=lt (g0 e) fun v0=>bE (eCall 64 [(cV v0), (cV (.i 58)), (cV (.i 8)), (cV (.i 0))] k e s) fun v1 s=>.nrm (ws0 e fun r=>{r with a13:=v0,a14:=v1}) s
def p91_10:Den:=fun _ e s=>bP (pBin (bI fEq) g6 (cV (.i 1)) e) fun v0=>.nrm (u16 (u15 e v0) v0) s
def p91_13:Res:=lt (g0 e) fun v0=>bE (eCall 64 [(cV v0), (cV (.i 25)), (cV (.i 8)), (cV (.i 0))] k e s) fun v1 s=>.nrm (ws1 e fun r=>{r with a1:=v0,a2:=v1}) s
def p91_14:Res:=lt (g0 e) fun v0=>lt (g0 e) fun v1=>bE (eCall 80 [(cV v1), (cV (.str [84, 104, 114, 101, 97, 100])), (cV (.str [115, 116, 97, 114, 116])), (cV (.str [40, 41, 86]))] k e s) fun v2 s=>bE (eCall 64 [(cV v0), (cV (.i 182)), (cV v2), (cV (.i 0))] k e s) fun v3 s=>.nrm (ws1 e fun r=>{r with a3:=v0,a4:=v1,a5:=v2,a6:=v3}) s
def p91_16:Den:=fun _ e s=>bP (pBin (bI fEq) g6 (cV (.i 2)) e) fun v0=>.nrm (ws1 e fun r=>{r with a7:=v0,a8:=v0}) s
def p91_19:Res:=lt (g0 e) fun v0=>bE (eCall 64 [(cV v0), (cV (.i 25)), (cV (.i 8)), (cV (.i 0))] k e s) fun v1 s=>.nrm (ws1 e fun r=>{r with a9:=v0,a10:=v1}) s
def p91_20:Res:=lt (g0 e) fun v0=>lt (g0 e) fun v1=>bE (eCall 80 [(cV v1), (cV (.str [84, 104, 114, 101, 97, 100])), (cV (.str [106, 111, 105, 110])), (cV (.str [40, 41, 86]))] k e s) fun v2 s=>bE (eCall 64 [(cV v0), (cV (.i 182)), (cV v2), (cV (.i 0))] k e s) fun v3 s=>.nrm (ws1 e fun r=>{r with a11:=v0,a12:=v1,a13:=v2,a14:=v3}) s
def p91_22:Den:=fun _ e s=>bP (pBin (bI fEq) g6 (cV (.i 3)) e) fun v0=>.nrm (u32 (u31 e v0) v0) s
def p91_25:Res:=lt (g0 e) fun v0=>lt (g0 e) fun v1=>bP (pUn uChk (cV v1) e) fun v2=>bP (pUn (uFld 0) (cV v2) e) fun v3=>bP ((dLd (cV v3)) e s) fun v4=>bE (eCall 49 [(cV v4), (cV (.i 4))] k e s) fun v5 s=>bP (pBin (bI fAdd) (cV (.i 3)) (cV v5) e) fun v6=>bE (eCall 64 [(cV v0), (cV v6), (cV (.i 0)), (cV (.i 0))] k e s) fun v7 s=>.nrm (ws2 e fun r=>{r with a1:=v0,a2:=v1,a3:=v2,a4:=v3,a5:=v4,a6:=v5,a7:=v6,a8:=v7}) s
def p91_26:Res:=lt (g0 e) fun v0=>lt (g0 e) fun v1=>bE (eCall 80 [(cV v1), (cV (.str [83, 121, 115, 116, 101, 109])), (cV (.str [115, 108, 101, 101, 112])), (cV (.str [40, 73, 41, 86]))] k e s) fun v2 s=>bE (eCall 64 [(cV v0), (cV (.i 184)), (cV v2), (cV (.i 0))] k e s) fun v3 s=>.nrm (ws2 e fun r=>{r with a9:=v0,a10:=v1,a11:=v2,a12:=v3}) s
def p91_0:Res:=dSeq p91_1 (dBlock 0 (dSeq p91_4 (dCond g7 (dSeq p91_7 p91_8) (dSeq p91_10 (dCond g15 (dSeq p91_13 p91_14) (dSeq p91_16 (dCond g23 (dSeq p91_19 p91_20) (dSeq p91_22 (dCond g31 (dSeq p91_25 p91_26) dSkip))))))))) k e s
def F91 : FDen := ⟨[u0], p91_0, resV []⟩
theorem low91 : lowFunc tt [] fok Try.f91 = some F91 := by kernel_rfl
theorem run91 : FRun Try.prog [] 91 F91 := FRun.of (lowFunc_ok ttOk fokOk mixed Try.func91 low91)
def p92_1:Den:=fun _ e s=>bE (aSt (aBox g1 e s.next) s) fun v0 s=>ltc (V.nils) fun v1=>ltc (V.i 0) fun v2=>ltc (V.i 0) fun v3=>.nrm (ws0 e fun r=>{r with a3:=v0,a4:=v1,a5:=v2,a6:=v3}) s
def p92_4:Res:=bP ((dLdN 5 g3) e s) fun v0=>bE (eCall 97 [cV v0] k e s) fun v1 s=>bP (pUn uNot (cV v1) e) fun v2=>.nrm (ws0 e fun r=>{r with a9:=v0,a10:=v1,a11:=v2}) s
def p92_7:Den:=fun _ e s=>ltc (V.nils) fun v0=>ltc (V.i 0) fun v1=>ltc (V.i 14) fun v2=>.nrm (ws0 e fun r=>{r with a4:=v0,a5:=v1,a6:=v2}) s
def p92_9:Res:=bE (aSt (aBSl 0 5 [] [] e s.next) s) fun v0 s=>lt (g0 e) fun v1=>bE (eApW 5 (cV v0) (cV v1) k e s) fun v2 s=>.nrm (ws0 e fun r=>{r with a7:=v2,a12:=v0,a13:=v1,a14:=v2}) s
def p92_12:Den:=fun _ e s=>ltc (V.i 0) fun v0=>.nrm (u8 e v0) s
def p92_17:Den:=fun _ e s=>lt (g8 e) fun v0=>lt (g0 e) fun v1=>bP (pUn uLenS (cV v1) e) fun v2=>bP (pBin (bI fLt) (cV v0) (cV v2) e) fun v3=>.nrm (ws1 (u15 e v0) fun r=>{r with a0:=v1,a1:=v2,a2:=v3}) s
def p92_22:Den:=fun _ e s=>lt (g0 e) fun v0=>lt (g8 e) fun v1=>bP (pBin (bIdx 5) (cV v0) (cV v1) e) fun v2=>bP ((dLdN 5 (cV v2)) e s) fun v3=>bP ((dLdN 5 g3) e s) fun v4=>bP (pBin (bStr false [.i, .i, .s, .s, .s]) (cV v3) (cV v4) e) fun v5=>.nrm (ws1 e fun r=>{r with a5:=v0,a6:=v1,a7:=v2,a8:=v3,a9:=v4,a10:=v5}) s
def p92_25:Den:=fun _ e s=>lt (g7 e) fun v0=>lt (g8 e) fun v1=>ltc (V.i 0) fun v2=>.nrm (ws1 (ws0 e fun r=>{r with a4:=v0,a5:=v1,a6:=v2}) fun r=>{r with a11:=v0,a12:=v1}) s
def p92_26:Den:=fun _ e s=>lt (g8 e) fun v0=>bP (pBin (bI fAdd) (cV v0) (cV (.i 1)) e) fun v1=>.nrm (ws1 (u8 e v1) fun r=>{r with a3:=v0,a4:=v1}) s
def p92_29:Den:=fun _ e s=>lt (g0 e) fun v0=>bP (pUn uLenS (cV v0) e) fun v1=>bP (pBin (bI fGe) (cV v1) (cV (.i 256)) e) fun v2=>.nrm (ws1 e fun r=>{r with a13:=v0,a14:=v1,a15:=v2}) s
def p92_32:Den:=fun _ e s=>ltc (V.nils) fun v0=>ltc (V.i 0) fun v1=>ltc (V.i 4) fun v2=>.nrm (ws0 e fun r=>{r with a4:=v0,a5:=v1,a6:=v2}) s
def p92_34:Res:=lt (g7 e) fun v0=>bP ((dLdN 5 g3) e s) fun v1=>bE (aSt (aBSl 1 5 [(.i 0), (.int .i32 0), (.str []), (.str []), (.str [])] [(0, 5, (cV v1))] e s.next) s) fun v2 s=>bE (eApW 5 (cV v0) (cV v2) k e s) fun v3 s=>lt (g0 e) fun v4=>bP (pUn uLenS (cV v4) e) fun v5=>ltc (V.i 0) fun v6=>.nrm (ws2 (ws0 e fun r=>{r with a4:=v3,a5:=v5,a6:=v6}) fun r=>{r with a0:=v0,a1:=v1,a2:=v2,a3:=v3,a4:=v4,a5:=v5}) s
def p92_0:Res:=dSeq p92_1 (dSeq (dSeq p92_4 (dCond g11 (dSeq p92_7 dRet) dSkip)) (dSeq p92_9 (dSeq (dSeq p92_12 (dBlock 0 (dLoop (dSeq (dSeq p92_17 (dCond g18 dSkip (dExit 0))) (dSeq (dBlock 1 (dSeq p92_22 (dCond g26 (dSeq p92_25 dRet) dSkip))) p92_26))))) (dSeq (dSeq p92_29 (dCond g31 (dSeq p92_32 dRet) dSkip)) (dSeq p92_34 dRet))))) k e s
def F92 : FDen := ⟨[u0, u1], p92_0, resV [rT g4, rT g5, rT g6]⟩
theorem low92 : lowFunc tt [] fok Try.f92 = some F92 := by kernel_rfl
theorem run92 : FRun Try.prog [] 92 F92 := FRun.of (lowFunc_ok ttOk fokOk mixed Try.func92 low92)
def p93_1:Den:=fun _ e s=>bE (aSt (aBox g0 e s.next) s) fun v0 s=>ltc (V.nils) fun v1=>ltc (V.bool false) fun v2=>.nrm (ws0 e fun r=>{r with a1:=v0,a2:=v1,a3:=v2}) s
def p93_3:Res:=bP (pUn (uFld 1) g1 e) fun v0=>bP ((dLd (cV v0)) e s) fun v1=>bE (eCall 46 [cV v1] k e s) fun v2 s=>.nrm (ws0 e fun r=>{r with a4:=v2,a6:=v0,a7:=v1,a8:=v2}) s
def p93_6:Den:=fun _ e s=>bP (pUn (uFld 1) g1 e) fun v0=>bP ((dLd (cV v0)) e s) fun v1=>bP (pBin (bI fEq) (cV v1) (cV (.i 132)) e) fun v2=>.nrm (ws0 e fun r=>{r with a9:=v0,a10:=v1,a11:=v2}) s
def p93_9:Res:=dDrawR 1 [⟨none, (.p (pUn (uFld 1) g1)), u12⟩, ⟨none, (.d 0 2 (dLd g12)), u13⟩, ⟨none, (.p (pUn (cInt .u8) g13)), u14⟩, ⟨none, (.p (pUn (uFld 2) g1)), u15⟩, ⟨none, (.d 0 2 (dLd g15)), u16⟩, ⟨none, (.p (pUn (cInt .u8) g16)), u17⟩, ⟨none, (.p (pUn (uFld 3) g1)), u18⟩, ⟨none, (.d 0 2 (dLd g18)), u19⟩, ⟨none, (.p (pUn (cInt .u8) g19)), u20⟩, ⟨none, (.a (aBSl 3 1 [(.int .u8 0), (.int .u8 0), (.int .u8 0)] [(0, 1, g14), (1, 1, g17), (2, 1, g20)])), u21⟩, ⟨none, (.p (pUn (uFld 2) g1)), u22⟩, ⟨none, (.d 1 0 (dLd g22)), u23⟩, ⟨none, (.e [] (eCall 98 [g23, (cV (.i 0)), (cV (.i 255))])), u24⟩, ⟨none, (.p (pMove g24)), u25⟩, ⟨(some (25, true)), (.p (pUn (uFld 3) g1)), u26⟩, ⟨(some (25, true)), (.d 1 0 (dLd g26)), u27⟩, ⟨(some (25, true)), (.e [] (eCall 98 [g27, (cV (.i (-128))), (cV (.i 127))])), u28⟩, ⟨none, (.p (pPick g25 g28 (cV (.bool false)))), u29⟩, ⟨none, (.p (pMove g21)), u2⟩, ⟨none, (.p (pMove g29)), u3⟩] k e s
def p93_11:Den:=fun _ e s=>bP (pUn (uFld 2) g1 e) fun v0=>bP ((dLd (cV v0)) e s) fun v1=>.nrm (ws1 (u5 e v1) fun r=>{r with a14:=v0,a15:=v1}) s
def p93_14:Res:=bP (pUn (uFld 1) g1 e) fun v0=>bP ((dLd (cV v0)) e s) fun v1=>bE (eCall 18 [cV v1] k e s) fun v2 s=>.nrm (ws2 e fun r=>{r with a0:=v0,a1:=v1,a2:=v2}) s
def p93_18:Res:=bP (pUn (uFld 2) g1 e) fun v0=>bP ((dLd (cV v0)) e s) fun v1=>bE (eCall 98 [(cV v1), (cV (.i (-1048576))), (cV (.i 1048576))] k e s) fun v2 s=>bP (pUn uNot (cV v2) e) fun v3=>.nrm (ws2 e fun r=>{r with a3:=v0,a4:=v1,a5:=v2,a6:=v3}) s
def p93_21:Den:=fun _ e s=>ltc (V.nils) fun v0=>ltc (V.bool false) fun v1=>.nrm (ws0 e fun r=>{r with a2:=v0,a3:=v1}) s
def p93_22:Den:=fun _ e s=>bP (pUn (uFld 2) g1 e) fun v0=>bP ((dLd (cV v0)) e s) fun v1=>bP (pUn (uFld 0) g1 e) fun v2=>bP ((dLd (cV v2)) e s) fun v3=>bP (pBin (bI fSub) (cV v1) (cV v3) e) fun v4=>.nrm (ws2 (u5 e v4) fun r=>{r with a7:=v0,a8:=v1,a9:=v2,a10:=v3,a11:=v4}) s
def p93_26:Den:=fun _ e s=>lt (g4 e) fun v0=>bP (pBin (bI fEq) (cV v0) (cV (.i 1)) e) fun v1=>.nrm (ws2 e fun r=>{r with a12:=v1,a13:=v0,a14:=v1}) s
def p93_29:Res:=dDraw [⟨none, (.p (pUn (uFld 1) g1)), u47⟩, ⟨none, (.d 0 0 (dLd g47)), u48⟩, ⟨none, (.p (pUn (cInt .u8) g48)), u49⟩, ⟨none, (.a (aBSl 1 1 [(.int .u8 0)] [(0, 1, g49)])), u50⟩, ⟨none, (.p (pUn (uFld 2) g1)), u51⟩, ⟨none, (.d 0 0 (dLd g51)), u52⟩, ⟨none, (.p (pBin (bI fEq) g52 (cV (.i 0)))), u53⟩, ⟨none, (.p (pMove g53)), u54⟩, ⟨(some (54, true)), (.p (pUn (uFld 3) g1)), u55⟩, ⟨(some (54, true)), (.d 0 0 (dLd g55)), u56⟩, ⟨(some (54, true)), (.p (pBin (bI fEq) g56 (cV (.i 0)))), u57⟩, ⟨none, (.p (pPick g54 g57 (cV (.bool false)))), u58⟩, ⟨none, (.p (pMove g50)), u2⟩, ⟨none, (.p (pMove g58)), u3⟩] k e s
def p93_31:Res:=lt (g4 e) fun v0=>bP (pBin (bI fEq) (cV v0) (cV (.i 2)) e) fun v1=>bP (gdV v1 true (pUn (uFld 1) g1 e)) fun v2=>bP (gdV v1 true ((dLd (cV v2)) e s)) fun v3=>bE (gdW v1 true s (eCall 47 [cV v3] k e s)) fun v4 s=>bP (pPick (cV v1) (cV v4) (cV (.bool false)) e) fun v5=>.nrm (ws4 (ws3 e fun r=>{r with a11:=v5,a12:=v0,a13:=v1,a14:=v1,a15:=v2}) fun r=>{r with a0:=v3,a1:=v4,a2:=v5}) s
def p93_34:Res:=dDrawR 1 [⟨none, (.p (pUn (uFld 1) g1)), u67⟩, ⟨none, (.d 0 1 (dLd g67)), u68⟩, ⟨none, (.p (pUn (cInt .u8) g68)), u69⟩, ⟨none, (.p (pMove g5)), u70⟩, ⟨none, (.p (pUn (cInt .u8) g70)), u71⟩, ⟨none, (.a (aBSl 2 1 [(.int .u8 0), (.int .u8 0)] [(0, 1, g69), (1, 1, g71)])), u72⟩, ⟨none, (.p (pUn (uFld 3) g1)), u73⟩, ⟨none, (.d 1 0 (dLd g73)), u74⟩, ⟨none, (.p (pBin (bI fEq) g74 (cV (.i 0)))), u75⟩, ⟨none, (.p (pMove g75)), u76⟩, ⟨(some (76, true)), (.p (pMove g5)), u77⟩, ⟨(some (76, true)), (.e [] (eCall 98 [g77, (cV (.i (-128))), (cV (.i 127))])), u78⟩, ⟨none, (.p (pPick g76 g78 (cV (.bool false)))), u79⟩, ⟨none, (.p (pMove g72)), u2⟩, ⟨none, (.p (pMove g79)), u3⟩] k e s
def p93_36:Den:=fun _ e s=>lt (g4 e) fun v0=>bP (pBin (bI fEq) (cV v0) (cV (.i 2)) e) fun v1=>.nrm (ws5 e fun r=>{r with a0:=v1,a1:=v0,a2:=v1}) s
def p93_39:Res:=dDrawR 1 [⟨none, (.p (pUn (uFld 1) g1)), u83⟩, ⟨none, (.d 0 1 (dLd g83)), u84⟩, ⟨none, (.p (pUn (cInt .u8) g84)), u85⟩, ⟨none, (.p (pMove g5)), u86⟩, ⟨none, (.p (pUn (cInt .u8) g86)), u87⟩, ⟨none, (.a (aBSl 2 1 [(.int .u8 0), (.int .u8 0)] [(0, 1, g85), (1, 1, g87)])), u88⟩, ⟨none, (.p (pUn (uFld 3) g1)), u89⟩, ⟨none, (.d 1 0 (dLd g89)), u90⟩, ⟨none, (.p (pBin (bI fEq) g90 (cV (.i 0)))), u91⟩, ⟨none, (.p (pMove g91)), u92⟩, ⟨(some (92, true)), (.p (pMove g5)), u93⟩, ⟨(some (92, true)), (.e [] (eCall 98 [g93, (cV (.i 0)), (cV (.i 255))])), u94⟩, ⟨none, (.p (pPick g92 g94 (cV (.bool false)))), u95⟩, ⟨none, (.p (pMove g88)), u2⟩, ⟨none, (.p (pMove g95)), u3⟩] k e s
def p93_41:Res:=bP (pUn (uFld 1) g1 e) fun v0=>bP ((dLd (cV v0)) e s) fun v1=>bE (eCall 47 [cV v1] k e s) fun v2 s=>.nrm (ws6 e fun r=>{r with a0:=v2,a1:=v0,a2:=v1,a3:=v2}) s
def p93_44:Res:=dDrawR 1 [⟨none, (.p (pUn (uFld 1) g1)), u100⟩, ⟨none, (.d 0 1 (dLd g100)), u101⟩, ⟨none, (.p (pUn (cInt .u8) g101)), u102⟩, ⟨none, (.p (pMove g5)), u103⟩, ⟨none, (.p (pBin (bSh .shr .i64) g103 (cV (.int .u64 8)))), u104⟩, ⟨none, (.p (pUn (cInt .u8) g104)), u105⟩, ⟨none, (.p (pMove g5)), u106⟩, ⟨none, (.p (pUn (cInt .u8) g106)), u107⟩, ⟨none, (.a (aBSl 3 1 [(.int .u8 0), (.int .u8 0), (.int .u8 0)] [(0, 1, g102), (1, 1, g105), (2, 1, g107)])), u108⟩, ⟨none, (.p (pUn (uFld 3) g1)), u109⟩, ⟨none, (.d 1 0 (dLd g109)), u110⟩, ⟨none, (.p (pBin (bI fEq) g110 (cV (.i 0)))), u111⟩, ⟨none, (.p (pMove g111)), u112⟩, ⟨(some (112, true)), (.p (pMove g5)), u113⟩, ⟨(some (112, true)), (.e [] (eCall 98 [g113, (cV (.i (-32768))), (cV (.i 32767))])), u114⟩, ⟨none, (.p (pPick g112 g114 (cV (.bool false)))), u115⟩, ⟨none, (.p (pMove g108)), u2⟩, ⟨none, (.p (pMove g115)), u3⟩] k e s
def p93_46:Res:=dDrawR 1 [⟨none, (.p (pUn (uFld 1) g1)), u116⟩, ⟨none, (.d 0 1 (dLd g116)), u117⟩, ⟨none, (.p (pUn (cInt .u8) g117)), u118⟩, ⟨none, (.p (pMove g5)), u119⟩, ⟨none, (.p (pBin (bSh .shr .i64) g119 (cV (.int .u64 8)))), u120⟩, ⟨none, (.p (pUn (cInt .u8) g120)), u121⟩, ⟨none, (.p (pMove g5)), u122⟩, ⟨none, (.p (pUn (cInt .u8) g122)), u123⟩, ⟨none, (.a (aBSl 3 1 [(.int .u8 0), (.int .u8 0), (.int .u8 0)] [(0, 1, g118), (1, 1, g121), (2, 1, g123)])), u124⟩, ⟨none, (.p (pUn (uFld 3) g1)), u125⟩, ⟨none, (.d 1 0 (dLd g125)), u126⟩, ⟨none, (.p (pBin (bI fEq) g126 (cV (.i 0)))), u127⟩, ⟨none, (.p (pMove g127)), u128⟩, ⟨(some (128, true)), (.p (pMove g5)), u129⟩, ⟨(some (128, true)), (.e [] (eCall 98 [g129, (cV (.i 0)), (cV (.i 65535))])), u130⟩, ⟨none, (.p (pPick g128 g130 (cV (.bool false)))), u131⟩, ⟨none, (.p (pMove g124)), u2⟩, ⟨none, (.p (pMove g131)), u3⟩] k e s
def p93_0:Res:=dSeq p93_1 (dSeq p93_3 (dSeq (dSeq p93_6 (dCond g11 (dSeq p93_9 dRet) dSkip)) (dSeq p93_11 (dSeq (dSeq p93_14 (dCond g34 (dSeq (dSeq p93_18 (dCond g38 (dSeq p93_21 dRet) dSkip)) p93_22) dSkip)) (dSeq (dBlock 0 (dSeq p93_26 (dCond g44 (dSeq p93_29 dRet) (dSeq p93_31 (dCond g59 (dSeq p93_34 dRet) (dSeq p93_36 (dCond g80 (dSeq p93_39 dRet) (dSeq p93_41 (dCond g96 (dSeq p93_44 dRet) dSkip))))))))) (dSeq p93_46 dRet)))))) k e s
def F93 : FDen := ⟨[u0], p93_0, resV [rT g2, rT g3]⟩
theorem low93 : lowFunc tt [] fok Try.f93 = some F93 := by kernel_rfl
theorem run93 : FRun Try.prog [] 93 F93 := FRun.of (lowFunc_ok ttOk fokOk mixed Try.func93 low93)
def p94_1:Den:=fun _ e s=>ltc (V.i 0) fun v0=>.nrm (u2 e v0) s
def p94_3:Res:=lt (g0 e) fun v0=>bP (pUn uChk (cV v0) e) fun v1=>bP (pUn (uFld 3) (cV v1) e) fun v2=>bP ((dLd (cV v2)) e s) fun v3=>bP (pBin (bI fAdd) (cV v3) (cV (.i 1)) e) fun v4=>bP (pUn uChk (cV v0) e) fun v5=>bP (pUn (uFld 3) (cV v5) e) fun v6=>bE (eSt 1 (cV v6) (cV v4) k e s) fun v7 s=>.nrm (ws0 e fun r=>{r with a3:=v0,a4:=v1,a5:=v2,a6:=v3,a7:=v4,a8:=v5,a9:=v6}) s
def p94_5:Den:=fun _ e s=>lt (g0 e) fun v0=>bP (pUn uChk (cV v0) e) fun v1=>bP (pUn (uFld 3) (cV v1) e) fun v2=>bP ((dLd (cV v2)) e s) fun v3=>bP (pBin (bI fSub) (cV v3) (cV (.i 1)) e) fun v4=>.nrm (ws0 e fun r=>{r with a2:=v4,a10:=v0,a11:=v1,a12:=v2,a13:=v3,a14:=v4}) s
def p94_0:Res:=dSeq p94_1 (dSeq p94_3 (dSeq p94_5 dRet)) k e s
def F94 : FDen := ⟨[u0], p94_0, resV [rT g2]⟩
theorem low94 : lowFunc tt [] fok Try.f94 = some F94 := by kernel_rfl
theorem run94 : FRun Try.prog [] 94 F94 := FRun.of (lowFunc_ok ttOk fokOk mixed Try.func94 low94)
def p95_1:Res:=lt (g0 e) fun v0=>lt (g0 e) fun v1=>bP (pUn uChk (cV v1) e) fun v2=>bP (pUn (uFld 2) (cV v2) e) fun v3=>bP ((dLd (cV v3)) e s) fun v4=>lt (g1 e) fun v5=>bP (pBuild [(.i 0), (.i 0), (.i 0), (.i 0)] [(1, 1, (cV v5))] e) fun v6=>lt (g2 e) fun v7=>bP (pBuild [(.i 0), (.i 0), (.i 0), (.i 0), (.i 0), (.i 0)] [(0, 4, (cV v6)), (4, 1, (cV v7)), (5, 1, (cV (.i (-1))))] e) fun v8=>bE (aSt (aBSl 1 6 [(.i 0), (.i 0), (.i 0), (.i 0), (.i 0), (.i 0)] [(0, 6, (cV v8))] e s.next) s) fun v9 s=>bE (eApW 6 (cV v4) (cV v9) k e s) fun v10 s=>bP (pUn uChk (cV v0) e) fun v11=>bP (pUn (uFld 2) (cV v11) e) fun v12=>bE (eSt 1 (cV v12) (cV v10) k e s) fun v13 s=>.nrm (ws1 (rw0 e fun a b c d f g _ _ _ _ _ _ _ _ _ _=>⟨a,b,c,d,f,g,v0,v1,v2,v3,v4,v5,v6,v7,v8,v9⟩) fun r=>{r with a0:=v10,a1:=v11,a2:=v12}) s
def p95_2:Res:=lt (g0 e) fun v0=>bP (pUn uChk (cV v0) e) fun v1=>bP (pUn (uFld 5) (cV v1) e) fun v2=>bP ((dLd (cV v2)) e s) fun v3=>bP (pBin (bI fSub) (cV v3) (cV (.i 1)) e) fun v4=>bP (pUn uChk (cV v0) e) fun v5=>bP (pUn (uFld 5) (cV v5) e) fun v6=>bE (eSt 1 (cV v6) (cV v4) k e s) fun v7 s=>.nrm (ws1 e fun r=>{r with a3:=v0,a4:=v1,a5:=v2,a6:=v3,a7:=v4,a8:=v5,a9:=v6}) s
def p95_0:Res:=dSeq p95_1 p95_2 k e s
def F95 : FDen := ⟨[u0, u1, u2], p95_0, resV []⟩
theorem low95 : lowFunc tt [] fok Try.f95 = some F95 := by kernel_rfl
theorem run95 : FRun Try.prog [] 95 F95 := FRun.of (lowFunc_ok ttOk fokOk mixed Try.func95 low95)
def p96_0:Res:=lt (g0 e) fun v0=>lt (g0 e) fun v1=>bP (pUn uChk (cV v1) e) fun v2=>bP (pUn (uFld 2) (cV v2) e) fun v3=>bP ((dLd (cV v3)) e s) fun v4=>bP (pBuild [(.i 0), (.i 0), (.i 0), (.i 0)] [(1, 1, (cV (.i (-1))))] e) fun v5=>lt (g1 e) fun v6=>bP (pBuild [(.i 0), (.i 0), (.i 0), (.i 0), (.i 0), (.i 0)] [(0, 4, (cV v5)), (4, 1, (cV (.i (-1)))), (5, 1, (cV v6))] e) fun v7=>bE (aSt (aBSl 1 6 [(.i 0), (.i 0), (.i 0), (.i 0), (.i 0), (.i 0)] [(0, 6, (cV v7))] e s.next) s) fun v8 s=>bE (eApW 6 (cV v4) (cV v8) k e s) fun v9 s=>bP (pUn uChk (cV v0) e) fun v10=>bP (pUn (uFld 2) (cV v10) e) fun v11=>bE (eSt 1 (cV v11) (cV v9) k e s) fun v12 s=>.nrm (rw0 e fun a b c d _ _ _ _ _ _ _ _ _ _ _ _=>⟨a,b,c,d,v0,v1,v2,v3,v4,v5,v6,v7,v8,v9,v10,v11⟩) s
def F96 : FDen := ⟨[u0, u1], p96_0, resV []⟩
theorem low96 : lowFunc tt [] fok Try.f96 = some F96 := by kernel_rfl
theorem run96 : FRun Try.prog [] 96 F96 := FRun.of (lowFunc_ok ttOk fokOk mixed Try.func96 low96)
noncomputable def F97 : FDen := fOf1 (lookC csts)
def p98_1:Den:=fun _ e s=>ltc (V.bool false) fun v0=>.nrm (u6 e v0) s
def p98_3:Den:=fun _ e s=>lt (g0 e) fun v0=>lt (g1 e) fun v1=>bP (pBin (bI fGe) (cV v0) (cV v1) e) fun v2=>bP (gdV v2 true (pMove g0 e)) fun v3=>bP (gdV v2 true (pMove g2 e)) fun v4=>bP (gdV v2 true (pBin (bI fLe) (cV v3) (cV v4) e)) fun v5=>bP (pPick (cV v2) (cV v5) (cV (.bool false)) e) fun v6=>.nrm (rw0 e fun a b c d f g _ _ _ _ _ _ _ _ _ r=>⟨a,b,c,d,f,g,v6,v0,v1,v2,v2,v3,v4,v5,v6,r⟩) s
def p98_0:Res:=dSeq p98_1 (dSeq p98_3 dRet) k e s
def F98 : FDen := ⟨[u0, u1, u2], p98_0, resV [rT g6]⟩
theorem low98 : lowFunc tt [] fok Try.f98 = some F98 := by kernel_rfl
theorem run98 : FRun Try.prog [] 98 F98 := FRun.of (lowFunc_ok ttOk fokOk mixed Try.func98 low98)
end
end Go.Proofs.YtcgdlgbomjnnnaaLab
