/- The lab: this program's functions, in pieces. Pruned. -/
import Derived.Test.YtgkcpceppmppfaaLabT0
import Derived.Test.YtgkcpceppmppfaaLabAn
namespace Go.Proofs.YtgkcpceppmppfaaLab
open Go
set_option linter.unusedVariables false
set_option maxRecDepth 100000
noncomputable section
def p3_1 (k:KC)(e:E)(s:St):Res:=ltc (V.bool false) fun v0 => .nrm (u6 e v0) s
def p3_3 (k:KC)(e:E)(s:St):Res:=lt (g0 e) fun v0 => bE ((eCall 8 [(cV v0), (cV (.i 400))]) k e s) fun v1 s => bP ((pUn (uExt 0) (cV v1)) e) fun v2 => bP ((pUn (uExt 1) (cV v1)) e) fun v3 => bP ((pUn (uExt 2) (cV v1)) e) fun v4 => .nrm (rw1 (rw0 e fun a b c d f g h _ _ _ m n o p q r => ⟨a,b,c,d,f,g,h,v2,v3,v4,m,n,o,p,q,r⟩) fun a b c d f g h _ _ _ _ _ _ p q r => ⟨a,b,c,d,f,g,h,v1,v0,v1,v2,v3,v4,p,q,r⟩) s
def p3_6 (k:KC)(e:E)(s:St):Res:=lt (g7 e) fun v0 => bP ((pBin (bNil false nilP) (cV v0) (cV .nilp)) e) fun v1 => .nrm (rw1 e fun a b c d f g h i j l m n o _ _ r => ⟨a,b,c,d,f,g,h,i,j,l,m,n,o,v0,v1,r⟩) s
def p3_9 (k:KC)(e:E)(s:St):Res:=ltc (V.bool false) fun v0 => .nrm (u6 e v0) s
def p3_8 (k:KC)(e:E)(s:St):Res:=dSeq p3_9 dRet k e s
def p3_7 (k:KC)(e:E)(s:St):Res:=dCond g30 p3_8 dSkip k e s
def p3_5 (k:KC)(e:E)(s:St):Res:=dSeq p3_6 p3_7 k e s
def p3_11 (k:KC)(e:E)(s:St):Res:=lt (g1 e) fun v0 => lt (g9 e) fun v1 => bE ((eCall 9 [(cV v0), (cV v1)]) k e s) fun v2 s => .nrm (rw2 (u31 (u10 e v2) v0) fun _ _ c d f g h i j l m n o p q r => ⟨v1,v2,c,d,f,g,h,i,j,l,m,n,o,p,q,r⟩) s
def p3_13 (k:KC)(e:E)(s:St):Res:=lt (g7 e) fun v0 => lt (g10 e) fun v1 => bE ((eCall 10 [(cV v0), (cV v1)]) k e s) fun v2 s => bP ((pUn (uExt 0) (cV v2)) e) fun v3 => bP ((pUn (uExt 1) (cV v2)) e) fun v4 => .nrm (rw2 (rw0 e fun a b c d f g h i j l m _ _ p q r => ⟨a,b,c,d,f,g,h,i,j,l,m,v3,v4,p,q,r⟩) fun a b _ _ _ _ _ _ j l m n o p q r => ⟨a,b,v2,v0,v1,v2,v3,v4,j,l,m,n,o,p,q,r⟩) s
def p3_15 (k:KC)(e:E)(s:St):Res:=lt (g8 e) fun v0 => lt (g10 e) fun v1 => bE ((eCall 11 [(cV v0), (cV v1)]) k e s) fun v2 s => bP ((pUn (uExt 0) (cV v2)) e) fun v3 => bP ((pUn (uExt 1) (cV v2)) e) fun v4 => .nrm (rw2 (rw0 e fun a b c d f g h i j l m n o _ _ r => ⟨a,b,c,d,f,g,h,i,j,l,m,n,o,v3,v4,r⟩) fun a b c d f g h i _ _ _ _ _ _ q r => ⟨a,b,c,d,f,g,h,i,v2,v0,v1,v2,v3,v4,q,r⟩) s
def p3_17 (k:KC)(e:E)(s:St):Res:=lt (g7 e) fun v0 => lt (g10 e) fun v1 => bE ((eCall 12 [(cV v0), (cV v1)]) k e s) fun v2 s => bP ((pUn (uExt 0) (cV v2)) e) fun v3 => bP ((pUn (uExt 1) (cV v2)) e) fun v4 => .nrm (rw3 (rw2 (u16 (u15 e v3) v4) fun a b c d f g h i j l m n o p _ _ => ⟨a,b,c,d,f,g,h,i,j,l,m,n,o,p,v2,v0⟩) fun _ _ _ _ f g h i j l m n o p q r => ⟨v1,v2,v3,v4,f,g,h,i,j,l,m,n,o,p,q,r⟩) s
def p3_19 (k:KC)(e:E)(s:St):Res:=ltc (V.i 0) fun v0 => .nrm (u17 e v0) s
def p3_22 (k:KC)(e:E)(s:St):Res:=ltc (V.i 0) fun v0 => .nrm (u18 e v0) s
def p3_27 (k:KC)(e:E)(s:St):Res:=lt (g18 e) fun v0 => lt (g13 e) fun v1 => bP ((pUn uLenS (cV v1)) e) fun v2 => bP ((pBin (bI fLt) (cV v0) (cV v2)) e) fun v3 => .nrm (rw3 e fun a b c d _ _ _ _ j l m n o p q r => ⟨a,b,c,d,v0,v1,v2,v3,j,l,m,n,o,p,q,r⟩) s
def p3_28 (k:KC)(e:E)(s:St):Res:=dCond g55 dSkip (dExit 0) k e s
def p3_26 (k:KC)(e:E)(s:St):Res:=dSeq p3_27 p3_28 k e s
def p3_31 (k:KC)(e:E)(s:St):Res:=lt (g17 e) fun v0 => bP ((pBin (bI fAdd) (cV v0) (cV (.i 3))) e) fun v1 => lt (g8 e) fun v2 => lt (g13 e) fun v3 => lt (g18 e) fun v4 => bP ((pBin (bIdx 1) (cV v3) (cV v4)) e) fun v5 => bP ((dLd (cV v5)) e s) fun v6 => bE ((eCall 13 [(cV v2), (cV v6)]) k e s) fun v7 s => bP ((pBin (bI fAdd) (cV v1) (cV v7)) e) fun v8 => .nrm (rw4 (rw3 (u17 e v8) fun a b c d f g h i j l _ _ _ _ _ _ => ⟨a,b,c,d,f,g,h,i,j,l,v0,v1,v2,v3,v4,v5⟩) fun _ _ _ d f g h i j l m n o p q r => ⟨v6,v7,v8,d,f,g,h,i,j,l,m,n,o,p,q,r⟩) s
def p3_30 (k:KC)(e:E)(s:St):Res:=dBlock 1 p3_31 k e s
def p3_32 (k:KC)(e:E)(s:St):Res:=lt (g18 e) fun v0 => bP ((pBin (bI fAdd) (cV v0) (cV (.i 1))) e) fun v1 => .nrm (rw3 (u18 e v1) fun a b c d f g h i _ _ m n o p q r => ⟨a,b,c,d,f,g,h,i,v0,v1,m,n,o,p,q,r⟩) s
def p3_29 (k:KC)(e:E)(s:St):Res:=dSeq p3_30 p3_32 k e s
def p3_25 (k:KC)(e:E)(s:St):Res:=dSeq p3_26 p3_29 k e s
def p3_24 (k:KC)(e:E)(s:St):Res:=dLoop p3_25 k e s
def p3_23 (k:KC)(e:E)(s:St):Res:=dBlock 0 p3_24 k e s
def p3_21 (k:KC)(e:E)(s:St):Res:=dSeq p3_22 p3_23 k e s
def p3_34 (k:KC)(e:E)(s:St):Res:=lt (g7 e) fun v0 => lt (g2 e) fun v1 => bE ((eCall 10 [(cV v0), (cV v1)]) k e s) fun v2 s => bP ((pUn (uExt 0) (cV v2)) e) fun v3 => bP ((pUn (uExt 1) (cV v2)) e) fun v4 => .nrm (rw4 (rw1 e fun a b c _ _ g h i j l m n o p q r => ⟨a,b,c,v3,v4,g,h,i,j,l,m,n,o,p,q,r⟩) fun a b c _ _ _ _ _ _ l m n o p q r => ⟨a,b,c,v2,v0,v1,v2,v3,v4,l,m,n,o,p,q,r⟩) s
def p3_36 (k:KC)(e:E)(s:St):Res:=lt (g8 e) fun v0 => lt (g2 e) fun v1 => bE ((eCall 11 [(cV v0), (cV v1)]) k e s) fun v2 s => bP ((pUn (uExt 0) (cV v2)) e) fun v3 => bP ((pUn (uExt 1) (cV v2)) e) fun v4 => .nrm (rw4 (rw1 e fun a b c d f _ _ i j l m n o p q r => ⟨a,b,c,d,f,v3,v4,i,j,l,m,n,o,p,q,r⟩) fun a b c d f g h i j _ _ _ _ _ _ r => ⟨a,b,c,d,f,g,h,i,j,v2,v0,v1,v2,v3,v4,r⟩) s
def p3_38 (k:KC)(e:E)(s:St):Res:=lt (g11 e) fun v0 => lt (g13 e) fun v1 => bE ((eCall 14 [(cV v0), (cV v1)]) k e s) fun v2 s => bP (gdV v2 true ((pMove g12) e)) fun v3 => bP (gdV v2 true ((pBin (bI fEq) (cV v3) (cV (.i 0))) e)) fun v4 => bP ((pPick (cV v2) (cV v4) (cV (.bool false))) e) fun v5 => bP (gdV v5 true ((pMove g14) e)) fun v6 => bP ((pPick (cV v5) (cV v6) (cV (.bool false))) e) fun v7 => bP (gdV v7 true ((pMove g15) e)) fun v8 => bP (gdV v7 true ((pMove g17) e)) fun v9 => bP (gdV v7 true ((pBin (bI fEq) (cV v8) (cV v9)) e)) fun v10 => bP ((pPick (cV v7) (cV v10) (cV (.bool false))) e) fun v11 => bP (gdV v11 true ((pMove g16) e)) fun v12 => bP (gdV v11 true ((pBin (bI fEq) (cV v12) (cV (.i 0))) e)) fun v13 => bP ((pPick (cV v11) (cV v13) (cV (.bool false))) e) fun v14 => bP (gdV v14 true ((pMove g19) e)) fun v15 => bP (gdV v14 true ((pMove g21) e)) fun v16 => bE (gdW v14 true s ((eCall 14 [(cV v15), (cV v16)]) k e s)) fun v17 s => bP ((pPick (cV v14) (cV v17) (cV (.bool false))) e) fun v18 => bP (gdV v18 true ((pMove g20) e)) fun v19 => bP (gdV v18 true ((pBin (bI fEq) (cV v19) (cV (.i 0))) e)) fun v20 => bP (gdV v18 true ((pMove g22) e)) fun v21 => bP (gdV v18 true ((pBin (bBool false) (cV v20) (cV v21)) e)) fun v22 => bP ((pPick (cV v18) (cV v22) (cV (.bool false))) e) fun v23 => bP (gdV v23 true ((pMove g22) e)) fun v24 => bP (gdV v23 true ((pMove (cV v24)) e)) fun v25 => bP (gdV v25 false ((pMove g20) e)) fun v26 => bP (gdV v25 false ((pBin (bI fEq) (cV v26) (cV (.i 1))) e)) fun v27 => bP (gdV v23 true ((pPick (cV v25) (cV (.bool true)) (cV v27)) e)) fun v28 => bP ((pPick (cV v23) (cV v28) (cV (.bool false))) e) fun v29 => bE (gdW v29 true s ((eCall 15 []) k e s)) fun v30 s => bP ((pPick (cV v29) (cV v30) (cV (.bool false))) e) fun v31 => .nrm (rw7 (rw6 (rw5 (u79 (u6 e v31) v0) fun _ _ _ _ _ _ _ _ _ _ _ _ _ _ _ _ => ⟨v1,v2,v2,v3,v4,v5,v5,v6,v7,v7,v8,v9,v10,v11,v11,v12⟩) fun _ _ _ _ _ _ _ _ _ _ _ _ _ _ _ _ => ⟨v13,v14,v14,v15,v16,v17,v18,v18,v19,v20,v21,v22,v23,v23,v24,v25⟩) fun _ _ _ _ _ _ _ i j l m n o p q r => ⟨v26,v27,v28,v29,v29,v30,v31,i,j,l,m,n,o,p,q,r⟩) s
def p3_37 (k:KC)(e:E)(s:St):Res:=dSeq p3_38 dRet k e s
def p3_35 (k:KC)(e:E)(s:St):Res:=dSeq p3_36 p3_37 k e s
def p3_33 (k:KC)(e:E)(s:St):Res:=dSeq p3_34 p3_35 k e s
def p3_20 (k:KC)(e:E)(s:St):Res:=dSeq p3_21 p3_33 k e s
def p3_18 (k:KC)(e:E)(s:St):Res:=dSeq p3_19 p3_20 k e s
def p3_16 (k:KC)(e:E)(s:St):Res:=dSeq p3_17 p3_18 k e s
def p3_14 (k:KC)(e:E)(s:St):Res:=dSeq p3_15 p3_16 k e s
def p3_12 (k:KC)(e:E)(s:St):Res:=dSeq p3_13 p3_14 k e s
def p3_10 (k:KC)(e:E)(s:St):Res:=dSeq p3_11 p3_12 k e s
def p3_4 (k:KC)(e:E)(s:St):Res:=dSeq p3_5 p3_10 k e s
def p3_2 (k:KC)(e:E)(s:St):Res:=dSeq p3_3 p3_4 k e s
def p3_0 (k:KC)(e:E)(s:St):Res:=dSeq p3_1 p3_2 k e s
def F3 : FDen := ⟨[u0, u1, u2], p3_0, resV [rT g6]⟩
theorem low3 : lowFunc tt [] fok Try.f3 = some F3 := by kernel_rfl
theorem run3 : FRun Try.prog [] 3 F3 := FRun.of (lowFunc_ok ttOk fokOk mixed Try.func3 low3)
def p8_1 (k:KC)(e:E)(s:St):Res:=ltc (V.nilp) fun v0 => ltc (V.nilp) fun v1 => ltc (V.nils) fun v2 => .nrm (rw0 e fun a b c d _ _ _ i j l m n o p q r => ⟨a,b,c,d,v0,v1,v2,i,j,l,m,n,o,p,q,r⟩) s
def p8_3 (k:KC)(e:E)(s:St):Res:=lt (g1 e) fun v0 => bE ((eCall 31 [(cV v0)]) k e s) fun v1 s => bP ((pUn (uExt 0) (cV v1)) e) fun v2 => bP ((pUn (uExt 1) (cV v1)) e) fun v3 => .nrm (rw1 (rw0 e fun a b c d f g h _ _ l m n o p q r => ⟨a,b,c,d,f,g,h,v2,v3,l,m,n,o,p,q,r⟩) fun a b c d _ _ _ _ _ l m n o p q r => ⟨a,b,c,d,v1,v0,v1,v2,v3,l,m,n,o,p,q,r⟩) s
def p8_5 (k:KC)(e:E)(s:St):Res:=lt (g1 e) fun v0 => bE ((eCall 32 [(cV v0)]) k e s) fun v1 s => .nrm (rw1 (u9 e v1) fun a b c d f g h i j _ _ n o p q r => ⟨a,b,c,d,f,g,h,i,j,v0,v1,n,o,p,q,r⟩) s
def p8_8 (k:KC)(e:E)(s:St):Res:=lt (g7 e) fun v0 => bP ((pBin (bNil false nilP) (cV v0) (cV .nilp)) e) fun v1 => bP (gdV v1 false ((pMove g8) e)) fun v2 => bP (gdV v1 false ((pBin (bI fNe) (cV v2) (cV (.i 0))) e)) fun v3 => bP ((pPick (cV v1) (cV (.bool true)) (cV v3)) e) fun v4 => .nrm (u32 (rw1 e fun a b c d f g h i j l m _ _ _ _ _ => ⟨a,b,c,d,f,g,h,i,j,l,m,v0,v1,v1,v2,v3⟩) v4) s
def p8_11 (k:KC)(e:E)(s:St):Res:=lt (g9 e) fun v0 => ltc (V.nilp) fun v1 => ltc (V.nils) fun v2 => .nrm (u33 (rw0 e fun a b c d _ _ _ i j l m n o p q r => ⟨a,b,c,d,v1,v0,v2,i,j,l,m,n,o,p,q,r⟩) v0) s
def p8_10 (k:KC)(e:E)(s:St):Res:=dSeq p8_11 dRet k e s
def p8_9 (k:KC)(e:E)(s:St):Res:=dCond g32 p8_10 dSkip k e s
def p8_7 (k:KC)(e:E)(s:St):Res:=dSeq p8_8 p8_9 k e s
def p8_13 (k:KC)(e:E)(s:St):Res:=bE (aSt ((aBSl 0 1 [] []) e s.next) s) fun v0 s => bE (aSt ((aBSl 1 1 [(.bool false)] [(0, 1, (cV (.bool true)))]) e s.next) s) fun v1 s => bE (aSt ((aBSl 2 1 [(.bool false), (.bool false)] [(0, 1, (cV (.bool true))), (1, 1, (cV (.bool false)))]) e s.next) s) fun v2 s => bE (aSt ((aBSl 3 1 [(.bool false), (.bool false), (.bool false)] [(0, 1, (cV (.bool false))), (1, 1, (cV (.bool true))), (2, 1, (cV (.bool true)))]) e s.next) s) fun v3 s => bE (aSt ((aBSl 4 1 [.nils, .nils, .nils, .nils] [(0, 1, (cV v0)), (1, 1, (cV v1)), (2, 1, (cV v2)), (3, 1, (cV v3))]) e s.next) s) fun v4 s => .nrm (rw2 (u10 e v4) fun a b _ _ _ _ _ i j l m n o p q r => ⟨a,b,v0,v1,v2,v3,v4,i,j,l,m,n,o,p,q,r⟩) s
def p8_16 (k:KC)(e:E)(s:St):Res:=ltc (V.i 0) fun v0 => .nrm (u11 e v0) s
def p8_21 (k:KC)(e:E)(s:St):Res:=lt (g11 e) fun v0 => lt (g10 e) fun v1 => bP ((pUn uLenS (cV v1)) e) fun v2 => bP ((pBin (bI fLt) (cV v0) (cV v2)) e) fun v3 => .nrm (rw2 e fun a b c d f g h _ _ _ _ n o p q r => ⟨a,b,c,d,f,g,h,v0,v1,v2,v3,n,o,p,q,r⟩) s
def p8_22 (k:KC)(e:E)(s:St):Res:=dCond g42 dSkip (dExit 0) k e s
def p8_20 (k:KC)(e:E)(s:St):Res:=dSeq p8_21 p8_22 k e s
def p8_26 (k:KC)(e:E)(s:St):Res:=lt (g7 e) fun v0 => lt (g10 e) fun v1 => lt (g11 e) fun v2 => bP ((pBin (bIdx 1) (cV v1) (cV v2)) e) fun v3 => bP ((dLd (cV v3)) e s) fun v4 => bE ((eCall 33 [(cV v0), (cV v4)]) k e s) fun v5 s => .nrm (rw3 (rw2 e fun a b c d f g h i j l m n o _ _ _ => ⟨a,b,c,d,f,g,h,i,j,l,m,n,o,v0,v1,v2⟩) fun _ _ _ d f g h i j l m n o p q r => ⟨v3,v4,v5,d,f,g,h,i,j,l,m,n,o,p,q,r⟩) s
def p8_27 (k:KC)(e:E)(s:St):Res:=lt (g9 e) fun v0 => lt (g10 e) fun v1 => lt (g11 e) fun v2 => bP ((pBin (bIdx 1) (cV v1) (cV v2)) e) fun v3 => bP ((dLd (cV v3)) e s) fun v4 => bE ((eCall 34 [(cV v0), (cV v4)]) k e s) fun v5 s => .nrm (rw3 e fun a b c _ _ _ _ _ _ l m n o p q r => ⟨a,b,c,v0,v1,v2,v3,v4,v5,l,m,n,o,p,q,r⟩) s
def p8_25 (k:KC)(e:E)(s:St):Res:=dSeq p8_26 p8_27 k e s
def p8_24 (k:KC)(e:E)(s:St):Res:=dBlock 1 p8_25 k e s
def p8_28 (k:KC)(e:E)(s:St):Res:=lt (g11 e) fun v0 => bP ((pBin (bI fAdd) (cV v0) (cV (.i 1))) e) fun v1 => .nrm (rw2 (u11 e v1) fun a b c d f g h i j l m _ _ p q r => ⟨a,b,c,d,f,g,h,i,j,l,m,v0,v1,p,q,r⟩) s
def p8_23 (k:KC)(e:E)(s:St):Res:=dSeq p8_24 p8_28 k e s
def p8_19 (k:KC)(e:E)(s:St):Res:=dSeq p8_20 p8_23 k e s
def p8_18 (k:KC)(e:E)(s:St):Res:=dLoop p8_19 k e s
def p8_17 (k:KC)(e:E)(s:St):Res:=dBlock 0 p8_18 k e s
def p8_15 (k:KC)(e:E)(s:St):Res:=dSeq p8_16 p8_17 k e s
def p8_30 (k:KC)(e:E)(s:St):Res:=ltc (V.nils) fun v0 => .nrm (u12 e v0) s
def p8_33 (k:KC)(e:E)(s:St):Res:=ltc (V.i 0) fun v0 => .nrm (u13 e v0) s
def p8_38 (k:KC)(e:E)(s:St):Res:=lt (g13 e) fun v0 => lt (g0 e) fun v1 => bP ((pUn uLenS (cV v1)) e) fun v2 => bP ((pBin (bI fLt) (cV v0) (cV v2)) e) fun v3 => bP (gdV v3 true ((pMove g13) e)) fun v4 => bP (gdV v3 true ((pBin (bI fLt) (cV v4) (cV (.i 30))) e)) fun v5 => bP ((pPick (cV v3) (cV v5) (cV (.bool false))) e) fun v6 => .nrm (u64 (rw3 e fun a b c d f g h i j _ _ _ _ _ _ _ => ⟨a,b,c,d,f,g,h,i,j,v0,v1,v2,v3,v3,v4,v5⟩) v6) s
def p8_39 (k:KC)(e:E)(s:St):Res:=dCond g64 dSkip (dExit 2) k e s
def p8_37 (k:KC)(e:E)(s:St):Res:=dSeq p8_38 p8_39 k e s
def p8_43 (k:KC)(e:E)(s:St):Res:=lt (g0 e) fun v0 => lt (g13 e) fun v1 => bP ((pBin (bIdx 3) (cV v0) (cV v1)) e) fun v2 => bP ((pUn (uFld 1) (cV v2)) e) fun v3 => bP ((dLd (cV v3)) e s) fun v4 => bE ((eCall 29 [(cV v4), (cV (.i 0)), (cV (.i 6))]) k e s) fun v5 s => .nrm (rw4 (u14 e v5) fun a b c _ _ _ _ _ _ l m n o p q r => ⟨a,b,c,v0,v1,v2,v3,v4,v5,l,m,n,o,p,q,r⟩) s
def p8_45 (k:KC)(e:E)(s:St):Res:=ltc (V.i 0) fun v0 => .nrm (u15 e v0) s
def p8_47 (k:KC)(e:E)(s:St):Res:=ltc (V.i 0) fun v0 => .nrm (u16 e v0) s
def p8_50 (k:KC)(e:E)(s:St):Res:=lt (g0 e) fun v0 => lt (g13 e) fun v1 => bP ((pBin (bIdx 3) (cV v0) (cV v1)) e) fun v2 => bP ((pUn (uFld 0) (cV v2)) e) fun v3 => bP ((dLd (cV v3)) e s) fun v4 => bP ((pBin (bI fLt) (cV v4) (cV (.i 0))) e) fun v5 => .nrm (rw4 e fun a b c d f g h i j _ _ _ _ _ _ r => ⟨a,b,c,d,f,g,h,i,j,v0,v1,v2,v3,v4,v5,r⟩) s
def p8_53 (k:KC)(e:E)(s:St):Res:=lt (g7 e) fun v0 => lt (g0 e) fun v1 => lt (g13 e) fun v2 => bP ((pBin (bIdx 3) (cV v1) (cV v2)) e) fun v3 => bP ((pUn (uFld 0) (cV v3)) e) fun v4 => bP ((dLd (cV v4)) e s) fun v5 => bP ((pBin (bI fEq) (cV v5) (cV (.i (-2)))) e) fun v6 => lt (g14 e) fun v7 => bE ((eCall 35 [(cV v0), (cV v6), (cV v7)]) k e s) fun v8 s => bP ((pUn (uExt 0) (cV v8)) e) fun v9 => bP ((pUn (uExt 1) (cV v8)) e) fun v10 => .nrm (rw5 (u79 (u16 (u15 e v9) v10) v8) fun _ _ _ _ _ _ _ _ _ _ _ n o p q r => ⟨v0,v1,v2,v3,v4,v5,v6,v7,v8,v9,v10,n,o,p,q,r⟩) s
def p8_54 (k:KC)(e:E)(s:St):Res:=lt (g9 e) fun v0 => lt (g0 e) fun v1 => lt (g13 e) fun v2 => bP ((pBin (bIdx 3) (cV v1) (cV v2)) e) fun v3 => bP ((pUn (uFld 0) (cV v3)) e) fun v4 => bP ((dLd (cV v4)) e s) fun v5 => bP ((pBin (bI fEq) (cV v5) (cV (.i (-2)))) e) fun v6 => lt (g14 e) fun v7 => bE ((eCall 36 [(cV v0), (cV v6), (cV v7)]) k e s) fun v8 s => .nrm (rw6 (rw5 e fun a b c d f g h i j l m _ _ _ _ _ => ⟨a,b,c,d,f,g,h,i,j,l,m,v0,v1,v2,v3,v4⟩) fun _ _ _ _ f g h i j l m n o p q r => ⟨v5,v6,v7,v8,f,g,h,i,j,l,m,n,o,p,q,r⟩) s
def p8_52 (k:KC)(e:E)(s:St):Res:=dSeq p8_53 p8_54 k e s
def p8_56 (k:KC)(e:E)(s:St):Res:=lt (g7 e) fun v0 => lt (g0 e) fun v1 => lt (g13 e) fun v2 => bP ((pBin (bIdx 3) (cV v1) (cV v2)) e) fun v3 => bP ((pUn (uFld 0) (cV v3)) e) fun v4 => bP ((dLd (cV v4)) e s) fun v5 => bP ((pBin rem64 (cV v5) (cV (.i 4))) e) fun v6 => bE ((eCall 37 [(cV v0), (cV v6)]) k e s) fun v7 s => bP ((pUn (uExt 0) (cV v7)) e) fun v8 => bP ((pUn (uExt 1) (cV v7)) e) fun v9 => .nrm (rw6 (u16 (u15 e v8) v9) fun a b c d _ _ _ _ _ _ _ _ _ _ _ r => ⟨a,b,c,d,v7,v0,v1,v2,v3,v4,v5,v6,v7,v8,v9,r⟩) s
def p8_57 (k:KC)(e:E)(s:St):Res:=lt (g9 e) fun v0 => lt (g0 e) fun v1 => lt (g13 e) fun v2 => bP ((pBin (bIdx 3) (cV v1) (cV v2)) e) fun v3 => bP ((pUn (uFld 0) (cV v3)) e) fun v4 => bP ((dLd (cV v4)) e s) fun v5 => bP ((pBin rem64 (cV v5) (cV (.i 4))) e) fun v6 => bE ((eCall 38 [(cV v0), (cV v6)]) k e s) fun v7 s => .nrm (rw7 (u111 e v0) fun _ _ _ _ _ _ _ i j l m n o p q r => ⟨v1,v2,v3,v4,v5,v6,v7,i,j,l,m,n,o,p,q,r⟩) s
def p8_55 (k:KC)(e:E)(s:St):Res:=dSeq p8_56 p8_57 k e s
def p8_51 (k:KC)(e:E)(s:St):Res:=dCond g78 p8_52 p8_55 k e s
def p8_49 (k:KC)(e:E)(s:St):Res:=dSeq p8_50 p8_51 k e s
def p8_60 (k:KC)(e:E)(s:St):Res:=lt (g16 e) fun v0 => bP ((pBin (bI fNe) (cV v0) (cV (.i 0))) e) fun v1 => .nrm (rw7 e fun a b c d f g h _ _ l m n o p q r => ⟨a,b,c,d,f,g,h,v0,v1,l,m,n,o,p,q,r⟩) s
def p8_61 (k:KC)(e:E)(s:St):Res:=dCond g120 (dExit 2) dSkip k e s
def p8_59 (k:KC)(e:E)(s:St):Res:=dSeq p8_60 p8_61 k e s
def p8_63 (k:KC)(e:E)(s:St):Res:=lt (g7 e) fun v0 => lt (g15 e) fun v1 => lt (g13 e) fun v2 => bP ((pBin (bI fAdd) (cV v2) (cV (.i 1))) e) fun v3 => bE ((eCall 30 [(cV v0), (cV v1), (cV v3)]) k e s) fun v4 s => .nrm (rw7 e fun a b c d f g h i j _ _ _ _ _ q r => ⟨a,b,c,d,f,g,h,i,j,v0,v1,v2,v3,v4,q,r⟩) s
def p8_65 (k:KC)(e:E)(s:St):Res:=lt (g9 e) fun v0 => lt (g15 e) fun v1 => lt (g13 e) fun v2 => bP ((pBin (bI fAdd) (cV v2) (cV (.i 1))) e) fun v3 => bE ((eCall 39 [(cV v0), (cV v1), (cV v3)]) k e s) fun v4 s => .nrm (rw8 (rw7 e fun a b c d f g h i j l m n o p _ _ => ⟨a,b,c,d,f,g,h,i,j,l,m,n,o,p,v0,v1⟩) fun _ _ _ d f g h i j l m n o p q r => ⟨v2,v3,v4,d,f,g,h,i,j,l,m,n,o,p,q,r⟩) s
def p8_66 (k:KC)(e:E)(s:St):Res:=lt (g12 e) fun v0 => lt (g15 e) fun v1 => bE (aSt ((aBSl 1 1 [(.i 0)] [(0, 1, (cV v1))]) e s.next) s) fun v2 s => bE ((eAp8 1 (cV v0) (cV v2)) k e s) fun v3 s => .nrm (rw8 (u12 e v3) fun a b c _ _ _ _ i j l m n o p q r => ⟨a,b,c,v0,v1,v2,v3,i,j,l,m,n,o,p,q,r⟩) s
def p8_64 (k:KC)(e:E)(s:St):Res:=dSeq p8_65 p8_66 k e s
def p8_62 (k:KC)(e:E)(s:St):Res:=dSeq p8_63 p8_64 k e s
def p8_58 (k:KC)(e:E)(s:St):Res:=dSeq p8_59 p8_62 k e s
def p8_48 (k:KC)(e:E)(s:St):Res:=dSeq p8_49 p8_58 k e s
def p8_46 (k:KC)(e:E)(s:St):Res:=dSeq p8_47 p8_48 k e s
def p8_44 (k:KC)(e:E)(s:St):Res:=dSeq p8_45 p8_46 k e s
def p8_42 (k:KC)(e:E)(s:St):Res:=dSeq p8_43 p8_44 k e s
def p8_41 (k:KC)(e:E)(s:St):Res:=dBlock 3 p8_42 k e s
def p8_67 (k:KC)(e:E)(s:St):Res:=lt (g13 e) fun v0 => bP ((pBin (bI fAdd) (cV v0) (cV (.i 1))) e) fun v1 => .nrm (rw4 (u13 e v1) fun a _ _ d f g h i j l m n o p q r => ⟨a,v0,v1,d,f,g,h,i,j,l,m,n,o,p,q,r⟩) s
def p8_40 (k:KC)(e:E)(s:St):Res:=dSeq p8_41 p8_67 k e s
def p8_36 (k:KC)(e:E)(s:St):Res:=dSeq p8_37 p8_40 k e s
def p8_35 (k:KC)(e:E)(s:St):Res:=dLoop p8_36 k e s
def p8_34 (k:KC)(e:E)(s:St):Res:=dBlock 2 p8_35 k e s
def p8_32 (k:KC)(e:E)(s:St):Res:=dSeq p8_33 p8_34 k e s
def p8_70 (k:KC)(e:E)(s:St):Res:=ltc (V.i 0) fun v0 => .nrm (u17 e v0) s
def p8_75 (k:KC)(e:E)(s:St):Res:=lt (g17 e) fun v0 => lt (g12 e) fun v1 => bP ((pUn uLenS (cV v1)) e) fun v2 => bP ((pBin (bI fLt) (cV v0) (cV v2)) e) fun v3 => .nrm (rw8 e fun a b c d f g h _ _ _ _ n o p q r => ⟨a,b,c,d,f,g,h,v0,v1,v2,v3,n,o,p,q,r⟩) s
def p8_76 (k:KC)(e:E)(s:St):Res:=dCond g138 dSkip (dExit 4) k e s
def p8_74 (k:KC)(e:E)(s:St):Res:=dSeq p8_75 p8_76 k e s
def p8_80 (k:KC)(e:E)(s:St):Res:=ltc (V.i 0) fun v0 => .nrm (u18 e v0) s
def p8_85 (k:KC)(e:E)(s:St):Res:=lt (g18 e) fun v0 => lt (g9 e) fun v1 => lt (g12 e) fun v2 => lt (g17 e) fun v3 => bP ((pBin (bIdx 1) (cV v2) (cV v3)) e) fun v4 => bP ((dLd (cV v4)) e s) fun v5 => bE ((eCall 13 [(cV v1), (cV v5)]) k e s) fun v6 s => bP ((pBin (bI fLt) (cV v0) (cV v6)) e) fun v7 => bP (gdV v7 true ((pMove g18) e)) fun v8 => bP (gdV v7 true ((pMove g0) e)) fun v9 => bP (gdV v7 true ((pMove g17) e)) fun v10 => bP (gdV v7 true ((pBin (bIdx 3) (cV v9) (cV v10)) e)) fun v11 => bP (gdV v7 true ((pUn (uFld 2) (cV v11)) e)) fun v12 => bP (gdV v7 true ((dLd (cV v12)) e s)) fun v13 => bP (gdV v7 true ((pUn uLenS (cV v13)) e)) fun v14 => bP (gdV v7 true ((pBin (bI fLt) (cV v8) (cV v14)) e)) fun v15 => bP ((pPick (cV v7) (cV v15) (cV (.bool false))) e) fun v16 => .nrm (rw9 (rw8 e fun a b c d f g h i j l m n o _ _ _ => ⟨a,b,c,d,f,g,h,i,j,l,m,n,o,v0,v1,v2⟩) fun _ _ _ _ _ _ _ _ _ _ _ _ _ _ _ r => ⟨v3,v4,v5,v6,v7,v7,v8,v9,v10,v11,v12,v13,v14,v15,v16,r⟩) s
def p8_86 (k:KC)(e:E)(s:St):Res:=dCond g158 dSkip (dExit 6) k e s
def p8_84 (k:KC)(e:E)(s:St):Res:=dSeq p8_85 p8_86 k e s
def p8_90 (k:KC)(e:E)(s:St):Res:=lt (g0 e) fun v0 => lt (g17 e) fun v1 => bP ((pBin (bIdx 3) (cV v0) (cV v1)) e) fun v2 => bP ((pUn (uFld 2) (cV v2)) e) fun v3 => bP ((dLd (cV v3)) e s) fun v4 => lt (g18 e) fun v5 => bP ((pBin (bIdx 1) (cV v4) (cV v5)) e) fun v6 => bP ((dLd (cV v6)) e s) fun v7 => .nrm (rw10 (u19 e v7) fun a _ _ _ _ _ _ _ _ l m n o p q r => ⟨a,v0,v1,v2,v3,v4,v5,v6,v7,l,m,n,o,p,q,r⟩) s
def p8_93 (k:KC)(e:E)(s:St):Res:=lt (g9 e) fun v0 => lt (g12 e) fun v1 => lt (g17 e) fun v2 => bP ((pBin (bIdx 1) (cV v1) (cV v2)) e) fun v3 => bP ((dLd (cV v3)) e s) fun v4 => lt (g18 e) fun v5 => bE ((eCall 40 [(cV v0), (cV v4), (cV v5)]) k e s) fun v6 s => .nrm (rw10 e fun a b c d f g h i j _ _ _ _ _ _ _ => ⟨a,b,c,d,f,g,h,i,j,v0,v1,v2,v3,v4,v5,v6⟩) s
def p8_96 (k:KC)(e:E)(s:St):Res:=ltc (V.i 0) fun v0 => .nrm (u19 e v0) s
def p8_98 (k:KC)(e:E)(s:St):Res:=lt (g0 e) fun v0 => lt (g17 e) fun v1 => bP ((pBin (bIdx 3) (cV v0) (cV v1)) e) fun v2 => bP ((pUn (uFld 2) (cV v2)) e) fun v3 => bP ((dLd (cV v3)) e s) fun v4 => lt (g18 e) fun v5 => bP ((pBin (bIdx 1) (cV v4) (cV v5)) e) fun v6 => bP ((dLd (cV v6)) e s) fun v7 => bP ((pBin (bI fGe) (cV v7) (cV (.i 0))) e) fun v8 => .nrm (rw11 e fun _ _ _ _ _ _ _ _ _ l m n o p q r => ⟨v0,v1,v2,v3,v4,v5,v6,v7,v8,l,m,n,o,p,q,r⟩) s
def p8_100 (k:KC)(e:E)(s:St):Res:=lt (g12 e) fun v0 => lt (g0 e) fun v1 => lt (g17 e) fun v2 => bP ((pBin (bIdx 3) (cV v1) (cV v2)) e) fun v3 => bP ((pUn (uFld 2) (cV v3)) e) fun v4 => bP ((dLd (cV v4)) e s) fun v5 => lt (g18 e) fun v6 => bP ((pBin (bIdx 1) (cV v5) (cV v6)) e) fun v7 => bP ((dLd (cV v7)) e s) fun v8 => lt (g12 e) fun v9 => bP ((pUn uLenS (cV v9)) e) fun v10 => bP ((pBin rem64 (cV v8) (cV v10)) e) fun v11 => bP ((pBin (bIdx 1) (cV v0) (cV v11)) e) fun v12 => bP ((dLd (cV v12)) e s) fun v13 => .nrm (rw12 (rw11 (u19 e v13) fun a b c d f g h i j _ _ _ _ _ _ _ => ⟨a,b,c,d,f,g,h,i,j,v0,v1,v2,v3,v4,v5,v6⟩) fun _ _ _ _ _ _ _ i j l m n o p q r => ⟨v7,v8,v9,v10,v11,v12,v13,i,j,l,m,n,o,p,q,r⟩) s
def p8_99 (k:KC)(e:E)(s:St):Res:=dCond g184 p8_100 dSkip k e s
def p8_97 (k:KC)(e:E)(s:St):Res:=dSeq p8_98 p8_99 k e s
def p8_95 (k:KC)(e:E)(s:St):Res:=dSeq p8_96 p8_97 k e s
def p8_94 (k:KC)(e:E)(s:St):Res:=dCond g175 p8_95 dSkip k e s
def p8_92 (k:KC)(e:E)(s:St):Res:=dSeq p8_93 p8_94 k e s
def p8_102 (k:KC)(e:E)(s:St):Res:=lt (g7 e) fun v0 => lt (g12 e) fun v1 => lt (g17 e) fun v2 => bP ((pBin (bIdx 1) (cV v1) (cV v2)) e) fun v3 => bP ((dLd (cV v3)) e s) fun v4 => lt (g18 e) fun v5 => lt (g19 e) fun v6 => bE ((eCall 41 [(cV v0), (cV v4), (cV v5), (cV v6)]) k e s) fun v7 s => .nrm (rw12 e fun a b c d f g h _ _ _ _ _ _ _ _ r => ⟨a,b,c,d,f,g,h,v0,v1,v2,v3,v4,v5,v6,v7,r⟩) s
def p8_103 (k:KC)(e:E)(s:St):Res:=lt (g9 e) fun v0 => lt (g12 e) fun v1 => lt (g17 e) fun v2 => bP ((pBin (bIdx 1) (cV v1) (cV v2)) e) fun v3 => bP ((dLd (cV v3)) e s) fun v4 => lt (g18 e) fun v5 => lt (g19 e) fun v6 => bE ((eCall 42 [(cV v0), (cV v4), (cV v5), (cV v6)]) k e s) fun v7 s => .nrm (rw13 (u207 e v0) fun _ _ _ _ _ _ _ i j l m n o p q r => ⟨v1,v2,v3,v4,v5,v6,v7,i,j,l,m,n,o,p,q,r⟩) s
def p8_101 (k:KC)(e:E)(s:St):Res:=dSeq p8_102 p8_103 k e s
def p8_91 (k:KC)(e:E)(s:St):Res:=dSeq p8_92 p8_101 k e s
def p8_89 (k:KC)(e:E)(s:St):Res:=dSeq p8_90 p8_91 k e s
def p8_88 (k:KC)(e:E)(s:St):Res:=dBlock 7 p8_89 k e s
def p8_104 (k:KC)(e:E)(s:St):Res:=lt (g18 e) fun v0 => bP ((pBin (bI fAdd) (cV v0) (cV (.i 1))) e) fun v1 => .nrm (u160 (u159 (u18 e v1) v0) v1) s
def p8_87 (k:KC)(e:E)(s:St):Res:=dSeq p8_88 p8_104 k e s
def p8_83 (k:KC)(e:E)(s:St):Res:=dSeq p8_84 p8_87 k e s
def p8_82 (k:KC)(e:E)(s:St):Res:=dLoop p8_83 k e s
def p8_81 (k:KC)(e:E)(s:St):Res:=dBlock 6 p8_82 k e s
def p8_79 (k:KC)(e:E)(s:St):Res:=dSeq p8_80 p8_81 k e s
def p8_78 (k:KC)(e:E)(s:St):Res:=dBlock 5 p8_79 k e s
def p8_105 (k:KC)(e:E)(s:St):Res:=lt (g17 e) fun v0 => bP ((pBin (bI fAdd) (cV v0) (cV (.i 1))) e) fun v1 => .nrm (rw8 (u17 e v1) fun a b c d f g h i j l m _ _ p q r => ⟨a,b,c,d,f,g,h,i,j,l,m,v0,v1,p,q,r⟩) s
def p8_77 (k:KC)(e:E)(s:St):Res:=dSeq p8_78 p8_105 k e s
def p8_73 (k:KC)(e:E)(s:St):Res:=dSeq p8_74 p8_77 k e s
def p8_72 (k:KC)(e:E)(s:St):Res:=dLoop p8_73 k e s
def p8_71 (k:KC)(e:E)(s:St):Res:=dBlock 4 p8_72 k e s
def p8_69 (k:KC)(e:E)(s:St):Res:=dSeq p8_70 p8_71 k e s
def p8_107 (k:KC)(e:E)(s:St):Res:=lt (g7 e) fun v0 => lt (g9 e) fun v1 => lt (g12 e) fun v2 => .nrm (rw13 (rw0 e fun a b c d _ _ _ i j l m n o p q r => ⟨a,b,c,d,v0,v1,v2,i,j,l,m,n,o,p,q,r⟩) fun a b c d f g h _ _ _ m n o p q r => ⟨a,b,c,d,f,g,h,v0,v1,v2,m,n,o,p,q,r⟩) s
def p8_106 (k:KC)(e:E)(s:St):Res:=dSeq p8_107 dRet k e s
def p8_68 (k:KC)(e:E)(s:St):Res:=dSeq p8_69 p8_106 k e s
def p8_31 (k:KC)(e:E)(s:St):Res:=dSeq p8_32 p8_68 k e s
def p8_29 (k:KC)(e:E)(s:St):Res:=dSeq p8_30 p8_31 k e s
def p8_14 (k:KC)(e:E)(s:St):Res:=dSeq p8_15 p8_29 k e s
def p8_12 (k:KC)(e:E)(s:St):Res:=dSeq p8_13 p8_14 k e s
def p8_6 (k:KC)(e:E)(s:St):Res:=dSeq p8_7 p8_12 k e s
def p8_4 (k:KC)(e:E)(s:St):Res:=dSeq p8_5 p8_6 k e s
def p8_2 (k:KC)(e:E)(s:St):Res:=dSeq p8_3 p8_4 k e s
def p8_0 (k:KC)(e:E)(s:St):Res:=dSeq p8_1 p8_2 k e s
def F8 : FDen := ⟨[u0, u1], p8_0, resV [rT g4, rT g5, rT g6]⟩
theorem low8 : lowFunc tt [] fok Try.f8 = some F8 := by kernel_rfl
theorem run8 : FRun Try.prog [] 8 F8 := FRun.of (lowFunc_ok ttOk fokOk mixed Try.func8 low8)
def p9_1 (k:KC)(e:E)(s:St):Res:=ltc (V.nils) fun v0 => .nrm (u4 e v0) s
def p9_3 (k:KC)(e:E)(s:St):Res:=ltc (V.nils) fun v0 => .nrm (u5 e v0) s
def p9_6 (k:KC)(e:E)(s:St):Res:=ltc (V.i 0) fun v0 => .nrm (u6 e v0) s
def p9_11 (k:KC)(e:E)(s:St):Res:=lt (g6 e) fun v0 => lt (g0 e) fun v1 => bP ((pUn uLenS (cV v1)) e) fun v2 => bP ((pBin (bI fLt) (cV v0) (cV v2)) e) fun v3 => bP (gdV v3 true ((pMove g6) e)) fun v4 => bP (gdV v3 true ((pBin (bI fLt) (cV v4) (cV (.i 12))) e)) fun v5 => bP ((pPick (cV v3) (cV v5) (cV (.bool false))) e) fun v6 => .nrm (rw0 e fun a b c d f g h _ _ _ _ _ _ _ _ r => ⟨a,b,c,d,f,g,h,v0,v1,v2,v3,v3,v4,v5,v6,r⟩) s
def p9_12 (k:KC)(e:E)(s:St):Res:=dCond g14 dSkip (dExit 0) k e s
def p9_10 (k:KC)(e:E)(s:St):Res:=dSeq p9_11 p9_12 k e s
def p9_16 (k:KC)(e:E)(s:St):Res:=lt (g0 e) fun v0 => lt (g6 e) fun v1 => bP ((pBin (bIdx 1) (cV v0) (cV v1)) e) fun v2 => bP ((dLd (cV v2)) e s) fun v3 => bP ((pBin (bI fLt) (cV v3) (cV (.i 0))) e) fun v4 => bP (gdV v4 false ((pMove g1) e)) fun v5 => bP (gdV v4 false ((pUn uLenS (cV v5)) e)) fun v6 => bP (gdV v4 false ((pBin (bI fEq) (cV v6) (cV (.i 0))) e)) fun v7 => bP ((pPick (cV v4) (cV (.bool true)) (cV v7)) e) fun v8 => .nrm (rw1 e fun a _ _ _ _ _ _ _ _ _ _ n o p q r => ⟨a,v0,v1,v2,v3,v4,v4,v5,v6,v7,v8,n,o,p,q,r⟩) s
def p9_18 (k:KC)(e:E)(s:St):Res:=lt (g5 e) fun v0 => bE (aSt ((aBSl 1 1 [(.i 0)] [(0, 1, (cV (.i 0)))]) e s.next) s) fun v1 s => bE ((eAp8 1 (cV v0) (cV v1)) k e s) fun v2 s => .nrm (rw1 (u5 e v2) fun a b c d f g h i j l m _ _ _ q r => ⟨a,b,c,d,f,g,h,i,j,l,m,v0,v1,v2,q,r⟩) s
def p9_19 (k:KC)(e:E)(s:St):Res:=lt (g5 e) fun v0 => lt (g1 e) fun v1 => lt (g0 e) fun v2 => lt (g6 e) fun v3 => bP ((pBin (bIdx 1) (cV v2) (cV v3)) e) fun v4 => bP ((dLd (cV v4)) e s) fun v5 => lt (g1 e) fun v6 => bP ((pUn uLenS (cV v6)) e) fun v7 => bP ((pBin rem64 (cV v5) (cV v7)) e) fun v8 => bP ((pBin (bIdx 1) (cV v1) (cV v8)) e) fun v9 => bP ((dLd (cV v9)) e s) fun v10 => bE (aSt ((aBSl 1 1 [(.i 0)] [(0, 1, (cV v10))]) e s.next) s) fun v11 s => bE ((eAp8 1 (cV v0) (cV v11)) k e s) fun v12 s => .nrm (rw2 (rw1 (u5 e v12) fun a b c d f g h i j l m n o p _ _ => ⟨a,b,c,d,f,g,h,i,j,l,m,n,o,p,v0,v1⟩) fun _ _ _ _ _ _ _ _ _ _ _ n o p q r => ⟨v2,v3,v4,v5,v6,v7,v8,v9,v10,v11,v12,n,o,p,q,r⟩) s
def p9_17 (k:KC)(e:E)(s:St):Res:=dCond g26 p9_18 p9_19 k e s
def p9_15 (k:KC)(e:E)(s:St):Res:=dSeq p9_16 p9_17 k e s
def p9_14 (k:KC)(e:E)(s:St):Res:=dBlock 1 p9_15 k e s
def p9_20 (k:KC)(e:E)(s:St):Res:=lt (g6 e) fun v0 => bP ((pBin (bI fAdd) (cV v0) (cV (.i 1))) e) fun v1 => .nrm (u16 (rw0 e fun a b c d f g _ i j l m n o p q _ => ⟨a,b,c,d,f,g,v1,i,j,l,m,n,o,p,q,v0⟩) v1) s
def p9_13 (k:KC)(e:E)(s:St):Res:=dSeq p9_14 p9_20 k e s
def p9_9 (k:KC)(e:E)(s:St):Res:=dSeq p9_10 p9_13 k e s
def p9_8 (k:KC)(e:E)(s:St):Res:=dLoop p9_9 k e s
def p9_7 (k:KC)(e:E)(s:St):Res:=dBlock 0 p9_8 k e s
def p9_5 (k:KC)(e:E)(s:St):Res:=dSeq p9_6 p9_7 k e s
def p9_22 (k:KC)(e:E)(s:St):Res:=lt (g5 e) fun v0 => .nrm (u43 (u4 e v0) v0) s
def p9_21 (k:KC)(e:E)(s:St):Res:=dSeq p9_22 dRet k e s
def p9_4 (k:KC)(e:E)(s:St):Res:=dSeq p9_5 p9_21 k e s
def p9_2 (k:KC)(e:E)(s:St):Res:=dSeq p9_3 p9_4 k e s
def p9_0 (k:KC)(e:E)(s:St):Res:=dSeq p9_1 p9_2 k e s
def F9 : FDen := ⟨[u0, u1], p9_0, resV [rT g4]⟩
theorem low9 : lowFunc tt [] fok Try.f9 = some F9 := by kernel_rfl
theorem run9 : FRun Try.prog [] 9 F9 := FRun.of (lowFunc_ok ttOk fokOk mixed Try.func9 low9)
def p10_1 (k:KC)(e:E)(s:St):Res:=ltc (V.nils) fun v0 => ltc (V.i 0) fun v1 => .nrm (rw0 e fun a b c d _ _ h i j l m n o p q r => ⟨a,b,c,d,v0,v1,h,i,j,l,m,n,o,p,q,r⟩) s
def p10_3 (k:KC)(e:E)(s:St):Res:=lt (g0 e) fun v0 => lt (g1 e) fun v1 => bE ((eCall 43 [(cV v0), (cV v1)]) k e s) fun v2 s => bP ((pUn (uExt 0) (cV v2)) e) fun v3 => bP ((pUn (uExt 1) (cV v2)) e) fun v4 => .nrm (rw0 e fun a b c d f g _ _ _ _ _ _ _ _ q r => ⟨a,b,c,d,f,g,v3,v4,v2,v0,v1,v2,v3,v4,q,r⟩) s
def p10_6 (k:KC)(e:E)(s:St):Res:=lt (g7 e) fun v0 => bP ((pUn uNot (cV v0)) e) fun v1 => .nrm (rw0 e fun a b c d f g h i j l m n o p _ _ => ⟨a,b,c,d,f,g,h,i,j,l,m,n,o,p,v0,v1⟩) s
def p10_9 (k:KC)(e:E)(s:St):Res:=ltc (V.nils) fun v0 => ltc (V.i 1) fun v1 => .nrm (rw0 e fun a b c d _ _ h i j l m n o p q r => ⟨a,b,c,d,v0,v1,h,i,j,l,m,n,o,p,q,r⟩) s
def p10_8 (k:KC)(e:E)(s:St):Res:=dSeq p10_9 dRet k e s
def p10_7 (k:KC)(e:E)(s:St):Res:=dCond g15 p10_8 dSkip k e s
def p10_5 (k:KC)(e:E)(s:St):Res:=dSeq p10_6 p10_7 k e s
def p10_11 (k:KC)(e:E)(s:St):Res:=lt (g6 e) fun v0 => bE ((eCall 44 [(cV v0)]) k e s) fun v1 s => ltc (V.i 0) fun v2 => .nrm (rw1 (rw0 e fun a b c d _ _ h i j l m n o p q r => ⟨a,b,c,d,v1,v2,h,i,j,l,m,n,o,p,q,r⟩) fun _ _ c d f g h i j l m n o p q r => ⟨v0,v1,c,d,f,g,h,i,j,l,m,n,o,p,q,r⟩) s
def p10_10 (k:KC)(e:E)(s:St):Res:=dSeq p10_11 dRet k e s
def p10_4 (k:KC)(e:E)(s:St):Res:=dSeq p10_5 p10_10 k e s
def p10_2 (k:KC)(e:E)(s:St):Res:=dSeq p10_3 p10_4 k e s
def p10_0 (k:KC)(e:E)(s:St):Res:=dSeq p10_1 p10_2 k e s
def F10 : FDen := ⟨[u0, u1], p10_0, resV [rT g4, rT g5]⟩
theorem low10 : lowFunc tt [] fok Try.f10 = some F10 := by kernel_rfl
theorem run10 : FRun Try.prog [] 10 F10 := FRun.of (lowFunc_ok ttOk fokOk mixed Try.func10 low10)
def p11_1 (k:KC)(e:E)(s:St):Res:=ltc (V.nils) fun v0 => ltc (V.bool false) fun v1 => .nrm (rw0 e fun a b c d _ _ h i j l m n o p q r => ⟨a,b,c,d,v0,v1,h,i,j,l,m,n,o,p,q,r⟩) s
def p11_3 (k:KC)(e:E)(s:St):Res:=ltc (V.nils) fun v0 => .nrm (u6 e v0) s
def p11_5 (k:KC)(e:E)(s:St):Res:=ltc (V.nils) fun v0 => .nrm (u7 e v0) s
def p11_8 (k:KC)(e:E)(s:St):Res:=ltc (V.i 0) fun v0 => .nrm (u8 e v0) s
def p11_13 (k:KC)(e:E)(s:St):Res:=lt (g8 e) fun v0 => lt (g1 e) fun v1 => bP ((pUn uLenS (cV v1)) e) fun v2 => bP ((pBin (bI fLt) (cV v0) (cV v2)) e) fun v3 => .nrm (rw1 (rw0 e fun a b c d f g h i j l m n o p _ _ => ⟨a,b,c,d,f,g,h,i,j,l,m,n,o,p,v0,v1⟩) fun _ _ c d f g h i j l m n o p q r => ⟨v2,v3,c,d,f,g,h,i,j,l,m,n,o,p,q,r⟩) s
def p11_14 (k:KC)(e:E)(s:St):Res:=dCond g17 dSkip (dExit 0) k e s
def p11_12 (k:KC)(e:E)(s:St):Res:=dSeq p11_13 p11_14 k e s
def p11_19 (k:KC)(e:E)(s:St):Res:=lt (g1 e) fun v0 => lt (g8 e) fun v1 => bP ((pBin (bIdx 1) (cV v0) (cV v1)) e) fun v2 => bP ((dLd (cV v2)) e s) fun v3 => bP ((pBin (bI fNe) (cV v3) (cV (.i 0))) e) fun v4 => bP (gdV v4 true ((pMove g0) e)) fun v5 => bP (gdV v4 true ((pMove g1) e)) fun v6 => bP (gdV v4 true ((pMove g8) e)) fun v7 => bP (gdV v4 true ((pBin (bIdx 1) (cV v6) (cV v7)) e)) fun v8 => bP (gdV v4 true ((dLd (cV v8)) e s)) fun v9 => bE (gdW v4 true s ((eCall 45 [(cV v5), (cV v9)]) k e s)) fun v10 s => bP (gdV v4 true ((pBin (bNil false nilP) (cV v10) (cV .nilp)) e)) fun v11 => bP ((pPick (cV v4) (cV v11) (cV (.bool false))) e) fun v12 => .nrm (rw2 (rw1 e fun a b c d _ _ _ _ _ _ _ _ _ _ _ _ => ⟨a,b,c,d,v0,v1,v2,v3,v4,v4,v5,v6,v7,v8,v9,v10⟩) fun _ _ c d f g h i j l m n o p q r => ⟨v11,v12,c,d,f,g,h,i,j,l,m,n,o,p,q,r⟩) s
def p11_22 (k:KC)(e:E)(s:St):Res:=ltc (V.nils) fun v0 => ltc (V.bool false) fun v1 => .nrm (rw0 e fun a b c d _ _ h i j l m n o p q r => ⟨a,b,c,d,v0,v1,h,i,j,l,m,n,o,p,q,r⟩) s
def p11_21 (k:KC)(e:E)(s:St):Res:=dSeq p11_22 dRet k e s
def p11_20 (k:KC)(e:E)(s:St):Res:=dCond g33 p11_21 dSkip k e s
def p11_18 (k:KC)(e:E)(s:St):Res:=dSeq p11_19 p11_20 k e s
def p11_23 (k:KC)(e:E)(s:St):Res:=lt (g7 e) fun v0 => lt (g1 e) fun v1 => lt (g8 e) fun v2 => bP ((pBin (bIdx 1) (cV v1) (cV v2)) e) fun v3 => bP ((dLd (cV v3)) e s) fun v4 => bE (aSt ((aBSl 1 1 [(.i 0)] [(0, 1, (cV v4))]) e s.next) s) fun v5 s => bE ((eAp8 1 (cV v0) (cV v5)) k e s) fun v6 s => .nrm (rw2 (u7 e v6) fun a b _ _ _ _ _ _ _ l m n o p q r => ⟨a,b,v0,v1,v2,v3,v4,v5,v6,l,m,n,o,p,q,r⟩) s
def p11_17 (k:KC)(e:E)(s:St):Res:=dSeq p11_18 p11_23 k e s
def p11_16 (k:KC)(e:E)(s:St):Res:=dBlock 1 p11_17 k e s
def p11_24 (k:KC)(e:E)(s:St):Res:=lt (g8 e) fun v0 => bP ((pBin (bI fAdd) (cV v0) (cV (.i 1))) e) fun v1 => .nrm (rw1 (u8 e v1) fun a b _ _ f g h i j l m n o p q r => ⟨a,b,v0,v1,f,g,h,i,j,l,m,n,o,p,q,r⟩) s
def p11_15 (k:KC)(e:E)(s:St):Res:=dSeq p11_16 p11_24 k e s
def p11_11 (k:KC)(e:E)(s:St):Res:=dSeq p11_12 p11_15 k e s
def p11_10 (k:KC)(e:E)(s:St):Res:=dLoop p11_11 k e s
def p11_9 (k:KC)(e:E)(s:St):Res:=dBlock 0 p11_10 k e s
def p11_7 (k:KC)(e:E)(s:St):Res:=dSeq p11_8 p11_9 k e s
def p11_30 (k:KC)(e:E)(s:St):Res:=lt (g7 e) fun v0 => bP ((pUn uLenS (cV v0)) e) fun v1 => bP ((pBin (bI fGt) (cV v1) (cV (.i 0))) e) fun v2 => .nrm (rw2 e fun a b c d f g h i j _ _ _ o p q r => ⟨a,b,c,d,f,g,h,i,j,v0,v1,v2,o,p,q,r⟩) s
def p11_31 (k:KC)(e:E)(s:St):Res:=dCond g43 dSkip (dExit 2) k e s
def p11_29 (k:KC)(e:E)(s:St):Res:=dSeq p11_30 p11_31 k e s
def p11_34 (k:KC)(e:E)(s:St):Res:=lt (g7 e) fun v0 => lt (g7 e) fun v1 => bP ((pUn uLenS (cV v1)) e) fun v2 => bP ((pBin (bI fSub) (cV v2) (cV (.i 1))) e) fun v3 => bP ((pBin (bIdx 1) (cV v0) (cV v3)) e) fun v4 => bP ((dLd (cV v4)) e s) fun v5 => .nrm (rw3 (rw2 (u9 e v5) fun a b c d f g h i j l m n _ _ _ _ => ⟨a,b,c,d,f,g,h,i,j,l,m,n,v0,v1,v2,v3⟩) fun _ _ c d f g h i j l m n o p q r => ⟨v4,v5,c,d,f,g,h,i,j,l,m,n,o,p,q,r⟩) s
def p11_36 (k:KC)(e:E)(s:St):Res:=lt (g7 e) fun v0 => lt (g7 e) fun v1 => bP ((pUn uLenS (cV v1)) e) fun v2 => bP ((pBin (bI fSub) (cV v2) (cV (.i 1))) e) fun v3 => bP ((pSl 1 (cV v0) none (some (cV v3)) none) e) fun v4 => .nrm (rw3 (u7 e v4) fun a b _ _ _ _ _ i j l m n o p q r => ⟨a,b,v0,v1,v2,v3,v4,i,j,l,m,n,o,p,q,r⟩) s
def p11_39 (k:KC)(e:E)(s:St):Res:=lt (g9 e) fun v0 => bP ((pBin (bI fEq) (cV v0) (cV (.i 0))) e) fun v1 => bP (gdV v1 false ((pMove g6) e)) fun v2 => bP (gdV v1 false ((pMove g9) e)) fun v3 => bE (gdW v1 false s ((eCall 46 [(cV v2), (cV v3)]) k e s)) fun v4 s => bP (gdV v1 false ((pBin (bI fGe) (cV v4) (cV (.i 0))) e)) fun v5 => bP ((pPick (cV v1) (cV (.bool true)) (cV v5)) e) fun v6 => .nrm (rw3 e fun a b c d f g h _ _ _ _ _ _ _ _ r => ⟨a,b,c,d,f,g,h,v0,v1,v1,v2,v3,v4,v5,v6,r⟩) s
def p11_40 (k:KC)(e:E)(s:St):Res:=dCond g62 (dExit 3) dSkip k e s
def p11_38 (k:KC)(e:E)(s:St):Res:=dSeq p11_39 p11_40 k e s
def p11_42 (k:KC)(e:E)(s:St):Res:=lt (g6 e) fun v0 => lt (g9 e) fun v1 => bE (aSt ((aBSl 1 1 [(.i 0)] [(0, 1, (cV v1))]) e s.next) s) fun v2 s => bE ((eAp8 1 (cV v0) (cV v2)) k e s) fun v3 s => .nrm (rw4 (u63 (u6 e v3) v0) fun _ _ _ d f g h i j l m n o p q r => ⟨v1,v2,v3,d,f,g,h,i,j,l,m,n,o,p,q,r⟩) s
def p11_44 (k:KC)(e:E)(s:St):Res:=lt (g0 e) fun v0 => lt (g9 e) fun v1 => bE ((eCall 45 [(cV v0), (cV v1)]) k e s) fun v2 s => .nrm (rw4 (u10 e v2) fun a b c _ _ _ h i j l m n o p q r => ⟨a,b,c,v0,v1,v2,h,i,j,l,m,n,o,p,q,r⟩) s
def p11_46 (k:KC)(e:E)(s:St):Res:=ltc (V.i 0) fun v0 => .nrm (u11 e v0) s
def p11_51 (k:KC)(e:E)(s:St):Res:=lt (g11 e) fun v0 => lt (g10 e) fun v1 => bP ((pUn uChk (cV v1)) e) fun v2 => bP ((pUn (uFld 2) (cV v2)) e) fun v3 => bP ((dLd (cV v3)) e s) fun v4 => bP ((pUn uLenS (cV v4)) e) fun v5 => bP ((pBin (bI fLt) (cV v0) (cV v5)) e) fun v6 => .nrm (rw4 e fun a b c d f g _ _ _ _ _ _ _ p q r => ⟨a,b,c,d,f,g,v0,v1,v2,v3,v4,v5,v6,p,q,r⟩) s
def p11_52 (k:KC)(e:E)(s:St):Res:=dCond g76 dSkip (dExit 4) k e s
def p11_50 (k:KC)(e:E)(s:St):Res:=dSeq p11_51 p11_52 k e s
def p11_56 (k:KC)(e:E)(s:St):Res:=lt (g0 e) fun v0 => lt (g9 e) fun v1 => lt (g11 e) fun v2 => bE ((eCall 40 [(cV v0), (cV v1), (cV v2)]) k e s) fun v3 s => .nrm (rw5 (u79 e v0) fun _ _ _ d f g h i j l m n o p q r => ⟨v1,v2,v3,d,f,g,h,i,j,l,m,n,o,p,q,r⟩) s
def p11_58 (k:KC)(e:E)(s:St):Res:=lt (g7 e) fun v0 => lt (g10 e) fun v1 => bP ((pUn uChk (cV v1)) e) fun v2 => bP ((pUn (uFld 2) (cV v2)) e) fun v3 => bP ((dLd (cV v3)) e s) fun v4 => lt (g11 e) fun v5 => bP ((pBin (bIdx 1) (cV v4) (cV v5)) e) fun v6 => bP ((dLd (cV v6)) e s) fun v7 => bE (aSt ((aBSl 1 1 [(.i 0)] [(0, 1, (cV v7))]) e s.next) s) fun v8 s => bE ((eAp8 1 (cV v0) (cV v8)) k e s) fun v9 s => .nrm (rw5 (u7 e v9) fun a b c _ _ _ _ _ _ _ _ _ _ p q r => ⟨a,b,c,v0,v1,v2,v3,v4,v5,v6,v7,v8,v9,p,q,r⟩) s
def p11_57 (k:KC)(e:E)(s:St):Res:=dCond g82 p11_58 dSkip k e s
def p11_55 (k:KC)(e:E)(s:St):Res:=dSeq p11_56 p11_57 k e s
def p11_54 (k:KC)(e:E)(s:St):Res:=dBlock 5 p11_55 k e s
def p11_59 (k:KC)(e:E)(s:St):Res:=lt (g11 e) fun v0 => bP ((pBin (bI fAdd) (cV v0) (cV (.i 1))) e) fun v1 => .nrm (rw4 (u11 e v1) fun a b c d f g h i j l m n o _ _ r => ⟨a,b,c,d,f,g,h,i,j,l,m,n,o,v0,v1,r⟩) s
def p11_53 (k:KC)(e:E)(s:St):Res:=dSeq p11_54 p11_59 k e s
def p11_49 (k:KC)(e:E)(s:St):Res:=dSeq p11_50 p11_53 k e s
def p11_48 (k:KC)(e:E)(s:St):Res:=dLoop p11_49 k e s
def p11_47 (k:KC)(e:E)(s:St):Res:=dBlock 4 p11_48 k e s
def p11_45 (k:KC)(e:E)(s:St):Res:=dSeq p11_46 p11_47 k e s
def p11_43 (k:KC)(e:E)(s:St):Res:=dSeq p11_44 p11_45 k e s
def p11_41 (k:KC)(e:E)(s:St):Res:=dSeq p11_42 p11_43 k e s
def p11_37 (k:KC)(e:E)(s:St):Res:=dSeq p11_38 p11_41 k e s
def p11_35 (k:KC)(e:E)(s:St):Res:=dSeq p11_36 p11_37 k e s
def p11_33 (k:KC)(e:E)(s:St):Res:=dSeq p11_34 p11_35 k e s
def p11_32 (k:KC)(e:E)(s:St):Res:=dBlock 3 p11_33 k e s
def p11_28 (k:KC)(e:E)(s:St):Res:=dSeq p11_29 p11_32 k e s
def p11_27 (k:KC)(e:E)(s:St):Res:=dLoop p11_28 k e s
def p11_26 (k:KC)(e:E)(s:St):Res:=dBlock 2 p11_27 k e s
def p11_62 (k:KC)(e:E)(s:St):Res:=ltc (V.i 1) fun v0 => .nrm (u12 e v0) s
def p11_67 (k:KC)(e:E)(s:St):Res:=lt (g12 e) fun v0 => lt (g6 e) fun v1 => bP ((pUn uLenS (cV v1)) e) fun v2 => bP ((pBin (bI fLt) (cV v0) (cV v2)) e) fun v3 => .nrm (u96 (rw5 e fun a b c d f g h i j l m n o _ _ _ => ⟨a,b,c,d,f,g,h,i,j,l,m,n,o,v0,v1,v2⟩) v3) s
def p11_68 (k:KC)(e:E)(s:St):Res:=dCond g96 dSkip (dExit 6) k e s
def p11_66 (k:KC)(e:E)(s:St):Res:=dSeq p11_67 p11_68 k e s
def p11_72 (k:KC)(e:E)(s:St):Res:=lt (g12 e) fun v0 => .nrm (u99 (u13 e v0) v0) s
def p11_77 (k:KC)(e:E)(s:St):Res:=lt (g13 e) fun v0 => bP ((pBin (bI fGt) (cV v0) (cV (.i 0))) e) fun v1 => bP (gdV v1 true ((pMove g6) e)) fun v2 => bP (gdV v1 true ((pMove g13) e)) fun v3 => bP (gdV v1 true ((pBin (bI fSub) (cV v3) (cV (.i 1))) e)) fun v4 => bP (gdV v1 true ((pBin (bIdx 1) (cV v2) (cV v4)) e)) fun v5 => bP (gdV v1 true ((dLd (cV v5)) e s)) fun v6 => bP (gdV v1 true ((pMove g6) e)) fun v7 => bP (gdV v1 true ((pMove g13) e)) fun v8 => bP (gdV v1 true ((pBin (bIdx 1) (cV v7) (cV v8)) e)) fun v9 => bP (gdV v1 true ((dLd (cV v9)) e s)) fun v10 => bP (gdV v1 true ((pBin (bI fGt) (cV v6) (cV v10)) e)) fun v11 => bP ((pPick (cV v1) (cV v11) (cV (.bool false))) e) fun v12 => .nrm (rw7 (rw6 e fun a b c d _ _ _ _ _ _ _ _ _ _ _ _ => ⟨a,b,c,d,v0,v1,v1,v2,v3,v4,v5,v6,v7,v8,v9,v10⟩) fun _ _ c d f g h i j l m n o p q r => ⟨v11,v12,c,d,f,g,h,i,j,l,m,n,o,p,q,r⟩) s
def p11_78 (k:KC)(e:E)(s:St):Res:=dCond g113 dSkip (dExit 8) k e s
def p11_76 (k:KC)(e:E)(s:St):Res:=dSeq p11_77 p11_78 k e s
def p11_81 (k:KC)(e:E)(s:St):Res:=lt (g6 e) fun v0 => lt (g13 e) fun v1 => bP ((pBin (bI fSub) (cV v1) (cV (.i 1))) e) fun v2 => lt (g6 e) fun v3 => lt (g13 e) fun v4 => lt (g6 e) fun v5 => lt (g13 e) fun v6 => bP ((pBin (bIdx 1) (cV v5) (cV v6)) e) fun v7 => bP ((dLd (cV v7)) e s) fun v8 => lt (g6 e) fun v9 => lt (g13 e) fun v10 => bP ((pBin (bI fSub) (cV v10) (cV (.i 1))) e) fun v11 => bP ((pBin (bIdx 1) (cV v9) (cV v11)) e) fun v12 => bP ((dLd (cV v12)) e s) fun v13 => bP ((pBin (bIdx 1) (cV v0) (cV v2)) e) fun v14 => bE ((eSt 1 (cV v14) (cV v8)) k e s) fun v15 s => bP ((pBin (bIdx 1) (cV v3) (cV v4)) e) fun v16 => bE ((eSt 1 (cV v16) (cV v13)) k e s) fun v17 s => .nrm (rw8 (rw7 e fun a b c d _ _ _ _ _ _ _ _ _ _ _ _ => ⟨a,b,c,d,v0,v1,v2,v3,v4,v5,v6,v7,v8,v9,v10,v11⟩) fun _ _ _ _ f g h i j l m n o p q r => ⟨v12,v13,v14,v16,f,g,h,i,j,l,m,n,o,p,q,r⟩) s
def p11_80 (k:KC)(e:E)(s:St):Res:=dBlock 9 p11_81 k e s
def p11_82 (k:KC)(e:E)(s:St):Res:=lt (g13 e) fun v0 => bP ((pBin (bI fSub) (cV v0) (cV (.i 1))) e) fun v1 => .nrm (rw7 (u13 e v1) fun a b _ _ f g h i j l m n o p q r => ⟨a,b,v0,v1,f,g,h,i,j,l,m,n,o,p,q,r⟩) s
def p11_79 (k:KC)(e:E)(s:St):Res:=dSeq p11_80 p11_82 k e s
def p11_75 (k:KC)(e:E)(s:St):Res:=dSeq p11_76 p11_79 k e s
def p11_74 (k:KC)(e:E)(s:St):Res:=dLoop p11_75 k e s
def p11_73 (k:KC)(e:E)(s:St):Res:=dBlock 8 p11_74 k e s
def p11_71 (k:KC)(e:E)(s:St):Res:=dSeq p11_72 p11_73 k e s
def p11_70 (k:KC)(e:E)(s:St):Res:=dBlock 7 p11_71 k e s
def p11_83 (k:KC)(e:E)(s:St):Res:=lt (g12 e) fun v0 => bP ((pBin (bI fAdd) (cV v0) (cV (.i 1))) e) fun v1 => .nrm (rw6 (u12 e v1) fun a _ _ d f g h i j l m n o p q r => ⟨a,v0,v1,d,f,g,h,i,j,l,m,n,o,p,q,r⟩) s
def p11_69 (k:KC)(e:E)(s:St):Res:=dSeq p11_70 p11_83 k e s
def p11_65 (k:KC)(e:E)(s:St):Res:=dSeq p11_66 p11_69 k e s
def p11_64 (k:KC)(e:E)(s:St):Res:=dLoop p11_65 k e s
def p11_63 (k:KC)(e:E)(s:St):Res:=dBlock 6 p11_64 k e s
def p11_61 (k:KC)(e:E)(s:St):Res:=dSeq p11_62 p11_63 k e s
def p11_85 (k:KC)(e:E)(s:St):Res:=lt (g6 e) fun v0 => ltc (V.bool true) fun v1 => .nrm (u132 (rw0 e fun a b c d _ _ h i j l m n o p q r => ⟨a,b,c,d,v0,v1,h,i,j,l,m,n,o,p,q,r⟩) v0) s
def p11_84 (k:KC)(e:E)(s:St):Res:=dSeq p11_85 dRet k e s
def p11_60 (k:KC)(e:E)(s:St):Res:=dSeq p11_61 p11_84 k e s
def p11_25 (k:KC)(e:E)(s:St):Res:=dSeq p11_26 p11_60 k e s
def p11_6 (k:KC)(e:E)(s:St):Res:=dSeq p11_7 p11_25 k e s
def p11_4 (k:KC)(e:E)(s:St):Res:=dSeq p11_5 p11_6 k e s
def p11_2 (k:KC)(e:E)(s:St):Res:=dSeq p11_3 p11_4 k e s
def p11_0 (k:KC)(e:E)(s:St):Res:=dSeq p11_1 p11_2 k e s
def F11 : FDen := ⟨[u0, u1], p11_0, resV [rT g4, rT g5]⟩
theorem low11 : lowFunc tt [] fok Try.f11 = some F11 := by kernel_rfl
theorem run11 : FRun Try.prog [] 11 F11 := FRun.of (lowFunc_ok ttOk fokOk mixed Try.func11 low11)
def p12_1 (k:KC)(e:E)(s:St):Res:=ltc (V.i 0) fun v0 => ltc (V.i 0) fun v1 => .nrm (rw0 e fun a b c d _ _ h i j l m n o p q r => ⟨a,b,c,d,v0,v1,h,i,j,l,m,n,o,p,q,r⟩) s
def p12_3 (k:KC)(e:E)(s:St):Res:=lt (g0 e) fun v0 => lt (g1 e) fun v1 => bE ((eCall 43 [(cV v0), (cV v1)]) k e s) fun v2 s => bP ((pUn (uExt 0) (cV v2)) e) fun v3 => bP ((pUn (uExt 1) (cV v2)) e) fun v4 => .nrm (rw0 e fun a b c d f g _ _ _ _ _ _ _ _ q r => ⟨a,b,c,d,f,g,v3,v4,v2,v0,v1,v2,v3,v4,q,r⟩) s
def p12_6 (k:KC)(e:E)(s:St):Res:=lt (g7 e) fun v0 => bP ((pUn uNot (cV v0)) e) fun v1 => .nrm (rw0 e fun a b c d f g h i j l m n o p _ _ => ⟨a,b,c,d,f,g,h,i,j,l,m,n,o,p,v0,v1⟩) s
def p12_9 (k:KC)(e:E)(s:St):Res:=ltc (V.i 0) fun v0 => ltc (V.i 1) fun v1 => .nrm (rw0 e fun a b c d _ _ h i j l m n o p q r => ⟨a,b,c,d,v0,v1,h,i,j,l,m,n,o,p,q,r⟩) s
def p12_8 (k:KC)(e:E)(s:St):Res:=dSeq p12_9 dRet k e s
def p12_7 (k:KC)(e:E)(s:St):Res:=dCond g15 p12_8 dSkip k e s
def p12_5 (k:KC)(e:E)(s:St):Res:=dSeq p12_6 p12_7 k e s
def p12_11 (k:KC)(e:E)(s:St):Res:=lt (g6 e) fun v0 => bE ((eCall 47 [(cV v0)]) k e s) fun v1 s => ltc (V.i 0) fun v2 => .nrm (rw1 (rw0 e fun a b c d _ _ h i j l m n o p q r => ⟨a,b,c,d,v1,v2,h,i,j,l,m,n,o,p,q,r⟩) fun _ _ c d f g h i j l m n o p q r => ⟨v0,v1,c,d,f,g,h,i,j,l,m,n,o,p,q,r⟩) s
def p12_10 (k:KC)(e:E)(s:St):Res:=dSeq p12_11 dRet k e s
def p12_4 (k:KC)(e:E)(s:St):Res:=dSeq p12_5 p12_10 k e s
def p12_2 (k:KC)(e:E)(s:St):Res:=dSeq p12_3 p12_4 k e s
def p12_0 (k:KC)(e:E)(s:St):Res:=dSeq p12_1 p12_2 k e s
def F12 : FDen := ⟨[u0, u1], p12_0, resV [rT g4, rT g5]⟩
theorem low12 : lowFunc tt [] fok Try.f12 = some F12 := by kernel_rfl
theorem run12 : FRun Try.prog [] 12 F12 := FRun.of (lowFunc_ok ttOk fokOk mixed Try.func12 low12)
def p13_1 (k:KC)(e:E)(s:St):Res:=ltc (V.i 0) fun v0 => .nrm (u4 e v0) s
def p13_3 (k:KC)(e:E)(s:St):Res:=lt (g0 e) fun v0 => lt (g1 e) fun v1 => bE ((eCall 45 [(cV v0), (cV v1)]) k e s) fun v2 s => .nrm (rw0 e fun a b c d f _ _ _ _ l m n o p q r => ⟨a,b,c,d,f,v2,v0,v1,v2,l,m,n,o,p,q,r⟩) s
def p13_6 (k:KC)(e:E)(s:St):Res:=lt (g5 e) fun v0 => bP ((pBin (bNil false nilP) (cV v0) (cV .nilp)) e) fun v1 => .nrm (rw0 e fun a b c d f g h i j _ _ n o p q r => ⟨a,b,c,d,f,g,h,i,j,v0,v1,n,o,p,q,r⟩) s
def p13_9 (k:KC)(e:E)(s:St):Res:=ltc (V.i 0) fun v0 => .nrm (u4 e v0) s
def p13_8 (k:KC)(e:E)(s:St):Res:=dSeq p13_9 dRet k e s
def p13_7 (k:KC)(e:E)(s:St):Res:=dCond g10 p13_8 dSkip k e s
def p13_5 (k:KC)(e:E)(s:St):Res:=dSeq p13_6 p13_7 k e s
def p13_11 (k:KC)(e:E)(s:St):Res:=lt (g5 e) fun v0 => bP ((pUn uChk (cV v0)) e) fun v1 => bP ((pUn (uFld 2) (cV v1)) e) fun v2 => bP ((dLd (cV v2)) e s) fun v3 => bP ((pUn uLenS (cV v3)) e) fun v4 => .nrm (rw0 e fun a b c d _ g h i j l m _ _ _ _ _ => ⟨a,b,c,d,v4,g,h,i,j,l,m,v0,v1,v2,v3,v4⟩) s
def p13_10 (k:KC)(e:E)(s:St):Res:=dSeq p13_11 dRet k e s
def p13_4 (k:KC)(e:E)(s:St):Res:=dSeq p13_5 p13_10 k e s
def p13_2 (k:KC)(e:E)(s:St):Res:=dSeq p13_3 p13_4 k e s
def p13_0 (k:KC)(e:E)(s:St):Res:=dSeq p13_1 p13_2 k e s
def F13 : FDen := ⟨[u0, u1], p13_0, resV [rT g4]⟩
theorem low13 : lowFunc tt [] fok Try.f13 = some F13 := by kernel_rfl
theorem run13 : FRun Try.prog [] 13 F13 := FRun.of (lowFunc_ok ttOk fokOk mixed Try.func13 low13)
def p14_1 (k:KC)(e:E)(s:St):Res:=ltc (V.bool false) fun v0 => .nrm (u4 e v0) s
def p14_4 (k:KC)(e:E)(s:St):Res:=lt (g0 e) fun v0 => bP ((pUn uLenS (cV v0)) e) fun v1 => lt (g1 e) fun v2 => bP ((pUn uLenS (cV v2)) e) fun v3 => bP ((pBin (bI fNe) (cV v1) (cV v3)) e) fun v4 => .nrm (rw0 e fun a b c d f g _ _ _ _ _ n o p q r => ⟨a,b,c,d,f,g,v0,v1,v2,v3,v4,n,o,p,q,r⟩) s
def p14_7 (k:KC)(e:E)(s:St):Res:=ltc (V.bool false) fun v0 => .nrm (u4 e v0) s
def p14_6 (k:KC)(e:E)(s:St):Res:=dSeq p14_7 dRet k e s
def p14_5 (k:KC)(e:E)(s:St):Res:=dCond g10 p14_6 dSkip k e s
def p14_3 (k:KC)(e:E)(s:St):Res:=dSeq p14_4 p14_5 k e s
def p14_10 (k:KC)(e:E)(s:St):Res:=ltc (V.i 0) fun v0 => .nrm (u5 e v0) s
def p14_15 (k:KC)(e:E)(s:St):Res:=lt (g5 e) fun v0 => lt (g0 e) fun v1 => bP ((pUn uLenS (cV v1)) e) fun v2 => bP ((pBin (bI fLt) (cV v0) (cV v2)) e) fun v3 => .nrm (rw0 e fun a b c d f g h i j l m _ _ _ _ r => ⟨a,b,c,d,f,g,h,i,j,l,m,v0,v1,v2,v3,r⟩) s
def p14_16 (k:KC)(e:E)(s:St):Res:=dCond g14 dSkip (dExit 0) k e s
def p14_14 (k:KC)(e:E)(s:St):Res:=dSeq p14_15 p14_16 k e s
def p14_20 (k:KC)(e:E)(s:St):Res:=lt (g0 e) fun v0 => lt (g5 e) fun v1 => bP ((pBin (bIdx 1) (cV v0) (cV v1)) e) fun v2 => bP ((dLd (cV v2)) e s) fun v3 => lt (g1 e) fun v4 => lt (g5 e) fun v5 => bP ((pBin (bIdx 1) (cV v4) (cV v5)) e) fun v6 => bP ((dLd (cV v6)) e s) fun v7 => bP ((pBin (bI fNe) (cV v3) (cV v7)) e) fun v8 => .nrm (rw1 e fun a _ _ _ _ _ _ _ _ _ m n o p q r => ⟨a,v0,v1,v2,v3,v4,v5,v6,v7,v8,m,n,o,p,q,r⟩) s
def p14_23 (k:KC)(e:E)(s:St):Res:=ltc (V.bool false) fun v0 => .nrm (u4 e v0) s
def p14_22 (k:KC)(e:E)(s:St):Res:=dSeq p14_23 dRet k e s
def p14_21 (k:KC)(e:E)(s:St):Res:=dCond g25 p14_22 dSkip k e s
def p14_19 (k:KC)(e:E)(s:St):Res:=dSeq p14_20 p14_21 k e s
def p14_18 (k:KC)(e:E)(s:St):Res:=dBlock 1 p14_19 k e s
def p14_24 (k:KC)(e:E)(s:St):Res:=lt (g5 e) fun v0 => bP ((pBin (bI fAdd) (cV v0) (cV (.i 1))) e) fun v1 => .nrm (u16 (rw0 e fun a b c d f _ h i j l m n o p q _ => ⟨a,b,c,d,f,v1,h,i,j,l,m,n,o,p,q,v0⟩) v1) s
def p14_17 (k:KC)(e:E)(s:St):Res:=dSeq p14_18 p14_24 k e s
def p14_13 (k:KC)(e:E)(s:St):Res:=dSeq p14_14 p14_17 k e s
def p14_12 (k:KC)(e:E)(s:St):Res:=dLoop p14_13 k e s
def p14_11 (k:KC)(e:E)(s:St):Res:=dBlock 0 p14_12 k e s
def p14_9 (k:KC)(e:E)(s:St):Res:=dSeq p14_10 p14_11 k e s
def p14_26 (k:KC)(e:E)(s:St):Res:=ltc (V.bool true) fun v0 => .nrm (u4 e v0) s
def p14_25 (k:KC)(e:E)(s:St):Res:=dSeq p14_26 dRet k e s
def p14_8 (k:KC)(e:E)(s:St):Res:=dSeq p14_9 p14_25 k e s
def p14_2 (k:KC)(e:E)(s:St):Res:=dSeq p14_3 p14_8 k e s
def p14_0 (k:KC)(e:E)(s:St):Res:=dSeq p14_1 p14_2 k e s
def F14 : FDen := ⟨[u0, u1], p14_0, resV [rT g4]⟩
theorem low14 : lowFunc tt [] fok Try.f14 = some F14 := by kernel_rfl
theorem run14 : FRun Try.prog [] 14 F14 := FRun.of (lowFunc_ok ttOk fokOk mixed Try.func14 low14)
def p15_1 (k:KC)(e:E)(s:St):Res:=ltc (V.bool false) fun v0 => .nrm (u0 e v0) s
def p15_3 (k:KC)(e:E)(s:St):Res:=bE (aSt ((aBSl 1 1 [(.i 0)] [(0, 1, (cV (.i 1)))]) e s.next) s) fun v0 s => bP ((pBuild [(.i 0), (.i 0), .nils] [(0, 1, (cV (.i 1))), (2, 1, (cV v0))]) e) fun v1 => bE (aSt ((aBSl 1 1 [(.i 0)] [(0, 1, (cV (.i 0)))]) e s.next) s) fun v2 s => bP ((pBuild [(.i 0), (.i 0), .nils] [(0, 1, (cV (.i 1))), (2, 1, (cV v2))]) e) fun v3 => bP ((pBuild [(.i 0), (.i 0), .nils] [(0, 1, (cV (.i 0)))]) e) fun v4 => bE (aSt ((aBSl 3 3 [(.i 0), (.i 0), .nils, (.i 0), (.i 0), .nils, (.i 0), (.i 0), .nils] [(0, 3, (cV v1)), (3, 3, (cV v3)), (6, 3, (cV v4))]) e s.next) s) fun v5 s => bE ((eCall 8 [(cV v5), (cV (.i 100))]) k e s) fun v6 s => bP ((pUn (uExt 0) (cV v6)) e) fun v7 => bP ((pUn (uExt 1) (cV v6)) e) fun v8 => bP ((pUn (uExt 2) (cV v6)) e) fun v9 => .nrm (u16 (rw0 e fun a _ _ _ f g _ _ _ _ _ _ _ _ _ _ => ⟨a,v7,v8,v9,f,g,v6,v0,v1,v2,v3,v4,v5,v6,v7,v8⟩) v9) s
def p15_6 (k:KC)(e:E)(s:St):Res:=lt (g1 e) fun v0 => bP ((pBin (bNil false nilP) (cV v0) (cV .nilp)) e) fun v1 => bP (gdV v1 false ((pMove g3) e)) fun v2 => bP (gdV v1 false ((pUn uLenS (cV v2)) e)) fun v3 => bP (gdV v1 false ((pBin (bI fNe) (cV v3) (cV (.i 3))) e)) fun v4 => bP ((pPick (cV v1) (cV (.bool true)) (cV v4)) e) fun v5 => .nrm (rw1 e fun a _ _ _ _ _ _ _ j l m n o p q r => ⟨a,v0,v1,v1,v2,v3,v4,v5,j,l,m,n,o,p,q,r⟩) s
def p15_9 (k:KC)(e:E)(s:St):Res:=ltc (V.bool false) fun v0 => .nrm (u0 e v0) s
def p15_8 (k:KC)(e:E)(s:St):Res:=dSeq p15_9 dRet k e s
def p15_7 (k:KC)(e:E)(s:St):Res:=dCond g23 p15_8 dSkip k e s
def p15_5 (k:KC)(e:E)(s:St):Res:=dSeq p15_6 p15_7 k e s
def p15_11 (k:KC)(e:E)(s:St):Res:=lt (g1 e) fun v0 => lt (g3 e) fun v1 => bP ((pBin (bIdx 1) (cV v1) (cV (.i 1))) e) fun v2 => bP ((dLd (cV v2)) e s) fun v3 => bE (aSt ((aBSl 2 1 [(.i 0), (.i 0)] [(0, 1, (cV v3)), (1, 1, (cV (.i 0)))]) e s.next) s) fun v4 s => bE ((eCall 10 [(cV v0), (cV v4)]) k e s) fun v5 s => bP ((pUn (uExt 0) (cV v5)) e) fun v6 => bP ((pUn (uExt 1) (cV v5)) e) fun v7 => .nrm (u32 (rw1 (rw0 e fun a b c d _ _ h i j l m n o p q r => ⟨a,b,c,d,v6,v7,h,i,j,l,m,n,o,p,q,r⟩) fun a b c d f g h i _ _ _ _ _ _ _ _ => ⟨a,b,c,d,f,g,h,i,v5,v0,v1,v2,v3,v4,v5,v6⟩) v7) s
def p15_13 (k:KC)(e:E)(s:St):Res:=lt (g5 e) fun v0 => bP ((pBin (bI fEq) (cV v0) (cV (.i 0))) e) fun v1 => bP (gdV v1 true ((pMove g4) e)) fun v2 => bP (gdV v1 true ((pMove g3) e)) fun v3 => bP (gdV v1 true ((pSl 1 (cV v3) none (some (cV (.i 2))) none) e)) fun v4 => bE (gdW v1 true s ((eCall 14 [(cV v2), (cV v4)]) k e s)) fun v5 s => bP ((pPick (cV v1) (cV v5) (cV (.bool false))) e) fun v6 => .nrm (rw2 (u0 e v6) fun a _ _ _ _ _ _ _ _ l m n o p q r => ⟨a,v0,v1,v1,v2,v3,v4,v5,v6,l,m,n,o,p,q,r⟩) s
def p15_12 (k:KC)(e:E)(s:St):Res:=dSeq p15_13 dRet k e s
def p15_10 (k:KC)(e:E)(s:St):Res:=dSeq p15_11 p15_12 k e s
def p15_4 (k:KC)(e:E)(s:St):Res:=dSeq p15_5 p15_10 k e s
def p15_2 (k:KC)(e:E)(s:St):Res:=dSeq p15_3 p15_4 k e s
def p15_0 (k:KC)(e:E)(s:St):Res:=dSeq p15_1 p15_2 k e s
def F15 : FDen := ⟨[], p15_0, resV [rT g0]⟩
theorem low15 : lowFunc tt [] fok Try.f15 = some F15 := by kernel_rfl
theorem run15 : FRun Try.prog [] 15 F15 := FRun.of (lowFunc_ok ttOk fokOk mixed Try.func15 low15)
def p16_1 (k:KC)(e:E)(s:St):Res:=ltc (V.i 0) fun v0 => .nrm (u2 e v0) s
def p16_3 (k:KC)(e:E)(s:St):Res:=ltc (V.i 0) fun v0 => .nrm (u3 e v0) s
def p16_6 (k:KC)(e:E)(s:St):Res:=ltc (V.i 0) fun v0 => .nrm (u4 e v0) s
def p16_11 (k:KC)(e:E)(s:St):Res:=lt (g4 e) fun v0 => lt (g0 e) fun v1 => bP ((pUn uChk (cV v1)) e) fun v2 => bP ((pUn (uFld 1) (cV v2)) e) fun v3 => bP ((dLd (cV v3)) e s) fun v4 => bP ((pUn uLenS (cV v4)) e) fun v5 => bP ((pBin (bI fLt) (cV v0) (cV v5)) e) fun v6 => .nrm (rw0 e fun a b c d f _ _ _ _ _ _ _ o p q r => ⟨a,b,c,d,f,v0,v1,v2,v3,v4,v5,v6,o,p,q,r⟩) s
def p16_12 (k:KC)(e:E)(s:St):Res:=dCond g11 dSkip (dExit 0) k e s
def p16_10 (k:KC)(e:E)(s:St):Res:=dSeq p16_11 p16_12 k e s
def p16_15 (k:KC)(e:E)(s:St):Res:=lt (g3 e) fun v0 => bP ((pBin (bI fAdd) (cV v0) (cV (.i 3))) e) fun v1 => lt (g0 e) fun v2 => bP ((pUn uChk (cV v2)) e) fun v3 => bP ((pUn (uFld 1) (cV v3)) e) fun v4 => bP ((dLd (cV v4)) e s) fun v5 => lt (g4 e) fun v6 => bP ((pBin (bIdx 4) (cV v5) (cV v6)) e) fun v7 => bP ((pUn (uFld 2) (cV v7)) e) fun v8 => bP ((dLd (cV v8)) e s) fun v9 => bP ((pUn uLenS (cV v9)) e) fun v10 => bP ((pBin (bI fAdd) (cV v1) (cV v10)) e) fun v11 => .nrm (rw1 (rw0 e fun a b c _ f g h i j l m n o p _ _ => ⟨a,b,c,v11,f,g,h,i,j,l,m,n,o,p,v0,v1⟩) fun _ _ _ _ _ _ _ _ _ _ m n o p q r => ⟨v2,v3,v4,v5,v6,v7,v8,v9,v10,v11,m,n,o,p,q,r⟩) s
def p16_14 (k:KC)(e:E)(s:St):Res:=dBlock 1 p16_15 k e s
def p16_16 (k:KC)(e:E)(s:St):Res:=lt (g4 e) fun v0 => bP ((pBin (bI fAdd) (cV v0) (cV (.i 1))) e) fun v1 => .nrm (rw0 e fun a b c d _ g h i j l m n _ _ q r => ⟨a,b,c,d,v1,g,h,i,j,l,m,n,v0,v1,q,r⟩) s
def p16_13 (k:KC)(e:E)(s:St):Res:=dSeq p16_14 p16_16 k e s
def p16_9 (k:KC)(e:E)(s:St):Res:=dSeq p16_10 p16_13 k e s
def p16_8 (k:KC)(e:E)(s:St):Res:=dLoop p16_9 k e s
def p16_7 (k:KC)(e:E)(s:St):Res:=dBlock 0 p16_8 k e s
def p16_5 (k:KC)(e:E)(s:St):Res:=dSeq p16_6 p16_7 k e s
def p16_18 (k:KC)(e:E)(s:St):Res:=lt (g3 e) fun v0 => .nrm (u26 (u2 e v0) v0) s
def p16_17 (k:KC)(e:E)(s:St):Res:=dSeq p16_18 dRet k e s
def p16_4 (k:KC)(e:E)(s:St):Res:=dSeq p16_5 p16_17 k e s
def p16_2 (k:KC)(e:E)(s:St):Res:=dSeq p16_3 p16_4 k e s
def p16_0 (k:KC)(e:E)(s:St):Res:=dSeq p16_1 p16_2 k e s
def F16 : FDen := ⟨[u0], p16_0, resV [rT g2]⟩
theorem low16 : lowFunc tt [] fok Try.f16 = some F16 := by kernel_rfl
theorem run16 : FRun Try.prog [] 16 F16 := FRun.of (lowFunc_ok ttOk fokOk mixed Try.func16 low16)
def p21_1 (k:KC)(e:E)(s:St):Res:=ltc (V.i 0) fun v0 => .nrm (u2 e v0) s
def p21_3 (k:KC)(e:E)(s:St):Res:=lt (g0 e) fun v0 => bP ((pUn uChk (cV v0)) e) fun v1 => bP ((pUn (uFld 2) (cV v1)) e) fun v2 => bP ((dLd (cV v2)) e s) fun v3 => bP ((pBin (bI fSub) (cV v3) (cV (.i 1))) e) fun v4 => .nrm (rw0 e fun a b _ _ _ _ _ _ j l m n o p q r => ⟨a,b,v4,v0,v1,v2,v3,v4,j,l,m,n,o,p,q,r⟩) s
def p21_2 (k:KC)(e:E)(s:St):Res:=dSeq p21_3 dRet k e s
def p21_0 (k:KC)(e:E)(s:St):Res:=dSeq p21_1 p21_2 k e s
def F21 : FDen := ⟨[u0], p21_0, resV [rT g2]⟩
theorem low21 : lowFunc tt [] fok Try.f21 = some F21 := by kernel_rfl
theorem run21 : FRun Try.prog [] 21 F21 := FRun.of (lowFunc_ok ttOk fokOk mixed Try.func21 low21)
def p24_1 (k:KC)(e:E)(s:St):Res:=ltc (V.i 0) fun v0 => .nrm (u4 e v0) s
def p24_4 (k:KC)(e:E)(s:St):Res:=lt (g0 e) fun v0 => lt (g1 e) fun v1 => bE ((eCall 51 [(cV v0), (cV v1)]) k e s) fun v2 s => bP ((pUn uNot (cV v2)) e) fun v3 => .nrm (rw0 e fun a b c d f _ _ _ _ l m n o p q r => ⟨a,b,c,d,f,v0,v1,v2,v3,l,m,n,o,p,q,r⟩) s
def p24_7 (k:KC)(e:E)(s:St):Res:=ltc (V.i (-3)) fun v0 => .nrm (u4 e v0) s
def p24_6 (k:KC)(e:E)(s:St):Res:=dSeq p24_7 dRet k e s
def p24_5 (k:KC)(e:E)(s:St):Res:=dCond g8 p24_6 dSkip k e s
def p24_3 (k:KC)(e:E)(s:St):Res:=dSeq p24_4 p24_5 k e s
def p24_9 (k:KC)(e:E)(s:St):Res:=lt (g0 e) fun v0 => bP ((pUn uChk (cV v0)) e) fun v1 => bP ((pUn (uFld 0) (cV v1)) e) fun v2 => bP ((dLd (cV v2)) e s) fun v3 => lt (g1 e) fun v4 => bP ((pBin (bIdx 1) (cV v3) (cV v4)) e) fun v5 => bP ((dLd (cV v5)) e s) fun v6 => .nrm (rw0 e fun a b c d _ g h i j _ _ _ _ _ _ _ => ⟨a,b,c,d,v6,g,h,i,j,v0,v1,v2,v3,v4,v5,v6⟩) s
def p24_8 (k:KC)(e:E)(s:St):Res:=dSeq p24_9 dRet k e s
def p24_2 (k:KC)(e:E)(s:St):Res:=dSeq p24_3 p24_8 k e s
def p24_0 (k:KC)(e:E)(s:St):Res:=dSeq p24_1 p24_2 k e s
def F24 : FDen := ⟨[u0, u1], p24_0, resV [rT g4]⟩
theorem low24 : lowFunc tt [] fok Try.f24 = some F24 := by kernel_rfl
theorem run24 : FRun Try.prog [] 24 F24 := FRun.of (lowFunc_ok ttOk fokOk mixed Try.func24 low24)
def p26_1 (k:KC)(e:E)(s:St):Res:=ltc (V.i 0) fun v0 => ltc (V.i 0) fun v1 => .nrm (rw0 e fun a b c d f g _ _ j l m n o p q r => ⟨a,b,c,d,f,g,v0,v1,j,l,m,n,o,p,q,r⟩) s
def p26_3 (k:KC)(e:E)(s:St):Res:=lt (g0 e) fun v0 => lt (g1 e) fun v1 => lt (g2 e) fun v2 => bE ((eCall 52 [(cV v0), (cV v1), (cV v2)]) k e s) fun v3 s => bP ((pUn (uExt 0) (cV v3)) e) fun v4 => bP ((pUn (uExt 1) (cV v3)) e) fun v5 => .nrm (u16 (rw0 e fun a b c d f g h i _ _ _ _ _ _ _ _ => ⟨a,b,c,d,f,g,h,i,v4,v5,v3,v0,v1,v2,v3,v4⟩) v5) s
def p26_6 (k:KC)(e:E)(s:St):Res:=lt (g9 e) fun v0 => bP ((pUn uNot (cV v0)) e) fun v1 => .nrm (rw1 e fun a _ _ d f g h i j l m n o p q r => ⟨a,v0,v1,d,f,g,h,i,j,l,m,n,o,p,q,r⟩) s
def p26_9 (k:KC)(e:E)(s:St):Res:=ltc (V.i 0) fun v0 => ltc (V.i 1) fun v1 => .nrm (rw0 e fun a b c d f g _ _ j l m n o p q r => ⟨a,b,c,d,f,g,v0,v1,j,l,m,n,o,p,q,r⟩) s
def p26_8 (k:KC)(e:E)(s:St):Res:=dSeq p26_9 dRet k e s
def p26_7 (k:KC)(e:E)(s:St):Res:=dCond g18 p26_8 dSkip k e s
def p26_5 (k:KC)(e:E)(s:St):Res:=dSeq p26_6 p26_7 k e s
def p26_11 (k:KC)(e:E)(s:St):Res:=lt (g0 e) fun v0 => bP ((pUn uChk (cV v0)) e) fun v1 => bP ((pUn (uFld 0) (cV v1)) e) fun v2 => bP ((dLd (cV v2)) e s) fun v3 => lt (g8 e) fun v4 => bP ((pBin (bIdx 1) (cV v3) (cV v4)) e) fun v5 => bP ((dLd (cV v5)) e s) fun v6 => ltc (V.i 0) fun v7 => .nrm (rw1 (rw0 e fun a b c d f g _ _ j l m n o p q r => ⟨a,b,c,d,f,g,v6,v7,j,l,m,n,o,p,q,r⟩) fun a b c _ _ _ _ _ _ _ m n o p q r => ⟨a,b,c,v0,v1,v2,v3,v4,v5,v6,m,n,o,p,q,r⟩) s
def p26_10 (k:KC)(e:E)(s:St):Res:=dSeq p26_11 dRet k e s
def p26_4 (k:KC)(e:E)(s:St):Res:=dSeq p26_5 p26_10 k e s
def p26_2 (k:KC)(e:E)(s:St):Res:=dSeq p26_3 p26_4 k e s
def p26_0 (k:KC)(e:E)(s:St):Res:=dSeq p26_1 p26_2 k e s
def F26 : FDen := ⟨[u0, u1, u2], p26_0, resV [rT g6, rT g7]⟩
theorem low26 : lowFunc tt [] fok Try.f26 = some F26 := by kernel_rfl
theorem run26 : FRun Try.prog [] 26 F26 := FRun.of (lowFunc_ok ttOk fokOk mixed Try.func26 low26)
def p29_1 (k:KC)(e:E)(s:St):Res:=ltc (V.i 0) fun v0 => .nrm (u6 e v0) s
def p29_3 (k:KC)(e:E)(s:St):Res:=lt (g0 e) fun v0 => lt (g2 e) fun v1 => lt (g1 e) fun v2 => bP ((pBin (bI fSub) (cV v1) (cV v2)) e) fun v3 => bP ((pBin (bI fAdd) (cV v3) (cV (.i 1))) e) fun v4 => bP ((pBin rem64 (cV v0) (cV v4)) e) fun v5 => .nrm (rw0 e fun _ b c d f g h _ _ _ _ _ _ p q r => ⟨v5,b,c,d,f,g,h,v0,v1,v2,v3,v4,v5,p,q,r⟩) s
def p29_6 (k:KC)(e:E)(s:St):Res:=lt (g0 e) fun v0 => bP ((pBin (bI fLt) (cV v0) (cV (.i 0))) e) fun v1 => .nrm (rw0 e fun a b c d f g h i j l m n o _ _ r => ⟨a,b,c,d,f,g,h,i,j,l,m,n,o,v0,v1,r⟩) s
def p29_8 (k:KC)(e:E)(s:St):Res:=lt (g0 e) fun v0 => lt (g2 e) fun v1 => bP ((pBin (bI fAdd) (cV v0) (cV v1)) e) fun v2 => lt (g1 e) fun v3 => bP ((pBin (bI fSub) (cV v2) (cV v3)) e) fun v4 => bP ((pBin (bI fAdd) (cV v4) (cV (.i 1))) e) fun v5 => .nrm (rw1 (rw0 e fun _ b c d f g h i j l m n o p q _ => ⟨v5,b,c,d,f,g,h,i,j,l,m,n,o,p,q,v0⟩) fun _ _ _ _ _ g h i j l m n o p q r => ⟨v1,v2,v3,v4,v5,g,h,i,j,l,m,n,o,p,q,r⟩) s
def p29_7 (k:KC)(e:E)(s:St):Res:=dCond g14 p29_8 dSkip k e s
def p29_5 (k:KC)(e:E)(s:St):Res:=dSeq p29_6 p29_7 k e s
def p29_10 (k:KC)(e:E)(s:St):Res:=lt (g1 e) fun v0 => lt (g0 e) fun v1 => bP ((pBin (bI fAdd) (cV v0) (cV v1)) e) fun v2 => .nrm (rw1 (u6 e v2) fun a b c d f _ _ _ j l m n o p q r => ⟨a,b,c,d,f,v0,v1,v2,j,l,m,n,o,p,q,r⟩) s
def p29_9 (k:KC)(e:E)(s:St):Res:=dSeq p29_10 dRet k e s
def p29_4 (k:KC)(e:E)(s:St):Res:=dSeq p29_5 p29_9 k e s
def p29_2 (k:KC)(e:E)(s:St):Res:=dSeq p29_3 p29_4 k e s
def p29_0 (k:KC)(e:E)(s:St):Res:=dSeq p29_1 p29_2 k e s
def F29 : FDen := ⟨[u0, u1, u2], p29_0, resV [rT g6]⟩
theorem low29 : lowFunc tt [] fok Try.f29 = some F29 := by kernel_rfl
theorem run29 : FRun Try.prog [] 29 F29 := FRun.of (lowFunc_ok ttOk fokOk mixed Try.func29 low29)
def p30_1 (k:KC)(e:E)(s:St):Res:=ltc (V.i 0) fun v0 => .nrm (u6 e v0) s
def p30_4 (k:KC)(e:E)(s:St):Res:=lt (g0 e) fun v0 => lt (g1 e) fun v1 => bE ((eCall 51 [(cV v0), (cV v1)]) k e s) fun v2 s => bP ((pUn uNot (cV v2)) e) fun v3 => .nrm (rw0 e fun a b c d f g h _ _ _ _ n o p q r => ⟨a,b,c,d,f,g,h,v0,v1,v2,v3,n,o,p,q,r⟩) s
def p30_7 (k:KC)(e:E)(s:St):Res:=ltc (V.i 1) fun v0 => .nrm (u6 e v0) s
def p30_6 (k:KC)(e:E)(s:St):Res:=dSeq p30_7 dRet k e s
def p30_5 (k:KC)(e:E)(s:St):Res:=dCond g10 p30_6 dSkip k e s
def p30_3 (k:KC)(e:E)(s:St):Res:=dSeq p30_4 p30_5 k e s
def p30_9 (k:KC)(e:E)(s:St):Res:=lt (g0 e) fun v0 => bP ((pUn uChk (cV v0)) e) fun v1 => bP ((pUn (uFld 0) (cV v1)) e) fun v2 => bP ((dLd (cV v2)) e s) fun v3 => lt (g1 e) fun v4 => bP ((pBin (bI fAdd) (cV v4) (cV (.i 2))) e) fun v5 => lt (g2 e) fun v6 => bP ((pBin (bIdx 1) (cV v3) (cV v5)) e) fun v7 => bE ((eSt 1 (cV v7) (cV v6)) k e s) fun v8 s => .nrm (rw1 (rw0 e fun a b c d f g h i j l m _ _ _ _ _ => ⟨a,b,c,d,f,g,h,i,j,l,m,v0,v1,v2,v3,v4⟩) fun _ _ _ d f g h i j l m n o p q r => ⟨v5,v6,v7,d,f,g,h,i,j,l,m,n,o,p,q,r⟩) s
def p30_11 (k:KC)(e:E)(s:St):Res:=ltc (V.i 0) fun v0 => .nrm (u6 e v0) s
def p30_10 (k:KC)(e:E)(s:St):Res:=dSeq p30_11 dRet k e s
def p30_8 (k:KC)(e:E)(s:St):Res:=dSeq p30_9 p30_10 k e s
def p30_2 (k:KC)(e:E)(s:St):Res:=dSeq p30_3 p30_8 k e s
def p30_0 (k:KC)(e:E)(s:St):Res:=dSeq p30_1 p30_2 k e s
def F30 : FDen := ⟨[u0, u1, u2], p30_0, resV [rT g6]⟩
theorem low30 : lowFunc tt [] fok Try.f30 = some F30 := by kernel_rfl
theorem run30 : FRun Try.prog [] 30 F30 := FRun.of (lowFunc_ok ttOk fokOk mixed Try.func30 low30)
def p31_1 (k:KC)(e:E)(s:St):Res:=ltc (V.nilp) fun v0 => ltc (V.i 0) fun v1 => .nrm (rw0 e fun a b _ _ f g h i j l m n o p q r => ⟨a,b,v0,v1,f,g,h,i,j,l,m,n,o,p,q,r⟩) s
def p31_4 (k:KC)(e:E)(s:St):Res:=lt (g0 e) fun v0 => bP ((pBin (bI fLt) (cV v0) (cV (.i 1))) e) fun v1 => bP (gdV v1 false ((pMove g0) e)) fun v2 => bP (gdV v1 false ((pBin (bI fGt) (cV v2) (cV (.i 16384))) e)) fun v3 => bP ((pPick (cV v1) (cV (.bool true)) (cV v3)) e) fun v4 => .nrm (rw0 e fun a b c d _ _ _ _ _ _ m n o p q r => ⟨a,b,c,d,v0,v1,v1,v2,v3,v4,m,n,o,p,q,r⟩) s
def p31_7 (k:KC)(e:E)(s:St):Res:=ltc (V.nilp) fun v0 => ltc (V.i 1) fun v1 => .nrm (rw0 e fun a b _ _ f g h i j l m n o p q r => ⟨a,b,v0,v1,f,g,h,i,j,l,m,n,o,p,q,r⟩) s
def p31_6 (k:KC)(e:E)(s:St):Res:=dSeq p31_7 dRet k e s
def p31_5 (k:KC)(e:E)(s:St):Res:=dCond g9 p31_6 dSkip k e s
def p31_3 (k:KC)(e:E)(s:St):Res:=dSeq p31_4 p31_5 k e s
def p31_9 (k:KC)(e:E)(s:St):Res:=lt (g0 e) fun v0 => bP ((pBin (bI fAdd) (cV v0) (cV (.i 1))) e) fun v1 => bE (aSt ((aMkS 1 8 [(.i 0)] (cV v1) (cV v1)) e s.next) s) fun v2 s => lt (g0 e) fun v3 => bP ((pBin (bI fAdd) (cV v3) (cV (.i 1))) e) fun v4 => bE (aSt ((aMkS 1 1 [(.bool false)] (cV v4) (cV v4)) e s.next) s) fun v5 s => bE (aSt (aMk e s.next) s) fun v6 s => bP ((pBuild [.nils, .nils, (.i 0), .nils, .nilm] [(0, 1, (cV v2)), (1, 1, (cV v5)), (2, 1, (cV (.i 1))), (3, 1, (cV .nils)), (4, 1, (cV v6))]) e) fun v7 => bE (aSt ((aBox (cV v7)) e s.next) s) fun v8 s => ltc (V.i 0) fun v9 => .nrm (rw1 (rw0 e fun a b _ _ f g h i j l _ _ _ _ _ _ => ⟨a,b,v8,v9,f,g,h,i,j,l,v0,v1,v2,v3,v4,v5⟩) fun _ _ _ d f g h i j l m n o p q r => ⟨v6,v7,v8,d,f,g,h,i,j,l,m,n,o,p,q,r⟩) s
def p31_8 (k:KC)(e:E)(s:St):Res:=dSeq p31_9 dRet k e s
def p31_2 (k:KC)(e:E)(s:St):Res:=dSeq p31_3 p31_8 k e s
def p31_0 (k:KC)(e:E)(s:St):Res:=dSeq p31_1 p31_2 k e s
def F31 : FDen := ⟨[u0], p31_0, resV [rT g2, rT g3]⟩
theorem low31 : lowFunc tt [] fok Try.f31 = some F31 := by kernel_rfl
theorem run31 : FRun Try.prog [] 31 F31 := FRun.of (lowFunc_ok ttOk fokOk mixed Try.func31 low31)
def p32_1 (k:KC)(e:E)(s:St):Res:=ltc (V.nilp) fun v0 => .nrm (u2 e v0) s
def p32_3 (k:KC)(e:E)(s:St):Res:=lt (g0 e) fun v0 => bP ((pBuild [(.i 0), .nils, .nils] [(0, 1, (cV v0))]) e) fun v1 => bE (aSt ((aBox (cV v1)) e s.next) s) fun v2 s => .nrm (rw0 e fun a b _ _ _ _ h i j l m n o p q r => ⟨a,b,v2,v0,v1,v2,h,i,j,l,m,n,o,p,q,r⟩) s
def p32_2 (k:KC)(e:E)(s:St):Res:=dSeq p32_3 dRet k e s
def p32_0 (k:KC)(e:E)(s:St):Res:=dSeq p32_1 p32_2 k e s
def F32 : FDen := ⟨[u0], p32_0, resV [rT g2]⟩
theorem low32 : lowFunc tt [] fok Try.f32 = some F32 := by kernel_rfl
theorem run32 : FRun Try.prog [] 32 F32 := FRun.of (lowFunc_ok ttOk fokOk mixed Try.func32 low32)
def p33_1 (k:KC)(e:E)(s:St):Res:=ltc (V.i 0) fun v0 => .nrm (u4 e v0) s
def p33_3 (k:KC)(e:E)(s:St):Res:=lt (g1 e) fun v0 => bP ((pUn uLenS (cV v0)) e) fun v1 => bE (aSt ((aMkS 1 1 [(.int .u8 0)] (cV v1) (cV v1)) e s.next) s) fun v2 s => .nrm (rw0 e fun a b c d f _ h i j l _ _ _ p q r => ⟨a,b,c,d,f,v2,h,i,j,l,v0,v1,v2,p,q,r⟩) s
def p33_6 (k:KC)(e:E)(s:St):Res:=lt (g1 e) fun v0 => bP ((pUn uLenS (cV v0)) e) fun v1 => ltc (V.i 0) fun v2 => .nrm (rw0 e fun a b c d f g h i j l m n o _ _ _ => ⟨a,b,c,d,f,g,h,i,j,l,m,n,o,v0,v1,v2⟩) s
def p33_10 (k:KC)(e:E)(s:St):Res:=bP ((pBin (bI fLt) g15 g14) e) fun v0 => .nrm (u16 e v0) s
def p33_12 (k:KC)(e:E)(s:St):Res:=dCond g16 dSkip (dExit 0) k e s
def p33_16 (k:KC)(e:E)(s:St):Res:=lt (g15 e) fun v0 => bP ((pBin (bIdx 1) g13 g15) e) fun v1 => bP ((dLd (cV v1)) e s) fun v2 => .nrm (rw1 (rw0 e fun a b c d f g _ _ j l m n o p q r => ⟨a,b,c,d,f,g,v0,v2,j,l,m,n,o,p,q,r⟩) fun a _ _ _ f g h i j l m n o p q r => ⟨a,v0,v1,v2,f,g,h,i,j,l,m,n,o,p,q,r⟩) s
def p33_18 (k:KC)(e:E)(s:St):Res:=lt (g7 e) fun v0 => .nrm (u20 e v0) s
def p33_20 (k:KC)(e:E)(s:St):Res:=lt (g5 e) fun v0 => lt (g6 e) fun v1 => bP ((pBin (bIdx 1) (cV v0) (cV v1)) e) fun v2 => bE ((eSt 1 (cV v2) (cV (.int .u8 1))) k e s) fun v3 s => .nrm (rw1 e fun a b c d f _ _ _ j l m n o p q r => ⟨a,b,c,d,f,v0,v1,v2,j,l,m,n,o,p,q,r⟩) s
def p33_19 (k:KC)(e:E)(s:St):Res:=dCond g20 p33_20 dSkip k e s
def p33_17 (k:KC)(e:E)(s:St):Res:=dSeq p33_18 p33_19 k e s
def p33_15 (k:KC)(e:E)(s:St):Res:=dSeq p33_16 p33_17 k e s
def p33_14 (k:KC)(e:E)(s:St):Res:=dBlock 1 p33_15 k e s
def p33_21 (k:KC)(e:E)(s:St):Res:=bP ((pBin (bI fAdd) g15 (cV (.i 1))) e) fun v0 => .nrm (u24 (u15 e v0) v0) s
def p33_13 (k:KC)(e:E)(s:St):Res:=dSeq p33_14 p33_21 k e s
def p33_11 (k:KC)(e:E)(s:St):Res:=dSeq p33_12 p33_13 k e s
def p33_9 (k:KC)(e:E)(s:St):Res:=dSeq p33_10 p33_11 k e s
def p33_8 (k:KC)(e:E)(s:St):Res:=dLoop p33_9 k e s
def p33_7 (k:KC)(e:E)(s:St):Res:=dBlock 0 p33_8 k e s
def p33_5 (k:KC)(e:E)(s:St):Res:=dSeq p33_6 p33_7 k e s
def p33_23 (k:KC)(e:E)(s:St):Res:=lt (g0 e) fun v0 => bP ((pUn uChk (cV v0)) e) fun v1 => bP ((pUn (uFld 4) (cV v1)) e) fun v2 => bP ((dLd (cV v2)) e s) fun v3 => lt (g5 e) fun v4 => bP ((dBStr (cV v4)) e s) fun v5 => bP ((dLk eqKS (.i 0) true (cV v3) (cV v5)) e s) fun v6 => bP ((pUn (uExt 0) (cV v6)) e) fun v7 => bP ((pUn (uExt 1) (cV v6)) e) fun v8 => .nrm (rw2 (rw1 (rw0 e fun a b c d f g h i _ _ m n o p q r => ⟨a,b,c,d,f,g,h,i,v7,v8,m,n,o,p,q,r⟩) fun a b c d f g h i j _ _ _ _ _ _ _ => ⟨a,b,c,d,f,g,h,i,j,v6,v0,v1,v2,v3,v4,v5⟩) fun _ _ _ d f g h i j l m n o p q r => ⟨v6,v7,v8,d,f,g,h,i,j,l,m,n,o,p,q,r⟩) s
def p33_26 (k:KC)(e:E)(s:St):Res:=lt (g9 e) fun v0 => bP ((pUn uNot (cV v0)) e) fun v1 => .nrm (rw2 e fun a b c _ _ g h i j l m n o p q r => ⟨a,b,c,v0,v1,g,h,i,j,l,m,n,o,p,q,r⟩) s
def p33_29 (k:KC)(e:E)(s:St):Res:=lt (g0 e) fun v0 => bP ((pUn uChk (cV v0)) e) fun v1 => bP ((pUn (uFld 3) (cV v1)) e) fun v2 => bP ((dLd (cV v2)) e s) fun v3 => bP ((pUn uLenS (cV v3)) e) fun v4 => .nrm (rw2 (u8 e v4) fun a b c d f _ _ _ _ _ m n o p q r => ⟨a,b,c,d,f,v0,v1,v2,v3,v4,m,n,o,p,q,r⟩) s
def p33_31 (k:KC)(e:E)(s:St):Res:=lt (g0 e) fun v0 => bP ((pUn uChk (cV v0)) e) fun v1 => bP ((pUn (uFld 4) (cV v1)) e) fun v2 => bP ((dLd (cV v2)) e s) fun v3 => lt (g5 e) fun v4 => bP ((dBStr (cV v4)) e s) fun v5 => lt (g8 e) fun v6 => bE ((eMu eqKS (cV v3) (cV v5) (cV v6)) k e s) fun v7 s => .nrm (u48 (rw2 e fun a b c d f g h i j l _ _ _ _ _ _ => ⟨a,b,c,d,f,g,h,i,j,l,v0,v1,v2,v3,v4,v5⟩) v6) s
def p33_32 (k:KC)(e:E)(s:St):Res:=dDraw [⟨none, (.p (pMove g0)), u49⟩, ⟨none, (.p (pMove g0)), u50⟩, ⟨none, (.p (pUn uChk g50)), u51⟩, ⟨none, (.p (pUn (uFld 3) g51)), u52⟩, ⟨none, (.d 0 1 (dLd g52)), u53⟩, ⟨none, (.p (pMove g1)), u54⟩, ⟨none, (.e (eCall 56 [g54])), u55⟩, ⟨none, (.a (aBSl 1 1 [.nils] [(0, 1, g55)])), u56⟩, ⟨none, (.e (eApW 1 g53 g56)), u57⟩, ⟨none, (.p (pUn uChk g49)), u58⟩, ⟨none, (.p (pUn (uFld 3) g58)), u59⟩, ⟨none, (.e (eSt 1 g59 g57)), uNone⟩] k e s
def p33_30 (k:KC)(e:E)(s:St):Res:=dSeq p33_31 p33_32 k e s
def p33_28 (k:KC)(e:E)(s:St):Res:=dSeq p33_29 p33_30 k e s
def p33_27 (k:KC)(e:E)(s:St):Res:=dCond g36 p33_28 dSkip k e s
def p33_25 (k:KC)(e:E)(s:St):Res:=dSeq p33_26 p33_27 k e s
def p33_34 (k:KC)(e:E)(s:St):Res:=lt (g8 e) fun v0 => .nrm (u60 (u4 e v0) v0) s
def p33_33 (k:KC)(e:E)(s:St):Res:=dSeq p33_34 dRet k e s
def p33_24 (k:KC)(e:E)(s:St):Res:=dSeq p33_25 p33_33 k e s
def p33_22 (k:KC)(e:E)(s:St):Res:=dSeq p33_23 p33_24 k e s
def p33_4 (k:KC)(e:E)(s:St):Res:=dSeq p33_5 p33_22 k e s
def p33_2 (k:KC)(e:E)(s:St):Res:=dSeq p33_3 p33_4 k e s
def p33_0 (k:KC)(e:E)(s:St):Res:=dSeq p33_1 p33_2 k e s
def F33 : FDen := ⟨[u0, u1], p33_0, resV [rT g4]⟩
theorem low33 : lowFunc tt [] fok Try.f33 = some F33 := by kernel_rfl
theorem run33 : FRun Try.prog [] 33 F33 := FRun.of (lowFunc_ok ttOk fokOk mixed Try.func33 low33)
def p34_1 (k:KC)(e:E)(s:St):Res:=ltc (V.i 0) fun v0 => .nrm (u4 e v0) s
def p34_4 (k:KC)(e:E)(s:St):Res:=ltc (V.i 0) fun v0 => .nrm (u5 e v0) s
def p34_9 (k:KC)(e:E)(s:St):Res:=lt (g5 e) fun v0 => lt (g0 e) fun v1 => bP ((pUn uChk (cV v1)) e) fun v2 => bP ((pUn (uFld 2) (cV v2)) e) fun v3 => bP ((dLd (cV v3)) e s) fun v4 => bP ((pUn uLenS (cV v4)) e) fun v5 => bP ((pBin (bI fLt) (cV v0) (cV v5)) e) fun v6 => .nrm (rw0 e fun a b c d f g h i _ _ _ _ _ _ _ r => ⟨a,b,c,d,f,g,h,i,v0,v1,v2,v3,v4,v5,v6,r⟩) s
def p34_10 (k:KC)(e:E)(s:St):Res:=dCond g14 dSkip (dExit 0) k e s
def p34_8 (k:KC)(e:E)(s:St):Res:=dSeq p34_9 p34_10 k e s
def p34_14 (k:KC)(e:E)(s:St):Res:=lt (g0 e) fun v0 => bP ((pUn uChk (cV v0)) e) fun v1 => bP ((pUn (uFld 2) (cV v1)) e) fun v2 => bP ((dLd (cV v2)) e s) fun v3 => lt (g5 e) fun v4 => bP ((pBin (bIdx 1) (cV v3) (cV v4)) e) fun v5 => bP ((dLd (cV v5)) e s) fun v6 => bP ((pUn uLenS (cV v6)) e) fun v7 => lt (g1 e) fun v8 => bP ((pUn uLenS (cV v8)) e) fun v9 => bP ((pBin (bI fEq) (cV v7) (cV v9)) e) fun v10 => .nrm (rw1 (u6 e v10) fun a _ _ _ _ _ _ _ _ _ _ _ o p q r => ⟨a,v0,v1,v2,v3,v4,v5,v6,v7,v8,v9,v10,o,p,q,r⟩) s
def p34_17 (k:KC)(e:E)(s:St):Res:=ltc (V.i 0) fun v0 => .nrm (u7 e v0) s
def p34_22 (k:KC)(e:E)(s:St):Res:=lt (g6 e) fun v0 => bP (gdV v0 true ((pMove g7) e)) fun v1 => bP (gdV v0 true ((pMove g1) e)) fun v2 => bP (gdV v0 true ((pUn uLenS (cV v2)) e)) fun v3 => bP (gdV v0 true ((pBin (bI fLt) (cV v1) (cV v3)) e)) fun v4 => bP ((pPick (cV v0) (cV v4) (cV (.bool false))) e) fun v5 => .nrm (rw2 (rw1 e fun a b c d f g h i j l m n _ _ _ _ => ⟨a,b,c,d,f,g,h,i,j,l,m,n,v0,v0,v1,v2⟩) fun _ _ _ d f g h i j l m n o p q r => ⟨v3,v4,v5,d,f,g,h,i,j,l,m,n,o,p,q,r⟩) s
def p34_23 (k:KC)(e:E)(s:St):Res:=dCond g34 dSkip (dExit 2) k e s
def p34_21 (k:KC)(e:E)(s:St):Res:=dSeq p34_22 p34_23 k e s
def p34_26 (k:KC)(e:E)(s:St):Res:=lt (g0 e) fun v0 => bP ((pUn uChk (cV v0)) e) fun v1 => bP ((pUn (uFld 2) (cV v1)) e) fun v2 => bP ((dLd (cV v2)) e s) fun v3 => lt (g5 e) fun v4 => bP ((pBin (bIdx 1) (cV v3) (cV v4)) e) fun v5 => bP ((dLd (cV v5)) e s) fun v6 => lt (g7 e) fun v7 => bP ((pBin (bIdx 1) (cV v6) (cV v7)) e) fun v8 => bP ((dLd (cV v8)) e s) fun v9 => lt (g1 e) fun v10 => lt (g7 e) fun v11 => bP ((pBin (bIdx 1) (cV v10) (cV v11)) e) fun v12 => bP ((dLd (cV v12)) e s) fun v13 => bP ((pBin (bBool false) (cV v9) (cV v13)) e) fun v14 => .nrm (rw3 (rw2 (u6 e v14) fun a b c d f _ _ _ _ _ _ _ _ _ _ _ => ⟨a,b,c,d,f,v0,v1,v2,v3,v4,v5,v6,v7,v8,v9,v10⟩) fun _ _ _ _ f g h i j l m n o p q r => ⟨v11,v12,v13,v14,f,g,h,i,j,l,m,n,o,p,q,r⟩) s
def p34_25 (k:KC)(e:E)(s:St):Res:=dBlock 3 p34_26 k e s
def p34_27 (k:KC)(e:E)(s:St):Res:=lt (g7 e) fun v0 => bP ((pBin (bI fAdd) (cV v0) (cV (.i 1))) e) fun v1 => .nrm (rw2 (u7 e v1) fun a b c _ _ g h i j l m n o p q r => ⟨a,b,c,v0,v1,g,h,i,j,l,m,n,o,p,q,r⟩) s
def p34_24 (k:KC)(e:E)(s:St):Res:=dSeq p34_25 p34_27 k e s
def p34_20 (k:KC)(e:E)(s:St):Res:=dSeq p34_21 p34_24 k e s
def p34_19 (k:KC)(e:E)(s:St):Res:=dLoop p34_20 k e s
def p34_18 (k:KC)(e:E)(s:St):Res:=dBlock 2 p34_19 k e s
def p34_16 (k:KC)(e:E)(s:St):Res:=dSeq p34_17 p34_18 k e s
def p34_29 (k:KC)(e:E)(s:St):Res:=lt (g6 e) fun v0 => .nrm (u52 e v0) s
def p34_32 (k:KC)(e:E)(s:St):Res:=lt (g5 e) fun v0 => .nrm (u53 (u4 e v0) v0) s
def p34_31 (k:KC)(e:E)(s:St):Res:=dSeq p34_32 dRet k e s
def p34_30 (k:KC)(e:E)(s:St):Res:=dCond g52 p34_31 dSkip k e s
def p34_28 (k:KC)(e:E)(s:St):Res:=dSeq p34_29 p34_30 k e s
def p34_15 (k:KC)(e:E)(s:St):Res:=dSeq p34_16 p34_28 k e s
def p34_13 (k:KC)(e:E)(s:St):Res:=dSeq p34_14 p34_15 k e s
def p34_12 (k:KC)(e:E)(s:St):Res:=dBlock 1 p34_13 k e s
def p34_33 (k:KC)(e:E)(s:St):Res:=lt (g5 e) fun v0 => bP ((pBin (bI fAdd) (cV v0) (cV (.i 1))) e) fun v1 => .nrm (u16 (rw0 e fun a b c d f _ h i j l m n o p q _ => ⟨a,b,c,d,f,v1,h,i,j,l,m,n,o,p,q,v0⟩) v1) s
def p34_11 (k:KC)(e:E)(s:St):Res:=dSeq p34_12 p34_33 k e s
def p34_7 (k:KC)(e:E)(s:St):Res:=dSeq p34_8 p34_11 k e s
def p34_6 (k:KC)(e:E)(s:St):Res:=dLoop p34_7 k e s
def p34_5 (k:KC)(e:E)(s:St):Res:=dBlock 0 p34_6 k e s
def p34_3 (k:KC)(e:E)(s:St):Res:=dSeq p34_4 p34_5 k e s
def p34_35 (k:KC)(e:E)(s:St):Res:=dDraw [⟨none, (.p (pMove g0)), u54⟩, ⟨none, (.p (pMove g0)), u55⟩, ⟨none, (.p (pUn uChk g55)), u56⟩, ⟨none, (.p (pUn (uFld 2) g56)), u57⟩, ⟨none, (.d 0 1 (dLd g57)), u58⟩, ⟨none, (.a (aBSl 0 1 [] [])), u59⟩, ⟨none, (.p (pMove g1)), u60⟩, ⟨none, (.e (eAp8 1 g59 g60)), u61⟩, ⟨none, (.a (aBSl 1 1 [.nils] [(0, 1, g61)])), u62⟩, ⟨none, (.e (eApW 1 g58 g62)), u63⟩, ⟨none, (.p (pUn uChk g54)), u64⟩, ⟨none, (.p (pUn (uFld 2) g64)), u65⟩, ⟨none, (.e (eSt 1 g65 g63)), uNone⟩] k e s
def p34_37 (k:KC)(e:E)(s:St):Res:=lt (g0 e) fun v0 => bP ((pUn uChk (cV v0)) e) fun v1 => bP ((pUn (uFld 2) (cV v1)) e) fun v2 => bP ((dLd (cV v2)) e s) fun v3 => bP ((pUn uLenS (cV v3)) e) fun v4 => bP ((pBin (bI fSub) (cV v4) (cV (.i 1))) e) fun v5 => .nrm (rw4 (u4 e v5) fun a b _ _ _ _ _ _ j l m n o p q r => ⟨a,b,v0,v1,v2,v3,v4,v5,j,l,m,n,o,p,q,r⟩) s
def p34_36 (k:KC)(e:E)(s:St):Res:=dSeq p34_37 dRet k e s
def p34_34 (k:KC)(e:E)(s:St):Res:=dSeq p34_35 p34_36 k e s
def p34_2 (k:KC)(e:E)(s:St):Res:=dSeq p34_3 p34_34 k e s
def p34_0 (k:KC)(e:E)(s:St):Res:=dSeq p34_1 p34_2 k e s
def F34 : FDen := ⟨[u0, u1], p34_0, resV [rT g4]⟩
theorem low34 : lowFunc tt [] fok Try.f34 = some F34 := by kernel_rfl
theorem run34 : FRun Try.prog [] 34 F34 := FRun.of (lowFunc_ok ttOk fokOk mixed Try.func34 low34)
def p35_1 (k:KC)(e:E)(s:St):Res:=ltc (V.i 0) fun v0 => ltc (V.i 0) fun v1 => .nrm (rw0 e fun a b c d f g _ _ j l m n o p q r => ⟨a,b,c,d,f,g,v0,v1,j,l,m,n,o,p,q,r⟩) s
def p35_4 (k:KC)(e:E)(s:St):Res:=lt (g2 e) fun v0 => bP ((pBin (bI fLt) (cV v0) (cV (.i 0))) e) fun v1 => bP (gdV v1 false ((pMove g2) e)) fun v2 => bP (gdV v1 false ((pBin (bI fGt) (cV v2) (cV (.i 256))) e)) fun v3 => bP ((pPick (cV v1) (cV (.bool true)) (cV v3)) e) fun v4 => .nrm (rw0 e fun a b c d f g h i j _ _ _ _ _ _ r => ⟨a,b,c,d,f,g,h,i,j,v0,v1,v1,v2,v3,v4,r⟩) s
def p35_7 (k:KC)(e:E)(s:St):Res:=ltc (V.i 0) fun v0 => ltc (V.i 1) fun v1 => .nrm (rw0 e fun a b c d f g _ _ j l m n o p q r => ⟨a,b,c,d,f,g,v0,v1,j,l,m,n,o,p,q,r⟩) s
def p35_6 (k:KC)(e:E)(s:St):Res:=dSeq p35_7 dRet k e s
def p35_5 (k:KC)(e:E)(s:St):Res:=dCond g14 p35_6 dSkip k e s
def p35_3 (k:KC)(e:E)(s:St):Res:=dSeq p35_4 p35_5 k e s
def p35_9 (k:KC)(e:E)(s:St):Res:=ltc (V.i (-1)) fun v0 => .nrm (u8 e v0) s
def p35_12 (k:KC)(e:E)(s:St):Res:=lt (g1 e) fun v0 => .nrm (u15 e v0) s
def p35_14 (k:KC)(e:E)(s:St):Res:=ltc (V.i (-2)) fun v0 => .nrm (u8 e v0) s
def p35_13 (k:KC)(e:E)(s:St):Res:=dCond g15 p35_14 dSkip k e s
def p35_11 (k:KC)(e:E)(s:St):Res:=dSeq p35_12 p35_13 k e s
def p35_16 (k:KC)(e:E)(s:St):Res:=lt (g0 e) fun v0 => lt (g8 e) fun v1 => lt (g2 e) fun v2 => bE ((eCall 57 [(cV v0), (cV v1), (cV v2)]) k e s) fun v3 s => bP ((pUn (uExt 0) (cV v3)) e) fun v4 => bP ((pUn (uExt 1) (cV v3)) e) fun v5 => .nrm (rw1 (rw0 e fun a b c d f g _ _ j l m n o p q r => ⟨a,b,c,d,f,g,v4,v5,j,l,m,n,o,p,q,r⟩) fun _ _ _ _ _ _ h i j l m n o p q r => ⟨v0,v1,v2,v3,v4,v5,h,i,j,l,m,n,o,p,q,r⟩) s
def p35_15 (k:KC)(e:E)(s:St):Res:=dSeq p35_16 dRet k e s
def p35_10 (k:KC)(e:E)(s:St):Res:=dSeq p35_11 p35_15 k e s
def p35_8 (k:KC)(e:E)(s:St):Res:=dSeq p35_9 p35_10 k e s
def p35_2 (k:KC)(e:E)(s:St):Res:=dSeq p35_3 p35_8 k e s
def p35_0 (k:KC)(e:E)(s:St):Res:=dSeq p35_1 p35_2 k e s
def F35 : FDen := ⟨[u0, u1, u2], p35_0, resV [rT g6, rT g7]⟩
theorem low35 : lowFunc tt [] fok Try.f35 = some F35 := by kernel_rfl
theorem run35 : FRun Try.prog [] 35 F35 := FRun.of (lowFunc_ok ttOk fokOk mixed Try.func35 low35)
def p36_1 (k:KC)(e:E)(s:St):Res:=ltc (V.i 0) fun v0 => ltc (V.i 0) fun v1 => .nrm (rw0 e fun a b c d f g _ _ j l m n o p q r => ⟨a,b,c,d,f,g,v0,v1,j,l,m,n,o,p,q,r⟩) s
def p36_4 (k:KC)(e:E)(s:St):Res:=lt (g2 e) fun v0 => bP ((pBin (bI fLt) (cV v0) (cV (.i 0))) e) fun v1 => bP (gdV v1 false ((pMove g2) e)) fun v2 => bP (gdV v1 false ((pBin (bI fGt) (cV v2) (cV (.i 256))) e)) fun v3 => bP ((pPick (cV v1) (cV (.bool true)) (cV v3)) e) fun v4 => .nrm (rw0 e fun a b c d f g h i _ _ _ _ _ _ q r => ⟨a,b,c,d,f,g,h,i,v0,v1,v1,v2,v3,v4,q,r⟩) s
def p36_7 (k:KC)(e:E)(s:St):Res:=ltc (V.i 0) fun v0 => ltc (V.i 1) fun v1 => .nrm (rw0 e fun a b c d f g _ _ j l m n o p q r => ⟨a,b,c,d,f,g,v0,v1,j,l,m,n,o,p,q,r⟩) s
def p36_6 (k:KC)(e:E)(s:St):Res:=dSeq p36_7 dRet k e s
def p36_5 (k:KC)(e:E)(s:St):Res:=dCond g13 p36_6 dSkip k e s
def p36_3 (k:KC)(e:E)(s:St):Res:=dSeq p36_4 p36_5 k e s
def p36_10 (k:KC)(e:E)(s:St):Res:=lt (g1 e) fun v0 => .nrm (u14 e v0) s
def p36_13 (k:KC)(e:E)(s:St):Res:=lt (g0 e) fun v0 => lt (g2 e) fun v1 => bE ((eCall 58 [(cV v0), (cV (.i (-2))), (cV v1)]) k e s) fun v2 s => bP ((pUn (uExt 0) (cV v2)) e) fun v3 => bP ((pUn (uExt 1) (cV v2)) e) fun v4 => .nrm (rw1 (rw0 e fun a b c d f g _ _ j l m n o p q _ => ⟨a,b,c,d,f,g,v3,v4,j,l,m,n,o,p,q,v0⟩) fun _ _ _ _ f g h i j l m n o p q r => ⟨v1,v2,v3,v4,f,g,h,i,j,l,m,n,o,p,q,r⟩) s
def p36_12 (k:KC)(e:E)(s:St):Res:=dSeq p36_13 dRet k e s
def p36_11 (k:KC)(e:E)(s:St):Res:=dCond g14 p36_12 dSkip k e s
def p36_9 (k:KC)(e:E)(s:St):Res:=dSeq p36_10 p36_11 k e s
def p36_15 (k:KC)(e:E)(s:St):Res:=lt (g0 e) fun v0 => lt (g2 e) fun v1 => bE ((eCall 58 [(cV v0), (cV (.i (-1))), (cV v1)]) k e s) fun v2 s => bP ((pUn (uExt 0) (cV v2)) e) fun v3 => bP ((pUn (uExt 1) (cV v2)) e) fun v4 => .nrm (rw1 (rw0 e fun a b c d f g _ _ j l m n o p q r => ⟨a,b,c,d,f,g,v3,v4,j,l,m,n,o,p,q,r⟩) fun a b c d _ _ _ _ _ l m n o p q r => ⟨a,b,c,d,v0,v1,v2,v3,v4,l,m,n,o,p,q,r⟩) s
def p36_14 (k:KC)(e:E)(s:St):Res:=dSeq p36_15 dRet k e s
def p36_8 (k:KC)(e:E)(s:St):Res:=dSeq p36_9 p36_14 k e s
def p36_2 (k:KC)(e:E)(s:St):Res:=dSeq p36_3 p36_8 k e s
def p36_0 (k:KC)(e:E)(s:St):Res:=dSeq p36_1 p36_2 k e s
def F36 : FDen := ⟨[u0, u1, u2], p36_0, resV [rT g6, rT g7]⟩
theorem low36 : lowFunc tt [] fok Try.f36 = some F36 := by kernel_rfl
theorem run36 : FRun Try.prog [] 36 F36 := FRun.of (lowFunc_ok ttOk fokOk mixed Try.func36 low36)
def p37_1 (k:KC)(e:E)(s:St):Res:=ltc (V.i 0) fun v0 => ltc (V.i 0) fun v1 => .nrm (rw0 e fun a b c d _ _ h i j l m n o p q r => ⟨a,b,c,d,v0,v1,h,i,j,l,m,n,o,p,q,r⟩) s
def p37_4 (k:KC)(e:E)(s:St):Res:=lt (g1 e) fun v0 => bP ((pBin (bI fLt) (cV v0) (cV (.i 0))) e) fun v1 => bP (gdV v1 false ((pMove g1) e)) fun v2 => bP (gdV v1 false ((pMove g0) e)) fun v3 => bP (gdV v1 false ((pUn uChk (cV v3)) e)) fun v4 => bP (gdV v1 false ((pUn (uFld 3) (cV v4)) e)) fun v5 => bP (gdV v1 false ((dLd (cV v5)) e s)) fun v6 => bP (gdV v1 false ((pUn uLenS (cV v6)) e)) fun v7 => bP (gdV v1 false ((pBin (bI fGe) (cV v2) (cV v7)) e)) fun v8 => bP ((pPick (cV v1) (cV (.bool true)) (cV v8)) e) fun v9 => .nrm (u16 (rw0 e fun a b c d f g _ _ _ _ _ _ _ _ _ _ => ⟨a,b,c,d,f,g,v0,v1,v1,v2,v3,v4,v5,v6,v7,v8⟩) v9) s
def p37_7 (k:KC)(e:E)(s:St):Res:=ltc (V.i 0) fun v0 => ltc (V.i 1) fun v1 => .nrm (rw0 e fun a b c d _ _ h i j l m n o p q r => ⟨a,b,c,d,v0,v1,h,i,j,l,m,n,o,p,q,r⟩) s
def p37_6 (k:KC)(e:E)(s:St):Res:=dSeq p37_7 dRet k e s
def p37_5 (k:KC)(e:E)(s:St):Res:=dCond g16 p37_6 dSkip k e s
def p37_3 (k:KC)(e:E)(s:St):Res:=dSeq p37_4 p37_5 k e s
def p37_9 (k:KC)(e:E)(s:St):Res:=lt (g0 e) fun v0 => lt (g1 e) fun v1 => lt (g0 e) fun v2 => bP ((pUn uChk (cV v2)) e) fun v3 => bP ((pUn (uFld 3) (cV v3)) e) fun v4 => bP ((dLd (cV v4)) e s) fun v5 => lt (g1 e) fun v6 => bP ((pBin (bIdx 1) (cV v5) (cV v6)) e) fun v7 => bP ((dLd (cV v7)) e s) fun v8 => bP ((pUn uLenS (cV v8)) e) fun v9 => bE ((eCall 57 [(cV v0), (cV v1), (cV v9)]) k e s) fun v10 s => bP ((pUn (uExt 0) (cV v10)) e) fun v11 => bP ((pUn (uExt 1) (cV v10)) e) fun v12 => .nrm (rw1 (rw0 e fun a b c d _ _ h i j l m n o p q r => ⟨a,b,c,d,v11,v12,h,i,j,l,m,n,o,p,q,r⟩) fun a _ _ _ _ _ _ _ _ _ _ _ _ _ q r => ⟨a,v0,v1,v2,v3,v4,v5,v6,v7,v8,v9,v10,v11,v12,q,r⟩) s
def p37_8 (k:KC)(e:E)(s:St):Res:=dSeq p37_9 dRet k e s
def p37_2 (k:KC)(e:E)(s:St):Res:=dSeq p37_3 p37_8 k e s
def p37_0 (k:KC)(e:E)(s:St):Res:=dSeq p37_1 p37_2 k e s
def F37 : FDen := ⟨[u0, u1], p37_0, resV [rT g4, rT g5]⟩
theorem low37 : lowFunc tt [] fok Try.f37 = some F37 := by kernel_rfl
theorem run37 : FRun Try.prog [] 37 F37 := FRun.of (lowFunc_ok ttOk fokOk mixed Try.func37 low37)
def p38_1 (k:KC)(e:E)(s:St):Res:=ltc (V.i 0) fun v0 => ltc (V.i 0) fun v1 => .nrm (rw0 e fun a b c d _ _ h i j l m n o p q r => ⟨a,b,c,d,v0,v1,h,i,j,l,m,n,o,p,q,r⟩) s
def p38_4 (k:KC)(e:E)(s:St):Res:=lt (g1 e) fun v0 => bP ((pBin (bI fLt) (cV v0) (cV (.i 0))) e) fun v1 => bP (gdV v1 false ((pMove g1) e)) fun v2 => bP (gdV v1 false ((pMove g0) e)) fun v3 => bP (gdV v1 false ((pUn uChk (cV v3)) e)) fun v4 => bP (gdV v1 false ((pUn (uFld 2) (cV v4)) e)) fun v5 => bP (gdV v1 false ((dLd (cV v5)) e s)) fun v6 => bP (gdV v1 false ((pUn uLenS (cV v6)) e)) fun v7 => bP (gdV v1 false ((pBin (bI fGe) (cV v2) (cV v7)) e)) fun v8 => bP ((pPick (cV v1) (cV (.bool true)) (cV v8)) e) fun v9 => .nrm (u16 (rw0 e fun a b c d f g _ _ _ _ _ _ _ _ _ _ => ⟨a,b,c,d,f,g,v0,v1,v1,v2,v3,v4,v5,v6,v7,v8⟩) v9) s
def p38_7 (k:KC)(e:E)(s:St):Res:=ltc (V.i 0) fun v0 => ltc (V.i 1) fun v1 => .nrm (rw0 e fun a b c d _ _ h i j l m n o p q r => ⟨a,b,c,d,v0,v1,h,i,j,l,m,n,o,p,q,r⟩) s
def p38_6 (k:KC)(e:E)(s:St):Res:=dSeq p38_7 dRet k e s
def p38_5 (k:KC)(e:E)(s:St):Res:=dCond g16 p38_6 dSkip k e s
def p38_3 (k:KC)(e:E)(s:St):Res:=dSeq p38_4 p38_5 k e s
def p38_9 (k:KC)(e:E)(s:St):Res:=lt (g0 e) fun v0 => lt (g1 e) fun v1 => lt (g0 e) fun v2 => bP ((pUn uChk (cV v2)) e) fun v3 => bP ((pUn (uFld 2) (cV v3)) e) fun v4 => bP ((dLd (cV v4)) e s) fun v5 => lt (g1 e) fun v6 => bP ((pBin (bIdx 1) (cV v5) (cV v6)) e) fun v7 => bP ((dLd (cV v7)) e s) fun v8 => bP ((pUn uLenS (cV v8)) e) fun v9 => bE ((eCall 58 [(cV v0), (cV v1), (cV v9)]) k e s) fun v10 s => bP ((pUn (uExt 0) (cV v10)) e) fun v11 => bP ((pUn (uExt 1) (cV v10)) e) fun v12 => .nrm (rw1 (rw0 e fun a b c d _ _ h i j l m n o p q r => ⟨a,b,c,d,v11,v12,h,i,j,l,m,n,o,p,q,r⟩) fun a _ _ _ _ _ _ _ _ _ _ _ _ _ q r => ⟨a,v0,v1,v2,v3,v4,v5,v6,v7,v8,v9,v10,v11,v12,q,r⟩) s
def p38_8 (k:KC)(e:E)(s:St):Res:=dSeq p38_9 dRet k e s
def p38_2 (k:KC)(e:E)(s:St):Res:=dSeq p38_3 p38_8 k e s
def p38_0 (k:KC)(e:E)(s:St):Res:=dSeq p38_1 p38_2 k e s
def F38 : FDen := ⟨[u0, u1], p38_0, resV [rT g4, rT g5]⟩
theorem low38 : lowFunc tt [] fok Try.f38 = some F38 := by kernel_rfl
theorem run38 : FRun Try.prog [] 38 F38 := FRun.of (lowFunc_ok ttOk fokOk mixed Try.func38 low38)
def p39_1 (k:KC)(e:E)(s:St):Res:=ltc (V.i 0) fun v0 => .nrm (u6 e v0) s
def p39_3 (k:KC)(e:E)(s:St):Res:=lt (g0 e) fun v0 => lt (g1 e) fun v1 => bE ((eCall 45 [(cV v0), (cV v1)]) k e s) fun v2 s => .nrm (rw0 e fun a b c d f g h _ _ _ _ n o p q r => ⟨a,b,c,d,f,g,h,v2,v0,v1,v2,n,o,p,q,r⟩) s
def p39_6 (k:KC)(e:E)(s:St):Res:=lt (g7 e) fun v0 => bP ((pBin (bNil false nilP) (cV v0) (cV .nilp)) e) fun v1 => .nrm (rw0 e fun a b c d f g h i j l m _ _ p q r => ⟨a,b,c,d,f,g,h,i,j,l,m,v0,v1,p,q,r⟩) s
def p39_9 (k:KC)(e:E)(s:St):Res:=ltc (V.i 1) fun v0 => .nrm (u6 e v0) s
def p39_8 (k:KC)(e:E)(s:St):Res:=dSeq p39_9 dRet k e s
def p39_7 (k:KC)(e:E)(s:St):Res:=dCond g12 p39_8 dSkip k e s
def p39_5 (k:KC)(e:E)(s:St):Res:=dSeq p39_6 p39_7 k e s
def p39_11 (k:KC)(e:E)(s:St):Res:=lt (g7 e) fun v0 => lt (g2 e) fun v1 => bP ((pUn uChk (cV v0)) e) fun v2 => bP ((pUn (uFld 3) (cV v2)) e) fun v3 => bE ((eSt 1 (cV v3) (cV v1)) k e s) fun v4 s => .nrm (u16 (rw0 e fun a b c d f g h i j l m n o _ _ _ => ⟨a,b,c,d,f,g,h,i,j,l,m,n,o,v0,v1,v2⟩) v3) s
def p39_13 (k:KC)(e:E)(s:St):Res:=ltc (V.i 0) fun v0 => .nrm (u6 e v0) s
def p39_12 (k:KC)(e:E)(s:St):Res:=dSeq p39_13 dRet k e s
def p39_10 (k:KC)(e:E)(s:St):Res:=dSeq p39_11 p39_12 k e s
def p39_4 (k:KC)(e:E)(s:St):Res:=dSeq p39_5 p39_10 k e s
def p39_2 (k:KC)(e:E)(s:St):Res:=dSeq p39_3 p39_4 k e s
def p39_0 (k:KC)(e:E)(s:St):Res:=dSeq p39_1 p39_2 k e s
def F39 : FDen := ⟨[u0, u1, u2], p39_0, resV [rT g6]⟩
theorem low39 : lowFunc tt [] fok Try.f39 = some F39 := by kernel_rfl
theorem run39 : FRun Try.prog [] 39 F39 := FRun.of (lowFunc_ok ttOk fokOk mixed Try.func39 low39)
def p40_1 (k:KC)(e:E)(s:St):Res:=ltc (V.bool false) fun v0 => .nrm (u6 e v0) s
def p40_3 (k:KC)(e:E)(s:St):Res:=lt (g0 e) fun v0 => lt (g1 e) fun v1 => bE ((eCall 45 [(cV v0), (cV v1)]) k e s) fun v2 s => .nrm (rw0 e fun a b c d f g h _ _ _ _ n o p q r => ⟨a,b,c,d,f,g,h,v2,v0,v1,v2,n,o,p,q,r⟩) s
def p40_6 (k:KC)(e:E)(s:St):Res:=lt (g7 e) fun v0 => bP ((pBin (bNil false nilP) (cV v0) (cV .nilp)) e) fun v1 => bP (gdV v1 false ((pMove g2) e)) fun v2 => bP (gdV v1 false ((pBin (bI fLt) (cV v2) (cV (.i 0))) e)) fun v3 => bP ((pPick (cV v1) (cV (.bool true)) (cV v3)) e) fun v4 => bP (gdV v4 false ((pMove g2) e)) fun v5 => bP (gdV v4 false ((pMove g7) e)) fun v6 => bP (gdV v4 false ((pUn uChk (cV v6)) e)) fun v7 => bP (gdV v4 false ((pUn (uFld 2) (cV v7)) e)) fun v8 => bP (gdV v4 false ((dLd (cV v8)) e s)) fun v9 => bP (gdV v4 false ((pUn uLenS (cV v9)) e)) fun v10 => bP (gdV v4 false ((pBin (bI fGe) (cV v5) (cV v10)) e)) fun v11 => bP ((pPick (cV v4) (cV (.bool true)) (cV v11)) e) fun v12 => .nrm (rw1 (rw0 e fun a b c d f g h i j l m _ _ _ _ _ => ⟨a,b,c,d,f,g,h,i,j,l,m,v0,v1,v1,v2,v3⟩) fun _ _ _ _ _ _ _ _ _ _ m n o p q r => ⟨v4,v4,v5,v6,v7,v8,v9,v10,v11,v12,m,n,o,p,q,r⟩) s
def p40_9 (k:KC)(e:E)(s:St):Res:=ltc (V.bool false) fun v0 => .nrm (u6 e v0) s
def p40_8 (k:KC)(e:E)(s:St):Res:=dSeq p40_9 dRet k e s
def p40_7 (k:KC)(e:E)(s:St):Res:=dCond g25 p40_8 dSkip k e s
def p40_5 (k:KC)(e:E)(s:St):Res:=dSeq p40_6 p40_7 k e s
def p40_11 (k:KC)(e:E)(s:St):Res:=lt (g7 e) fun v0 => bP ((pUn uChk (cV v0)) e) fun v1 => bP ((pUn (uFld 1) (cV v1)) e) fun v2 => bP ((dLd (cV v2)) e s) fun v3 => bP ((pBin (bI fEq) (cV v3) (cV (.i (-2)))) e) fun v4 => bP (gdV v4 false ((pMove g7) e)) fun v5 => bP (gdV v4 false ((pUn uChk (cV v5)) e)) fun v6 => bP (gdV v4 false ((pUn (uFld 1) (cV v6)) e)) fun v7 => bP (gdV v4 false ((dLd (cV v7)) e s)) fun v8 => bP (gdV v4 false ((pBin (bI fGe) (cV v8) (cV (.i 0))) e)) fun v9 => bP (gdV v4 false ((pMove (cV v9)) e)) fun v10 => bP (gdV v10 true ((pMove g0) e)) fun v11 => bP (gdV v10 true ((pUn uChk (cV v11)) e)) fun v12 => bP (gdV v10 true ((pUn (uFld 2) (cV v12)) e)) fun v13 => bP (gdV v10 true ((dLd (cV v13)) e s)) fun v14 => bP (gdV v10 true ((pMove g7) e)) fun v15 => bP (gdV v10 true ((pUn uChk (cV v15)) e)) fun v16 => bP (gdV v10 true ((pUn (uFld 1) (cV v16)) e)) fun v17 => bP (gdV v10 true ((dLd (cV v17)) e s)) fun v18 => bP (gdV v10 true ((pBin (bIdx 1) (cV v14) (cV v18)) e)) fun v19 => bP (gdV v10 true ((dLd (cV v19)) e s)) fun v20 => bP (gdV v10 true ((pMove g2) e)) fun v21 => bP (gdV v10 true ((pBin (bIdx 1) (cV v20) (cV v21)) e)) fun v22 => bP (gdV v10 true ((dLd (cV v22)) e s)) fun v23 => bP (gdV v4 false ((pPick (cV v10) (cV v23) (cV (.bool false))) e)) fun v24 => bP ((pPick (cV v4) (cV (.bool true)) (cV v24)) e) fun v25 => .nrm (rw3 (rw2 (rw1 (u6 e v25) fun a b c d f g h i j l _ _ _ _ _ _ => ⟨a,b,c,d,f,g,h,i,j,l,v0,v1,v2,v3,v4,v4⟩) fun _ _ _ _ _ _ _ _ _ _ _ _ _ _ _ _ => ⟨v5,v6,v7,v8,v9,v10,v11,v12,v13,v14,v15,v16,v17,v18,v19,v20⟩) fun _ _ _ _ _ g h i j l m n o p q r => ⟨v21,v22,v23,v24,v25,g,h,i,j,l,m,n,o,p,q,r⟩) s
def p40_10 (k:KC)(e:E)(s:St):Res:=dSeq p40_11 dRet k e s
def p40_4 (k:KC)(e:E)(s:St):Res:=dSeq p40_5 p40_10 k e s
def p40_2 (k:KC)(e:E)(s:St):Res:=dSeq p40_3 p40_4 k e s
def p40_0 (k:KC)(e:E)(s:St):Res:=dSeq p40_1 p40_2 k e s
def F40 : FDen := ⟨[u0, u1, u2], p40_0, resV [rT g6]⟩
theorem low40 : lowFunc tt [] fok Try.f40 = some F40 := by kernel_rfl
theorem run40 : FRun Try.prog [] 40 F40 := FRun.of (lowFunc_ok ttOk fokOk mixed Try.func40 low40)
def p41_1 (k:KC)(e:E)(s:St):Res:=ltc (V.i 0) fun v0 => .nrm (u8 e v0) s
def p41_3 (k:KC)(e:E)(s:St):Res:=lt (g0 e) fun v0 => lt (g1 e) fun v1 => lt (g2 e) fun v2 => bE ((eCall 52 [(cV v0), (cV v1), (cV v2)]) k e s) fun v3 s => bP ((pUn (uExt 0) (cV v3)) e) fun v4 => bP ((pUn (uExt 1) (cV v3)) e) fun v5 => .nrm (rw1 (rw0 e fun a b c d f g h i j _ _ _ _ _ _ _ => ⟨a,b,c,d,f,g,h,i,j,v4,v5,v3,v0,v1,v2,v3⟩) fun _ _ c d f g h i j l m n o p q r => ⟨v4,v5,c,d,f,g,h,i,j,l,m,n,o,p,q,r⟩) s
def p41_7 (k:KC)(e:E)(s:St):Res:=lt (g10 e) fun v0 => bP ((pUn uNot (cV v0)) e) fun v1 => .nrm (rw1 e fun a b _ _ _ g h i j l m n o p q r => ⟨a,b,v1,v0,v1,g,h,i,j,l,m,n,o,p,q,r⟩) s
def p41_10 (k:KC)(e:E)(s:St):Res:=ltc (V.i 1) fun v0 => .nrm (u8 e v0) s
def p41_9 (k:KC)(e:E)(s:St):Res:=dSeq p41_10 dRet k e s
def p41_12 (k:KC)(e:E)(s:St):Res:=lt (g0 e) fun v0 => lt (g1 e) fun v1 => lt (g2 e) fun v2 => bE ((eCall 59 [(cV v0), (cV v1), (cV v2)]) k e s) fun v3 s => bP (gdV v3 true ((pMove g0) e)) fun v4 => bP (gdV v3 true ((pMove g3) e)) fun v5 => bE (gdW v3 true s ((eCall 60 [(cV v4), (cV v5)]) k e s)) fun v6 s => bP (gdV v3 true ((pUn uNot (cV v6)) e)) fun v7 => bP ((pPick (cV v3) (cV v7) (cV (.bool false))) e) fun v8 => .nrm (rw1 e fun a b c d f _ _ _ _ _ _ _ _ _ _ _ => ⟨a,b,c,d,f,v8,v0,v1,v2,v3,v3,v4,v5,v6,v7,v8⟩) s
def p41_15 (k:KC)(e:E)(s:St):Res:=ltc (V.i 20) fun v0 => .nrm (u8 e v0) s
def p41_14 (k:KC)(e:E)(s:St):Res:=dSeq p41_15 dRet k e s
def p41_13 (k:KC)(e:E)(s:St):Res:=dCond g21 p41_14 dSkip k e s
def p41_11 (k:KC)(e:E)(s:St):Res:=dSeq p41_12 p41_13 k e s
def p41_8 (k:KC)(e:E)(s:St):Res:=dCond g18 p41_9 p41_11 k e s
def p41_6 (k:KC)(e:E)(s:St):Res:=dSeq p41_7 p41_8 k e s
def p41_5 (k:KC)(e:E)(s:St):Res:=dBlock 0 p41_6 k e s
def p41_17 (k:KC)(e:E)(s:St):Res:=lt (g0 e) fun v0 => bP ((pUn uChk (cV v0)) e) fun v1 => bP ((pUn (uFld 0) (cV v1)) e) fun v2 => bP ((dLd (cV v2)) e s) fun v3 => lt (g9 e) fun v4 => lt (g3 e) fun v5 => bP ((pBin (bIdx 1) (cV v3) (cV v4)) e) fun v6 => bE ((eSt 1 (cV v6) (cV v5)) k e s) fun v7 s => .nrm (rw2 e fun _ _ _ _ _ _ _ i j l m n o p q r => ⟨v0,v1,v2,v3,v4,v5,v6,i,j,l,m,n,o,p,q,r⟩) s
def p41_19 (k:KC)(e:E)(s:St):Res:=ltc (V.i 0) fun v0 => .nrm (u8 e v0) s
def p41_18 (k:KC)(e:E)(s:St):Res:=dSeq p41_19 dRet k e s
def p41_16 (k:KC)(e:E)(s:St):Res:=dSeq p41_17 p41_18 k e s
def p41_4 (k:KC)(e:E)(s:St):Res:=dSeq p41_5 p41_16 k e s
def p41_2 (k:KC)(e:E)(s:St):Res:=dSeq p41_3 p41_4 k e s
def p41_0 (k:KC)(e:E)(s:St):Res:=dSeq p41_1 p41_2 k e s
def F41 : FDen := ⟨[u0, u1, u2, u3], p41_0, resV [rT g8]⟩
theorem low41 : lowFunc tt [] fok Try.f41 = some F41 := by kernel_rfl
theorem run41 : FRun Try.prog [] 41 F41 := FRun.of (lowFunc_ok ttOk fokOk mixed Try.func41 low41)
def p42_1 (k:KC)(e:E)(s:St):Res:=ltc (V.i 0) fun v0 => .nrm (u8 e v0) s
def p42_3 (k:KC)(e:E)(s:St):Res:=lt (g0 e) fun v0 => lt (g1 e) fun v1 => bE ((eCall 45 [(cV v0), (cV v1)]) k e s) fun v2 s => .nrm (rw0 e fun a b c d f g h i j _ _ _ _ p q r => ⟨a,b,c,d,f,g,h,i,j,v2,v0,v1,v2,p,q,r⟩) s
def p42_6 (k:KC)(e:E)(s:St):Res:=lt (g9 e) fun v0 => bP ((pBin (bNil false nilP) (cV v0) (cV .nilp)) e) fun v1 => bP (gdV v1 false ((pMove g2) e)) fun v2 => bP (gdV v1 false ((pBin (bI fLt) (cV v2) (cV (.i 0))) e)) fun v3 => bP ((pPick (cV v1) (cV (.bool true)) (cV v3)) e) fun v4 => bP (gdV v4 false ((pMove g2) e)) fun v5 => bP (gdV v4 false ((pMove g9) e)) fun v6 => bP (gdV v4 false ((pUn uChk (cV v6)) e)) fun v7 => bP (gdV v4 false ((pUn (uFld 2) (cV v7)) e)) fun v8 => bP (gdV v4 false ((dLd (cV v8)) e s)) fun v9 => bP (gdV v4 false ((pUn uLenS (cV v9)) e)) fun v10 => bP (gdV v4 false ((pBin (bI fGe) (cV v5) (cV v10)) e)) fun v11 => bP ((pPick (cV v4) (cV (.bool true)) (cV v11)) e) fun v12 => .nrm (rw1 (rw0 e fun a b c d f g h i j l m n o _ _ _ => ⟨a,b,c,d,f,g,h,i,j,l,m,n,o,v0,v1,v1⟩) fun _ _ _ _ _ _ _ _ _ _ _ _ o p q r => ⟨v2,v3,v4,v4,v5,v6,v7,v8,v9,v10,v11,v12,o,p,q,r⟩) s
def p42_9 (k:KC)(e:E)(s:St):Res:=ltc (V.i 1) fun v0 => .nrm (u8 e v0) s
def p42_8 (k:KC)(e:E)(s:St):Res:=dSeq p42_9 dRet k e s
def p42_7 (k:KC)(e:E)(s:St):Res:=dCond g27 p42_8 dSkip k e s
def p42_5 (k:KC)(e:E)(s:St):Res:=dSeq p42_6 p42_7 k e s
def p42_12 (k:KC)(e:E)(s:St):Res:=lt (g0 e) fun v0 => lt (g1 e) fun v1 => lt (g2 e) fun v2 => bE ((eCall 40 [(cV v0), (cV v1), (cV v2)]) k e s) fun v3 s => bP (gdV v3 true ((pMove g3) e)) fun v4 => bP (gdV v3 true ((pBin (bI fNe) (cV v4) (cV (.i 0))) e)) fun v5 => bP ((pPick (cV v3) (cV v5) (cV (.bool false))) e) fun v6 => bP (gdV v6 true ((pMove g3) e)) fun v7 => bP (gdV v6 true ((pBin (bI fLt) (cV v7) (cV (.i 0))) e)) fun v8 => bP (gdV v6 true ((pMove (cV v8)) e)) fun v9 => bP (gdV v9 false ((pMove g3) e)) fun v10 => bP (gdV v9 false ((pBin (bI fGt) (cV v10) (cV (.i 16384))) e)) fun v11 => bP (gdV v6 true ((pPick (cV v9) (cV (.bool true)) (cV v11)) e)) fun v12 => bP (gdV v6 true ((pMove (cV v12)) e)) fun v13 => bP (gdV v13 false ((pMove g0) e)) fun v14 => bP (gdV v13 false ((pMove g3) e)) fun v15 => bE (gdW v13 false s ((eCall 45 [(cV v14), (cV v15)]) k e s)) fun v16 s => bP (gdV v13 false ((pBin (bNil false nilP) (cV v16) (cV .nilp)) e)) fun v17 => bP (gdV v6 true ((pPick (cV v13) (cV (.bool true)) (cV v17)) e)) fun v18 => bP ((pPick (cV v6) (cV v18) (cV (.bool false))) e) fun v19 => .nrm (rw3 (rw2 (rw1 e fun a b c d f g h i j l m n _ _ _ _ => ⟨a,b,c,d,f,g,h,i,j,l,m,n,v0,v1,v2,v3⟩) fun _ _ _ _ _ _ _ _ _ _ _ _ _ _ _ _ => ⟨v3,v4,v5,v6,v6,v7,v8,v9,v10,v11,v12,v13,v14,v15,v16,v17⟩) fun _ _ c d f g h i j l m n o p q r => ⟨v18,v19,c,d,f,g,h,i,j,l,m,n,o,p,q,r⟩) s
def p42_15 (k:KC)(e:E)(s:St):Res:=ltc (V.i 20) fun v0 => .nrm (u8 e v0) s
def p42_14 (k:KC)(e:E)(s:St):Res:=dSeq p42_15 dRet k e s
def p42_13 (k:KC)(e:E)(s:St):Res:=dCond g49 p42_14 dSkip k e s
def p42_11 (k:KC)(e:E)(s:St):Res:=dSeq p42_12 p42_13 k e s
def p42_17 (k:KC)(e:E)(s:St):Res:=lt (g9 e) fun v0 => bP ((pUn uChk (cV v0)) e) fun v1 => bP ((pUn (uFld 2) (cV v1)) e) fun v2 => bP ((dLd (cV v2)) e s) fun v3 => lt (g2 e) fun v4 => lt (g3 e) fun v5 => bP ((pBin (bIdx 1) (cV v3) (cV v4)) e) fun v6 => bE ((eSt 1 (cV v6) (cV v5)) k e s) fun v7 s => .nrm (rw3 e fun a b _ _ _ _ _ _ _ l m n o p q r => ⟨a,b,v0,v1,v2,v3,v4,v5,v6,l,m,n,o,p,q,r⟩) s
def p42_19 (k:KC)(e:E)(s:St):Res:=ltc (V.i 0) fun v0 => .nrm (u8 e v0) s
def p42_18 (k:KC)(e:E)(s:St):Res:=dSeq p42_19 dRet k e s
def p42_16 (k:KC)(e:E)(s:St):Res:=dSeq p42_17 p42_18 k e s
def p42_10 (k:KC)(e:E)(s:St):Res:=dSeq p42_11 p42_16 k e s
def p42_4 (k:KC)(e:E)(s:St):Res:=dSeq p42_5 p42_10 k e s
def p42_2 (k:KC)(e:E)(s:St):Res:=dSeq p42_3 p42_4 k e s
def p42_0 (k:KC)(e:E)(s:St):Res:=dSeq p42_1 p42_2 k e s
def F42 : FDen := ⟨[u0, u1, u2, u3], p42_0, resV [rT g8]⟩
theorem low42 : lowFunc tt [] fok Try.f42 = some F42 := by kernel_rfl
theorem run42 : FRun Try.prog [] 42 F42 := FRun.of (lowFunc_ok ttOk fokOk mixed Try.func42 low42)
def p43_1 (k:KC)(e:E)(s:St):Res:=bE (aSt ((aBox g0) e s.next) s) fun v0 s => ltc (V.nilp) fun v1 => ltc (V.bool false) fun v2 => .nrm (rw0 e fun a b _ d _ _ h i j l m n o p q r => ⟨a,b,v0,d,v1,v2,h,i,j,l,m,n,o,p,q,r⟩) s
def p43_4 (k:KC)(e:E)(s:St):Res:=bP ((dLd g2) e s) fun v0 => bP ((pBin (bNil false nilP) (cV v0) (cV .nilp)) e) fun v1 => bP (gdV v1 false ((pMove g1) e)) fun v2 => bP (gdV v1 false ((pFun 62 [] [g2]) e)) fun v3 => bE (gdW v1 false s ((eCall 61 [(cV v2), (cV v3)]) k e s)) fun v4 s => bP ((pPick (cV v1) (cV (.bool true)) (cV v4)) e) fun v5 => .nrm (rw0 e fun a b c d f g h _ _ _ _ _ _ _ q r => ⟨a,b,c,d,f,g,h,v0,v1,v1,v2,v3,v4,v5,q,r⟩) s
def p43_7 (k:KC)(e:E)(s:St):Res:=ltc (V.nilp) fun v0 => ltc (V.bool false) fun v1 => .nrm (rw0 e fun a b c d _ _ h i j l m n o p q r => ⟨a,b,c,d,v0,v1,h,i,j,l,m,n,o,p,q,r⟩) s
def p43_6 (k:KC)(e:E)(s:St):Res:=dSeq p43_7 dRet k e s
def p43_5 (k:KC)(e:E)(s:St):Res:=dCond g13 p43_6 dSkip k e s
def p43_3 (k:KC)(e:E)(s:St):Res:=dSeq p43_4 p43_5 k e s
def p43_9 (k:KC)(e:E)(s:St):Res:=bP ((dLd g2) e s) fun v0 => bE (aSt (aMk e s.next) s) fun v1 s => bP ((pBuild [.nilp, .nilm, .nils, (.i 0)] [(0, 1, (cV v0)), (1, 1, (cV v1))]) e) fun v2 => bE (aSt ((aBox (cV v2)) e s.next) s) fun v3 s => .nrm (rw1 (rw0 e fun a b c d f g _ i j l m n o p _ _ => ⟨a,b,c,d,f,g,v3,i,j,l,m,n,o,p,v0,v1⟩) fun _ _ c d f g h i j l m n o p q r => ⟨v2,v3,c,d,f,g,h,i,j,l,m,n,o,p,q,r⟩) s
def p43_11 (k:KC)(e:E)(s:St):Res:=lt (g6 e) fun v0 => lt (g1 e) fun v1 => bE ((eCall 63 [(cV v0), (cV v1)]) k e s) fun v2 s => .nrm (rw1 e fun a b _ _ _ g h i j l m n o p q r => ⟨a,b,v0,v1,v2,g,h,i,j,l,m,n,o,p,q,r⟩) s
def p43_13 (k:KC)(e:E)(s:St):Res:=lt (g6 e) fun v0 => ltc (V.bool true) fun v1 => .nrm (u21 (rw0 e fun a b c d _ _ h i j l m n o p q r => ⟨a,b,c,d,v0,v1,h,i,j,l,m,n,o,p,q,r⟩) v0) s
def p43_12 (k:KC)(e:E)(s:St):Res:=dSeq p43_13 dRet k e s
def p43_10 (k:KC)(e:E)(s:St):Res:=dSeq p43_11 p43_12 k e s
def p43_8 (k:KC)(e:E)(s:St):Res:=dSeq p43_9 p43_10 k e s
def p43_2 (k:KC)(e:E)(s:St):Res:=dSeq p43_3 p43_8 k e s
def p43_0 (k:KC)(e:E)(s:St):Res:=dSeq p43_1 p43_2 k e s
def F43 : FDen := ⟨[u0, u1], p43_0, resV [rT g4, rT g5]⟩
theorem low43 : lowFunc tt [] fok Try.f43 = some F43 := by kernel_rfl
theorem run43 : FRun Try.prog [] 43 F43 := FRun.of (lowFunc_ok ttOk fokOk mixed Try.func43 low43)
noncomputable def F44 : FDen := fOne (allV 1)
def p45_1 (k:KC)(e:E)(s:St):Res:=ltc (V.nilp) fun v0 => .nrm (u4 e v0) s
def p45_4 (k:KC)(e:E)(s:St):Res:=ltc (V.i 0) fun v0 => .nrm (u5 e v0) s
def p45_9 (k:KC)(e:E)(s:St):Res:=lt (g5 e) fun v0 => lt (g0 e) fun v1 => bP ((pUn uChk (cV v1)) e) fun v2 => bP ((pUn (uFld 1) (cV v2)) e) fun v3 => bP ((dLd (cV v3)) e s) fun v4 => bP ((pUn uLenS (cV v4)) e) fun v5 => bP ((pBin (bI fLt) (cV v0) (cV v5)) e) fun v6 => .nrm (rw0 e fun a b c d f g _ _ _ _ _ _ _ p q r => ⟨a,b,c,d,f,g,v0,v1,v2,v3,v4,v5,v6,p,q,r⟩) s
def p45_10 (k:KC)(e:E)(s:St):Res:=dCond g12 dSkip (dExit 0) k e s
def p45_8 (k:KC)(e:E)(s:St):Res:=dSeq p45_9 p45_10 k e s
def p45_14 (k:KC)(e:E)(s:St):Res:=lt (g0 e) fun v0 => bP ((pUn uChk (cV v0)) e) fun v1 => bP ((pUn (uFld 1) (cV v1)) e) fun v2 => bP ((dLd (cV v2)) e s) fun v3 => lt (g5 e) fun v4 => bP ((pBin (bIdx 4) (cV v3) (cV v4)) e) fun v5 => bP ((pUn (uFld 0) (cV v5)) e) fun v6 => bP ((dLd (cV v6)) e s) fun v7 => lt (g1 e) fun v8 => bP ((pBin (bI fEq) (cV v7) (cV v8)) e) fun v9 => .nrm (rw1 (u15 e v0) fun _ _ _ _ _ _ _ _ _ l m n o p q r => ⟨v1,v2,v3,v4,v5,v6,v7,v8,v9,l,m,n,o,p,q,r⟩) s
def p45_17 (k:KC)(e:E)(s:St):Res:=lt (g0 e) fun v0 => bP ((pUn uChk (cV v0)) e) fun v1 => bP ((pUn (uFld 1) (cV v1)) e) fun v2 => bP ((dLd (cV v2)) e s) fun v3 => lt (g5 e) fun v4 => bP ((pBin (bIdx 4) (cV v3) (cV v4)) e) fun v5 => .nrm (rw1 (u4 e v5) fun a b c d f g h i j _ _ _ _ _ _ r => ⟨a,b,c,d,f,g,h,i,j,v0,v1,v2,v3,v4,v5,r⟩) s
def p45_16 (k:KC)(e:E)(s:St):Res:=dSeq p45_17 dRet k e s
def p45_15 (k:KC)(e:E)(s:St):Res:=dCond g24 p45_16 dSkip k e s
def p45_13 (k:KC)(e:E)(s:St):Res:=dSeq p45_14 p45_15 k e s
def p45_12 (k:KC)(e:E)(s:St):Res:=dBlock 1 p45_13 k e s
def p45_18 (k:KC)(e:E)(s:St):Res:=lt (g5 e) fun v0 => bP ((pBin (bI fAdd) (cV v0) (cV (.i 1))) e) fun v1 => .nrm (rw0 e fun a b c d f _ h i j l m n o _ _ r => ⟨a,b,c,d,f,v1,h,i,j,l,m,n,o,v0,v1,r⟩) s
def p45_11 (k:KC)(e:E)(s:St):Res:=dSeq p45_12 p45_18 k e s
def p45_7 (k:KC)(e:E)(s:St):Res:=dSeq p45_8 p45_11 k e s
def p45_6 (k:KC)(e:E)(s:St):Res:=dLoop p45_7 k e s
def p45_5 (k:KC)(e:E)(s:St):Res:=dBlock 0 p45_6 k e s
def p45_3 (k:KC)(e:E)(s:St):Res:=dSeq p45_4 p45_5 k e s
def p45_20 (k:KC)(e:E)(s:St):Res:=ltc (V.nilp) fun v0 => .nrm (u4 e v0) s
def p45_19 (k:KC)(e:E)(s:St):Res:=dSeq p45_20 dRet k e s
def p45_2 (k:KC)(e:E)(s:St):Res:=dSeq p45_3 p45_19 k e s
def p45_0 (k:KC)(e:E)(s:St):Res:=dSeq p45_1 p45_2 k e s
def F45 : FDen := ⟨[u0, u1], p45_0, resV [rT g4]⟩
theorem low45 : lowFunc tt [] fok Try.f45 = some F45 := by kernel_rfl
theorem run45 : FRun Try.prog [] 45 F45 := FRun.of (lowFunc_ok ttOk fokOk mixed Try.func45 low45)
def p46_1 (k:KC)(e:E)(s:St):Res:=ltc (V.i 0) fun v0 => .nrm (u4 e v0) s
def p46_4 (k:KC)(e:E)(s:St):Res:=ltc (V.i 0) fun v0 => .nrm (u5 e v0) s
def p46_9 (k:KC)(e:E)(s:St):Res:=lt (g5 e) fun v0 => lt (g0 e) fun v1 => bP ((pUn uLenS (cV v1)) e) fun v2 => bP ((pBin (bI fLt) (cV v0) (cV v2)) e) fun v3 => .nrm (rw0 e fun a b c d f g _ _ _ _ m n o p q r => ⟨a,b,c,d,f,g,v0,v1,v2,v3,m,n,o,p,q,r⟩) s
def p46_10 (k:KC)(e:E)(s:St):Res:=dCond g9 dSkip (dExit 0) k e s
def p46_8 (k:KC)(e:E)(s:St):Res:=dSeq p46_9 p46_10 k e s
def p46_14 (k:KC)(e:E)(s:St):Res:=lt (g0 e) fun v0 => lt (g5 e) fun v1 => bP ((pBin (bIdx 1) (cV v0) (cV v1)) e) fun v2 => bP ((dLd (cV v2)) e s) fun v3 => lt (g1 e) fun v4 => bP ((pBin (bI fEq) (cV v3) (cV v4)) e) fun v5 => .nrm (rw1 (rw0 e fun a b c d f g h i j l m n _ _ _ _ => ⟨a,b,c,d,f,g,h,i,j,l,m,n,v0,v1,v2,v3⟩) fun _ _ c d f g h i j l m n o p q r => ⟨v4,v5,c,d,f,g,h,i,j,l,m,n,o,p,q,r⟩) s
def p46_17 (k:KC)(e:E)(s:St):Res:=lt (g5 e) fun v0 => .nrm (u18 (u4 e v0) v0) s
def p46_16 (k:KC)(e:E)(s:St):Res:=dSeq p46_17 dRet k e s
def p46_15 (k:KC)(e:E)(s:St):Res:=dCond g17 p46_16 dSkip k e s
def p46_13 (k:KC)(e:E)(s:St):Res:=dSeq p46_14 p46_15 k e s
def p46_12 (k:KC)(e:E)(s:St):Res:=dBlock 1 p46_13 k e s
def p46_18 (k:KC)(e:E)(s:St):Res:=lt (g5 e) fun v0 => bP ((pBin (bI fAdd) (cV v0) (cV (.i 1))) e) fun v1 => .nrm (rw0 e fun a b c d f _ h i j l _ _ o p q r => ⟨a,b,c,d,f,v1,h,i,j,l,v0,v1,o,p,q,r⟩) s
def p46_11 (k:KC)(e:E)(s:St):Res:=dSeq p46_12 p46_18 k e s
def p46_7 (k:KC)(e:E)(s:St):Res:=dSeq p46_8 p46_11 k e s
def p46_6 (k:KC)(e:E)(s:St):Res:=dLoop p46_7 k e s
def p46_5 (k:KC)(e:E)(s:St):Res:=dBlock 0 p46_6 k e s
def p46_3 (k:KC)(e:E)(s:St):Res:=dSeq p46_4 p46_5 k e s
def p46_20 (k:KC)(e:E)(s:St):Res:=ltc (V.i (-1)) fun v0 => .nrm (u4 e v0) s
def p46_19 (k:KC)(e:E)(s:St):Res:=dSeq p46_20 dRet k e s
def p46_2 (k:KC)(e:E)(s:St):Res:=dSeq p46_3 p46_19 k e s
def p46_0 (k:KC)(e:E)(s:St):Res:=dSeq p46_1 p46_2 k e s
def F46 : FDen := ⟨[u0, u1], p46_0, resV [rT g4]⟩
theorem low46 : lowFunc tt [] fok Try.f46 = some F46 := by kernel_rfl
theorem run46 : FRun Try.prog [] 46 F46 := FRun.of (lowFunc_ok ttOk fokOk mixed Try.func46 low46)
def p50_1 (k:KC)(e:E)(s:St):Res:=ltc (V.i 0) fun v0 => .nrm (u4 e v0) s
def p50_4 (k:KC)(e:E)(s:St):Res:=lt (g0 e) fun v0 => lt (g1 e) fun v1 => bE ((eCall 51 [(cV v0), (cV v1)]) k e s) fun v2 s => bP ((pUn uNot (cV v2)) e) fun v3 => .nrm (rw0 e fun a b c d f _ _ _ _ l m n o p q r => ⟨a,b,c,d,f,v0,v1,v2,v3,l,m,n,o,p,q,r⟩) s
def p50_7 (k:KC)(e:E)(s:St):Res:=ltc (V.i 0) fun v0 => .nrm (u4 e v0) s
def p50_6 (k:KC)(e:E)(s:St):Res:=dSeq p50_7 dRet k e s
def p50_5 (k:KC)(e:E)(s:St):Res:=dCond g8 p50_6 dSkip k e s
def p50_3 (k:KC)(e:E)(s:St):Res:=dSeq p50_4 p50_5 k e s
def p50_9 (k:KC)(e:E)(s:St):Res:=lt (g0 e) fun v0 => bP ((pUn uChk (cV v0)) e) fun v1 => bP ((pUn (uFld 0) (cV v1)) e) fun v2 => bP ((dLd (cV v2)) e s) fun v3 => lt (g1 e) fun v4 => bP ((pBin (bI fAdd) (cV v4) (cV (.i 1))) e) fun v5 => bP ((pBin (bIdx 1) (cV v3) (cV v5)) e) fun v6 => bP ((dLd (cV v6)) e s) fun v7 => .nrm (u16 (rw0 e fun a b c d _ g h i j _ _ _ _ _ _ _ => ⟨a,b,c,d,v7,g,h,i,j,v0,v1,v2,v3,v4,v5,v6⟩) v7) s
def p50_8 (k:KC)(e:E)(s:St):Res:=dSeq p50_9 dRet k e s
def p50_2 (k:KC)(e:E)(s:St):Res:=dSeq p50_3 p50_8 k e s
def p50_0 (k:KC)(e:E)(s:St):Res:=dSeq p50_1 p50_2 k e s
def F50 : FDen := ⟨[u0, u1], p50_0, resV [rT g4]⟩
theorem low50 : lowFunc tt [] fok Try.f50 = some F50 := by kernel_rfl
theorem run50 : FRun Try.prog [] 50 F50 := FRun.of (lowFunc_ok ttOk fokOk mixed Try.func50 low50)
def p51_1 (k:KC)(e:E)(s:St):Res:=ltc (V.bool false) fun v0 => .nrm (u4 e v0) s
def p51_3 (k:KC)(e:E)(s:St):Res:=lt (g1 e) fun v0 => bP ((pBin (bI fGt) (cV v0) (cV (.i 0))) e) fun v1 => bP (gdV v1 true ((pMove g1) e)) fun v2 => bP (gdV v1 true ((pMove g0) e)) fun v3 => bP (gdV v1 true ((pUn uChk (cV v3)) e)) fun v4 => bP (gdV v1 true ((pUn (uFld 1) (cV v4)) e)) fun v5 => bP (gdV v1 true ((dLd (cV v5)) e s)) fun v6 => bP (gdV v1 true ((pUn uLenS (cV v6)) e)) fun v7 => bP (gdV v1 true ((pBin (bI fLt) (cV v2) (cV v7)) e)) fun v8 => bP ((pPick (cV v1) (cV v8) (cV (.bool false))) e) fun v9 => bP (gdV v9 true ((pMove g0) e)) fun v10 => bP (gdV v9 true ((pUn uChk (cV v10)) e)) fun v11 => bP (gdV v9 true ((pUn (uFld 1) (cV v11)) e)) fun v12 => bP (gdV v9 true ((dLd (cV v12)) e s)) fun v13 => bP (gdV v9 true ((pMove g1) e)) fun v14 => bP (gdV v9 true ((pBin (bIdx 1) (cV v13) (cV v14)) e)) fun v15 => bP (gdV v9 true ((dLd (cV v15)) e s)) fun v16 => bP ((pPick (cV v9) (cV v16) (cV (.bool false))) e) fun v17 => .nrm (rw1 (rw0 e fun a b c d _ _ _ _ _ _ _ _ _ _ _ _ => ⟨a,b,c,d,v17,v0,v1,v1,v2,v3,v4,v5,v6,v7,v8,v9⟩) fun _ _ _ _ _ _ _ _ _ l m n o p q r => ⟨v9,v10,v11,v12,v13,v14,v15,v16,v17,l,m,n,o,p,q,r⟩) s
def p51_2 (k:KC)(e:E)(s:St):Res:=dSeq p51_3 dRet k e s
def p51_0 (k:KC)(e:E)(s:St):Res:=dSeq p51_1 p51_2 k e s
def F51 : FDen := ⟨[u0, u1], p51_0, resV [rT g4]⟩
theorem low51 : lowFunc tt [] fok Try.f51 = some F51 := by kernel_rfl
theorem run51 : FRun Try.prog [] 51 F51 := FRun.of (lowFunc_ok ttOk fokOk mixed Try.func51 low51)
def p52_1 (k:KC)(e:E)(s:St):Res:=ltc (V.i 0) fun v0 => ltc (V.bool false) fun v1 => .nrm (rw0 e fun a b c d f g _ _ j l m n o p q r => ⟨a,b,c,d,f,g,v0,v1,j,l,m,n,o,p,q,r⟩) s
def p52_3 (k:KC)(e:E)(s:St):Res:=lt (g1 e) fun v0 => bP ((pBin (bI fAdd) (cV v0) (cV (.i 3))) e) fun v1 => lt (g2 e) fun v2 => bP ((pBin (bI fAdd) (cV v1) (cV v2)) e) fun v3 => lt (g2 e) fun v4 => bP ((pBin (bI fGe) (cV v4) (cV (.i 0))) e) fun v5 => bP (gdV v5 true ((pMove g2) e)) fun v6 => bP (gdV v5 true ((pMove g0) e)) fun v7 => bP (gdV v5 true ((pMove g1) e)) fun v8 => bE (gdW v5 true s ((eCall 50 [(cV v7), (cV v8)]) k e s)) fun v9 s => bP (gdV v5 true ((pBin (bI fLt) (cV v6) (cV v9)) e)) fun v10 => bP ((pPick (cV v5) (cV v10) (cV (.bool false))) e) fun v11 => .nrm (rw1 (rw0 e fun a b c d f g _ _ _ _ _ _ _ _ _ _ => ⟨a,b,c,d,f,g,v3,v11,v0,v1,v2,v3,v4,v5,v5,v6⟩) fun _ _ _ _ _ g h i j l m n o p q r => ⟨v7,v8,v9,v10,v11,g,h,i,j,l,m,n,o,p,q,r⟩) s
def p52_2 (k:KC)(e:E)(s:St):Res:=dSeq p52_3 dRet k e s
def p52_0 (k:KC)(e:E)(s:St):Res:=dSeq p52_1 p52_2 k e s
def F52 : FDen := ⟨[u0, u1, u2], p52_0, resV [rT g6, rT g7]⟩
theorem low52 : lowFunc tt [] fok Try.f52 = some F52 := by kernel_rfl
theorem run52 : FRun Try.prog [] 52 F52 := FRun.of (lowFunc_ok ttOk fokOk mixed Try.func52 low52)
def p53_1 (k:KC)(e:E)(s:St):Res:=ltc (V.bool false) fun v0 => .nrm (u4 e v0) s
def p53_3 (k:KC)(e:E)(s:St):Res:=lt (g1 e) fun v0 => bP ((pBin (bI fEq) (cV v0) (cV (.i 0))) e) fun v1 => bP (gdV v1 false ((pMove g0) e)) fun v2 => bP (gdV v1 false ((pMove g1) e)) fun v3 => bE (gdW v1 false s ((eCall 24 [(cV v2), (cV v3)]) k e s)) fun v4 s => bP (gdV v1 false ((pBin (bI fGt) (cV v4) (cV (.i (-3)))) e)) fun v5 => bP ((pPick (cV v1) (cV (.bool true)) (cV v5)) e) fun v6 => .nrm (rw0 e fun a b c d _ _ _ _ _ _ _ _ _ p q r => ⟨a,b,c,d,v6,v0,v1,v1,v2,v3,v4,v5,v6,p,q,r⟩) s
def p53_2 (k:KC)(e:E)(s:St):Res:=dSeq p53_3 dRet k e s
def p53_0 (k:KC)(e:E)(s:St):Res:=dSeq p53_1 p53_2 k e s
def F53 : FDen := ⟨[u0, u1], p53_0, resV [rT g4]⟩
theorem low53 : lowFunc tt [] fok Try.f53 = some F53 := by kernel_rfl
theorem run53 : FRun Try.prog [] 53 F53 := FRun.of (lowFunc_ok ttOk fokOk mixed Try.func53 low53)
def p56_1 (k:KC)(e:E)(s:St):Res:=ltc (V.nils) fun v0 => .nrm (u2 e v0) s
def p56_4 (k:KC)(e:E)(s:St):Res:=lt (g0 e) fun v0 => bP ((pBin (bNil false nilS) (cV v0) (cV .nils)) e) fun v1 => .nrm (rw0 e fun a b c _ _ g h i j l m n o p q r => ⟨a,b,c,v0,v1,g,h,i,j,l,m,n,o,p,q,r⟩) s
def p56_7 (k:KC)(e:E)(s:St):Res:=ltc (V.nils) fun v0 => .nrm (u2 e v0) s
def p56_6 (k:KC)(e:E)(s:St):Res:=dSeq p56_7 dRet k e s
def p56_5 (k:KC)(e:E)(s:St):Res:=dCond g4 p56_6 dSkip k e s
def p56_3 (k:KC)(e:E)(s:St):Res:=dSeq p56_4 p56_5 k e s
def p56_9 (k:KC)(e:E)(s:St):Res:=bE (aSt ((aBSl 0 1 [] []) e s.next) s) fun v0 s => lt (g0 e) fun v1 => bE ((eAp8 1 (cV v0) (cV v1)) k e s) fun v2 s => .nrm (rw0 e fun a b _ d f _ _ _ j l m n o p q r => ⟨a,b,v2,d,f,v0,v1,v2,j,l,m,n,o,p,q,r⟩) s
def p56_8 (k:KC)(e:E)(s:St):Res:=dSeq p56_9 dRet k e s
def p56_2 (k:KC)(e:E)(s:St):Res:=dSeq p56_3 p56_8 k e s
def p56_0 (k:KC)(e:E)(s:St):Res:=dSeq p56_1 p56_2 k e s
def F56 : FDen := ⟨[u0], p56_0, resV [rT g2]⟩
theorem low56 : lowFunc tt [] fok Try.f56 = some F56 := by kernel_rfl
theorem run56 : FRun Try.prog [] 56 F56 := FRun.of (lowFunc_ok ttOk fokOk mixed Try.func56 low56)
def p57_1 (k:KC)(e:E)(s:St):Res:=ltc (V.i 0) fun v0 => ltc (V.i 0) fun v1 => .nrm (rw0 e fun a b c d f g _ _ j l m n o p q r => ⟨a,b,c,d,f,g,v0,v1,j,l,m,n,o,p,q,r⟩) s
def p57_4 (k:KC)(e:E)(s:St):Res:=lt (g2 e) fun v0 => lt (g0 e) fun v1 => bE ((eCall 71 [(cV v1)]) k e s) fun v2 s => lt (g0 e) fun v3 => bE ((eCall 21 [(cV v3)]) k e s) fun v4 s => bP ((pBin (bI fSub) (cV v2) (cV v4)) e) fun v5 => bP ((pBin (bI fSub) (cV v5) (cV (.i 3))) e) fun v6 => bP ((pBin (bI fGt) (cV v0) (cV v6)) e) fun v7 => .nrm (u16 (rw0 e fun a b c d f g h i j _ _ _ _ _ _ _ => ⟨a,b,c,d,f,g,h,i,j,v0,v1,v2,v3,v4,v5,v6⟩) v7) s
def p57_7 (k:KC)(e:E)(s:St):Res:=ltc (V.i 0) fun v0 => ltc (V.i 26) fun v1 => .nrm (rw0 e fun a b c d f g _ _ j l m n o p q r => ⟨a,b,c,d,f,g,v0,v1,j,l,m,n,o,p,q,r⟩) s
def p57_6 (k:KC)(e:E)(s:St):Res:=dSeq p57_7 dRet k e s
def p57_5 (k:KC)(e:E)(s:St):Res:=dCond g16 p57_6 dSkip k e s
def p57_3 (k:KC)(e:E)(s:St):Res:=dSeq p57_4 p57_5 k e s
def p57_9 (k:KC)(e:E)(s:St):Res:=lt (g0 e) fun v0 => bP ((pUn uChk (cV v0)) e) fun v1 => bP ((pUn (uFld 2) (cV v1)) e) fun v2 => bP ((dLd (cV v2)) e s) fun v3 => .nrm (rw1 (u8 e v3) fun a _ _ _ _ g h i j l m n o p q r => ⟨a,v0,v1,v2,v3,g,h,i,j,l,m,n,o,p,q,r⟩) s
def p57_11 (k:KC)(e:E)(s:St):Res:=lt (g0 e) fun v0 => bP ((pUn uChk (cV v0)) e) fun v1 => bP ((pUn (uFld 0) (cV v1)) e) fun v2 => bP ((dLd (cV v2)) e s) fun v3 => lt (g8 e) fun v4 => lt (g8 e) fun v5 => bP ((pBin (bI fAdd) (cV v5) (cV (.i 3))) e) fun v6 => lt (g2 e) fun v7 => bP ((pBin (bI fAdd) (cV v6) (cV v7)) e) fun v8 => bP ((pSl 1 (cV v3) (some (cV v4)) (some (cV v8)) none) e) fun v9 => bE ((eClr [(.i 0)] (cV v9)) k e s) fun v10 s => .nrm (rw1 e fun a b c d f _ _ _ _ _ _ _ _ _ _ r => ⟨a,b,c,d,f,v0,v1,v2,v3,v4,v5,v6,v7,v8,v9,r⟩) s
def p57_13 (k:KC)(e:E)(s:St):Res:=lt (g0 e) fun v0 => bP ((pUn uChk (cV v0)) e) fun v1 => bP ((pUn (uFld 0) (cV v1)) e) fun v2 => bP ((dLd (cV v2)) e s) fun v3 => lt (g8 e) fun v4 => lt (g0 e) fun v5 => bP ((pUn uChk (cV v5)) e) fun v6 => bP ((pUn (uFld 0) (cV v6)) e) fun v7 => bP ((dLd (cV v7)) e s) fun v8 => lt (g8 e) fun v9 => bP ((pBin (bI fAdd) (cV v9) (cV (.i 1))) e) fun v10 => lt (g1 e) fun v11 => lt (g2 e) fun v12 => bP ((pBin (bIdx 1) (cV v3) (cV v4)) e) fun v13 => bE ((eSt 1 (cV v13) (cV v11)) k e s) fun v14 s => bP ((pBin (bIdx 1) (cV v8) (cV v10)) e) fun v15 => bE ((eSt 1 (cV v15) (cV v12)) k e s) fun v16 s => .nrm (rw2 (u31 e v0) fun _ _ _ _ _ _ _ _ _ _ _ _ _ _ q r => ⟨v1,v2,v3,v4,v5,v6,v7,v8,v9,v10,v11,v12,v13,v15,q,r⟩) s
def p57_15 (k:KC)(e:E)(s:St):Res:=lt (g0 e) fun v0 => bP ((pUn uChk (cV v0)) e) fun v1 => bP ((pUn (uFld 1) (cV v1)) e) fun v2 => bP ((dLd (cV v2)) e s) fun v3 => lt (g8 e) fun v4 => bP ((pBin (bIdx 1) (cV v3) (cV v4)) e) fun v5 => bE ((eSt 1 (cV v5) (cV (.bool true))) k e s) fun v6 s => .nrm (rw3 (rw2 e fun a b c d f g h i j l m n o p _ _ => ⟨a,b,c,d,f,g,h,i,j,l,m,n,o,p,v0,v1⟩) fun _ _ _ _ f g h i j l m n o p q r => ⟨v2,v3,v4,v5,f,g,h,i,j,l,m,n,o,p,q,r⟩) s
def p57_17 (k:KC)(e:E)(s:St):Res:=lt (g0 e) fun v0 => bP ((pUn uChk (cV v0)) e) fun v1 => bP ((pUn (uFld 2) (cV v1)) e) fun v2 => bP ((dLd (cV v2)) e s) fun v3 => lt (g2 e) fun v4 => bP ((pBin (bI fAdd) (cV (.i 3)) (cV v4)) e) fun v5 => bP ((pBin (bI fAdd) (cV v3) (cV v5)) e) fun v6 => bP ((pUn uChk (cV v0)) e) fun v7 => bP ((pUn (uFld 2) (cV v7)) e) fun v8 => bE ((eSt 1 (cV v8) (cV v6)) k e s) fun v9 s => .nrm (rw3 e fun a b c d _ _ _ _ _ _ _ _ _ p q r => ⟨a,b,c,d,v0,v1,v2,v3,v4,v5,v6,v7,v8,p,q,r⟩) s
def p57_19 (k:KC)(e:E)(s:St):Res:=lt (g8 e) fun v0 => ltc (V.i 0) fun v1 => .nrm (u61 (rw0 e fun a b c d f g _ _ j l m n o p q r => ⟨a,b,c,d,f,g,v0,v1,j,l,m,n,o,p,q,r⟩) v0) s
def p57_18 (k:KC)(e:E)(s:St):Res:=dSeq p57_19 dRet k e s
def p57_16 (k:KC)(e:E)(s:St):Res:=dSeq p57_17 p57_18 k e s
def p57_14 (k:KC)(e:E)(s:St):Res:=dSeq p57_15 p57_16 k e s
def p57_12 (k:KC)(e:E)(s:St):Res:=dSeq p57_13 p57_14 k e s
def p57_10 (k:KC)(e:E)(s:St):Res:=dSeq p57_11 p57_12 k e s
def p57_8 (k:KC)(e:E)(s:St):Res:=dSeq p57_9 p57_10 k e s
def p57_2 (k:KC)(e:E)(s:St):Res:=dSeq p57_3 p57_8 k e s
def p57_0 (k:KC)(e:E)(s:St):Res:=dSeq p57_1 p57_2 k e s
def F57 : FDen := ⟨[u0, u1, u2], p57_0, resV [rT g6, rT g7]⟩
theorem low57 : lowFunc tt [] fok Try.f57 = some F57 := by kernel_rfl
theorem run57 : FRun Try.prog [] 57 F57 := FRun.of (lowFunc_ok ttOk fokOk mixed Try.func57 low57)
def p58_1 (k:KC)(e:E)(s:St):Res:=ltc (V.i 0) fun v0 => ltc (V.i 0) fun v1 => .nrm (rw0 e fun a b c d f g _ _ j l m n o p q r => ⟨a,b,c,d,f,g,v0,v1,j,l,m,n,o,p,q,r⟩) s
def p58_3 (k:KC)(e:E)(s:St):Res:=lt (g0 e) fun v0 => bE ((eCall 16 [(cV v0)]) k e s) fun v1 s => bP ((pBin (bI fAdd) (cV v1) (cV (.i 1))) e) fun v2 => .nrm (rw0 e fun a b c d f g h i _ _ _ _ o p q r => ⟨a,b,c,d,f,g,h,i,v2,v0,v1,v2,o,p,q,r⟩) s
def p58_6 (k:KC)(e:E)(s:St):Res:=dDraw [⟨none, (.p (pMove g0)), u12⟩, ⟨none, (.p (pUn uChk g12)), u13⟩, ⟨none, (.p (pUn (uFld 0) g13)), u14⟩, ⟨none, (.d 0 1 (dLd g14)), u15⟩, ⟨none, (.p (pMove g0)), u16⟩, ⟨none, (.e (eCall 16 [g16])), u17⟩, ⟨none, (.p (pBin (bI fSub) g15 g17)), u18⟩, ⟨none, (.p (pMove g2)), u19⟩, ⟨none, (.p (pBin (bI fAdd) (cV (.i 3)) g19)), u20⟩, ⟨none, (.p (pBin (bI fLt) g18 g20)), u21⟩] k e s
def p58_9 (k:KC)(e:E)(s:St):Res:=ltc (V.i 0) fun v0 => ltc (V.i 26) fun v1 => .nrm (rw0 e fun a b c d f g _ _ j l m n o p q r => ⟨a,b,c,d,f,g,v0,v1,j,l,m,n,o,p,q,r⟩) s
def p58_8 (k:KC)(e:E)(s:St):Res:=dSeq p58_9 dRet k e s
def p58_7 (k:KC)(e:E)(s:St):Res:=dCond g21 p58_8 dSkip k e s
def p58_5 (k:KC)(e:E)(s:St):Res:=dSeq p58_6 p58_7 k e s
def p58_11 (k:KC)(e:E)(s:St):Res:=dDraw [⟨none, (.p (pMove g0)), u22⟩, ⟨none, (.p (pMove g0)), u23⟩, ⟨none, (.p (pUn uChk g23)), u24⟩, ⟨none, (.p (pUn (uFld 1) g24)), u25⟩, ⟨none, (.d 0 0 (dLd g25)), u26⟩, ⟨none, (.p (pMove g8)), u27⟩, ⟨none, (.p (pMove g1)), u28⟩, ⟨none, (.p (pMove g2)), u29⟩, ⟨none, (.a (aMkS 1 8 [(.i 0)] g29 g29)), u30⟩, ⟨none, (.p (pBuild [(.i 0), (.i 0), .nils, (.i 0)] [(0, 1, g27), (1, 1, g28), (2, 1, g30)])), u31⟩, ⟨none, (.a (aBSl 1 4 [(.i 0), (.i 0), .nils, (.i 0)] [(0, 4, g31)])), u32⟩, ⟨none, (.e (eApW 4 g26 g32)), u33⟩, ⟨none, (.p (pUn uChk g22)), u34⟩, ⟨none, (.p (pUn (uFld 1) g34)), u35⟩, ⟨none, (.e (eSt 1 g35 g33)), uNone⟩] k e s
def p58_13 (k:KC)(e:E)(s:St):Res:=lt (g8 e) fun v0 => ltc (V.i 0) fun v1 => .nrm (u36 (rw0 e fun a b c d f g _ _ j l m n o p q r => ⟨a,b,c,d,f,g,v0,v1,j,l,m,n,o,p,q,r⟩) v0) s
def p58_12 (k:KC)(e:E)(s:St):Res:=dSeq p58_13 dRet k e s
def p58_10 (k:KC)(e:E)(s:St):Res:=dSeq p58_11 p58_12 k e s
def p58_4 (k:KC)(e:E)(s:St):Res:=dSeq p58_5 p58_10 k e s
def p58_2 (k:KC)(e:E)(s:St):Res:=dSeq p58_3 p58_4 k e s
def p58_0 (k:KC)(e:E)(s:St):Res:=dSeq p58_1 p58_2 k e s
def F58 : FDen := ⟨[u0, u1, u2], p58_0, resV [rT g6, rT g7]⟩
theorem low58 : lowFunc tt [] fok Try.f58 = some F58 := by kernel_rfl
theorem run58 : FRun Try.prog [] 58 F58 := FRun.of (lowFunc_ok ttOk fokOk mixed Try.func58 low58)
def p59_1 (k:KC)(e:E)(s:St):Res:=ltc (V.bool false) fun v0 => .nrm (u6 e v0) s
def p59_4 (k:KC)(e:E)(s:St):Res:=lt (g0 e) fun v0 => lt (g1 e) fun v1 => lt (g2 e) fun v2 => bE ((eCall 52 [(cV v0), (cV v1), (cV v2)]) k e s) fun v3 s => bP ((pUn (uExt 0) (cV v3)) e) fun v4 => bP ((pUn (uExt 1) (cV v3)) e) fun v5 => .nrm (u16 (rw0 e fun a b c d f g h _ _ l _ _ _ _ _ _ => ⟨a,b,c,d,f,g,h,v4,v5,l,v3,v0,v1,v2,v3,v4⟩) v5) s
def p59_6 (k:KC)(e:E)(s:St):Res:=lt (g8 e) fun v0 => bP ((pUn uNot (cV v0)) e) fun v1 => .nrm (rw1 e fun a _ _ d f g h i j l m n o p q r => ⟨a,v0,v1,d,f,g,h,i,j,l,m,n,o,p,q,r⟩) s
def p59_9 (k:KC)(e:E)(s:St):Res:=ltc (V.bool false) fun v0 => .nrm (u6 e v0) s
def p59_8 (k:KC)(e:E)(s:St):Res:=dSeq p59_9 dRet k e s
def p59_7 (k:KC)(e:E)(s:St):Res:=dCond g18 p59_8 dSkip k e s
def p59_5 (k:KC)(e:E)(s:St):Res:=dSeq p59_6 p59_7 k e s
def p59_3 (k:KC)(e:E)(s:St):Res:=dSeq p59_4 p59_5 k e s
def p59_11 (k:KC)(e:E)(s:St):Res:=lt (g0 e) fun v0 => lt (g1 e) fun v1 => bE ((eCall 24 [(cV v0), (cV v1)]) k e s) fun v2 s => .nrm (rw1 (u9 e v2) fun a b c _ _ _ h i j l m n o p q r => ⟨a,b,c,v0,v1,v2,h,i,j,l,m,n,o,p,q,r⟩) s
def p59_13 (k:KC)(e:E)(s:St):Res:=lt (g9 e) fun v0 => .nrm (u22 e v0) s
def p59_16 (k:KC)(e:E)(s:St):Res:=bP ((pBin (bI fEq) g22 (cV (.i (-2)))) e) fun v0 => .nrm (rw2 e fun a _ _ d f g h i j l m n o p q r => ⟨a,v0,v0,d,f,g,h,i,j,l,m,n,o,p,q,r⟩) s
def p59_19 (k:KC)(e:E)(s:St):Res:=ltc (V.bool true) fun v0 => .nrm (u6 e v0) s
def p59_18 (k:KC)(e:E)(s:St):Res:=dSeq p59_19 dRet k e s
def p59_21 (k:KC)(e:E)(s:St):Res:=bP ((pBin (bI fEq) g22 (cV (.i (-1)))) e) fun v0 => .nrm (rw2 e fun a b c _ _ g h i j l m n o p q r => ⟨a,b,c,v0,v0,g,h,i,j,l,m,n,o,p,q,r⟩) s
def p59_24 (k:KC)(e:E)(s:St):Res:=ltc (V.bool false) fun v0 => .nrm (u6 e v0) s
def p59_23 (k:KC)(e:E)(s:St):Res:=dSeq p59_24 dRet k e s
def p59_26 (k:KC)(e:E)(s:St):Res:=lt (g0 e) fun v0 => bP ((pUn uChk (cV v0)) e) fun v1 => bP ((pUn (uFld 3) (cV v1)) e) fun v2 => bP ((dLd (cV v2)) e s) fun v3 => lt (g9 e) fun v4 => bP ((pBin (bIdx 1) (cV v3) (cV v4)) e) fun v5 => bP ((dLd (cV v5)) e s) fun v6 => lt (g2 e) fun v7 => bP ((pBin (bIdx 1) (cV v6) (cV v7)) e) fun v8 => bP ((dLd (cV v8)) e s) fun v9 => .nrm (u32 (rw1 (u6 e v9) fun a b c d f g h _ _ _ _ _ _ _ _ _ => ⟨a,b,c,d,f,g,h,v0,v1,v2,v3,v4,v5,v6,v7,v8⟩) v9) s
def p59_25 (k:KC)(e:E)(s:St):Res:=dSeq p59_26 dRet k e s
def p59_22 (k:KC)(e:E)(s:St):Res:=dCond g35 p59_23 p59_25 k e s
def p59_20 (k:KC)(e:E)(s:St):Res:=dSeq p59_21 p59_22 k e s
def p59_17 (k:KC)(e:E)(s:St):Res:=dCond g33 p59_18 p59_20 k e s
def p59_15 (k:KC)(e:E)(s:St):Res:=dSeq p59_16 p59_17 k e s
def p59_14 (k:KC)(e:E)(s:St):Res:=dBlock 0 p59_15 k e s
def p59_12 (k:KC)(e:E)(s:St):Res:=dSeq p59_13 p59_14 k e s
def p59_10 (k:KC)(e:E)(s:St):Res:=dSeq p59_11 p59_12 k e s
def p59_2 (k:KC)(e:E)(s:St):Res:=dSeq p59_3 p59_10 k e s
def p59_0 (k:KC)(e:E)(s:St):Res:=dSeq p59_1 p59_2 k e s
def F59 : FDen := ⟨[u0, u1, u2], p59_0, resV [rT g6]⟩
theorem low59 : lowFunc tt [] fok Try.f59 = some F59 := by kernel_rfl
theorem run59 : FRun Try.prog [] 59 F59 := FRun.of (lowFunc_ok ttOk fokOk mixed Try.func59 low59)
def p60_1 (k:KC)(e:E)(s:St):Res:=ltc (V.bool false) fun v0 => .nrm (u4 e v0) s
def p60_3 (k:KC)(e:E)(s:St):Res:=lt (g1 e) fun v0 => bP ((pBin (bI fGe) (cV v0) (cV (.i 0))) e) fun v1 => bP (gdV v1 true ((pMove g1) e)) fun v2 => bP (gdV v1 true ((pMove g0) e)) fun v3 => bP (gdV v1 true ((pUn uChk (cV v3)) e)) fun v4 => bP (gdV v1 true ((pUn (uFld 1) (cV v4)) e)) fun v5 => bP (gdV v1 true ((dLd (cV v5)) e s)) fun v6 => bP (gdV v1 true ((pUn uLenS (cV v6)) e)) fun v7 => bP (gdV v1 true ((pBin (bI fLt) (cV v2) (cV v7)) e)) fun v8 => bP ((pPick (cV v1) (cV v8) (cV (.bool false))) e) fun v9 => bP (gdV v9 true ((pMove g1) e)) fun v10 => bP (gdV v9 true ((pBin (bI fEq) (cV v10) (cV (.i 0))) e)) fun v11 => bP (gdV v9 true ((pMove (cV v11)) e)) fun v12 => bP (gdV v12 false ((pMove g0) e)) fun v13 => bP (gdV v12 false ((pMove g1) e)) fun v14 => bE (gdW v12 false s ((eCall 51 [(cV v13), (cV v14)]) k e s)) fun v15 s => bP (gdV v9 true ((pPick (cV v12) (cV (.bool true)) (cV v15)) e)) fun v16 => bP ((pPick (cV v9) (cV v16) (cV (.bool false))) e) fun v17 => .nrm (rw1 (rw0 e fun a b c d _ _ _ _ _ _ _ _ _ _ _ _ => ⟨a,b,c,d,v17,v0,v1,v1,v2,v3,v4,v5,v6,v7,v8,v9⟩) fun _ _ _ _ _ _ _ _ _ l m n o p q r => ⟨v9,v10,v11,v12,v13,v14,v15,v16,v17,l,m,n,o,p,q,r⟩) s
def p60_2 (k:KC)(e:E)(s:St):Res:=dSeq p60_3 dRet k e s
def p60_0 (k:KC)(e:E)(s:St):Res:=dSeq p60_1 p60_2 k e s
def F60 : FDen := ⟨[u0, u1], p60_0, resV [rT g4]⟩
theorem low60 : lowFunc tt [] fok Try.f60 = some F60 := by kernel_rfl
theorem run60 : FRun Try.prog [] 60 F60 := FRun.of (lowFunc_ok ttOk fokOk mixed Try.func60 low60)
def p61_1 (k:KC)(e:E)(s:St):Res:=ltc (V.bool false) fun v0 => .nrm (u4 e v0) s
def p61_3 (k:KC)(e:E)(s:St):Res:=lt (g0 e) fun v0 => lt (g1 e) fun v1 => bE ((eCall 72 [(cV v0), (cV v1)]) k e s) fun v2 s => bP ((pBin (bI fGe) (cV v2) (cV (.i 0))) e) fun v3 => .nrm (rw0 e fun a b c d _ _ _ _ _ l m n o p q r => ⟨a,b,c,d,v3,v0,v1,v2,v3,l,m,n,o,p,q,r⟩) s
def p61_2 (k:KC)(e:E)(s:St):Res:=dSeq p61_3 dRet k e s
def p61_0 (k:KC)(e:E)(s:St):Res:=dSeq p61_1 p61_2 k e s
def F61 : FDen := ⟨[u0, u1], p61_0, resV [rT g4]⟩
theorem low61 : lowFunc tt [] fok Try.f61 = some F61 := by kernel_rfl
theorem run61 : FRun Try.prog [] 61 F61 := FRun.of (lowFunc_ok ttOk fokOk mixed Try.func61 low61)
def p62_1 (k:KC)(e:E)(s:St):Res:=ltc (V.bool false) fun v0 => .nrm (u3 e v0) s
def p62_3 (k:KC)(e:E)(s:St):Res:=bP ((dLd g1) e s) fun v0 => lt (g0 e) fun v1 => bE ((eCall 53 [(cV v0), (cV v1)]) k e s) fun v2 s => bP ((pUn uNot (cV v2)) e) fun v3 => .nrm (rw0 e fun a b c _ _ _ _ _ j l m n o p q r => ⟨a,b,c,v3,v0,v1,v2,v3,j,l,m,n,o,p,q,r⟩) s
def p62_2 (k:KC)(e:E)(s:St):Res:=dSeq p62_3 dRet k e s
def p62_0 (k:KC)(e:E)(s:St):Res:=dSeq p62_1 p62_2 k e s
def F62 : FDen := ⟨[u0, u1], p62_0, resV [rT g3]⟩
theorem low62 : lowFunc tt [] fok Try.f62 = some F62 := by kernel_rfl
theorem run62 : FRun Try.prog [] 62 F62 := FRun.of (lowFunc_ok ttOk fokOk mixed Try.func62 low62)
def p63_2 (k:KC)(e:E)(s:St):Res:=lt (g1 e) fun v0 => bP ((pUn uLenS (cV v0)) e) fun v1 => ltc (V.i 0) fun v2 => .nrm (rw0 e fun a b c d f g h i j l _ _ _ p q r => ⟨a,b,c,d,f,g,h,i,j,l,v0,v1,v2,p,q,r⟩) s
def p63_6 (k:KC)(e:E)(s:St):Res:=bP ((pBin (bI fLt) g12 g11) e) fun v0 => .nrm (u13 e v0) s
def p63_8 (k:KC)(e:E)(s:St):Res:=dCond g13 dSkip (dExit 0) k e s
def p63_12 (k:KC)(e:E)(s:St):Res:=bP ((pBin (bIdx 1) g10 g12) e) fun v0 => bP ((dLd (cV v0)) e s) fun v1 => .nrm (rw0 e fun a b c d f _ h i j l m n o p _ _ => ⟨a,b,c,d,f,v1,h,i,j,l,m,n,o,p,v0,v1⟩) s
def p63_13 (k:KC)(e:E)(s:St):Res:=lt (g0 e) fun v0 => lt (g5 e) fun v1 => bE ((eCall 73 [(cV v0), (cV v1)]) k e s) fun v2 s => .nrm (rw1 e fun _ _ _ d f g h i j l m n o p q r => ⟨v0,v1,v2,d,f,g,h,i,j,l,m,n,o,p,q,r⟩) s
def p63_11 (k:KC)(e:E)(s:St):Res:=dSeq p63_12 p63_13 k e s
def p63_10 (k:KC)(e:E)(s:St):Res:=dBlock 1 p63_11 k e s
def p63_14 (k:KC)(e:E)(s:St):Res:=bP ((pBin (bI fAdd) g12 (cV (.i 1))) e) fun v0 => .nrm (u19 (u12 e v0) v0) s
def p63_9 (k:KC)(e:E)(s:St):Res:=dSeq p63_10 p63_14 k e s
def p63_7 (k:KC)(e:E)(s:St):Res:=dSeq p63_8 p63_9 k e s
def p63_5 (k:KC)(e:E)(s:St):Res:=dSeq p63_6 p63_7 k e s
def p63_4 (k:KC)(e:E)(s:St):Res:=dLoop p63_5 k e s
def p63_3 (k:KC)(e:E)(s:St):Res:=dBlock 0 p63_4 k e s
def p63_1 (k:KC)(e:E)(s:St):Res:=dSeq p63_2 p63_3 k e s
def p63_19 (k:KC)(e:E)(s:St):Res:=lt (g0 e) fun v0 => bP ((pUn uChk (cV v0)) e) fun v1 => bP ((pUn (uFld 2) (cV v1)) e) fun v2 => bP ((dLd (cV v2)) e s) fun v3 => bP ((pUn uLenS (cV v3)) e) fun v4 => bP ((pBin (bI fGt) (cV v4) (cV (.i 0))) e) fun v5 => .nrm (rw1 e fun a b c d _ _ _ _ _ _ m n o p q r => ⟨a,b,c,d,v0,v1,v2,v3,v4,v5,m,n,o,p,q,r⟩) s
def p63_20 (k:KC)(e:E)(s:St):Res:=dCond g25 dSkip (dExit 2) k e s
def p63_18 (k:KC)(e:E)(s:St):Res:=dSeq p63_19 p63_20 k e s
def p63_23 (k:KC)(e:E)(s:St):Res:=lt (g0 e) fun v0 => bP ((pUn uChk (cV v0)) e) fun v1 => bP ((pUn (uFld 2) (cV v1)) e) fun v2 => bP ((dLd (cV v2)) e s) fun v3 => lt (g0 e) fun v4 => bP ((pUn uChk (cV v4)) e) fun v5 => bP ((pUn (uFld 2) (cV v5)) e) fun v6 => bP ((dLd (cV v6)) e s) fun v7 => bP ((pUn uLenS (cV v7)) e) fun v8 => bP ((pBin (bI fSub) (cV v8) (cV (.i 1))) e) fun v9 => bP ((pBin (bIdx 1) (cV v3) (cV v9)) e) fun v10 => bP ((dLd (cV v10)) e s) fun v11 => .nrm (rw2 (rw1 (u6 e v11) fun a b c d f g h i j l _ _ _ _ _ _ => ⟨a,b,c,d,f,g,h,i,j,l,v0,v1,v2,v3,v4,v5⟩) fun _ _ _ _ _ _ h i j l m n o p q r => ⟨v6,v7,v8,v9,v10,v11,h,i,j,l,m,n,o,p,q,r⟩) s
def p63_25 (k:KC)(e:E)(s:St):Res:=lt (g0 e) fun v0 => lt (g0 e) fun v1 => bP ((pUn uChk (cV v1)) e) fun v2 => bP ((pUn (uFld 2) (cV v2)) e) fun v3 => bP ((dLd (cV v3)) e s) fun v4 => lt (g0 e) fun v5 => bP ((pUn uChk (cV v5)) e) fun v6 => bP ((pUn (uFld 2) (cV v6)) e) fun v7 => bP ((dLd (cV v7)) e s) fun v8 => bP ((pUn uLenS (cV v8)) e) fun v9 => bP ((pBin (bI fSub) (cV v9) (cV (.i 1))) e) fun v10 => bP ((pSl 1 (cV v4) none (some (cV v10)) none) e) fun v11 => bP ((pUn uChk (cV v0)) e) fun v12 => bP ((pUn (uFld 2) (cV v12)) e) fun v13 => bE ((eSt 1 (cV v13) (cV v11)) k e s) fun v14 s => .nrm (rw3 (rw2 e fun a b c d f g _ _ _ _ _ _ _ _ _ _ => ⟨a,b,c,d,f,g,v0,v1,v2,v3,v4,v5,v6,v7,v8,v9⟩) fun _ _ _ _ f g h i j l m n o p q r => ⟨v10,v11,v12,v13,f,g,h,i,j,l,m,n,o,p,q,r⟩) s
def p63_27 (k:KC)(e:E)(s:St):Res:=lt (g0 e) fun v0 => bP ((pUn uChk (cV v0)) e) fun v1 => bP ((pUn (uFld 0) (cV v1)) e) fun v2 => bP ((dLd (cV v2)) e s) fun v3 => lt (g6 e) fun v4 => bE ((eCall 50 [(cV v3), (cV v4)]) k e s) fun v5 s => ltc (V.i 0) fun v6 => .nrm (rw3 e fun a b c d _ _ _ _ _ _ _ n o p q r => ⟨a,b,c,d,v0,v1,v2,v3,v4,v5,v6,n,o,p,q,r⟩) s
def p63_31 (k:KC)(e:E)(s:St):Res:=bP ((pBin (bI fLt) g58 g57) e) fun v0 => .nrm (u59 e v0) s
def p63_33 (k:KC)(e:E)(s:St):Res:=dCond g59 dSkip (dExit 4) k e s
def p63_37 (k:KC)(e:E)(s:St):Res:=lt (g58 e) fun v0 => .nrm (u60 (u7 e v0) v0) s
def p63_39 (k:KC)(e:E)(s:St):Res:=lt (g0 e) fun v0 => bP ((pUn uChk (cV v0)) e) fun v1 => bP ((pUn (uFld 3) (cV v1)) e) fun v2 => bP ((dLd (cV v2)) e s) fun v3 => bP ((pBin (bI fAdd) (cV v3) (cV (.i 1))) e) fun v4 => bP ((pUn uChk (cV v0)) e) fun v5 => bP ((pUn (uFld 3) (cV v5)) e) fun v6 => bE ((eSt 1 (cV v6) (cV v4)) k e s) fun v7 s => .nrm (rw4 (rw3 e fun a b c d f g h i j l m n o _ _ _ => ⟨a,b,c,d,f,g,h,i,j,l,m,n,o,v0,v1,v2⟩) fun _ _ _ _ f g h i j l m n o p q r => ⟨v3,v4,v5,v6,f,g,h,i,j,l,m,n,o,p,q,r⟩) s
def p63_41 (k:KC)(e:E)(s:St):Res:=lt (g0 e) fun v0 => bP ((pUn uChk (cV v0)) e) fun v1 => bP ((pUn (uFld 0) (cV v1)) e) fun v2 => bP ((dLd (cV v2)) e s) fun v3 => lt (g6 e) fun v4 => lt (g7 e) fun v5 => bE ((eCall 59 [(cV v3), (cV v4), (cV v5)]) k e s) fun v6 s => .nrm (rw4 e fun a b c d _ _ _ _ _ _ _ n o p q r => ⟨a,b,c,d,v0,v1,v2,v3,v4,v5,v6,n,o,p,q,r⟩) s
def p63_44 (k:KC)(e:E)(s:St):Res:=lt (g0 e) fun v0 => bP ((pUn uChk (cV v0)) e) fun v1 => bP ((pUn (uFld 0) (cV v1)) e) fun v2 => bP ((dLd (cV v2)) e s) fun v3 => lt (g6 e) fun v4 => lt (g7 e) fun v5 => bE ((eCall 26 [(cV v3), (cV v4), (cV v5)]) k e s) fun v6 s => bP ((pUn (uExt 0) (cV v6)) e) fun v7 => bP ((pUn (uExt 1) (cV v6)) e) fun v8 => .nrm (rw5 (rw4 (rw0 e fun a b c d f g h i _ _ m n o p q r => ⟨a,b,c,d,f,g,h,i,v7,v8,m,n,o,p,q,r⟩) fun a b c d f g h i j l m _ _ _ _ _ => ⟨a,b,c,d,f,g,h,i,j,l,m,v6,v0,v1,v2,v3⟩) fun _ _ _ _ _ g h i j l m n o p q r => ⟨v4,v5,v6,v7,v8,g,h,i,j,l,m,n,o,p,q,r⟩) s
def p63_45 (k:KC)(e:E)(s:St):Res:=lt (g0 e) fun v0 => lt (g8 e) fun v1 => bE ((eCall 73 [(cV v0), (cV v1)]) k e s) fun v2 s => .nrm (rw5 e fun a b c d f _ _ _ j l m n o p q r => ⟨a,b,c,d,f,v0,v1,v2,j,l,m,n,o,p,q,r⟩) s
def p63_43 (k:KC)(e:E)(s:St):Res:=dSeq p63_44 p63_45 k e s
def p63_42 (k:KC)(e:E)(s:St):Res:=dCond g74 p63_43 dSkip k e s
def p63_40 (k:KC)(e:E)(s:St):Res:=dSeq p63_41 p63_42 k e s
def p63_38 (k:KC)(e:E)(s:St):Res:=dSeq p63_39 p63_40 k e s
def p63_36 (k:KC)(e:E)(s:St):Res:=dSeq p63_37 p63_38 k e s
def p63_35 (k:KC)(e:E)(s:St):Res:=dBlock 5 p63_36 k e s
def p63_46 (k:KC)(e:E)(s:St):Res:=bP ((pBin (bI fAdd) g58 (cV (.i 1))) e) fun v0 => .nrm (u88 (u58 e v0) v0) s
def p63_34 (k:KC)(e:E)(s:St):Res:=dSeq p63_35 p63_46 k e s
def p63_32 (k:KC)(e:E)(s:St):Res:=dSeq p63_33 p63_34 k e s
def p63_30 (k:KC)(e:E)(s:St):Res:=dSeq p63_31 p63_32 k e s
def p63_29 (k:KC)(e:E)(s:St):Res:=dLoop p63_30 k e s
def p63_28 (k:KC)(e:E)(s:St):Res:=dBlock 4 p63_29 k e s
def p63_26 (k:KC)(e:E)(s:St):Res:=dSeq p63_27 p63_28 k e s
def p63_24 (k:KC)(e:E)(s:St):Res:=dSeq p63_25 p63_26 k e s
def p63_22 (k:KC)(e:E)(s:St):Res:=dSeq p63_23 p63_24 k e s
def p63_21 (k:KC)(e:E)(s:St):Res:=dBlock 3 p63_22 k e s
def p63_17 (k:KC)(e:E)(s:St):Res:=dSeq p63_18 p63_21 k e s
def p63_16 (k:KC)(e:E)(s:St):Res:=dLoop p63_17 k e s
def p63_15 (k:KC)(e:E)(s:St):Res:=dBlock 2 p63_16 k e s
def p63_0 (k:KC)(e:E)(s:St):Res:=dSeq p63_1 p63_15 k e s
def F63 : FDen := ⟨[u0, u1], p63_0, resV []⟩
theorem low63 : lowFunc tt [] fok Try.f63 = some F63 := by kernel_rfl
theorem run63 : FRun Try.prog [] 63 F63 := FRun.of (lowFunc_ok ttOk fokOk mixed Try.func63 low63)
def p71_1 (k:KC)(e:E)(s:St):Res:=ltc (V.i 0) fun v0 => .nrm (u2 e v0) s
def p71_3 (k:KC)(e:E)(s:St):Res:=lt (g0 e) fun v0 => bP ((pUn uChk (cV v0)) e) fun v1 => bP ((pUn (uFld 0) (cV v1)) e) fun v2 => bP ((dLd (cV v2)) e s) fun v3 => bP ((pUn uLenS (cV v3)) e) fun v4 => bP ((pBin (bI fSub) (cV v4) (cV (.i 1))) e) fun v5 => .nrm (rw0 e fun a b _ _ _ _ _ _ _ l m n o p q r => ⟨a,b,v5,v0,v1,v2,v3,v4,v5,l,m,n,o,p,q,r⟩) s
def p71_2 (k:KC)(e:E)(s:St):Res:=dSeq p71_3 dRet k e s
def p71_0 (k:KC)(e:E)(s:St):Res:=dSeq p71_1 p71_2 k e s
def F71 : FDen := ⟨[u0], p71_0, resV [rT g2]⟩
theorem low71 : lowFunc tt [] fok Try.f71 = some F71 := by kernel_rfl
theorem run71 : FRun Try.prog [] 71 F71 := FRun.of (lowFunc_ok ttOk fokOk mixed Try.func71 low71)
def p72_1 (k:KC)(e:E)(s:St):Res:=ltc (V.i 0) fun v0 => .nrm (u4 e v0) s
def p72_4 (k:KC)(e:E)(s:St):Res:=lt (g0 e) fun v0 => bP ((pUn uLenS (cV v0)) e) fun v1 => ltc (V.i 0) fun v2 => .nrm (rw0 e fun a b c d f g _ _ _ l m n o p q r => ⟨a,b,c,d,f,g,v0,v1,v2,l,m,n,o,p,q,r⟩) s
def p72_8 (k:KC)(e:E)(s:St):Res:=bP ((pBin (bI fLt) g8 g7) e) fun v0 => .nrm (u9 e v0) s
def p72_10 (k:KC)(e:E)(s:St):Res:=dCond g9 dSkip (dExit 0) k e s
def p72_14 (k:KC)(e:E)(s:St):Res:=lt (g8 e) fun v0 => .nrm (rw0 e fun a b c d f _ h i j l _ n o p q r => ⟨a,b,c,d,f,v0,h,i,j,l,v0,n,o,p,q,r⟩) s
def p72_16 (k:KC)(e:E)(s:St):Res:=lt (g1 e) fun v0 => lt (g0 e) fun v1 => lt (g5 e) fun v2 => bP ((pBin (bIdx 1) (cV v1) (cV v2)) e) fun v3 => bP ((dLd (cV v3)) e s) fun v4 => bE ((eCallV fok (cV v0) [(cV v4)]) k e s) fun v5 s => .nrm (u16 (rw0 e fun a b c d f g h i j l m _ _ _ _ _ => ⟨a,b,c,d,f,g,h,i,j,l,m,v0,v1,v2,v3,v4⟩) v5) s
def p72_19 (k:KC)(e:E)(s:St):Res:=lt (g5 e) fun v0 => .nrm (u17 (u4 e v0) v0) s
def p72_18 (k:KC)(e:E)(s:St):Res:=dSeq p72_19 dRet k e s
def p72_17 (k:KC)(e:E)(s:St):Res:=dCond g16 p72_18 dSkip k e s
def p72_15 (k:KC)(e:E)(s:St):Res:=dSeq p72_16 p72_17 k e s
def p72_13 (k:KC)(e:E)(s:St):Res:=dSeq p72_14 p72_15 k e s
def p72_12 (k:KC)(e:E)(s:St):Res:=dBlock 1 p72_13 k e s
def p72_20 (k:KC)(e:E)(s:St):Res:=bP ((pBin (bI fAdd) g8 (cV (.i 1))) e) fun v0 => .nrm (u18 (u8 e v0) v0) s
def p72_11 (k:KC)(e:E)(s:St):Res:=dSeq p72_12 p72_20 k e s
def p72_9 (k:KC)(e:E)(s:St):Res:=dSeq p72_10 p72_11 k e s
def p72_7 (k:KC)(e:E)(s:St):Res:=dSeq p72_8 p72_9 k e s
def p72_6 (k:KC)(e:E)(s:St):Res:=dLoop p72_7 k e s
def p72_5 (k:KC)(e:E)(s:St):Res:=dBlock 0 p72_6 k e s
def p72_3 (k:KC)(e:E)(s:St):Res:=dSeq p72_4 p72_5 k e s
def p72_22 (k:KC)(e:E)(s:St):Res:=ltc (V.i (-1)) fun v0 => .nrm (u4 e v0) s
def p72_21 (k:KC)(e:E)(s:St):Res:=dSeq p72_22 dRet k e s
def p72_2 (k:KC)(e:E)(s:St):Res:=dSeq p72_3 p72_21 k e s
def p72_0 (k:KC)(e:E)(s:St):Res:=dSeq p72_1 p72_2 k e s
def F72 : FDen := ⟨[u0, u1], p72_0, resV [rT g4]⟩
theorem low72 : lowFunc tt [] fok Try.f72 = some F72 := by kernel_rfl
theorem run72 : FRun Try.prog [] 72 F72 := FRun.of (lowFunc_ok ttOk fokOk mixed Try.func72 low72)
def p73_1 (k:KC)(e:E)(s:St):Res:=lt (g0 e) fun v0 => bP ((pUn uChk (cV v0)) e) fun v1 => bP ((pUn (uFld 3) (cV v1)) e) fun v2 => bP ((dLd (cV v2)) e s) fun v3 => bP ((pBin (bI fAdd) (cV v3) (cV (.i 1))) e) fun v4 => bP ((pUn uChk (cV v0)) e) fun v5 => bP ((pUn (uFld 3) (cV v5)) e) fun v6 => bE ((eSt 1 (cV v6) (cV v4)) k e s) fun v7 s => .nrm (rw0 e fun a b c d f g _ _ _ _ _ _ _ p q r => ⟨a,b,c,d,f,g,v0,v1,v2,v3,v4,v5,v6,p,q,r⟩) s
def p73_4 (k:KC)(e:E)(s:St):Res:=lt (g0 e) fun v0 => bP ((pUn uChk (cV v0)) e) fun v1 => bP ((pUn (uFld 1) (cV v1)) e) fun v2 => bP ((dLd (cV v2)) e s) fun v3 => lt (g1 e) fun v4 => bP ((dLk eqKI (.i 0) true (cV v3) (cV v4)) e s) fun v5 => bP ((pUn (uExt 0) (cV v5)) e) fun v6 => bP ((pUn (uExt 1) (cV v5)) e) fun v7 => .nrm (rw1 (rw0 e fun a b c d _ _ h i j l m n o _ _ _ => ⟨a,b,c,d,v6,v7,h,i,j,l,m,n,o,v5,v0,v1⟩) fun _ _ _ _ _ _ h i j l m n o p q r => ⟨v2,v3,v4,v5,v6,v7,h,i,j,l,m,n,o,p,q,r⟩) s
def p73_6 (k:KC)(e:E)(s:St):Res:=lt (g5 e) fun v0 => bP (gdV v0 false ((pMove g1) e)) fun v1 => bP (gdV v0 false ((pBin (bI fEq) (cV v1) (cV (.i 0))) e)) fun v2 => bP ((pPick (cV v0) (cV (.bool true)) (cV v2)) e) fun v3 => .nrm (rw1 e fun a b c d f g _ _ _ _ _ n o p q r => ⟨a,b,c,d,f,g,v0,v0,v1,v2,v3,n,o,p,q,r⟩) s
def p73_7 (k:KC)(e:E)(s:St):Res:=dCond g26 dRet dSkip k e s
def p73_5 (k:KC)(e:E)(s:St):Res:=dSeq p73_6 p73_7 k e s
def p73_3 (k:KC)(e:E)(s:St):Res:=dSeq p73_4 p73_5 k e s
def p73_9 (k:KC)(e:E)(s:St):Res:=lt (g0 e) fun v0 => bP ((pUn uChk (cV v0)) e) fun v1 => bP ((pUn (uFld 1) (cV v1)) e) fun v2 => bP ((dLd (cV v2)) e s) fun v3 => lt (g1 e) fun v4 => lt (g0 e) fun v5 => bP ((pUn uChk (cV v5)) e) fun v6 => bP ((pUn (uFld 1) (cV v6)) e) fun v7 => bP ((dLd (cV v7)) e s) fun v8 => bP ((dLenM (cV v8)) e s) fun v9 => bE ((eMu eqKI (cV v3) (cV v4) (cV v9)) k e s) fun v10 s => .nrm (rw2 (rw1 e fun a b c d f g h i j l m _ _ _ _ _ => ⟨a,b,c,d,f,g,h,i,j,l,m,v0,v1,v2,v3,v4⟩) fun _ _ _ _ _ g h i j l m n o p q r => ⟨v5,v6,v7,v8,v9,g,h,i,j,l,m,n,o,p,q,r⟩) s
def p73_10 (k:KC)(e:E)(s:St):Res:=lt (g0 e) fun v0 => lt (g0 e) fun v1 => bP ((pUn uChk (cV v1)) e) fun v2 => bP ((pUn (uFld 2) (cV v2)) e) fun v3 => bP ((dLd (cV v3)) e s) fun v4 => lt (g1 e) fun v5 => bE (aSt ((aBSl 1 1 [(.i 0)] [(0, 1, (cV v5))]) e s.next) s) fun v6 s => bE ((eAp8 1 (cV v4) (cV v6)) k e s) fun v7 s => bP ((pUn uChk (cV v0)) e) fun v8 => bP ((pUn (uFld 2) (cV v8)) e) fun v9 => bE ((eSt 1 (cV v9) (cV v7)) k e s) fun v10 s => .nrm (rw2 e fun a b c d f _ _ _ _ _ _ _ _ _ _ r => ⟨a,b,c,d,f,v0,v1,v2,v3,v4,v5,v6,v7,v8,v9,r⟩) s
def p73_8 (k:KC)(e:E)(s:St):Res:=dSeq p73_9 p73_10 k e s
def p73_2 (k:KC)(e:E)(s:St):Res:=dSeq p73_3 p73_8 k e s
def p73_0 (k:KC)(e:E)(s:St):Res:=dSeq p73_1 p73_2 k e s
def F73 : FDen := ⟨[u0, u1], p73_0, resV []⟩
theorem low73 : lowFunc tt [] fok Try.f73 = some F73 := by kernel_rfl
theorem run73 : FRun Try.prog [] 73 F73 := FRun.of (lowFunc_ok ttOk fokOk mixed Try.func73 low73)
end
end Go.Proofs.YtgkcpceppmppfaaLab
