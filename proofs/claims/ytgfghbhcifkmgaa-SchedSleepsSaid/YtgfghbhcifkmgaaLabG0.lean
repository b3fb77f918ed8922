/- The lab: this program's functions, in pieces. -/
import Derived.Test.YtgfghbhcifkmgaaLabT0
namespace Go.Proofs.YtgfghbhcifkmgaaLab
open Go
set_option linter.unusedVariables false
set_option maxRecDepth 100000
noncomputable section
/-- carafe/carafelaw17.SchedPicks -/
def p5_1 (k : KC) (e : E) (s : St) : Res := ltc (V.bool false) fun v0 => .nrm (u6 e v0) s
def p5_3 (k : KC) (e : E) (s : St) : Res := bE ((eCall 10 []) k e s) fun v0 s => .nrm (rw0 e fun a b c d f g h _ j l m n o p q _ => ⟨a,b,c,d,f,g,h,v0,j,l,m,n,o,p,q,v0⟩) s
def p5_6 (k : KC) (e : E) (s : St) : Res := lt (g7 e) fun v0 => bP ((pBin (bNil false nilP) (cV v0) (cV .nilp)) e) fun v1 => .nrm (rw1 e fun _ _ c d f g h i j l m n o p q r => ⟨v0,v1,c,d,f,g,h,i,j,l,m,n,o,p,q,r⟩) s
def p5_9 (k : KC) (e : E) (s : St) : Res := ltc (V.bool false) fun v0 => .nrm (u6 e v0) s
def p5_8 (k : KC) (e : E) (s : St) : Res := dSeq p5_9 dRet k e s
def p5_7 (k : KC) (e : E) (s : St) : Res := dCond g17 p5_8 dSkip k e s
def p5_5 (k : KC) (e : E) (s : St) : Res := dSeq p5_6 p5_7 k e s
def p5_11 (k : KC) (e : E) (s : St) : Res := lt (g0 e) fun v0 => bE ((eCall 11 [(cV v0), (cV (.i 0)), (cV (.i 7))]) k e s) fun v1 s => bP ((pBin (bI fAdd) (cV (.i 1)) (cV v1)) e) fun v2 => .nrm (rw1 (u0 e v2) fun a b _ _ _ g h i j l m n o p q r => ⟨a,b,v0,v1,v2,g,h,i,j,l,m,n,o,p,q,r⟩) s
def p5_13 (k : KC) (e : E) (s : St) : Res := ltc (V.nils) fun v0 => .nrm (u8 e v0) s
def p5_16 (k : KC) (e : E) (s : St) : Res := ltc (V.i 0) fun v0 => .nrm (u9 e v0) s
def p5_21 (k : KC) (e : E) (s : St) : Res := lt (g9 e) fun v0 => lt (g0 e) fun v1 => bP ((pBin (bI fLt) (cV v0) (cV v1)) e) fun v2 => .nrm (rw1 e fun a b c d f _ _ _ j l m n o p q r => ⟨a,b,c,d,f,v0,v1,v2,j,l,m,n,o,p,q,r⟩) s
def p5_22 (k : KC) (e : E) (s : St) : Res := dCond g23 dSkip (dExit 0) k e s
def p5_20 (k : KC) (e : E) (s : St) : Res := dSeq p5_21 p5_22 k e s
def p5_26 (k : KC) (e : E) (s : St) : Res := lt (g7 e) fun v0 => bE ((eCall 12 [(cV v0)]) k e s) fun v1 s => .nrm (rw1 e fun a b c d f g h i j l _ _ o p q r => ⟨a,b,c,d,f,g,h,i,j,l,v0,v1,o,p,q,r⟩) s
def p5_28 (k : KC) (e : E) (s : St) : Res := lt (g9 e) fun v0 => lt (g1 e) fun v1 => bP ((pUn uLenS (cV v1)) e) fun v2 => bP ((pBin (bI fLt) (cV v0) (cV v2)) e) fun v3 => bP (gdV v3 true ((pMove g1) e)) fun v4 => bP (gdV v3 true ((pMove g9) e)) fun v5 => bP (gdV v3 true ((pBin (bIdx 1) (cV v4) (cV v5)) e)) fun v6 => bP (gdV v3 true ((dLd (cV v6)) e s)) fun v7 => bP ((pPick (cV v3) (cV v7) (cV (.bool false))) e) fun v8 => .nrm (rw2 (rw1 e fun a b c d f g h i j l m n _ _ _ _ => ⟨a,b,c,d,f,g,h,i,j,l,m,n,v0,v1,v2,v3⟩) fun _ _ _ _ _ _ h i j l m n o p q r => ⟨v3,v4,v5,v6,v7,v8,h,i,j,l,m,n,o,p,q,r⟩) s
def p5_30 (k : KC) (e : E) (s : St) : Res := lt (g7 e) fun v0 => lt (g9 e) fun v1 => bE ((eCall 20 [(cV v0), (cV v1), (cV (.i 5))]) k e s) fun v2 s => .nrm (rw2 e fun a b c d f g _ _ _ l m n o p q r => ⟨a,b,c,d,f,g,v0,v1,v2,l,m,n,o,p,q,r⟩) s
def p5_31 (k : KC) (e : E) (s : St) : Res := lt (g8 e) fun v0 => lt (g9 e) fun v1 => bE (aSt ((aBSl 1 1 [(.i 0)] [(0, 1, (cV v1))]) e s.next) s) fun v2 s => bE ((eAp 1 (cV v0) (cV v2)) k e s) fun v3 s => .nrm (rw2 (u8 e v3) fun a b c d f g h i j _ _ _ _ p q r => ⟨a,b,c,d,f,g,h,i,j,v0,v1,v2,v3,p,q,r⟩) s
def p5_29 (k : KC) (e : E) (s : St) : Res := dCond g37 p5_30 p5_31 k e s
def p5_27 (k : KC) (e : E) (s : St) : Res := dSeq p5_28 p5_29 k e s
def p5_25 (k : KC) (e : E) (s : St) : Res := dSeq p5_26 p5_27 k e s
def p5_24 (k : KC) (e : E) (s : St) : Res := dBlock 1 p5_25 k e s
def p5_32 (k : KC) (e : E) (s : St) : Res := lt (g9 e) fun v0 => bP ((pBin (bI fAdd) (cV v0) (cV (.i 1))) e) fun v1 => .nrm (rw1 (u9 e v1) fun a b c d f g h i _ _ m n o p q r => ⟨a,b,c,d,f,g,h,i,v0,v1,m,n,o,p,q,r⟩) s
def p5_23 (k : KC) (e : E) (s : St) : Res := dSeq p5_24 p5_32 k e s
def p5_19 (k : KC) (e : E) (s : St) : Res := dSeq p5_20 p5_23 k e s
def p5_18 (k : KC) (e : E) (s : St) : Res := dLoop p5_19 k e s
def p5_17 (k : KC) (e : E) (s : St) : Res := dBlock 0 p5_18 k e s
def p5_15 (k : KC) (e : E) (s : St) : Res := dSeq p5_16 p5_17 k e s
def p5_34 (k : KC) (e : E) (s : St) : Res := lt (g2 e) fun v0 => bE ((eCall 11 [(cV v0), (cV (.i 0)), (cV (.i 1000))]) k e s) fun v1 s => .nrm (rw2 (u2 e v1) fun a b c d f g h i j l m n o _ _ r => ⟨a,b,c,d,f,g,h,i,j,l,m,n,o,v0,v1,r⟩) s
def p5_37 (k : KC) (e : E) (s : St) : Res := ltc (V.i 0) fun v0 => .nrm (u10 e v0) s
def p5_42 (k : KC) (e : E) (s : St) : Res := lt (g10 e) fun v0 => lt (g0 e) fun v1 => bP ((pBin (bI fMul) (cV (.i 2)) (cV v1)) e) fun v2 => bP ((pBin (bI fLt) (cV v0) (cV v2)) e) fun v3 => .nrm (rw3 (u47 e v0) fun _ _ _ d f g h i j l m n o p q r => ⟨v1,v2,v3,d,f,g,h,i,j,l,m,n,o,p,q,r⟩) s
def p5_43 (k : KC) (e : E) (s : St) : Res := dCond g50 dSkip (dExit 2) k e s
def p5_41 (k : KC) (e : E) (s : St) : Res := dSeq p5_42 p5_43 k e s
def p5_47 (k : KC) (e : E) (s : St) : Res := lt (g7 e) fun v0 => lt (g2 e) fun v1 => lt (g10 e) fun v2 => bP ((pBin (bI fAdd) (cV v1) (cV v2)) e) fun v3 => bE ((eCall 21 [(cV v0), (cV v3)]) k e s) fun v4 s => bP ((pUn (uExt 0) (cV v4)) e) fun v5 => bP ((pUn (uExt 1) (cV v4)) e) fun v6 => .nrm (rw3 (rw0 e fun a b c d f g h i j l m _ _ p q r => ⟨a,b,c,d,f,g,h,i,j,l,m,v5,v6,p,q,r⟩) fun a b c d f _ _ _ _ _ _ _ _ p q r => ⟨a,b,c,d,f,v4,v0,v1,v2,v3,v4,v5,v6,p,q,r⟩) s
def p5_49 (k : KC) (e : E) (s : St) : Res := lt (g7 e) fun v0 => lt (g2 e) fun v1 => lt (g10 e) fun v2 => bP ((pBin (bI fAdd) (cV v1) (cV v2)) e) fun v3 => bP ((pUn uNeg (cV v3)) e) fun v4 => bP ((pBin (bI fSub) (cV v4) (cV (.i 1))) e) fun v5 => bE ((eCall 21 [(cV v0), (cV v5)]) k e s) fun v6 s => bP ((pUn (uExt 0) (cV v6)) e) fun v7 => bP ((pUn (uExt 1) (cV v6)) e) fun v8 => .nrm (rw4 (rw3 (rw0 e fun a b c d f g h i j l m n o _ _ r => ⟨a,b,c,d,f,g,h,i,j,l,m,n,o,v7,v8,r⟩) fun a b c d f g h i j l m n o _ _ _ => ⟨a,b,c,d,f,g,h,i,j,l,m,n,o,v6,v0,v1⟩) fun _ _ _ _ _ _ _ i j l m n o p q r => ⟨v2,v3,v4,v5,v6,v7,v8,i,j,l,m,n,o,p,q,r⟩) s
def p5_51 (k : KC) (e : E) (s : St) : Res := lt (g12 e) fun v0 => lt (g8 e) fun v1 => bP ((pUn uLenS (cV v1)) e) fun v2 => bP ((pBin (bI fGt) (cV v2) (cV (.i 0))) e) fun v3 => bP ((pBin (bBool true) (cV v0) (cV v3)) e) fun v4 => bP (gdV v4 false ((pMove g14) e)) fun v5 => bP (gdV v4 false ((pMove g12) e)) fun v6 => bP (gdV v4 false ((pBin (bBool true) (cV v5) (cV v6)) e)) fun v7 => bP ((pPick (cV v4) (cV (.bool true)) (cV v7)) e) fun v8 => bP (gdV v8 false ((pMove g11) e)) fun v9 => bP (gdV v8 false ((pMove g13) e)) fun v10 => bP (gdV v8 false ((pBin (bI fNe) (cV v9) (cV v10)) e)) fun v11 => bP ((pPick (cV v8) (cV (.bool true)) (cV v11)) e) fun v12 => bP (gdV v12 false ((pMove g12) e)) fun v13 => bP (gdV v12 false ((pMove (cV v13)) e)) fun v14 => bP (gdV v14 true ((pMove g11) e)) fun v15 => bP (gdV v14 true ((pMove g8) e)) fun v16 => bP (gdV v14 true ((pMove g2) e)) fun v17 => bP (gdV v14 true ((pMove g10) e)) fun v18 => bP (gdV v14 true ((pBin (bI fAdd) (cV v17) (cV v18)) e)) fun v19 => bP (gdV v14 true ((pMove g8) e)) fun v20 => bP (gdV v14 true ((pUn uLenS (cV v20)) e)) fun v21 => bP (gdV v14 true ((pBin rem64 (cV v19) (cV v21)) e)) fun v22 => bP (gdV v14 true ((pBin (bIdx 1) (cV v16) (cV v22)) e)) fun v23 => bP (gdV v14 true ((dLd (cV v23)) e s)) fun v24 => bP (gdV v14 true ((pBin (bI fNe) (cV v15) (cV v24)) e)) fun v25 => bP (gdV v12 false ((pPick (cV v14) (cV v25) (cV (.bool false))) e)) fun v26 => bP ((pPick (cV v12) (cV (.bool true)) (cV v26)) e) fun v27 => .nrm (rw6 (rw5 (rw4 e fun a b c d f g h _ _ _ _ _ _ _ _ _ => ⟨a,b,c,d,f,g,h,v0,v1,v2,v3,v4,v4,v5,v6,v7⟩) fun _ _ _ _ _ _ _ _ _ _ _ _ _ _ _ _ => ⟨v8,v8,v9,v10,v11,v12,v12,v13,v14,v15,v16,v17,v18,v19,v20,v21⟩) fun _ _ _ _ _ _ h i j l m n o p q r => ⟨v22,v23,v24,v25,v26,v27,h,i,j,l,m,n,o,p,q,r⟩) s
def p5_54 (k : KC) (e : E) (s : St) : Res := ltc (V.bool false) fun v0 => .nrm (u6 e v0) s
def p5_53 (k : KC) (e : E) (s : St) : Res := dSeq p5_54 dRet k e s
def p5_52 (k : KC) (e : E) (s : St) : Res := dCond g101 p5_53 dSkip k e s
def p5_50 (k : KC) (e : E) (s : St) : Res := dSeq p5_51 p5_52 k e s
def p5_48 (k : KC) (e : E) (s : St) : Res := dSeq p5_49 p5_50 k e s
def p5_46 (k : KC) (e : E) (s : St) : Res := dSeq p5_47 p5_48 k e s
def p5_45 (k : KC) (e : E) (s : St) : Res := dBlock 3 p5_46 k e s
def p5_55 (k : KC) (e : E) (s : St) : Res := lt (g10 e) fun v0 => bP ((pBin (bI fAdd) (cV v0) (cV (.i 1))) e) fun v1 => .nrm (rw3 (u10 e v1) fun a b c _ _ g h i j l m n o p q r => ⟨a,b,c,v0,v1,g,h,i,j,l,m,n,o,p,q,r⟩) s
def p5_44 (k : KC) (e : E) (s : St) : Res := dSeq p5_45 p5_55 k e s
def p5_40 (k : KC) (e : E) (s : St) : Res := dSeq p5_41 p5_44 k e s
def p5_39 (k : KC) (e : E) (s : St) : Res := dLoop p5_40 k e s
def p5_38 (k : KC) (e : E) (s : St) : Res := dBlock 2 p5_39 k e s
def p5_36 (k : KC) (e : E) (s : St) : Res := dSeq p5_37 p5_38 k e s
def p5_57 (k : KC) (e : E) (s : St) : Res := bE ((eCall 17 []) k e s) fun v0 s => .nrm (u102 (u6 e v0) v0) s
def p5_56 (k : KC) (e : E) (s : St) : Res := dSeq p5_57 dRet k e s
def p5_35 (k : KC) (e : E) (s : St) : Res := dSeq p5_36 p5_56 k e s
def p5_33 (k : KC) (e : E) (s : St) : Res := dSeq p5_34 p5_35 k e s
def p5_14 (k : KC) (e : E) (s : St) : Res := dSeq p5_15 p5_33 k e s
def p5_12 (k : KC) (e : E) (s : St) : Res := dSeq p5_13 p5_14 k e s
def p5_10 (k : KC) (e : E) (s : St) : Res := dSeq p5_11 p5_12 k e s
def p5_4 (k : KC) (e : E) (s : St) : Res := dSeq p5_5 p5_10 k e s
def p5_2 (k : KC) (e : E) (s : St) : Res := dSeq p5_3 p5_4 k e s
def p5_0 (k : KC) (e : E) (s : St) : Res := dSeq p5_1 p5_2 k e s
def F5 : FDen := ⟨[u0, u1, u2], p5_0, resV [rT g6]⟩
theorem low5 : lowFunc tt [] fok Try.f5 = some F5 := by kernel_rfl
theorem run5 : FRun Try.prog [] 5 F5 := FRun.of (lowFunc_ok ttOk fokOk mixed Try.func5 low5)
/-- carafe/carafelaw17.SchedSleeps -/
def p6_1 (k : KC) (e : E) (s : St) : Res := ltc (V.bool false) fun v0 => .nrm (u2 e v0) s
def p6_3 (k : KC) (e : E) (s : St) : Res := bE ((eCall 10 []) k e s) fun v0 s => .nrm (rw0 e fun a b c _ f g h i j l _ n o p q r => ⟨a,b,c,v0,f,g,h,i,j,l,v0,n,o,p,q,r⟩) s
def p6_6 (k : KC) (e : E) (s : St) : Res := lt (g3 e) fun v0 => bP ((pBin (bNil false nilP) (cV v0) (cV .nilp)) e) fun v1 => .nrm (rw0 e fun a b c d f g h i j l m _ _ p q r => ⟨a,b,c,d,f,g,h,i,j,l,m,v0,v1,p,q,r⟩) s
def p6_9 (k : KC) (e : E) (s : St) : Res := ltc (V.bool false) fun v0 => .nrm (u2 e v0) s
def p6_8 (k : KC) (e : E) (s : St) : Res := dSeq p6_9 dRet k e s
def p6_7 (k : KC) (e : E) (s : St) : Res := dCond g12 p6_8 dSkip k e s
def p6_5 (k : KC) (e : E) (s : St) : Res := dSeq p6_6 p6_7 k e s
def p6_11 (k : KC) (e : E) (s : St) : Res := bE (aSt ((aAl 20 (ofL [.nils, .nils, .nils, .nils, .nils, .nils, .nils, .nils, .nils, .nils, .nils, .nils, .nils, .nils, .nils, .nils, .nils, .nils, .nils, .nils])) e s.next) s) fun v0 s => .nrm (u4 e v0) s
def p6_14 (k : KC) (e : E) (s : St) : Res := ltc (V.i 0) fun v0 => .nrm (u5 e v0) s
def p6_19 (k : KC) (e : E) (s : St) : Res := lt (g5 e) fun v0 => lt (g0 e) fun v1 => bP ((pUn uLenS (cV v1)) e) fun v2 => bP ((pBin (bI fLt) (cV v0) (cV v2)) e) fun v3 => bP (gdV v3 true ((pMove g5) e)) fun v4 => bP (gdV v3 true ((pBin (bI fLt) (cV v4) (cV (.i 8))) e)) fun v5 => bP ((pPick (cV v3) (cV v5) (cV (.bool false))) e) fun v6 => .nrm (rw1 (rw0 e fun a b c d f g h i j l m n o _ _ _ => ⟨a,b,c,d,f,g,h,i,j,l,m,n,o,v0,v1,v2⟩) fun _ _ _ _ _ g h i j l m n o p q r => ⟨v3,v3,v4,v5,v6,g,h,i,j,l,m,n,o,p,q,r⟩) s
def p6_20 (k : KC) (e : E) (s : St) : Res := dCond g20 dSkip (dExit 0) k e s
def p6_18 (k : KC) (e : E) (s : St) : Res := dSeq p6_19 p6_20 k e s
def p6_24 (k : KC) (e : E) (s : St) : Res := lt (g3 e) fun v0 => bE ((eCall 12 [(cV v0)]) k e s) fun v1 s => .nrm (rw1 e fun a b c d f g h _ _ l m n o p q r => ⟨a,b,c,d,f,g,h,v0,v1,l,m,n,o,p,q,r⟩) s
def p6_26 (k : KC) (e : E) (s : St) : Res := lt (g0 e) fun v0 => lt (g5 e) fun v1 => bP ((pBin (bIdx 1) (cV v0) (cV v1)) e) fun v2 => bP ((dLd (cV v2)) e s) fun v3 => bE ((eCall 11 [(cV v3), (cV (.i 0)), (cV (.i 12))]) k e s) fun v4 s => .nrm (rw1 (u6 e v4) fun a b c d f g h i j _ _ _ _ _ q r => ⟨a,b,c,d,f,g,h,i,j,v0,v1,v2,v3,v4,q,r⟩) s
def p6_29 (k : KC) (e : E) (s : St) : Res := lt (g3 e) fun v0 => lt (g5 e) fun v1 => lt (g6 e) fun v2 => bE ((eCall 20 [(cV v0), (cV v1), (cV v2)]) k e s) fun v3 s => bP ((pBin (bI fNe) (cV v3) (cV (.i 0))) e) fun v4 => bP (gdV v4 false ((pMove g3) e)) fun v5 => bP (gdV v4 false ((pMove g5) e)) fun v6 => bE (gdW v4 false s ((eCall 14 [(cV v5), (cV v6)]) k e s)) fun v7 s => bP (gdV v4 false ((pBin (bI fEq) (cV v7) (cV (.i 4))) e)) fun v8 => bP (gdV v4 false ((pMove g6) e)) fun v9 => bP (gdV v4 false ((pBin (bI fGt) (cV v9) (cV (.i 0))) e)) fun v10 => bP (gdV v4 false ((pBin (bBool true) (cV v8) (cV v10)) e)) fun v11 => bP ((pPick (cV v4) (cV (.bool true)) (cV v11)) e) fun v12 => .nrm (rw2 (rw1 e fun a b c d f g h i j l m n o p _ _ => ⟨a,b,c,d,f,g,h,i,j,l,m,n,o,p,v0,v1⟩) fun _ _ _ _ _ _ _ _ _ _ _ _ o p q r => ⟨v2,v3,v4,v4,v5,v6,v7,v8,v9,v10,v11,v12,o,p,q,r⟩) s
def p6_32 (k : KC) (e : E) (s : St) : Res := ltc (V.bool false) fun v0 => .nrm (u2 e v0) s
def p6_31 (k : KC) (e : E) (s : St) : Res := dSeq p6_32 dRet k e s
def p6_30 (k : KC) (e : E) (s : St) : Res := dCond g43 p6_31 dSkip k e s
def p6_28 (k : KC) (e : E) (s : St) : Res := dSeq p6_29 p6_30 k e s
def p6_34 (k : KC) (e : E) (s : St) : Res := lt (g6 e) fun v0 => bP ((pBin (bI fGt) (cV v0) (cV (.i 0))) e) fun v1 => .nrm (rw2 e fun a b c d f g h i j l m n _ _ q r => ⟨a,b,c,d,f,g,h,i,j,l,m,n,v0,v1,q,r⟩) s
def p6_36 (k : KC) (e : E) (s : St) : Res := lt (g6 e) fun v0 => lt (g6 e) fun v1 => bP ((pBin (bIdxA 20 1) g4 (cV v1)) e) fun v2 => bP ((dLd (cV v2)) e s) fun v3 => lt (g5 e) fun v4 => bE (aSt ((aBSl 1 1 [(.i 0)] [(0, 1, (cV v4))]) e s.next) s) fun v5 s => bE ((eAp 1 (cV v3) (cV v5)) k e s) fun v6 s => bP ((pBin (bIdxA 20 1) g4 (cV v0)) e) fun v7 => bE ((eSt 1 (cV v7) (cV v6)) k e s) fun v8 s => .nrm (rw3 (rw2 e fun a b c d f g h i j l m n o p _ _ => ⟨a,b,c,d,f,g,h,i,j,l,m,n,o,p,v0,v1⟩) fun _ _ _ _ _ _ h i j l m n o p q r => ⟨v2,v3,v4,v5,v6,v7,h,i,j,l,m,n,o,p,q,r⟩) s
def p6_35 (k : KC) (e : E) (s : St) : Res := dCond g45 p6_36 dSkip k e s
def p6_33 (k : KC) (e : E) (s : St) : Res := dSeq p6_34 p6_35 k e s
def p6_27 (k : KC) (e : E) (s : St) : Res := dSeq p6_28 p6_33 k e s
def p6_25 (k : KC) (e : E) (s : St) : Res := dSeq p6_26 p6_27 k e s
def p6_23 (k : KC) (e : E) (s : St) : Res := dSeq p6_24 p6_25 k e s
def p6_22 (k : KC) (e : E) (s : St) : Res := dBlock 1 p6_23 k e s
def p6_37 (k : KC) (e : E) (s : St) : Res := lt (g5 e) fun v0 => bP ((pBin (bI fAdd) (cV v0) (cV (.i 1))) e) fun v1 => .nrm (rw1 (u5 e v1) fun a b c d f _ _ i j l m n o p q r => ⟨a,b,c,d,f,v0,v1,i,j,l,m,n,o,p,q,r⟩) s
def p6_21 (k : KC) (e : E) (s : St) : Res := dSeq p6_22 p6_37 k e s
def p6_17 (k : KC) (e : E) (s : St) : Res := dSeq p6_18 p6_21 k e s
def p6_16 (k : KC) (e : E) (s : St) : Res := dLoop p6_17 k e s
def p6_15 (k : KC) (e : E) (s : St) : Res := dBlock 0 p6_16 k e s
def p6_13 (k : KC) (e : E) (s : St) : Res := dSeq p6_14 p6_15 k e s
def p6_40 (k : KC) (e : E) (s : St) : Res := ltc (V.i 1) fun v0 => .nrm (u7 e v0) s
def p6_45 (k : KC) (e : E) (s : St) : Res := lt (g7 e) fun v0 => bP ((pBin (bI fLt) (cV v0) (cV (.i 14))) e) fun v1 => .nrm (rw3 e fun a b c d f g _ _ j l m n o p q r => ⟨a,b,c,d,f,g,v0,v1,j,l,m,n,o,p,q,r⟩) s
def p6_46 (k : KC) (e : E) (s : St) : Res := dCond g55 dSkip (dExit 2) k e s
def p6_44 (k : KC) (e : E) (s : St) : Res := dSeq p6_45 p6_46 k e s
def p6_50 (k : KC) (e : E) (s : St) : Res := dDraw [⟨none, (.p (pMove g3)), u58⟩, ⟨none, (.e (eCall 23 [g58])), u59⟩, ⟨none, (.p (pMove g7)), u60⟩, ⟨none, (.p (pBin (bIdxA 20 1) g4 g60)), u61⟩, ⟨none, (.d 0 1 (dLd g61)), u62⟩, ⟨none, (.e (eCall 22 [g59, g62])), u63⟩, ⟨none, (.p (pUn uNot g63)), u64⟩] k e s
def p6_53 (k : KC) (e : E) (s : St) : Res := ltc (V.bool false) fun v0 => .nrm (u2 e v0) s
def p6_52 (k : KC) (e : E) (s : St) : Res := dSeq p6_53 dRet k e s
def p6_51 (k : KC) (e : E) (s : St) : Res := dCond g64 p6_52 dSkip k e s
def p6_49 (k : KC) (e : E) (s : St) : Res := dSeq p6_50 p6_51 k e s
def p6_48 (k : KC) (e : E) (s : St) : Res := dBlock 3 p6_49 k e s
def p6_54 (k : KC) (e : E) (s : St) : Res := lt (g7 e) fun v0 => bP ((pBin (bI fAdd) (cV v0) (cV (.i 1))) e) fun v1 => .nrm (rw3 (u7 e v1) fun a b c d f g h i _ _ m n o p q r => ⟨a,b,c,d,f,g,h,i,v0,v1,m,n,o,p,q,r⟩) s
def p6_47 (k : KC) (e : E) (s : St) : Res := dSeq p6_48 p6_54 k e s
def p6_43 (k : KC) (e : E) (s : St) : Res := dSeq p6_44 p6_47 k e s
def p6_42 (k : KC) (e : E) (s : St) : Res := dLoop p6_43 k e s
def p6_41 (k : KC) (e : E) (s : St) : Res := dBlock 2 p6_42 k e s
def p6_39 (k : KC) (e : E) (s : St) : Res := dSeq p6_40 p6_41 k e s
def p6_56 (k : KC) (e : E) (s : St) : Res := lt (g3 e) fun v0 => bE ((eCall 24 [(cV v0)]) k e s) fun v1 s => bP ((pUn (uExt 0) (cV v1)) e) fun v2 => bP ((pUn (uExt 1) (cV v1)) e) fun v3 => .nrm (rw4 (rw0 e fun a b c d f g h i _ _ m n o p q r => ⟨a,b,c,d,f,g,h,i,v2,v3,m,n,o,p,q,r⟩) fun a _ _ _ _ _ h i j l m n o p q r => ⟨a,v1,v0,v1,v2,v3,h,i,j,l,m,n,o,p,q,r⟩) s
def p6_58 (k : KC) (e : E) (s : St) : Res := lt (g9 e) fun v0 => bP ((pUn uNot (cV v0)) e) fun v1 => bE (gdW v1 true s ((eCall 17 []) k e s)) fun v2 s => bP ((pPick (cV v1) (cV v2) (cV (.bool false))) e) fun v3 => .nrm (rw4 (u2 e v3) fun a b c d f g _ _ _ _ _ n o p q r => ⟨a,b,c,d,f,g,v0,v1,v1,v2,v3,n,o,p,q,r⟩) s
def p6_57 (k : KC) (e : E) (s : St) : Res := dSeq p6_58 dRet k e s
def p6_55 (k : KC) (e : E) (s : St) : Res := dSeq p6_56 p6_57 k e s
def p6_38 (k : KC) (e : E) (s : St) : Res := dSeq p6_39 p6_55 k e s
def p6_12 (k : KC) (e : E) (s : St) : Res := dSeq p6_13 p6_38 k e s
def p6_10 (k : KC) (e : E) (s : St) : Res := dSeq p6_11 p6_12 k e s
def p6_4 (k : KC) (e : E) (s : St) : Res := dSeq p6_5 p6_10 k e s
def p6_2 (k : KC) (e : E) (s : St) : Res := dSeq p6_3 p6_4 k e s
def p6_0 (k : KC) (e : E) (s : St) : Res := dSeq p6_1 p6_2 k e s
def F6 : FDen := ⟨[u0], p6_0, resV [rT g2]⟩
theorem low6 : lowFunc tt [] fok Try.f6 = some F6 := by kernel_rfl
theorem run6 : FRun Try.prog [] 6 F6 := FRun.of (lowFunc_ok ttOk fokOk mixed Try.func6 low6)
/-- carafe/sched.New -/
def p10_1 (k : KC) (e : E) (s : St) : Res := ltc (V.nilp) fun v0 => .nrm (u0 e v0) s
def p10_3 (k : KC) (e : E) (s : St) : Res := bE (aSt (aMk e s.next) s) fun v0 s => bP ((pBuild [.nils, .nilm, .nils, (.int .u64 0), (.i 0)] [(1, 1, (cV v0))]) e) fun v1 => bE (aSt ((aBox (cV v1)) e s.next) s) fun v2 s => .nrm (rw0 e fun _ _ _ _ f g h i j l m n o p q r => ⟨v2,v0,v1,v2,f,g,h,i,j,l,m,n,o,p,q,r⟩) s
def p10_2 (k : KC) (e : E) (s : St) : Res := dSeq p10_3 dRet k e s
def p10_0 (k : KC) (e : E) (s : St) : Res := dSeq p10_1 p10_2 k e s
def F10 : FDen := ⟨[], p10_0, resV [rT g0]⟩
theorem low10 : lowFunc tt [] fok Try.f10 = some F10 := by kernel_rfl
theorem run10 : FRun Try.prog [] 10 F10 := FRun.of (lowFunc_ok ttOk fokOk mixed Try.func10 low10)
/-- carafe/carafebook.Within -/
def p11_1 (k : KC) (e : E) (s : St) : Res := ltc (V.i 0) fun v0 => .nrm (u6 e v0) s
def p11_3 (k : KC) (e : E) (s : St) : Res := lt (g0 e) fun v0 => lt (g2 e) fun v1 => lt (g1 e) fun v2 => bP ((pBin (bI fSub) (cV v1) (cV v2)) e) fun v3 => bP ((pBin (bI fAdd) (cV v3) (cV (.i 1))) e) fun v4 => bP ((pBin rem64 (cV v0) (cV v4)) e) fun v5 => .nrm (rw0 e fun _ b c d f g h _ _ _ _ _ _ p q r => ⟨v5,b,c,d,f,g,h,v0,v1,v2,v3,v4,v5,p,q,r⟩) s
def p11_6 (k : KC) (e : E) (s : St) : Res := lt (g0 e) fun v0 => bP ((pBin (bI fLt) (cV v0) (cV (.i 0))) e) fun v1 => .nrm (rw0 e fun a b c d f g h i j l m n o _ _ r => ⟨a,b,c,d,f,g,h,i,j,l,m,n,o,v0,v1,r⟩) s
def p11_8 (k : KC) (e : E) (s : St) : Res := lt (g0 e) fun v0 => lt (g2 e) fun v1 => bP ((pBin (bI fAdd) (cV v0) (cV v1)) e) fun v2 => lt (g1 e) fun v3 => bP ((pBin (bI fSub) (cV v2) (cV v3)) e) fun v4 => bP ((pBin (bI fAdd) (cV v4) (cV (.i 1))) e) fun v5 => .nrm (rw1 (rw0 e fun _ b c d f g h i j l m n o p q _ => ⟨v5,b,c,d,f,g,h,i,j,l,m,n,o,p,q,v0⟩) fun _ _ _ _ _ g h i j l m n o p q r => ⟨v1,v2,v3,v4,v5,g,h,i,j,l,m,n,o,p,q,r⟩) s
def p11_7 (k : KC) (e : E) (s : St) : Res := dCond g14 p11_8 dSkip k e s
def p11_5 (k : KC) (e : E) (s : St) : Res := dSeq p11_6 p11_7 k e s
def p11_10 (k : KC) (e : E) (s : St) : Res := lt (g1 e) fun v0 => lt (g0 e) fun v1 => bP ((pBin (bI fAdd) (cV v0) (cV v1)) e) fun v2 => .nrm (rw1 (u6 e v2) fun a b c d f _ _ _ j l m n o p q r => ⟨a,b,c,d,f,v0,v1,v2,j,l,m,n,o,p,q,r⟩) s
def p11_9 (k : KC) (e : E) (s : St) : Res := dSeq p11_10 dRet k e s
def p11_4 (k : KC) (e : E) (s : St) : Res := dSeq p11_5 p11_9 k e s
def p11_2 (k : KC) (e : E) (s : St) : Res := dSeq p11_3 p11_4 k e s
def p11_0 (k : KC) (e : E) (s : St) : Res := dSeq p11_1 p11_2 k e s
def F11 : FDen := ⟨[u0, u1, u2], p11_0, resV [rT g6]⟩
theorem low11 : lowFunc tt [] fok Try.f11 = some F11 := by kernel_rfl
theorem run11 : FRun Try.prog [] 11 F11 := FRun.of (lowFunc_ok ttOk fokOk mixed Try.func11 low11)
/-- (*carafe/sched.Sched).Start -/
def p12_1 (k : KC) (e : E) (s : St) : Res := ltc (V.i 0) fun v0 => ltc (V.i 0) fun v1 => .nrm (rw0 e fun a b _ _ f g h i j l m n o p q r => ⟨a,b,v0,v1,f,g,h,i,j,l,m,n,o,p,q,r⟩) s
def p12_4 (k : KC) (e : E) (s : St) : Res := lt (g0 e) fun v0 => bP ((pUn uChk (cV v0)) e) fun v1 => bP ((pUn (uFld 0) (cV v1)) e) fun v2 => bP ((dLd (cV v2)) e s) fun v3 => bP ((pUn uLenS (cV v3)) e) fun v4 => bP ((pBin (bI fGe) (cV v4) (cV (.i 8))) e) fun v5 => .nrm (rw0 e fun a b c d _ _ _ _ _ _ m n o p q r => ⟨a,b,c,d,v0,v1,v2,v3,v4,v5,m,n,o,p,q,r⟩) s
def p12_7 (k : KC) (e : E) (s : St) : Res := ltc (V.i 0) fun v0 => ltc (V.i 4) fun v1 => .nrm (rw0 e fun a b _ _ f g h i j l m n o p q r => ⟨a,b,v0,v1,f,g,h,i,j,l,m,n,o,p,q,r⟩) s
def p12_6 (k : KC) (e : E) (s : St) : Res := dSeq p12_7 dRet k e s
def p12_5 (k : KC) (e : E) (s : St) : Res := dCond g9 p12_6 dSkip k e s
def p12_3 (k : KC) (e : E) (s : St) : Res := dSeq p12_4 p12_5 k e s
def p12_9 (k : KC) (e : E) (s : St) : Res := lt (g0 e) fun v0 => lt (g0 e) fun v1 => bP ((pUn uChk (cV v1)) e) fun v2 => bP ((pUn (uFld 0) (cV v2)) e) fun v3 => bP ((dLd (cV v3)) e s) fun v4 => bP ((pBuild [(.i 0), (.i 0), (.i 0), (.i 0)] [(0, 1, (cV (.i 1)))]) e) fun v5 => bE (aSt ((aBox (cV v5)) e s.next) s) fun v6 s => bE (aSt ((aBSl 1 1 [.nilp] [(0, 1, (cV v6))]) e s.next) s) fun v7 s => bE ((eAp 1 (cV v4) (cV v7)) k e s) fun v8 s => bP ((pUn uChk (cV v0)) e) fun v9 => bP ((pUn (uFld 0) (cV v9)) e) fun v10 => bE ((eSt 1 (cV v10) (cV v8)) k e s) fun v11 s => .nrm (rw1 (rw0 e fun a b c d f g h i j l _ _ _ _ _ _ => ⟨a,b,c,d,f,g,h,i,j,l,v0,v1,v2,v3,v4,v5⟩) fun _ _ _ _ _ g h i j l m n o p q r => ⟨v6,v7,v8,v9,v10,g,h,i,j,l,m,n,o,p,q,r⟩) s
def p12_11 (k : KC) (e : E) (s : St) : Res := lt (g0 e) fun v0 => bP ((pUn uChk (cV v0)) e) fun v1 => bP ((pUn (uFld 0) (cV v1)) e) fun v2 => bP ((dLd (cV v2)) e s) fun v3 => bP ((pUn uLenS (cV v3)) e) fun v4 => bP ((pBin (bI fSub) (cV v4) (cV (.i 1))) e) fun v5 => ltc (V.i 0) fun v6 => .nrm (rw1 (rw0 e fun a b _ _ f g h i j l m n o p q r => ⟨a,b,v5,v6,f,g,h,i,j,l,m,n,o,p,q,r⟩) fun a b c d f _ _ _ _ _ _ n o p q r => ⟨a,b,c,d,f,v0,v1,v2,v3,v4,v5,n,o,p,q,r⟩) s
def p12_10 (k : KC) (e : E) (s : St) : Res := dSeq p12_11 dRet k e s
def p12_8 (k : KC) (e : E) (s : St) : Res := dSeq p12_9 p12_10 k e s
def p12_2 (k : KC) (e : E) (s : St) : Res := dSeq p12_3 p12_8 k e s
def p12_0 (k : KC) (e : E) (s : St) : Res := dSeq p12_1 p12_2 k e s
def F12 : FDen := ⟨[u0], p12_0, resV [rT g2, rT g3]⟩
theorem low12 : lowFunc tt [] fok Try.f12 = some F12 := by kernel_rfl
theorem run12 : FRun Try.prog [] 12 F12 := FRun.of (lowFunc_ok ttOk fokOk mixed Try.func12 low12)
/-- (*carafe/sched.Sched).Enter -/
def p13_1 (k : KC) (e : E) (s : St) : Res := ltc (V.bool false) fun v0 => ltc (V.i 0) fun v1 => .nrm (rw0 e fun a b c d f g _ _ j l m n o p q r => ⟨a,b,c,d,f,g,v0,v1,j,l,m,n,o,p,q,r⟩) s
def p13_4 (k : KC) (e : E) (s : St) : Res := lt (g0 e) fun v0 => lt (g1 e) fun v1 => bE ((eCall 14 [(cV v0), (cV v1)]) k e s) fun v2 s => bP ((pBin (bI fNe) (cV v2) (cV (.i 1))) e) fun v3 => .nrm (rw0 e fun a b c d f g h i j _ _ _ _ p q r => ⟨a,b,c,d,f,g,h,i,j,v0,v1,v2,v3,p,q,r⟩) s
def p13_7 (k : KC) (e : E) (s : St) : Res := ltc (V.bool false) fun v0 => ltc (V.i 1) fun v1 => .nrm (rw0 e fun a b c d f g _ _ j l m n o p q r => ⟨a,b,c,d,f,g,v0,v1,j,l,m,n,o,p,q,r⟩) s
def p13_6 (k : KC) (e : E) (s : St) : Res := dSeq p13_7 dRet k e s
def p13_5 (k : KC) (e : E) (s : St) : Res := dCond g12 p13_6 dSkip k e s
def p13_3 (k : KC) (e : E) (s : St) : Res := dSeq p13_4 p13_5 k e s
def p13_9 (k : KC) (e : E) (s : St) : Res := lt (g0 e) fun v0 => lt (g2 e) fun v1 => bE ((eCall 41 [(cV v0), (cV v1)]) k e s) fun v2 s => .nrm (rw0 e fun a b c d f g h i _ l m n o _ _ _ => ⟨a,b,c,d,f,g,h,i,v2,l,m,n,o,v0,v1,v2⟩) s
def p13_12 (k : KC) (e : E) (s : St) : Res := lt (g8 e) fun v0 => bP ((pUn uChk (cV v0)) e) fun v1 => bP ((pUn (uFld 0) (cV v1)) e) fun v2 => bP ((dLd (cV v2)) e s) fun v3 => bP ((pBin (bI fGe) (cV v3) (cV (.i 0))) e) fun v4 => bP (gdV v4 true ((pMove g8) e)) fun v5 => bP (gdV v4 true ((pUn uChk (cV v5)) e)) fun v6 => bP (gdV v4 true ((pUn (uFld 0) (cV v6)) e)) fun v7 => bP (gdV v4 true ((dLd (cV v7)) e s)) fun v8 => bP (gdV v4 true ((pMove g1) e)) fun v9 => bP (gdV v4 true ((pBin (bI fNe) (cV v8) (cV v9)) e)) fun v10 => bP ((pPick (cV v4) (cV v10) (cV (.bool false))) e) fun v11 => .nrm (rw1 e fun _ _ _ _ _ _ _ _ _ _ _ _ _ p q r => ⟨v0,v1,v2,v3,v4,v4,v5,v6,v7,v8,v9,v10,v11,p,q,r⟩) s
def p13_15 (k : KC) (e : E) (s : St) : Res := lt (g0 e) fun v0 => bP ((pUn uChk (cV v0)) e) fun v1 => bP ((pUn (uFld 0) (cV v1)) e) fun v2 => bP ((dLd (cV v2)) e s) fun v3 => lt (g1 e) fun v4 => bP ((pBin (bIdx 1) (cV v3) (cV v4)) e) fun v5 => bP ((dLd (cV v5)) e s) fun v6 => lt (g2 e) fun v7 => bP ((pBuild [(.i 0), (.i 0), (.i 0), (.i 0)] [(0, 1, (cV (.i 2))), (1, 1, (cV v7)), (2, 1, (cV (.i 1)))]) e) fun v8 => bP ((pUn uChk (cV v6)) e) fun v9 => bE ((eSt 4 (cV v9) (cV v8)) k e s) fun v10 s => .nrm (rw2 (rw1 e fun a b c d f g h i j l m n o _ _ _ => ⟨a,b,c,d,f,g,h,i,j,l,m,n,o,v0,v1,v2⟩) fun _ _ _ _ _ _ _ i j l m n o p q r => ⟨v3,v4,v5,v6,v7,v8,v9,i,j,l,m,n,o,p,q,r⟩) s
def p13_17 (k : KC) (e : E) (s : St) : Res := lt (g8 e) fun v0 => lt (g8 e) fun v1 => bP ((pUn uChk (cV v1)) e) fun v2 => bP ((pUn (uFld 2) (cV v2)) e) fun v3 => bP ((dLd (cV v3)) e s) fun v4 => lt (g1 e) fun v5 => bE (aSt ((aBSl 1 1 [(.i 0)] [(0, 1, (cV v5))]) e s.next) s) fun v6 s => bE ((eAp 1 (cV v4) (cV v6)) k e s) fun v7 s => bP ((pUn uChk (cV v0)) e) fun v8 => bP ((pUn (uFld 2) (cV v8)) e) fun v9 => bE ((eSt 1 (cV v9) (cV v7)) k e s) fun v10 s => .nrm (u48 (rw2 e fun a b c d f g h _ _ _ _ _ _ _ _ _ => ⟨a,b,c,d,f,g,h,v0,v1,v2,v3,v4,v5,v6,v7,v8⟩) v9) s
def p13_19 (k : KC) (e : E) (s : St) : Res := ltc (V.bool false) fun v0 => ltc (V.i 0) fun v1 => .nrm (rw0 e fun a b c d f g _ _ j l m n o p q r => ⟨a,b,c,d,f,g,v0,v1,j,l,m,n,o,p,q,r⟩) s
def p13_18 (k : KC) (e : E) (s : St) : Res := dSeq p13_19 dRet k e s
def p13_16 (k : KC) (e : E) (s : St) : Res := dSeq p13_17 p13_18 k e s
def p13_14 (k : KC) (e : E) (s : St) : Res := dSeq p13_15 p13_16 k e s
def p13_13 (k : KC) (e : E) (s : St) : Res := dCond g28 p13_14 dSkip k e s
def p13_11 (k : KC) (e : E) (s : St) : Res := dSeq p13_12 p13_13 k e s
def p13_21 (k : KC) (e : E) (s : St) : Res := lt (g8 e) fun v0 => lt (g1 e) fun v1 => bP ((pUn uChk (cV v0)) e) fun v2 => bP ((pUn (uFld 0) (cV v2)) e) fun v3 => bE ((eSt 1 (cV v3) (cV v1)) k e s) fun v4 s => .nrm (rw3 e fun a _ _ _ _ g h i j l m n o p q r => ⟨a,v0,v1,v2,v3,g,h,i,j,l,m,n,o,p,q,r⟩) s
def p13_23 (k : KC) (e : E) (s : St) : Res := lt (g8 e) fun v0 => bP ((pUn uChk (cV v0)) e) fun v1 => bP ((pUn (uFld 1) (cV v1)) e) fun v2 => bP ((dLd (cV v2)) e s) fun v3 => bP ((pBin (bI fAdd) (cV v3) (cV (.i 1))) e) fun v4 => bP ((pUn uChk (cV v0)) e) fun v5 => bP ((pUn (uFld 1) (cV v5)) e) fun v6 => bE ((eSt 1 (cV v6) (cV v4)) k e s) fun v7 s => .nrm (rw3 e fun a b c d f _ _ _ _ _ _ _ o p q r => ⟨a,b,c,d,f,v0,v1,v2,v3,v4,v5,v6,o,p,q,r⟩) s
def p13_25 (k : KC) (e : E) (s : St) : Res := ltc (V.bool true) fun v0 => ltc (V.i 0) fun v1 => .nrm (rw0 e fun a b c d f g _ _ j l m n o p q r => ⟨a,b,c,d,f,g,v0,v1,j,l,m,n,o,p,q,r⟩) s
def p13_24 (k : KC) (e : E) (s : St) : Res := dSeq p13_25 dRet k e s
def p13_22 (k : KC) (e : E) (s : St) : Res := dSeq p13_23 p13_24 k e s
def p13_20 (k : KC) (e : E) (s : St) : Res := dSeq p13_21 p13_22 k e s
def p13_10 (k : KC) (e : E) (s : St) : Res := dSeq p13_11 p13_20 k e s
def p13_8 (k : KC) (e : E) (s : St) : Res := dSeq p13_9 p13_10 k e s
def p13_2 (k : KC) (e : E) (s : St) : Res := dSeq p13_3 p13_8 k e s
def p13_0 (k : KC) (e : E) (s : St) : Res := dSeq p13_1 p13_2 k e s
def F13 : FDen := ⟨[u0, u1, u2], p13_0, resV [rT g6, rT g7]⟩
theorem low13 : lowFunc tt [] fok Try.f13 = some F13 := by kernel_rfl
theorem run13 : FRun Try.prog [] 13 F13 := FRun.of (lowFunc_ok ttOk fokOk mixed Try.func13 low13)
/-- (*carafe/sched.Sched).State -/
def p14_1 (k : KC) (e : E) (s : St) : Res := ltc (V.i 0) fun v0 => .nrm (u4 e v0) s
def p14_4 (k : KC) (e : E) (s : St) : Res := lt (g1 e) fun v0 => bP ((pBin (bI fLt) (cV v0) (cV (.i 0))) e) fun v1 => bP (gdV v1 false ((pMove g1) e)) fun v2 => bP (gdV v1 false ((pMove g0) e)) fun v3 => bP (gdV v1 false ((pUn uChk (cV v3)) e)) fun v4 => bP (gdV v1 false ((pUn (uFld 0) (cV v4)) e)) fun v5 => bP (gdV v1 false ((dLd (cV v5)) e s)) fun v6 => bP (gdV v1 false ((pUn uLenS (cV v6)) e)) fun v7 => bP (gdV v1 false ((pBin (bI fGe) (cV v2) (cV v7)) e)) fun v8 => bP ((pPick (cV v1) (cV (.bool true)) (cV v8)) e) fun v9 => .nrm (rw0 e fun a b c d f _ _ _ _ _ _ _ _ _ _ _ => ⟨a,b,c,d,f,v0,v1,v1,v2,v3,v4,v5,v6,v7,v8,v9⟩) s
def p14_7 (k : KC) (e : E) (s : St) : Res := ltc (V.i 0) fun v0 => .nrm (u4 e v0) s
def p14_6 (k : KC) (e : E) (s : St) : Res := dSeq p14_7 dRet k e s
def p14_5 (k : KC) (e : E) (s : St) : Res := dCond g15 p14_6 dSkip k e s
def p14_3 (k : KC) (e : E) (s : St) : Res := dSeq p14_4 p14_5 k e s
def p14_9 (k : KC) (e : E) (s : St) : Res := lt (g0 e) fun v0 => bP ((pUn uChk (cV v0)) e) fun v1 => bP ((pUn (uFld 0) (cV v1)) e) fun v2 => bP ((dLd (cV v2)) e s) fun v3 => lt (g1 e) fun v4 => bP ((pBin (bIdx 1) (cV v3) (cV v4)) e) fun v5 => bP ((dLd (cV v5)) e s) fun v6 => bP ((pUn uChk (cV v6)) e) fun v7 => bP ((pUn (uFld 0) (cV v7)) e) fun v8 => bP ((dLd (cV v8)) e s) fun v9 => .nrm (rw1 (u4 e v9) fun _ _ _ _ _ _ _ _ _ _ m n o p q r => ⟨v0,v1,v2,v3,v4,v5,v6,v7,v8,v9,m,n,o,p,q,r⟩) s
def p14_8 (k : KC) (e : E) (s : St) : Res := dSeq p14_9 dRet k e s
def p14_2 (k : KC) (e : E) (s : St) : Res := dSeq p14_3 p14_8 k e s
def p14_0 (k : KC) (e : E) (s : St) : Res := dSeq p14_1 p14_2 k e s
def F14 : FDen := ⟨[u0, u1], p14_0, resV [rT g4]⟩
theorem low14 : lowFunc tt [] fok Try.f14 = some F14 := by kernel_rfl
theorem run14 : FRun Try.prog [] 14 F14 := FRun.of (lowFunc_ok ttOk fokOk mixed Try.func14 low14)
/-- (*carafe/sched.Sched).Owner -/
def p15_1 (k : KC) (e : E) (s : St) : Res := ltc (V.i 0) fun v0 => ltc (V.i 0) fun v1 => .nrm (rw0 e fun a b c d _ _ h i j l m n o p q r => ⟨a,b,c,d,v0,v1,h,i,j,l,m,n,o,p,q,r⟩) s
def p15_3 (k : KC) (e : E) (s : St) : Res := lt (g0 e) fun v0 => bP ((pUn uChk (cV v0)) e) fun v1 => bP ((pUn (uFld 1) (cV v1)) e) fun v2 => bP ((dLd (cV v2)) e s) fun v3 => lt (g1 e) fun v4 => bP ((dLk eqKI .nilp true (cV v3) (cV v4)) e s) fun v5 => bP ((pUn (uExt 0) (cV v5)) e) fun v6 => bP ((pUn (uExt 1) (cV v5)) e) fun v7 => .nrm (u16 (rw0 e fun a b c d f g _ _ _ _ _ _ _ _ _ _ => ⟨a,b,c,d,f,g,v6,v7,v5,v0,v1,v2,v3,v4,v5,v6⟩) v7) s
def p15_6 (k : KC) (e : E) (s : St) : Res := lt (g7 e) fun v0 => bP ((pUn uNot (cV v0)) e) fun v1 => .nrm (rw1 e fun a _ _ d f g h i j l m n o p q r => ⟨a,v0,v1,d,f,g,h,i,j,l,m,n,o,p,q,r⟩) s
def p15_9 (k : KC) (e : E) (s : St) : Res := ltc (V.i (-1)) fun v0 => ltc (V.i 0) fun v1 => .nrm (rw0 e fun a b c d _ _ h i j l m n o p q r => ⟨a,b,c,d,v0,v1,h,i,j,l,m,n,o,p,q,r⟩) s
def p15_8 (k : KC) (e : E) (s : St) : Res := dSeq p15_9 dRet k e s
def p15_7 (k : KC) (e : E) (s : St) : Res := dCond g18 p15_8 dSkip k e s
def p15_5 (k : KC) (e : E) (s : St) : Res := dSeq p15_6 p15_7 k e s
def p15_11 (k : KC) (e : E) (s : St) : Res := lt (g6 e) fun v0 => bP ((pUn uChk (cV v0)) e) fun v1 => bP ((pUn (uFld 0) (cV v1)) e) fun v2 => bP ((dLd (cV v2)) e s) fun v3 => lt (g6 e) fun v4 => bP ((pUn uChk (cV v4)) e) fun v5 => bP ((pUn (uFld 1) (cV v5)) e) fun v6 => bP ((dLd (cV v6)) e s) fun v7 => .nrm (rw1 (rw0 e fun a b c d _ _ h i j l m n o p q r => ⟨a,b,c,d,v3,v7,h,i,j,l,m,n,o,p,q,r⟩) fun a b c _ _ _ _ _ _ _ _ n o p q r => ⟨a,b,c,v0,v1,v2,v3,v4,v5,v6,v7,n,o,p,q,r⟩) s
def p15_10 (k : KC) (e : E) (s : St) : Res := dSeq p15_11 dRet k e s
def p15_4 (k : KC) (e : E) (s : St) : Res := dSeq p15_5 p15_10 k e s
def p15_2 (k : KC) (e : E) (s : St) : Res := dSeq p15_3 p15_4 k e s
def p15_0 (k : KC) (e : E) (s : St) : Res := dSeq p15_1 p15_2 k e s
def F15 : FDen := ⟨[u0, u1], p15_0, resV [rT g4, rT g5]⟩
theorem low15 : lowFunc tt [] fok Try.f15 = some F15 := by kernel_rfl
theorem run15 : FRun Try.prog [] 15 F15 := FRun.of (lowFunc_ok ttOk fokOk mixed Try.func15 low15)
/-- (*carafe/sched.Sched).Exit -/
def p16_1 (k : KC) (e : E) (s : St) : Res := ltc (V.i 0) fun v0 => .nrm (u6 e v0) s
def p16_3 (k : KC) (e : E) (s : St) : Res := lt (g0 e) fun v0 => lt (g1 e) fun v1 => lt (g2 e) fun v2 => bE ((eCall 42 [(cV v0), (cV v1), (cV v2)]) k e s) fun v3 s => bP ((pUn (uExt 0) (cV v3)) e) fun v4 => bP ((pUn (uExt 1) (cV v3)) e) fun v5 => .nrm (rw0 e fun a b c d f g h _ _ _ _ _ _ _ _ _ => ⟨a,b,c,d,f,g,h,v4,v5,v3,v0,v1,v2,v3,v4,v5⟩) s
def p16_6 (k : KC) (e : E) (s : St) : Res := lt (g8 e) fun v0 => bP ((pBin (bI fNe) (cV v0) (cV (.i 0))) e) fun v1 => .nrm (rw1 e fun _ _ c d f g h i j l m n o p q r => ⟨v0,v1,c,d,f,g,h,i,j,l,m,n,o,p,q,r⟩) s
def p16_9 (k : KC) (e : E) (s : St) : Res := lt (g8 e) fun v0 => .nrm (u18 (u6 e v0) v0) s
def p16_8 (k : KC) (e : E) (s : St) : Res := dSeq p16_9 dRet k e s
def p16_7 (k : KC) (e : E) (s : St) : Res := dCond g17 p16_8 dSkip k e s
def p16_5 (k : KC) (e : E) (s : St) : Res := dSeq p16_6 p16_7 k e s
def p16_11 (k : KC) (e : E) (s : St) : Res := lt (g7 e) fun v0 => bP ((pUn uChk (cV v0)) e) fun v1 => bP ((pUn (uFld 1) (cV v1)) e) fun v2 => bP ((dLd (cV v2)) e s) fun v3 => bP ((pBin (bI fSub) (cV v3) (cV (.i 1))) e) fun v4 => bP ((pUn uChk (cV v0)) e) fun v5 => bP ((pUn (uFld 1) (cV v5)) e) fun v6 => bE ((eSt 1 (cV v6) (cV v4)) k e s) fun v7 s => .nrm (rw1 e fun a b c _ _ _ _ _ _ _ m n o p q r => ⟨a,b,c,v0,v1,v2,v3,v4,v5,v6,m,n,o,p,q,r⟩) s
def p16_14 (k : KC) (e : E) (s : St) : Res := lt (g7 e) fun v0 => bP ((pUn uChk (cV v0)) e) fun v1 => bP ((pUn (uFld 1) (cV v1)) e) fun v2 => bP ((dLd (cV v2)) e s) fun v3 => bP ((pBin (bI fEq) (cV v3) (cV (.i 0))) e) fun v4 => .nrm (rw1 e fun a b c d f g h i j l _ _ _ _ _ r => ⟨a,b,c,d,f,g,h,i,j,l,v0,v1,v2,v3,v4,r⟩) s
def p16_16 (k : KC) (e : E) (s : St) : Res := lt (g0 e) fun v0 => lt (g7 e) fun v1 => bE ((eCall 43 [(cV v0), (cV v1)]) k e s) fun v2 s => .nrm (rw2 (u31 e v0) fun _ _ c d f g h i j l m n o p q r => ⟨v1,v2,c,d,f,g,h,i,j,l,m,n,o,p,q,r⟩) s
def p16_15 (k : KC) (e : E) (s : St) : Res := dCond g30 p16_16 dSkip k e s
def p16_13 (k : KC) (e : E) (s : St) : Res := dSeq p16_14 p16_15 k e s
def p16_18 (k : KC) (e : E) (s : St) : Res := ltc (V.i 0) fun v0 => .nrm (u6 e v0) s
def p16_17 (k : KC) (e : E) (s : St) : Res := dSeq p16_18 dRet k e s
def p16_12 (k : KC) (e : E) (s : St) : Res := dSeq p16_13 p16_17 k e s
def p16_10 (k : KC) (e : E) (s : St) : Res := dSeq p16_11 p16_12 k e s
def p16_4 (k : KC) (e : E) (s : St) : Res := dSeq p16_5 p16_10 k e s
def p16_2 (k : KC) (e : E) (s : St) : Res := dSeq p16_3 p16_4 k e s
def p16_0 (k : KC) (e : E) (s : St) : Res := dSeq p16_1 p16_2 k e s
def F16 : FDen := ⟨[u0, u1, u2], p16_0, resV [rT g6]⟩
theorem low16 : lowFunc tt [] fok Try.f16 = some F16 := by kernel_rfl
theorem run16 : FRun Try.prog [] 16 F16 := FRun.of (lowFunc_ok ttOk fokOk mixed Try.func16 low16)
/-- carafe/carafelaw17.known -/
def p17_1 (k : KC) (e : E) (s : St) : Res := ltc (V.bool false) fun v0 => .nrm (u0 e v0) s
def p17_3 (k : KC) (e : E) (s : St) : Res := bE ((eCall 10 []) k e s) fun v0 s => .nrm (rw0 e fun a _ c d f g h i j _ m n o p q r => ⟨a,v0,c,d,f,g,h,i,j,v0,m,n,o,p,q,r⟩) s
def p17_6 (k : KC) (e : E) (s : St) : Res := lt (g1 e) fun v0 => bP ((pBin (bNil false nilP) (cV v0) (cV .nilp)) e) fun v1 => .nrm (rw0 e fun a b c d f g h i j l _ _ o p q r => ⟨a,b,c,d,f,g,h,i,j,l,v0,v1,o,p,q,r⟩) s
def p17_9 (k : KC) (e : E) (s : St) : Res := ltc (V.bool false) fun v0 => .nrm (u0 e v0) s
def p17_8 (k : KC) (e : E) (s : St) : Res := dSeq p17_9 dRet k e s
def p17_7 (k : KC) (e : E) (s : St) : Res := dCond g11 p17_8 dSkip k e s
def p17_5 (k : KC) (e : E) (s : St) : Res := dSeq p17_6 p17_7 k e s
def p17_11 (k : KC) (e : E) (s : St) : Res := lt (g1 e) fun v0 => bE ((eCall 12 [(cV v0)]) k e s) fun v1 s => .nrm (rw0 e fun a b c d f g h i j l m n _ _ q r => ⟨a,b,c,d,f,g,h,i,j,l,m,n,v0,v1,q,r⟩) s
def p17_13 (k : KC) (e : E) (s : St) : Res := lt (g1 e) fun v0 => bE ((eCall 12 [(cV v0)]) k e s) fun v1 s => .nrm (rw0 e fun a b c d f g h i j l m n o p _ _ => ⟨a,b,c,d,f,g,h,i,j,l,m,n,o,p,v0,v1⟩) s
def p17_15 (k : KC) (e : E) (s : St) : Res := lt (g1 e) fun v0 => bE ((eCall 13 [(cV v0), (cV (.i 0)), (cV (.i 5))]) k e s) fun v1 s => bP ((pUn (uExt 0) (cV v1)) e) fun v2 => bP ((pUn (uExt 1) (cV v1)) e) fun v3 => .nrm (rw1 (rw0 e fun a b _ _ f g h i j l m n o p q r => ⟨a,b,v2,v3,f,g,h,i,j,l,m,n,o,p,q,r⟩) fun _ _ _ _ _ g h i j l m n o p q r => ⟨v1,v0,v1,v2,v3,g,h,i,j,l,m,n,o,p,q,r⟩) s
def p17_17 (k : KC) (e : E) (s : St) : Res := lt (g1 e) fun v0 => bE ((eCall 13 [(cV v0), (cV (.i 1)), (cV (.i 5))]) k e s) fun v1 s => bP ((pUn (uExt 0) (cV v1)) e) fun v2 => bP ((pUn (uExt 1) (cV v1)) e) fun v3 => .nrm (rw1 (rw0 e fun a b c d _ _ h i j l m n o p q r => ⟨a,b,c,d,v2,v3,h,i,j,l,m,n,o,p,q,r⟩) fun a b c d f _ _ _ _ _ m n o p q r => ⟨a,b,c,d,f,v1,v0,v1,v2,v3,m,n,o,p,q,r⟩) s
def p17_19 (k : KC) (e : E) (s : St) : Res := lt (g1 e) fun v0 => bE ((eCall 16 [(cV v0), (cV (.i 0)), (cV (.i 5))]) k e s) fun v1 s => .nrm (rw1 (u6 e v1) fun a b c d f g h i j l _ _ o p q r => ⟨a,b,c,d,f,g,h,i,j,l,v0,v1,o,p,q,r⟩) s
def p17_21 (k : KC) (e : E) (s : St) : Res := lt (g1 e) fun v0 => bE ((eCall 15 [(cV v0), (cV (.i 5))]) k e s) fun v1 s => bP ((pUn (uExt 0) (cV v1)) e) fun v2 => bP ((pUn (uExt 1) (cV v1)) e) fun v3 => .nrm (u32 (rw1 (rw0 e fun a b c d f g h _ _ l m n o p q r => ⟨a,b,c,d,f,g,h,v2,v3,l,m,n,o,p,q,r⟩) fun a b c d f g h i j l m n _ _ _ _ => ⟨a,b,c,d,f,g,h,i,j,l,m,n,v1,v0,v1,v2⟩) v3) s
def p17_23 (k : KC) (e : E) (s : St) : Res := lt (g2 e) fun v0 => bP (gdV v0 true ((pMove g4) e)) fun v1 => bP (gdV v0 true ((pUn uNot (cV v1)) e)) fun v2 => bP ((pPick (cV v0) (cV v2) (cV (.bool false))) e) fun v3 => bP (gdV v3 true ((pMove g6) e)) fun v4 => bP (gdV v3 true ((pBin (bI fEq) (cV v4) (cV (.i 0))) e)) fun v5 => bP ((pPick (cV v3) (cV v5) (cV (.bool false))) e) fun v6 => bP (gdV v6 true ((pMove g7) e)) fun v7 => bP (gdV v6 true ((pBin (bI fEq) (cV v7) (cV (.i 1))) e)) fun v8 => bP ((pPick (cV v6) (cV v8) (cV (.bool false))) e) fun v9 => bP (gdV v9 true ((pMove g8) e)) fun v10 => bP (gdV v9 true ((pBin (bI fEq) (cV v10) (cV (.i 1))) e)) fun v11 => bP ((pPick (cV v9) (cV v11) (cV (.bool false))) e) fun v12 => bP (gdV v12 true ((pMove g1) e)) fun v13 => bE (gdW v12 true s ((eCall 14 [(cV v13), (cV (.i 1))]) k e s)) fun v14 s => bP (gdV v12 true ((pBin (bI fEq) (cV v14) (cV (.i 1))) e)) fun v15 => bP ((pPick (cV v12) (cV v15) (cV (.bool false))) e) fun v16 => bP (gdV v16 true ((pMove g1) e)) fun v17 => bE (gdW v16 true s ((eCall 18 [(cV v17), (cV (.i 0)), (cV (.i 5))]) k e s)) fun v18 s => bP (gdV v16 true ((pBin (bI fEq) (cV v18) (cV (.i 27))) e)) fun v19 => bP ((pPick (cV v16) (cV v19) (cV (.bool false))) e) fun v20 => .nrm (rw3 (rw2 (u0 e v20) fun a _ _ _ _ _ _ _ _ _ _ _ _ _ _ _ => ⟨a,v0,v0,v1,v2,v3,v3,v4,v5,v6,v6,v7,v8,v9,v9,v10⟩) fun _ _ _ _ _ _ _ _ _ _ _ _ o p q r => ⟨v11,v12,v12,v13,v14,v15,v16,v16,v17,v18,v19,v20,o,p,q,r⟩) s
def p17_22 (k : KC) (e : E) (s : St) : Res := dSeq p17_23 dRet k e s
def p17_20 (k : KC) (e : E) (s : St) : Res := dSeq p17_21 p17_22 k e s
def p17_18 (k : KC) (e : E) (s : St) : Res := dSeq p17_19 p17_20 k e s
def p17_16 (k : KC) (e : E) (s : St) : Res := dSeq p17_17 p17_18 k e s
def p17_14 (k : KC) (e : E) (s : St) : Res := dSeq p17_15 p17_16 k e s
def p17_12 (k : KC) (e : E) (s : St) : Res := dSeq p17_13 p17_14 k e s
def p17_10 (k : KC) (e : E) (s : St) : Res := dSeq p17_11 p17_12 k e s
def p17_4 (k : KC) (e : E) (s : St) : Res := dSeq p17_5 p17_10 k e s
def p17_2 (k : KC) (e : E) (s : St) : Res := dSeq p17_3 p17_4 k e s
def p17_0 (k : KC) (e : E) (s : St) : Res := dSeq p17_1 p17_2 k e s
def F17 : FDen := ⟨[], p17_0, resV [rT g0]⟩
theorem low17 : lowFunc tt [] fok Try.f17 = some F17 := by kernel_rfl
theorem run17 : FRun Try.prog [] 17 F17 := FRun.of (lowFunc_ok ttOk fokOk mixed Try.func17 low17)
/-- (*carafe/sched.Sched).Wait -/
def p18_1 (k : KC) (e : E) (s : St) : Res := ltc (V.i 0) fun v0 => .nrm (u6 e v0) s
def p18_3 (k : KC) (e : E) (s : St) : Res := lt (g0 e) fun v0 => lt (g1 e) fun v1 => lt (g2 e) fun v2 => bE ((eCall 42 [(cV v0), (cV v1), (cV v2)]) k e s) fun v3 s => bP ((pUn (uExt 0) (cV v3)) e) fun v4 => bP ((pUn (uExt 1) (cV v3)) e) fun v5 => .nrm (rw0 e fun a b c d f g h _ _ _ _ _ _ _ _ _ => ⟨a,b,c,d,f,g,h,v4,v5,v3,v0,v1,v2,v3,v4,v5⟩) s
def p18_6 (k : KC) (e : E) (s : St) : Res := lt (g8 e) fun v0 => bP ((pBin (bI fNe) (cV v0) (cV (.i 0))) e) fun v1 => .nrm (rw1 e fun _ _ c d f g h i j l m n o p q r => ⟨v0,v1,c,d,f,g,h,i,j,l,m,n,o,p,q,r⟩) s
def p18_9 (k : KC) (e : E) (s : St) : Res := lt (g8 e) fun v0 => .nrm (u18 (u6 e v0) v0) s
def p18_8 (k : KC) (e : E) (s : St) : Res := dSeq p18_9 dRet k e s
def p18_7 (k : KC) (e : E) (s : St) : Res := dCond g17 p18_8 dSkip k e s
def p18_5 (k : KC) (e : E) (s : St) : Res := dSeq p18_6 p18_7 k e s
def p18_11 (k : KC) (e : E) (s : St) : Res := lt (g0 e) fun v0 => bP ((pUn uChk (cV v0)) e) fun v1 => bP ((pUn (uFld 0) (cV v1)) e) fun v2 => bP ((dLd (cV v2)) e s) fun v3 => lt (g1 e) fun v4 => bP ((pBin (bIdx 1) (cV v3) (cV v4)) e) fun v5 => bP ((dLd (cV v5)) e s) fun v6 => lt (g2 e) fun v7 => lt (g7 e) fun v8 => bP ((pUn uChk (cV v8)) e) fun v9 => bP ((pUn (uFld 1) (cV v9)) e) fun v10 => bP ((dLd (cV v10)) e s) fun v11 => bP ((pBuild [(.i 0), (.i 0), (.i 0), (.i 0)] [(0, 1, (cV (.i 3))), (1, 1, (cV v7)), (2, 1, (cV v11))]) e) fun v12 => bP ((pUn uChk (cV v6)) e) fun v13 => bE ((eSt 4 (cV v13) (cV v12)) k e s) fun v14 s => .nrm (u32 (rw1 e fun a b c _ _ _ _ _ _ _ _ _ _ _ _ _ => ⟨a,b,c,v0,v1,v2,v3,v4,v5,v6,v7,v8,v9,v10,v11,v12⟩) v13) s
def p18_13 (k : KC) (e : E) (s : St) : Res := lt (g7 e) fun v0 => lt (g7 e) fun v1 => bP ((pUn uChk (cV v1)) e) fun v2 => bP ((pUn (uFld 3) (cV v2)) e) fun v3 => bP ((dLd (cV v3)) e s) fun v4 => lt (g1 e) fun v5 => bE (aSt ((aBSl 1 1 [(.i 0)] [(0, 1, (cV v5))]) e s.next) s) fun v6 s => bE ((eAp 1 (cV v4) (cV v6)) k e s) fun v7 s => bP ((pUn uChk (cV v0)) e) fun v8 => bP ((pUn (uFld 3) (cV v8)) e) fun v9 => bE ((eSt 1 (cV v9) (cV v7)) k e s) fun v10 s => .nrm (rw2 e fun a _ _ _ _ _ _ _ _ _ _ n o p q r => ⟨a,v0,v1,v2,v3,v4,v5,v6,v7,v8,v9,n,o,p,q,r⟩) s
def p18_15 (k : KC) (e : E) (s : St) : Res := lt (g0 e) fun v0 => lt (g7 e) fun v1 => bE ((eCall 43 [(cV v0), (cV v1)]) k e s) fun v2 s => .nrm (rw2 e fun a b c d f g h i j l m _ _ _ q r => ⟨a,b,c,d,f,g,h,i,j,l,m,v0,v1,v2,q,r⟩) s
def p18_17 (k : KC) (e : E) (s : St) : Res := ltc (V.i 0) fun v0 => .nrm (u6 e v0) s
def p18_16 (k : KC) (e : E) (s : St) : Res := dSeq p18_17 dRet k e s
def p18_14 (k : KC) (e : E) (s : St) : Res := dSeq p18_15 p18_16 k e s
def p18_12 (k : KC) (e : E) (s : St) : Res := dSeq p18_13 p18_14 k e s
def p18_10 (k : KC) (e : E) (s : St) : Res := dSeq p18_11 p18_12 k e s
def p18_4 (k : KC) (e : E) (s : St) : Res := dSeq p18_5 p18_10 k e s
def p18_2 (k : KC) (e : E) (s : St) : Res := dSeq p18_3 p18_4 k e s
def p18_0 (k : KC) (e : E) (s : St) : Res := dSeq p18_1 p18_2 k e s
def F18 : FDen := ⟨[u0, u1, u2], p18_0, resV [rT g6]⟩
theorem low18 : lowFunc tt [] fok Try.f18 = some F18 := by kernel_rfl
theorem run18 : FRun Try.prog [] 18 F18 := FRun.of (lowFunc_ok ttOk fokOk mixed Try.func18 low18)
/-- (*carafe/sched.Sched).Sleep -/
def p20_1 (k : KC) (e : E) (s : St) : Res := ltc (V.i 0) fun v0 => .nrm (u6 e v0) s
def p20_4 (k : KC) (e : E) (s : St) : Res := lt (g0 e) fun v0 => lt (g1 e) fun v1 => bE ((eCall 14 [(cV v0), (cV v1)]) k e s) fun v2 s => bP ((pBin (bI fNe) (cV v2) (cV (.i 1))) e) fun v3 => .nrm (rw0 e fun a b c d f g h _ _ _ _ n o p q r => ⟨a,b,c,d,f,g,h,v0,v1,v2,v3,n,o,p,q,r⟩) s
def p20_7 (k : KC) (e : E) (s : St) : Res := ltc (V.i 1) fun v0 => .nrm (u6 e v0) s
def p20_6 (k : KC) (e : E) (s : St) : Res := dSeq p20_7 dRet k e s
def p20_5 (k : KC) (e : E) (s : St) : Res := dCond g10 p20_6 dSkip k e s
def p20_3 (k : KC) (e : E) (s : St) : Res := dSeq p20_4 p20_5 k e s
def p20_10 (k : KC) (e : E) (s : St) : Res := lt (g2 e) fun v0 => bP ((pBin (bI fLt) (cV v0) (cV (.i 1))) e) fun v1 => .nrm (rw0 e fun a b c d f g h i j l m _ _ p q r => ⟨a,b,c,d,f,g,h,i,j,l,m,v0,v1,p,q,r⟩) s
def p20_13 (k : KC) (e : E) (s : St) : Res := ltc (V.i 0) fun v0 => .nrm (u6 e v0) s
def p20_12 (k : KC) (e : E) (s : St) : Res := dSeq p20_13 dRet k e s
def p20_11 (k : KC) (e : E) (s : St) : Res := dCond g12 p20_12 dSkip k e s
def p20_9 (k : KC) (e : E) (s : St) : Res := dSeq p20_10 p20_11 k e s
def p20_15 (k : KC) (e : E) (s : St) : Res := lt (g0 e) fun v0 => bP ((pUn uChk (cV v0)) e) fun v1 => bP ((pUn (uFld 0) (cV v1)) e) fun v2 => bP ((dLd (cV v2)) e s) fun v3 => lt (g1 e) fun v4 => bP ((pBin (bIdx 1) (cV v3) (cV v4)) e) fun v5 => bP ((dLd (cV v5)) e s) fun v6 => bP ((pUn uChk (cV v6)) e) fun v7 => bP ((pUn (uFld 0) (cV v7)) e) fun v8 => bE ((eSt 1 (cV v8) (cV (.i 4))) k e s) fun v9 s => .nrm (rw1 (rw0 e fun a b c d f g h i j l m n o _ _ _ => ⟨a,b,c,d,f,g,h,i,j,l,m,n,o,v0,v1,v2⟩) fun _ _ _ _ _ _ h i j l m n o p q r => ⟨v3,v4,v5,v6,v7,v8,h,i,j,l,m,n,o,p,q,r⟩) s
def p20_17 (k : KC) (e : E) (s : St) : Res := lt (g0 e) fun v0 => bP ((pUn uChk (cV v0)) e) fun v1 => bP ((pUn (uFld 4) (cV v1)) e) fun v2 => bP ((dLd (cV v2)) e s) fun v3 => bP ((pBin (bI fAdd) (cV v3) (cV (.i 1))) e) fun v4 => bP ((pUn uChk (cV v0)) e) fun v5 => bP ((pUn (uFld 4) (cV v5)) e) fun v6 => bE ((eSt 1 (cV v6) (cV v4)) k e s) fun v7 s => .nrm (rw1 e fun a b c d f g _ _ _ _ _ _ _ p q r => ⟨a,b,c,d,f,g,v0,v1,v2,v3,v4,v5,v6,p,q,r⟩) s
def p20_19 (k : KC) (e : E) (s : St) : Res := lt (g0 e) fun v0 => bP ((pUn uChk (cV v0)) e) fun v1 => bP ((pUn (uFld 2) (cV v1)) e) fun v2 => bP ((pUn (uIfc 84) (cV v2)) e) fun v3 => lt (g0 e) fun v4 => bP ((pUn uChk (cV v4)) e) fun v5 => bP ((pUn (uFld 3) (cV v5)) e) fun v6 => bP ((dLd (cV v6)) e s) fun v7 => lt (g2 e) fun v8 => bP ((pUn (cInt .u64) (cV v8)) e) fun v9 => bP ((pBin (bK .u64 fun a b => .int .u64 (IntKind.wrap .u64 (Int.add a b))) (cV v7) (cV v9)) e) fun v10 => lt (g0 e) fun v11 => bP ((pUn uChk (cV v11)) e) fun v12 => bP ((pUn (uFld 4) (cV v12)) e) fun v13 => bP ((dLd (cV v13)) e s) fun v14 => lt (g1 e) fun v15 => bP ((pBuild [(.int .u64 0), (.i 0), (.i 0)] [(0, 1, (cV v10)), (1, 1, (cV v14)), (2, 1, (cV v15))]) e) fun v16 => bP ((pUn (uIfc 86) (cV v16)) e) fun v17 => bE ((eCall 45 [(cV v3), (cV v17)]) k e s) fun v18 s => .nrm (rw2 (rw1 e fun a b c d f g h i j l m n o _ _ _ => ⟨a,b,c,d,f,g,h,i,j,l,m,n,o,v0,v1,v2⟩) fun _ _ _ _ _ _ _ _ _ _ _ _ _ _ _ _ => ⟨v3,v4,v5,v6,v7,v8,v9,v10,v11,v12,v13,v14,v15,v16,v17,v18⟩) s
def p20_21 (k : KC) (e : E) (s : St) : Res := ltc (V.i 0) fun v0 => .nrm (u6 e v0) s
def p20_20 (k : KC) (e : E) (s : St) : Res := dSeq p20_21 dRet k e s
def p20_18 (k : KC) (e : E) (s : St) : Res := dSeq p20_19 p20_20 k e s
def p20_16 (k : KC) (e : E) (s : St) : Res := dSeq p20_17 p20_18 k e s
def p20_14 (k : KC) (e : E) (s : St) : Res := dSeq p20_15 p20_16 k e s
def p20_8 (k : KC) (e : E) (s : St) : Res := dSeq p20_9 p20_14 k e s
def p20_2 (k : KC) (e : E) (s : St) : Res := dSeq p20_3 p20_8 k e s
def p20_0 (k : KC) (e : E) (s : St) : Res := dSeq p20_1 p20_2 k e s
def F20 : FDen := ⟨[u0, u1, u2], p20_0, resV [rT g6]⟩
theorem low20 : lowFunc tt [] fok Try.f20 = some F20 := by kernel_rfl
theorem run20 : FRun Try.prog [] 20 F20 := FRun.of (lowFunc_ok ttOk fokOk mixed Try.func20 low20)
/-- (*carafe/sched.Sched).Pick -/
def p21_1 (k : KC) (e : E) (s : St) : Res := ltc (V.i 0) fun v0 => ltc (V.bool false) fun v1 => .nrm (rw0 e fun a b c d _ _ h i j l m n o p q r => ⟨a,b,c,d,v0,v1,h,i,j,l,m,n,o,p,q,r⟩) s
def p21_3 (k : KC) (e : E) (s : St) : Res := lt (g0 e) fun v0 => bE ((eCall 46 [(cV v0), (cV (.i 1))]) k e s) fun v1 s => .nrm (rw0 e fun a b c d f g _ _ _ l m n o p q r => ⟨a,b,c,d,f,g,v1,v0,v1,l,m,n,o,p,q,r⟩) s
def p21_6 (k : KC) (e : E) (s : St) : Res := lt (g6 e) fun v0 => bP ((pUn uLenS (cV v0)) e) fun v1 => bP ((pBin (bI fEq) (cV v1) (cV (.i 0))) e) fun v2 => .nrm (rw0 e fun a b c d f g h i j _ _ _ o p q r => ⟨a,b,c,d,f,g,h,i,j,v0,v1,v2,o,p,q,r⟩) s
def p21_9 (k : KC) (e : E) (s : St) : Res := ltc (V.i 0) fun v0 => ltc (V.bool false) fun v1 => .nrm (rw0 e fun a b c d _ _ h i j l m n o p q r => ⟨a,b,c,d,v0,v1,h,i,j,l,m,n,o,p,q,r⟩) s
def p21_8 (k : KC) (e : E) (s : St) : Res := dSeq p21_9 dRet k e s
def p21_7 (k : KC) (e : E) (s : St) : Res := dCond g11 p21_8 dSkip k e s
def p21_5 (k : KC) (e : E) (s : St) : Res := dSeq p21_6 p21_7 k e s
def p21_12 (k : KC) (e : E) (s : St) : Res := lt (g1 e) fun v0 => bP ((pBin (bI fLt) (cV v0) (cV (.i 0))) e) fun v1 => .nrm (rw0 e fun a b c d f g h i j l m n _ _ q r => ⟨a,b,c,d,f,g,h,i,j,l,m,n,v0,v1,q,r⟩) s
def p21_14 (k : KC) (e : E) (s : St) : Res := lt (g1 e) fun v0 => bP ((pBin (bI fAdd) (cV v0) (cV (.i 1))) e) fun v1 => bP ((pUn uNeg (cV v1)) e) fun v2 => .nrm (u16 (rw0 e fun a _ c d f g h i j l m n o p _ _ => ⟨a,v2,c,d,f,g,h,i,j,l,m,n,o,p,v0,v1⟩) v2) s
def p21_13 (k : KC) (e : E) (s : St) : Res := dCond g13 p21_14 dSkip k e s
def p21_11 (k : KC) (e : E) (s : St) : Res := dSeq p21_12 p21_13 k e s
def p21_16 (k : KC) (e : E) (s : St) : Res := lt (g6 e) fun v0 => lt (g1 e) fun v1 => lt (g6 e) fun v2 => bP ((pUn uLenS (cV v2)) e) fun v3 => bP ((pBin rem64 (cV v1) (cV v3)) e) fun v4 => bP ((pBin (bIdx 1) (cV v0) (cV v4)) e) fun v5 => bP ((dLd (cV v5)) e s) fun v6 => ltc (V.bool true) fun v7 => .nrm (rw1 (rw0 e fun a b c d _ _ h i j l m n o p q r => ⟨a,b,c,d,v6,v7,h,i,j,l,m,n,o,p,q,r⟩) fun a _ _ _ _ _ _ _ j l m n o p q r => ⟨a,v0,v1,v2,v3,v4,v5,v6,j,l,m,n,o,p,q,r⟩) s
def p21_15 (k : KC) (e : E) (s : St) : Res := dSeq p21_16 dRet k e s
def p21_10 (k : KC) (e : E) (s : St) : Res := dSeq p21_11 p21_15 k e s
def p21_4 (k : KC) (e : E) (s : St) : Res := dSeq p21_5 p21_10 k e s
def p21_2 (k : KC) (e : E) (s : St) : Res := dSeq p21_3 p21_4 k e s
def p21_0 (k : KC) (e : E) (s : St) : Res := dSeq p21_1 p21_2 k e s
def F21 : FDen := ⟨[u0, u1], p21_0, resV [rT g4, rT g5]⟩
theorem low21 : lowFunc tt [] fok Try.f21 = some F21 := by kernel_rfl
theorem run21 : FRun Try.prog [] 21 F21 := FRun.of (lowFunc_ok ttOk fokOk mixed Try.func21 low21)
/-- carafe/carafebook.Same[int] -/
def p22_1 (k : KC) (e : E) (s : St) : Res := ltc (V.bool false) fun v0 => .nrm (u4 e v0) s
def p22_4 (k : KC) (e : E) (s : St) : Res := lt (g0 e) fun v0 => bP ((pUn uLenS (cV v0)) e) fun v1 => lt (g1 e) fun v2 => bP ((pUn uLenS (cV v2)) e) fun v3 => bP ((pBin (bI fNe) (cV v1) (cV v3)) e) fun v4 => .nrm (rw0 e fun a b c d f g _ _ _ _ _ n o p q r => ⟨a,b,c,d,f,g,v0,v1,v2,v3,v4,n,o,p,q,r⟩) s
def p22_7 (k : KC) (e : E) (s : St) : Res := ltc (V.bool false) fun v0 => .nrm (u4 e v0) s
def p22_6 (k : KC) (e : E) (s : St) : Res := dSeq p22_7 dRet k e s
def p22_5 (k : KC) (e : E) (s : St) : Res := dCond g10 p22_6 dSkip k e s
def p22_3 (k : KC) (e : E) (s : St) : Res := dSeq p22_4 p22_5 k e s
def p22_10 (k : KC) (e : E) (s : St) : Res := ltc (V.i 0) fun v0 => .nrm (u5 e v0) s
def p22_15 (k : KC) (e : E) (s : St) : Res := lt (g5 e) fun v0 => lt (g0 e) fun v1 => bP ((pUn uLenS (cV v1)) e) fun v2 => bP ((pBin (bI fLt) (cV v0) (cV v2)) e) fun v3 => .nrm (rw0 e fun a b c d f g h i j l m _ _ _ _ r => ⟨a,b,c,d,f,g,h,i,j,l,m,v0,v1,v2,v3,r⟩) s
def p22_16 (k : KC) (e : E) (s : St) : Res := dCond g14 dSkip (dExit 0) k e s
def p22_14 (k : KC) (e : E) (s : St) : Res := dSeq p22_15 p22_16 k e s
def p22_20 (k : KC) (e : E) (s : St) : Res := lt (g0 e) fun v0 => lt (g5 e) fun v1 => bP ((pBin (bIdx 1) (cV v0) (cV v1)) e) fun v2 => bP ((dLd (cV v2)) e s) fun v3 => lt (g1 e) fun v4 => lt (g5 e) fun v5 => bP ((pBin (bIdx 1) (cV v4) (cV v5)) e) fun v6 => bP ((dLd (cV v6)) e s) fun v7 => bP ((pBin (bI fNe) (cV v3) (cV v7)) e) fun v8 => .nrm (rw1 e fun a _ _ _ _ _ _ _ _ _ m n o p q r => ⟨a,v0,v1,v2,v3,v4,v5,v6,v7,v8,m,n,o,p,q,r⟩) s
def p22_23 (k : KC) (e : E) (s : St) : Res := ltc (V.bool false) fun v0 => .nrm (u4 e v0) s
def p22_22 (k : KC) (e : E) (s : St) : Res := dSeq p22_23 dRet k e s
def p22_21 (k : KC) (e : E) (s : St) : Res := dCond g25 p22_22 dSkip k e s
def p22_19 (k : KC) (e : E) (s : St) : Res := dSeq p22_20 p22_21 k e s
def p22_18 (k : KC) (e : E) (s : St) : Res := dBlock 1 p22_19 k e s
def p22_24 (k : KC) (e : E) (s : St) : Res := lt (g5 e) fun v0 => bP ((pBin (bI fAdd) (cV v0) (cV (.i 1))) e) fun v1 => .nrm (u16 (rw0 e fun a b c d f _ h i j l m n o p q _ => ⟨a,b,c,d,f,v1,h,i,j,l,m,n,o,p,q,v0⟩) v1) s
def p22_17 (k : KC) (e : E) (s : St) : Res := dSeq p22_18 p22_24 k e s
def p22_13 (k : KC) (e : E) (s : St) : Res := dSeq p22_14 p22_17 k e s
def p22_12 (k : KC) (e : E) (s : St) : Res := dLoop p22_13 k e s
def p22_11 (k : KC) (e : E) (s : St) : Res := dBlock 0 p22_12 k e s
def p22_9 (k : KC) (e : E) (s : St) : Res := dSeq p22_10 p22_11 k e s
def p22_26 (k : KC) (e : E) (s : St) : Res := ltc (V.bool true) fun v0 => .nrm (u4 e v0) s
def p22_25 (k : KC) (e : E) (s : St) : Res := dSeq p22_26 dRet k e s
def p22_8 (k : KC) (e : E) (s : St) : Res := dSeq p22_9 p22_25 k e s
def p22_2 (k : KC) (e : E) (s : St) : Res := dSeq p22_3 p22_8 k e s
def p22_0 (k : KC) (e : E) (s : St) : Res := dSeq p22_1 p22_2 k e s
def F22 : FDen := ⟨[u0, u1], p22_0, resV [rT g4]⟩
theorem low22 : lowFunc tt [] fok Try.f22 = some F22 := by kernel_rfl
theorem run22 : FRun Try.prog [] 22 F22 := FRun.of (lowFunc_ok ttOk fokOk mixed Try.func22 low22)
/-- (*carafe/sched.Sched).Tick -/
def p23_1 (k : KC) (e : E) (s : St) : Res := ltc (V.nils) fun v0 => .nrm (u2 e v0) s
def p23_3 (k : KC) (e : E) (s : St) : Res := lt (g0 e) fun v0 => bP ((pUn uChk (cV v0)) e) fun v1 => bP ((pUn (uFld 3) (cV v1)) e) fun v2 => bP ((dLd (cV v2)) e s) fun v3 => bP ((pBin (bK .u64 fun a b => .int .u64 (IntKind.wrap .u64 (Int.add a b))) (cV v3) (cV (.int .u64 1))) e) fun v4 => bP ((pUn uChk (cV v0)) e) fun v5 => bP ((pUn (uFld 3) (cV v5)) e) fun v6 => bE ((eSt 1 (cV v6) (cV v4)) k e s) fun v7 s => .nrm (rw0 e fun a b c d f _ _ _ _ _ _ _ o p q r => ⟨a,b,c,d,f,v0,v1,v2,v3,v4,v5,v6,o,p,q,r⟩) s
def p23_5 (k : KC) (e : E) (s : St) : Res := ltc (V.nils) fun v0 => .nrm (u3 e v0) s
def p23_11 (k : KC) (e : E) (s : St) : Res := lt (g0 e) fun v0 => bP ((pUn uChk (cV v0)) e) fun v1 => bP ((pUn (uFld 2) (cV v1)) e) fun v2 => bP ((dLd (cV v2)) e s) fun v3 => bP ((pUn uLenS (cV v3)) e) fun v4 => bP ((pBin (bI fGt) (cV v4) (cV (.i 0))) e) fun v5 => bP (gdV v5 true ((pMove g0) e)) fun v6 => bP (gdV v5 true ((pUn uChk (cV v6)) e)) fun v7 => bP (gdV v5 true ((pUn (uFld 2) (cV v7)) e)) fun v8 => bP (gdV v5 true ((dLd (cV v8)) e s)) fun v9 => bP (gdV v5 true ((pBin (bIdx 3) (cV v9) (cV (.i 0))) e)) fun v10 => bP (gdV v5 true ((pUn (uFld 0) (cV v10)) e)) fun v11 => bP (gdV v5 true ((dLd (cV v11)) e s)) fun v12 => bP (gdV v5 true ((pMove g0) e)) fun v13 => bP (gdV v5 true ((pUn uChk (cV v13)) e)) fun v14 => bP (gdV v5 true ((pUn (uFld 3) (cV v14)) e)) fun v15 => bP (gdV v5 true ((dLd (cV v15)) e s)) fun v16 => bP (gdV v5 true ((pBin (bK .u64 fLe) (cV v12) (cV v16)) e)) fun v17 => bP ((pPick (cV v5) (cV v17) (cV (.bool false))) e) fun v18 => .nrm (rw1 (rw0 e fun a b c d f g h i j l m n _ _ _ _ => ⟨a,b,c,d,f,g,h,i,j,l,m,n,v0,v1,v2,v3⟩) fun _ _ _ _ _ _ _ _ _ _ _ _ _ _ _ _ => ⟨v4,v5,v5,v6,v7,v8,v9,v10,v11,v12,v13,v14,v15,v16,v17,v18⟩) s
def p23_12 (k : KC) (e : E) (s : St) : Res := dCond g31 dSkip (dExit 0) k e s
def p23_10 (k : KC) (e : E) (s : St) : Res := dSeq p23_11 p23_12 k e s
def p23_15 (k : KC) (e : E) (s : St) : Res := lt (g0 e) fun v0 => bP ((pUn uChk (cV v0)) e) fun v1 => bP ((pUn (uFld 2) (cV v1)) e) fun v2 => bP ((pUn (uIfc 84) (cV v2)) e) fun v3 => bE ((eCall 47 [(cV v3)]) k e s) fun v4 s => bP ((pUn (uAss 86 false (.agg [(.int .u64 0), (.i 0), (.i 0)])) (cV v4)) e) fun v5 => bE (aSt ((aAl 3 (ofL [(.int .u64 0), (.i 0), (.i 0)])) e s.next) s) fun v6 s => bE ((eSt 3 (cV v6) (cV v5)) k e s) fun v7 s => .nrm (rw2 (u4 e v6) fun _ _ _ _ _ _ h i j l m n o p q r => ⟨v0,v1,v2,v3,v4,v5,h,i,j,l,m,n,o,p,q,r⟩) s
def p23_17 (k : KC) (e : E) (s : St) : Res := lt (g0 e) fun v0 => bP ((pUn uChk (cV v0)) e) fun v1 => bP ((pUn (uFld 0) (cV v1)) e) fun v2 => bP ((dLd (cV v2)) e s) fun v3 => bP ((pUn (uFld 2) g4) e) fun v4 => bP ((dLd (cV v4)) e s) fun v5 => bP ((pBin (bIdx 1) (cV v3) (cV v5)) e) fun v6 => bP ((dLd (cV v6)) e s) fun v7 => bP ((pUn uChk (cV v7)) e) fun v8 => bP ((pUn (uFld 0) (cV v8)) e) fun v9 => bE ((eSt 1 (cV v9) (cV (.i 1))) k e s) fun v10 s => .nrm (rw2 e fun a b c d f g _ _ _ _ _ _ _ _ _ _ => ⟨a,b,c,d,f,g,v0,v1,v2,v3,v4,v5,v6,v7,v8,v9⟩) s
def p23_18 (k : KC) (e : E) (s : St) : Res := lt (g3 e) fun v0 => bP ((pUn (uFld 2) g4) e) fun v1 => bP ((dLd (cV v1)) e s) fun v2 => bE (aSt ((aBSl 1 1 [(.i 0)] [(0, 1, (cV v2))]) e s.next) s) fun v3 s => bE ((eAp 1 (cV v0) (cV v3)) k e s) fun v4 s => .nrm (rw3 (u3 e v4) fun _ _ _ _ _ g h i j l m n o p q r => ⟨v0,v1,v2,v3,v4,g,h,i,j,l,m,n,o,p,q,r⟩) s
def p23_16 (k : KC) (e : E) (s : St) : Res := dSeq p23_17 p23_18 k e s
def p23_14 (k : KC) (e : E) (s : St) : Res := dSeq p23_15 p23_16 k e s
def p23_13 (k : KC) (e : E) (s : St) : Res := dBlock 1 p23_14 k e s
def p23_9 (k : KC) (e : E) (s : St) : Res := dSeq p23_10 p23_13 k e s
def p23_8 (k : KC) (e : E) (s : St) : Res := dLoop p23_9 k e s
def p23_7 (k : KC) (e : E) (s : St) : Res := dBlock 0 p23_8 k e s
def p23_20 (k : KC) (e : E) (s : St) : Res := lt (g3 e) fun v0 => .nrm (u53 (u2 e v0) v0) s
def p23_19 (k : KC) (e : E) (s : St) : Res := dSeq p23_20 dRet k e s
def p23_6 (k : KC) (e : E) (s : St) : Res := dSeq p23_7 p23_19 k e s
def p23_4 (k : KC) (e : E) (s : St) : Res := dSeq p23_5 p23_6 k e s
def p23_2 (k : KC) (e : E) (s : St) : Res := dSeq p23_3 p23_4 k e s
def p23_0 (k : KC) (e : E) (s : St) : Res := dSeq p23_1 p23_2 k e s
def F23 : FDen := ⟨[u0], p23_0, resV [rT g2]⟩
theorem low23 : lowFunc tt [] fok Try.f23 = some F23 := by kernel_rfl
theorem run23 : FRun Try.prog [] 23 F23 := FRun.of (lowFunc_ok ttOk fokOk mixed Try.func23 low23)
/-- (*carafe/sched.Sched).Over -/
def p24_1 (k : KC) (e : E) (s : St) : Res := ltc (V.bool false) fun v0 => ltc (V.bool false) fun v1 => .nrm (rw0 e fun a b _ _ f g h i j l m n o p q r => ⟨a,b,v0,v1,f,g,h,i,j,l,m,n,o,p,q,r⟩) s
def p24_3 (k : KC) (e : E) (s : St) : Res := dDraw [⟨none, (.p (pMove g0)), u5⟩, ⟨none, (.e (eCall 46 [g5, (cV (.i 6))])), u6⟩, ⟨none, (.p (pUn uLenS g6)), u7⟩, ⟨none, (.p (pMove g0)), u8⟩, ⟨none, (.p (pUn uChk g8)), u9⟩, ⟨none, (.p (pUn (uFld 0) g9)), u10⟩, ⟨none, (.d 0 1 (dLd g10)), u11⟩, ⟨none, (.p (pUn uLenS g11)), u12⟩, ⟨none, (.p (pBin (bI fEq) g7 g12)), u13⟩, ⟨none, (.p (pMove g13)), u4⟩] k e s
def p24_5 (k : KC) (e : E) (s : St) : Res := lt (g4 e) fun v0 => lt (g4 e) fun v1 => bP ((pUn uNot (cV v1)) e) fun v2 => bP (gdV v2 true ((pMove g0) e)) fun v3 => bE (gdW v2 true s ((eCall 46 [(cV v3), (cV (.i 1))]) k e s)) fun v4 s => bP (gdV v2 true ((pUn uLenS (cV v4)) e)) fun v5 => bP (gdV v2 true ((pBin (bI fEq) (cV v5) (cV (.i 0))) e)) fun v6 => bP ((pPick (cV v2) (cV v6) (cV (.bool false))) e) fun v7 => bP (gdV v7 true ((pMove g0) e)) fun v8 => bE (gdW v7 true s ((eCall 46 [(cV v8), (cV (.i 4))]) k e s)) fun v9 s => bP (gdV v7 true ((pUn uLenS (cV v9)) e)) fun v10 => bP (gdV v7 true ((pBin (bI fEq) (cV v10) (cV (.i 0))) e)) fun v11 => bP ((pPick (cV v7) (cV v11) (cV (.bool false))) e) fun v12 => .nrm (rw1 (rw0 e fun a b _ _ f g h i j l m n o p _ _ => ⟨a,b,v0,v12,f,g,h,i,j,l,m,n,o,p,v0,v1⟩) fun _ _ _ _ _ _ _ _ _ _ _ _ _ p q r => ⟨v2,v2,v3,v4,v5,v6,v7,v7,v8,v9,v10,v11,v12,p,q,r⟩) s
def p24_4 (k : KC) (e : E) (s : St) : Res := dSeq p24_5 dRet k e s
def p24_2 (k : KC) (e : E) (s : St) : Res := dSeq p24_3 p24_4 k e s
def p24_0 (k : KC) (e : E) (s : St) : Res := dSeq p24_1 p24_2 k e s
def F24 : FDen := ⟨[u0], p24_0, resV [rT g2, rT g3]⟩
theorem low24 : lowFunc tt [] fok Try.f24 = some F24 := by kernel_rfl
theorem run24 : FRun Try.prog [] 24 F24 := FRun.of (lowFunc_ok ttOk fokOk mixed Try.func24 low24)
/-- (*carafe/sched.Sched).at -/
def p41_1 (k : KC) (e : E) (s : St) : Res := ltc (V.nilp) fun v0 => .nrm (u4 e v0) s
def p41_4 (k : KC) (e : E) (s : St) : Res := lt (g0 e) fun v0 => bP ((pUn uChk (cV v0)) e) fun v1 => bP ((pUn (uFld 1) (cV v1)) e) fun v2 => bP ((dLd (cV v2)) e s) fun v3 => lt (g1 e) fun v4 => bP ((dLk eqKI .nilp false (cV v3) (cV v4)) e s) fun v5 => bP ((pBin (bNil false nilP) (cV v5) (cV .nilp)) e) fun v6 => .nrm (rw0 e fun a b c d f _ _ _ _ _ _ _ o p q r => ⟨a,b,c,d,f,v0,v1,v2,v3,v4,v5,v6,o,p,q,r⟩) s
def p41_6 (k : KC) (e : E) (s : St) : Res := lt (g0 e) fun v0 => bP ((pUn uChk (cV v0)) e) fun v1 => bP ((pUn (uFld 1) (cV v1)) e) fun v2 => bP ((dLd (cV v2)) e s) fun v3 => lt (g1 e) fun v4 => bP ((pBuild [(.i 0), (.i 0), .nils, .nils] [(0, 1, (cV (.i (-1))))]) e) fun v5 => bE (aSt ((aBox (cV v5)) e s.next) s) fun v6 s => bE ((eMu eqKI (cV v3) (cV v4) (cV v6)) k e s) fun v7 s => .nrm (rw1 (rw0 e fun a b c d f g h i j l m n _ _ _ _ => ⟨a,b,c,d,f,g,h,i,j,l,m,n,v0,v1,v2,v3⟩) fun _ _ _ d f g h i j l m n o p q r => ⟨v4,v5,v6,d,f,g,h,i,j,l,m,n,o,p,q,r⟩) s
def p41_5 (k : KC) (e : E) (s : St) : Res := dCond g11 p41_6 dSkip k e s
def p41_3 (k : KC) (e : E) (s : St) : Res := dSeq p41_4 p41_5 k e s
def p41_8 (k : KC) (e : E) (s : St) : Res := lt (g0 e) fun v0 => bP ((pUn uChk (cV v0)) e) fun v1 => bP ((pUn (uFld 1) (cV v1)) e) fun v2 => bP ((dLd (cV v2)) e s) fun v3 => lt (g1 e) fun v4 => bP ((dLk eqKI .nilp false (cV v3) (cV v4)) e s) fun v5 => .nrm (rw1 (u4 e v5) fun a b c _ _ _ _ _ _ l m n o p q r => ⟨a,b,c,v0,v1,v2,v3,v4,v5,l,m,n,o,p,q,r⟩) s
def p41_7 (k : KC) (e : E) (s : St) : Res := dSeq p41_8 dRet k e s
def p41_2 (k : KC) (e : E) (s : St) : Res := dSeq p41_3 p41_7 k e s
def p41_0 (k : KC) (e : E) (s : St) : Res := dSeq p41_1 p41_2 k e s
def F41 : FDen := ⟨[u0, u1], p41_0, resV [rT g4]⟩
theorem low41 : lowFunc tt [] fok Try.f41 = some F41 := by kernel_rfl
theorem run41 : FRun Try.prog [] 41 F41 := FRun.of (lowFunc_ok ttOk fokOk mixed Try.func41 low41)
/-- (*carafe/sched.Sched).own -/
def p42_1 (k : KC) (e : E) (s : St) : Res := ltc (V.nilp) fun v0 => ltc (V.i 0) fun v1 => .nrm (rw0 e fun a b c d f g _ _ j l m n o p q r => ⟨a,b,c,d,f,g,v0,v1,j,l,m,n,o,p,q,r⟩) s
def p42_3 (k : KC) (e : E) (s : St) : Res := lt (g0 e) fun v0 => lt (g2 e) fun v1 => bE ((eCall 41 [(cV v0), (cV v1)]) k e s) fun v2 s => .nrm (rw0 e fun a b c d f g h i _ _ _ _ o p q r => ⟨a,b,c,d,f,g,h,i,v2,v0,v1,v2,o,p,q,r⟩) s
def p42_6 (k : KC) (e : E) (s : St) : Res := lt (g0 e) fun v0 => lt (g1 e) fun v1 => bE ((eCall 14 [(cV v0), (cV v1)]) k e s) fun v2 s => bP ((pBin (bI fNe) (cV v2) (cV (.i 1))) e) fun v3 => .nrm (rw1 (rw0 e fun a b c d f g h i j l m n o _ _ _ => ⟨a,b,c,d,f,g,h,i,j,l,m,n,o,v3,v0,v1⟩) fun _ _ c d f g h i j l m n o p q r => ⟨v2,v3,c,d,f,g,h,i,j,l,m,n,o,p,q,r⟩) s
def p42_9 (k : KC) (e : E) (s : St) : Res := ltc (V.nilp) fun v0 => ltc (V.i 1) fun v1 => .nrm (rw0 e fun a b c d f g _ _ j l m n o p q r => ⟨a,b,c,d,f,g,v0,v1,j,l,m,n,o,p,q,r⟩) s
def p42_8 (k : KC) (e : E) (s : St) : Res := dSeq p42_9 dRet k e s
def p42_11 (k : KC) (e : E) (s : St) : Res := lt (g8 e) fun v0 => bP ((pUn uChk (cV v0)) e) fun v1 => bP ((pUn (uFld 0) (cV v1)) e) fun v2 => bP ((dLd (cV v2)) e s) fun v3 => lt (g1 e) fun v4 => bP ((pBin (bI fNe) (cV v3) (cV v4)) e) fun v5 => .nrm (rw1 e fun a b _ _ _ _ _ _ _ l m n o p q r => ⟨a,b,v5,v0,v1,v2,v3,v4,v5,l,m,n,o,p,q,r⟩) s
def p42_14 (k : KC) (e : E) (s : St) : Res := ltc (V.nilp) fun v0 => ltc (V.i 27) fun v1 => .nrm (rw0 e fun a b c d f g _ _ j l m n o p q r => ⟨a,b,c,d,f,g,v0,v1,j,l,m,n,o,p,q,r⟩) s
def p42_13 (k : KC) (e : E) (s : St) : Res := dSeq p42_14 dRet k e s
def p42_16 (k : KC) (e : E) (s : St) : Res := lt (g8 e) fun v0 => ltc (V.i 0) fun v1 => .nrm (rw0 e fun a b c d f g _ _ j l m n _ p q r => ⟨a,b,c,d,f,g,v0,v1,j,l,m,n,v0,p,q,r⟩) s
def p42_15 (k : KC) (e : E) (s : St) : Res := dSeq p42_16 dRet k e s
def p42_12 (k : KC) (e : E) (s : St) : Res := dCond g18 p42_13 p42_15 k e s
def p42_10 (k : KC) (e : E) (s : St) : Res := dSeq p42_11 p42_12 k e s
def p42_7 (k : KC) (e : E) (s : St) : Res := dCond g13 p42_8 p42_10 k e s
def p42_5 (k : KC) (e : E) (s : St) : Res := dSeq p42_6 p42_7 k e s
def p42_4 (k : KC) (e : E) (s : St) : Res := dBlock 0 p42_5 k e s
def p42_2 (k : KC) (e : E) (s : St) : Res := dSeq p42_3 p42_4 k e s
def p42_0 (k : KC) (e : E) (s : St) : Res := dSeq p42_1 p42_2 k e s
def F42 : FDen := ⟨[u0, u1, u2], p42_0, resV [rT g6, rT g7]⟩
theorem low42 : lowFunc tt [] fok Try.f42 = some F42 := by kernel_rfl
theorem run42 : FRun Try.prog [] 42 F42 := FRun.of (lowFunc_ok ttOk fokOk mixed Try.func42 low42)
/-- (*carafe/sched.Sched).free -/
def p43_1 (k : KC) (e : E) (s : St) : Res := lt (g1 e) fun v0 => lt (g1 e) fun v1 => bP ((pUn uChk (cV v0)) e) fun v2 => bP ((pUn (uFld 0) (cV v2)) e) fun v3 => bE ((eSt 1 (cV v3) (cV (.i (-1)))) k e s) fun v4 s => bP ((pUn uChk (cV v1)) e) fun v5 => bP ((pUn (uFld 1) (cV v5)) e) fun v6 => bE ((eSt 1 (cV v6) (cV (.i 0))) k e s) fun v7 s => .nrm (rw0 e fun a b c d f _ _ _ _ _ _ n o p q r => ⟨a,b,c,d,f,v0,v1,v2,v3,v5,v6,n,o,p,q,r⟩) s
def p43_4 (k : KC) (e : E) (s : St) : Res := lt (g1 e) fun v0 => bP ((pUn uChk (cV v0)) e) fun v1 => bP ((pUn (uFld 2) (cV v1)) e) fun v2 => bP ((dLd (cV v2)) e s) fun v3 => bP ((pUn uLenS (cV v3)) e) fun v4 => bP ((pBin (bI fEq) (cV v4) (cV (.i 0))) e) fun v5 => .nrm (u16 (rw0 e fun a b c d f g h i j l m _ _ _ _ _ => ⟨a,b,c,d,f,g,h,i,j,l,m,v0,v1,v2,v3,v4⟩) v5) s
def p43_5 (k : KC) (e : E) (s : St) : Res := dCond g16 dRet dSkip k e s
def p43_3 (k : KC) (e : E) (s : St) : Res := dSeq p43_4 p43_5 k e s
def p43_7 (k : KC) (e : E) (s : St) : Res := lt (g1 e) fun v0 => bP ((pUn uChk (cV v0)) e) fun v1 => bP ((pUn (uFld 2) (cV v1)) e) fun v2 => bP ((dLd (cV v2)) e s) fun v3 => bP ((pBin (bIdx 1) (cV v3) (cV (.i 0))) e) fun v4 => bP ((dLd (cV v4)) e s) fun v5 => .nrm (rw1 (u4 e v5) fun a _ _ _ _ _ _ i j l m n o p q r => ⟨a,v0,v1,v2,v3,v4,v5,i,j,l,m,n,o,p,q,r⟩) s
def p43_9 (k : KC) (e : E) (s : St) : Res := lt (g1 e) fun v0 => lt (g1 e) fun v1 => bP ((pUn uChk (cV v1)) e) fun v2 => bP ((pUn (uFld 2) (cV v2)) e) fun v3 => bP ((dLd (cV v3)) e s) fun v4 => bP ((pSl 1 (cV v4) (some (cV (.i 1))) none none) e) fun v5 => bP ((pUn uChk (cV v0)) e) fun v6 => bP ((pUn (uFld 2) (cV v6)) e) fun v7 => bE ((eSt 1 (cV v7) (cV v5)) k e s) fun v8 s => .nrm (rw1 e fun a b c d f g h _ _ _ _ _ _ _ _ r => ⟨a,b,c,d,f,g,h,v0,v1,v2,v3,v4,v5,v6,v7,r⟩) s
def p43_11 (k : KC) (e : E) (s : St) : Res := lt (g1 e) fun v0 => lt (g1 e) fun v1 => lt (g4 e) fun v2 => lt (g0 e) fun v3 => bP ((pUn uChk (cV v3)) e) fun v4 => bP ((pUn (uFld 0) (cV v4)) e) fun v5 => bP ((dLd (cV v5)) e s) fun v6 => lt (g4 e) fun v7 => bP ((pBin (bIdx 1) (cV v6) (cV v7)) e) fun v8 => bP ((dLd (cV v8)) e s) fun v9 => bP ((pUn uChk (cV v9)) e) fun v10 => bP ((pUn (uFld 2) (cV v10)) e) fun v11 => bP ((dLd (cV v11)) e s) fun v12 => bP ((pUn uChk (cV v0)) e) fun v13 => bP ((pUn (uFld 0) (cV v13)) e) fun v14 => bE ((eSt 1 (cV v14) (cV v2)) k e s) fun v15 s => bP ((pUn uChk (cV v1)) e) fun v16 => bP ((pUn (uFld 1) (cV v16)) e) fun v17 => bE ((eSt 1 (cV v17) (cV v12)) k e s) fun v18 s => .nrm (rw2 (u31 e v0) fun _ _ _ _ _ _ _ _ _ _ _ _ _ _ _ _ => ⟨v1,v2,v3,v4,v5,v6,v7,v8,v9,v10,v11,v12,v13,v14,v16,v17⟩) s
def p43_12 (k : KC) (e : E) (s : St) : Res := lt (g0 e) fun v0 => bP ((pUn uChk (cV v0)) e) fun v1 => bP ((pUn (uFld 0) (cV v1)) e) fun v2 => bP ((dLd (cV v2)) e s) fun v3 => lt (g4 e) fun v4 => bP ((pBin (bIdx 1) (cV v3) (cV v4)) e) fun v5 => bP ((dLd (cV v5)) e s) fun v6 => bP ((pUn uChk (cV v6)) e) fun v7 => bP ((pUn (uFld 0) (cV v7)) e) fun v8 => bE ((eSt 1 (cV v8) (cV (.i 1))) k e s) fun v9 s => .nrm (rw3 e fun _ _ _ _ _ _ _ _ _ l m n o p q r => ⟨v0,v1,v2,v3,v4,v5,v6,v7,v8,l,m,n,o,p,q,r⟩) s
def p43_10 (k : KC) (e : E) (s : St) : Res := dSeq p43_11 p43_12 k e s
def p43_8 (k : KC) (e : E) (s : St) : Res := dSeq p43_9 p43_10 k e s
def p43_6 (k : KC) (e : E) (s : St) : Res := dSeq p43_7 p43_8 k e s
def p43_2 (k : KC) (e : E) (s : St) : Res := dSeq p43_3 p43_6 k e s
def p43_0 (k : KC) (e : E) (s : St) : Res := dSeq p43_1 p43_2 k e s
def F43 : FDen := ⟨[u0, u1], p43_0, resV []⟩
theorem low43 : lowFunc tt [] fok Try.f43 = some F43 := by kernel_rfl
theorem run43 : FRun Try.prog [] 43 F43 := FRun.of (lowFunc_ok ttOk fokOk mixed Try.func43 low43)
/-- container/heap.Push -/
def p45_1 (k : KC) (e : E) (s : St) : Res := lt (g0 e) fun v0 => lt (g1 e) fun v1 => bE ((eInv [(84, 95, .self)] (cV v0) [(cV v1)]) k e s) fun v2 s => .nrm (rw0 e fun a b c d _ _ _ i j l m n o p q r => ⟨a,b,c,d,v0,v1,v2,i,j,l,m,n,o,p,q,r⟩) s
def p45_2 (k : KC) (e : E) (s : St) : Res := lt (g0 e) fun v0 => lt (g0 e) fun v1 => bE ((eInv [(67, 91, .self), (84, 91, .ld false 1)] (cV v1) []) k e s) fun v2 s => bP ((pBin (bI fSub) (cV v2) (cV (.i 1))) e) fun v3 => bE ((eCall 52 [(cV v0), (cV v3)]) k e s) fun v4 s => .nrm (rw0 e fun a b c d f g h _ _ _ _ _ o p q r => ⟨a,b,c,d,f,g,h,v0,v1,v2,v3,v4,o,p,q,r⟩) s
def p45_0 (k : KC) (e : E) (s : St) : Res := dSeq p45_1 p45_2 k e s
def F45 : FDen := ⟨[u0, u1], p45_0, resV []⟩
theorem low45 : lowFunc tt [] fok Try.f45 = some F45 := by kernel_rfl
theorem run45 : FRun Try.prog [] 45 F45 := FRun.of (lowFunc_ok ttOk fokOk mixed Try.func45 low45)
/-- (*carafe/sched.Sched).in -/
def p46_1 (k : KC) (e : E) (s : St) : Res := ltc (V.nils) fun v0 => .nrm (u4 e v0) s
def p46_3 (k : KC) (e : E) (s : St) : Res := ltc (V.nils) fun v0 => .nrm (u5 e v0) s
def p46_6 (k : KC) (e : E) (s : St) : Res := lt (g0 e) fun v0 => bP ((pUn uChk (cV v0)) e) fun v1 => bP ((pUn (uFld 0) (cV v1)) e) fun v2 => bP ((dLd (cV v2)) e s) fun v3 => bP ((pUn uLenS (cV v3)) e) fun v4 => ltc (V.i 0) fun v5 => .nrm (rw0 e fun a b c d f g h i _ _ _ _ _ _ q r => ⟨a,b,c,d,f,g,h,i,v0,v1,v2,v3,v4,v5,q,r⟩) s
def p46_10 (k : KC) (e : E) (s : St) : Res := bP ((pBin (bI fLt) g13 g12) e) fun v0 => .nrm (u14 e v0) s
def p46_12 (k : KC) (e : E) (s : St) : Res := dCond g14 dSkip (dExit 0) k e s
def p46_16 (k : KC) (e : E) (s : St) : Res := lt (g13 e) fun v0 => bP ((pBin (bIdx 1) g11 g13) e) fun v1 => bP ((dLd (cV v1)) e s) fun v2 => .nrm (rw1 (rw0 e fun a b c d f g _ _ j l m n o p q _ => ⟨a,b,c,d,f,g,v0,v2,j,l,m,n,o,p,q,v0⟩) fun _ _ c d f g h i j l m n o p q r => ⟨v1,v2,c,d,f,g,h,i,j,l,m,n,o,p,q,r⟩) s
def p46_18 (k : KC) (e : E) (s : St) : Res := lt (g7 e) fun v0 => bP ((pUn uChk (cV v0)) e) fun v1 => bP ((pUn (uFld 0) (cV v1)) e) fun v2 => bP ((dLd (cV v2)) e s) fun v3 => lt (g1 e) fun v4 => bP ((pBin (bI fEq) (cV v3) (cV v4)) e) fun v5 => .nrm (rw1 e fun a b _ _ _ _ _ _ j l m n o p q r => ⟨a,b,v0,v1,v2,v3,v4,v5,j,l,m,n,o,p,q,r⟩) s
def p46_20 (k : KC) (e : E) (s : St) : Res := lt (g5 e) fun v0 => lt (g6 e) fun v1 => bE (aSt ((aBSl 1 1 [(.i 0)] [(0, 1, (cV v1))]) e s.next) s) fun v2 s => bE ((eAp 1 (cV v0) (cV v2)) k e s) fun v3 s => .nrm (rw1 (u5 e v3) fun a b c d f g h i _ _ _ _ o p q r => ⟨a,b,c,d,f,g,h,i,v0,v1,v2,v3,o,p,q,r⟩) s
def p46_19 (k : KC) (e : E) (s : St) : Res := dCond g23 p46_20 dSkip k e s
def p46_17 (k : KC) (e : E) (s : St) : Res := dSeq p46_18 p46_19 k e s
def p46_15 (k : KC) (e : E) (s : St) : Res := dSeq p46_16 p46_17 k e s
def p46_14 (k : KC) (e : E) (s : St) : Res := dBlock 1 p46_15 k e s
def p46_21 (k : KC) (e : E) (s : St) : Res := bP ((pBin (bI fAdd) g13 (cV (.i 1))) e) fun v0 => .nrm (u28 (u13 e v0) v0) s
def p46_13 (k : KC) (e : E) (s : St) : Res := dSeq p46_14 p46_21 k e s
def p46_11 (k : KC) (e : E) (s : St) : Res := dSeq p46_12 p46_13 k e s
def p46_9 (k : KC) (e : E) (s : St) : Res := dSeq p46_10 p46_11 k e s
def p46_8 (k : KC) (e : E) (s : St) : Res := dLoop p46_9 k e s
def p46_7 (k : KC) (e : E) (s : St) : Res := dBlock 0 p46_8 k e s
def p46_5 (k : KC) (e : E) (s : St) : Res := dSeq p46_6 p46_7 k e s
def p46_23 (k : KC) (e : E) (s : St) : Res := lt (g5 e) fun v0 => .nrm (u29 (u4 e v0) v0) s
def p46_22 (k : KC) (e : E) (s : St) : Res := dSeq p46_23 dRet k e s
def p46_4 (k : KC) (e : E) (s : St) : Res := dSeq p46_5 p46_22 k e s
def p46_2 (k : KC) (e : E) (s : St) : Res := dSeq p46_3 p46_4 k e s
def p46_0 (k : KC) (e : E) (s : St) : Res := dSeq p46_1 p46_2 k e s
def F46 : FDen := ⟨[u0, u1], p46_0, resV [rT g4]⟩
theorem low46 : lowFunc tt [] fok Try.f46 = some F46 := by kernel_rfl
theorem run46 : FRun Try.prog [] 46 F46 := FRun.of (lowFunc_ok ttOk fokOk mixed Try.func46 low46)
/-- container/heap.Pop -/
def p47_1 (k : KC) (e : E) (s : St) : Res := ltc (V.nili) fun v0 => .nrm (u2 e v0) s
def p47_3 (k : KC) (e : E) (s : St) : Res := lt (g0 e) fun v0 => bE ((eInv [(67, 91, .self), (84, 91, .ld false 1)] (cV v0) []) k e s) fun v1 s => bP ((pBin (bI fSub) (cV v1) (cV (.i 1))) e) fun v2 => .nrm (rw0 e fun a b c _ _ _ _ i j l m n o p q r => ⟨a,b,c,v2,v0,v1,v2,i,j,l,m,n,o,p,q,r⟩) s
def p47_5 (k : KC) (e : E) (s : St) : Res := lt (g0 e) fun v0 => lt (g3 e) fun v1 => bE ((eInv [(67, 93, .self), (84, 93, .ld false 1)] (cV v0) [(cV (.i 0)), (cV v1)]) k e s) fun v2 s => .nrm (rw0 e fun a b c d f g h _ _ _ m n o p q r => ⟨a,b,c,d,f,g,h,v0,v1,v2,m,n,o,p,q,r⟩) s
def p47_7 (k : KC) (e : E) (s : St) : Res := lt (g0 e) fun v0 => lt (g3 e) fun v1 => bE ((eCall 53 [(cV v0), (cV (.i 0)), (cV v1)]) k e s) fun v2 s => .nrm (rw0 e fun a b c d f g h i j l _ _ _ p q r => ⟨a,b,c,d,f,g,h,i,j,l,v0,v1,v2,p,q,r⟩) s
def p47_9 (k : KC) (e : E) (s : St) : Res := lt (g0 e) fun v0 => bE ((eInv [(84, 94, .self)] (cV v0) []) k e s) fun v1 s => .nrm (rw0 e fun a b _ d f g h i j l m n o _ _ r => ⟨a,b,v1,d,f,g,h,i,j,l,m,n,o,v0,v1,r⟩) s
def p47_8 (k : KC) (e : E) (s : St) : Res := dSeq p47_9 dRet k e s
def p47_6 (k : KC) (e : E) (s : St) : Res := dSeq p47_7 p47_8 k e s
def p47_4 (k : KC) (e : E) (s : St) : Res := dSeq p47_5 p47_6 k e s
def p47_2 (k : KC) (e : E) (s : St) : Res := dSeq p47_3 p47_4 k e s
def p47_0 (k : KC) (e : E) (s : St) : Res := dSeq p47_1 p47_2 k e s
def F47 : FDen := ⟨[u0], p47_0, resV [rT g2]⟩
theorem low47 : lowFunc tt [] fok Try.f47 = some F47 := by kernel_rfl
theorem run47 : FRun Try.prog [] 47 F47 := FRun.of (lowFunc_ok ttOk fokOk mixed Try.func47 low47)
/-- container/heap.up -/
def p52_4 (k : KC) (e : E) (s : St) : Res := lt (g1 e) fun v0 => bP ((pBin (bI fSub) (cV v0) (cV (.i 1))) e) fun v1 => bP ((pBin quo64 (cV v1) (cV (.i 2))) e) fun v2 => .nrm (rw0 e fun a b c d _ _ _ _ j l m n o p q r => ⟨a,b,c,d,v2,v0,v1,v2,j,l,m,n,o,p,q,r⟩) s
def p52_7 (k : KC) (e : E) (s : St) : Res := lt (g4 e) fun v0 => lt (g1 e) fun v1 => bP ((pBin (bI fEq) (cV v0) (cV v1)) e) fun v2 => bP (gdV v2 false ((pMove g0) e)) fun v3 => bP (gdV v2 false ((pMove g1) e)) fun v4 => bP (gdV v2 false ((pMove g4) e)) fun v5 => bE (gdW v2 false s ((eInv [(67, 92, .self), (84, 92, .ld false 1)] (cV v3) [(cV v4), (cV v5)]) k e s)) fun v6 s => bP (gdV v2 false ((pUn uNot (cV v6)) e)) fun v7 => bP ((pPick (cV v2) (cV (.bool true)) (cV v7)) e) fun v8 => .nrm (rw1 (rw0 e fun a b c d f g h i _ _ _ _ _ _ _ _ => ⟨a,b,c,d,f,g,h,i,v0,v1,v2,v2,v3,v4,v5,v6⟩) fun _ _ c d f g h i j l m n o p q r => ⟨v7,v8,c,d,f,g,h,i,j,l,m,n,o,p,q,r⟩) s
def p52_8 (k : KC) (e : E) (s : St) : Res := dCond g17 (dExit 0) dSkip k e s
def p52_6 (k : KC) (e : E) (s : St) : Res := dSeq p52_7 p52_8 k e s
def p52_10 (k : KC) (e : E) (s : St) : Res := lt (g0 e) fun v0 => lt (g4 e) fun v1 => lt (g1 e) fun v2 => bE ((eInv [(67, 93, .self), (84, 93, .ld false 1)] (cV v0) [(cV v1), (cV v2)]) k e s) fun v3 s => .nrm (rw1 e fun a b _ _ _ _ h i j l m n o p q r => ⟨a,b,v0,v1,v2,v3,h,i,j,l,m,n,o,p,q,r⟩) s
def p52_11 (k : KC) (e : E) (s : St) : Res := lt (g4 e) fun v0 => .nrm (u22 (u1 e v0) v0) s
def p52_9 (k : KC) (e : E) (s : St) : Res := dSeq p52_10 p52_11 k e s
def p52_5 (k : KC) (e : E) (s : St) : Res := dSeq p52_6 p52_9 k e s
def p52_3 (k : KC) (e : E) (s : St) : Res := dSeq p52_4 p52_5 k e s
def p52_2 (k : KC) (e : E) (s : St) : Res := dBlock 1 p52_3 k e s
def p52_1 (k : KC) (e : E) (s : St) : Res := dLoop p52_2 k e s
def p52_0 (k : KC) (e : E) (s : St) : Res := dBlock 0 p52_1 k e s
def F52 : FDen := ⟨[u0, u1], p52_0, resV []⟩
theorem low52 : lowFunc tt [] fok Try.f52 = some F52 := by kernel_rfl
theorem run52 : FRun Try.prog [] 52 F52 := FRun.of (lowFunc_ok ttOk fokOk mixed Try.func52 low52)
/-- container/heap.down -/
def p53_1 (k : KC) (e : E) (s : St) : Res := ltc (V.bool false) fun v0 => .nrm (u6 e v0) s
def p53_3 (k : KC) (e : E) (s : St) : Res := lt (g1 e) fun v0 => .nrm (rw0 e fun a b c d f g h _ j l m _ o p q r => ⟨a,b,c,d,f,g,h,v0,j,l,m,v0,o,p,q,r⟩) s
def p53_9 (k : KC) (e : E) (s : St) : Res := lt (g7 e) fun v0 => bP ((pBin (bI fMul) (cV (.i 2)) (cV v0)) e) fun v1 => bP ((pBin (bI fAdd) (cV v1) (cV (.i 1))) e) fun v2 => .nrm (rw0 e fun a b c d f g h i _ l m n _ _ _ r => ⟨a,b,c,d,f,g,h,i,v2,l,m,n,v0,v1,v2,r⟩) s
def p53_12 (k : KC) (e : E) (s : St) : Res := lt (g8 e) fun v0 => lt (g2 e) fun v1 => bP ((pBin (bI fGe) (cV v0) (cV v1)) e) fun v2 => bP (gdV v2 false ((pMove g8) e)) fun v3 => bP (gdV v2 false ((pBin (bI fLt) (cV v3) (cV (.i 0))) e)) fun v4 => bP ((pPick (cV v2) (cV (.bool true)) (cV v4)) e) fun v5 => .nrm (rw1 (u15 e v0) fun _ _ _ _ _ _ h i j l m n o p q r => ⟨v1,v2,v2,v3,v4,v5,h,i,j,l,m,n,o,p,q,r⟩) s
def p53_13 (k : KC) (e : E) (s : St) : Res := dCond g21 (dExit 0) dSkip k e s
def p53_11 (k : KC) (e : E) (s : St) : Res := dSeq p53_12 p53_13 k e s
def p53_15 (k : KC) (e : E) (s : St) : Res := lt (g8 e) fun v0 => .nrm (u22 (u9 e v0) v0) s
def p53_18 (k : KC) (e : E) (s : St) : Res := lt (g8 e) fun v0 => bP ((pBin (bI fAdd) (cV v0) (cV (.i 1))) e) fun v1 => .nrm (rw1 (u10 e v1) fun a b c d f g h _ _ l m n o p q r => ⟨a,b,c,d,f,g,h,v0,v1,l,m,n,o,p,q,r⟩) s
def p53_20 (k : KC) (e : E) (s : St) : Res := lt (g10 e) fun v0 => lt (g2 e) fun v1 => bP ((pBin (bI fLt) (cV v0) (cV v1)) e) fun v2 => bP (gdV v2 true ((pMove g0) e)) fun v3 => bP (gdV v2 true ((pMove g10) e)) fun v4 => bP (gdV v2 true ((pMove g8) e)) fun v5 => bE (gdW v2 true s ((eInv [(67, 92, .self), (84, 92, .ld false 1)] (cV v3) [(cV v4), (cV v5)]) k e s)) fun v6 s => bP ((pPick (cV v2) (cV v6) (cV (.bool false))) e) fun v7 => .nrm (rw2 (rw1 e fun a b c d f g h i j _ _ _ _ _ _ _ => ⟨a,b,c,d,f,g,h,i,j,v0,v1,v2,v2,v3,v4,v5⟩) fun _ _ c d f g h i j l m n o p q r => ⟨v6,v7,c,d,f,g,h,i,j,l,m,n,o,p,q,r⟩) s
def p53_22 (k : KC) (e : E) (s : St) : Res := lt (g10 e) fun v0 => .nrm (u34 (u9 e v0) v0) s
def p53_21 (k : KC) (e : E) (s : St) : Res := dCond g33 p53_22 dSkip k e s
def p53_19 (k : KC) (e : E) (s : St) : Res := dSeq p53_20 p53_21 k e s
def p53_17 (k : KC) (e : E) (s : St) : Res := dSeq p53_18 p53_19 k e s
def p53_25 (k : KC) (e : E) (s : St) : Res := lt (g0 e) fun v0 => lt (g9 e) fun v1 => lt (g7 e) fun v2 => bE ((eInv [(67, 92, .self), (84, 92, .ld false 1)] (cV v0) [(cV v1), (cV v2)]) k e s) fun v3 s => bP ((pUn uNot (cV v3)) e) fun v4 => .nrm (rw2 e fun a b c _ _ _ _ _ j l m n o p q r => ⟨a,b,c,v0,v1,v2,v3,v4,j,l,m,n,o,p,q,r⟩) s
def p53_26 (k : KC) (e : E) (s : St) : Res := dCond g39 (dExit 0) dSkip k e s
def p53_24 (k : KC) (e : E) (s : St) : Res := dSeq p53_25 p53_26 k e s
def p53_28 (k : KC) (e : E) (s : St) : Res := lt (g0 e) fun v0 => lt (g7 e) fun v1 => lt (g9 e) fun v2 => bE ((eInv [(67, 93, .self), (84, 93, .ld false 1)] (cV v0) [(cV v1), (cV v2)]) k e s) fun v3 s => .nrm (rw2 e fun a b c d f g h i _ _ _ _ o p q r => ⟨a,b,c,d,f,g,h,i,v0,v1,v2,v3,o,p,q,r⟩) s
def p53_29 (k : KC) (e : E) (s : St) : Res := lt (g9 e) fun v0 => .nrm (u44 (u7 e v0) v0) s
def p53_27 (k : KC) (e : E) (s : St) : Res := dSeq p53_28 p53_29 k e s
def p53_23 (k : KC) (e : E) (s : St) : Res := dSeq p53_24 p53_27 k e s
def p53_16 (k : KC) (e : E) (s : St) : Res := dSeq p53_17 p53_23 k e s
def p53_14 (k : KC) (e : E) (s : St) : Res := dSeq p53_15 p53_16 k e s
def p53_10 (k : KC) (e : E) (s : St) : Res := dSeq p53_11 p53_14 k e s
def p53_8 (k : KC) (e : E) (s : St) : Res := dSeq p53_9 p53_10 k e s
def p53_7 (k : KC) (e : E) (s : St) : Res := dBlock 1 p53_8 k e s
def p53_6 (k : KC) (e : E) (s : St) : Res := dLoop p53_7 k e s
def p53_5 (k : KC) (e : E) (s : St) : Res := dBlock 0 p53_6 k e s
def p53_31 (k : KC) (e : E) (s : St) : Res := lt (g7 e) fun v0 => lt (g1 e) fun v1 => bP ((pBin (bI fGt) (cV v0) (cV v1)) e) fun v2 => .nrm (rw2 (u6 e v2) fun a b c d f g h i j l m n o _ _ _ => ⟨a,b,c,d,f,g,h,i,j,l,m,n,o,v0,v1,v2⟩) s
def p53_30 (k : KC) (e : E) (s : St) : Res := dSeq p53_31 dRet k e s
def p53_4 (k : KC) (e : E) (s : St) : Res := dSeq p53_5 p53_30 k e s
def p53_2 (k : KC) (e : E) (s : St) : Res := dSeq p53_3 p53_4 k e s
def p53_0 (k : KC) (e : E) (s : St) : Res := dSeq p53_1 p53_2 k e s
def F53 : FDen := ⟨[u0, u1, u2], p53_0, resV [rT g6]⟩
theorem low53 : lowFunc tt [] fok Try.f53 = some F53 := by kernel_rfl
theorem run53 : FRun Try.prog [] 53 F53 := FRun.of (lowFunc_ok ttOk fokOk mixed Try.func53 low53)
/-- (carafe/sched.sleepers).Len -/
def p91_1 (k : KC) (e : E) (s : St) : Res := ltc (V.i 0) fun v0 => .nrm (u2 e v0) s
def p91_3 (k : KC) (e : E) (s : St) : Res := lt (g0 e) fun v0 => bP ((pUn uLenS (cV v0)) e) fun v1 => .nrm (rw0 e fun a b _ _ _ g h i j l m n o p q r => ⟨a,b,v1,v0,v1,g,h,i,j,l,m,n,o,p,q,r⟩) s
def p91_2 (k : KC) (e : E) (s : St) : Res := dSeq p91_3 dRet k e s
def p91_0 (k : KC) (e : E) (s : St) : Res := dSeq p91_1 p91_2 k e s
def F91 : FDen := ⟨[u0], p91_0, resV [rT g2]⟩
theorem low91 : lowFunc tt [] fok Try.f91 = some F91 := by kernel_rfl
theorem run91 : FRun Try.prog [] 91 F91 := FRun.of (lowFunc_ok ttOk fokOk mixed Try.func91 low91)
/-- (carafe/sched.sleepers).Less -/
def p92_1 (k : KC) (e : E) (s : St) : Res := ltc (V.bool false) fun v0 => .nrm (u6 e v0) s
def p92_3 (k : KC) (e : E) (s : St) : Res := lt (g0 e) fun v0 => lt (g1 e) fun v1 => bP ((pBin (bIdx 3) (cV v0) (cV v1)) e) fun v2 => bP ((pUn (uFld 0) (cV v2)) e) fun v3 => bP ((dLd (cV v3)) e s) fun v4 => lt (g0 e) fun v5 => lt (g2 e) fun v6 => bP ((pBin (bIdx 3) (cV v5) (cV v6)) e) fun v7 => bP ((pUn (uFld 0) (cV v7)) e) fun v8 => bP ((dLd (cV v8)) e s) fun v9 => bP ((pBin (bK .u64 fLt) (cV v4) (cV v9)) e) fun v10 => bP (gdV v10 false ((pMove g0) e)) fun v11 => bP (gdV v10 false ((pMove g1) e)) fun v12 => bP (gdV v10 false ((pBin (bIdx 3) (cV v11) (cV v12)) e)) fun v13 => bP (gdV v10 false ((pUn (uFld 0) (cV v13)) e)) fun v14 => bP (gdV v10 false ((dLd (cV v14)) e s)) fun v15 => bP (gdV v10 false ((pMove g0) e)) fun v16 => bP (gdV v10 false ((pMove g2) e)) fun v17 => bP (gdV v10 false ((pBin (bIdx 3) (cV v16) (cV v17)) e)) fun v18 => bP (gdV v10 false ((pUn (uFld 0) (cV v18)) e)) fun v19 => bP (gdV v10 false ((dLd (cV v19)) e s)) fun v20 => bP (gdV v10 false ((pBin (bK .u64 fEq) (cV v15) (cV v20)) e)) fun v21 => bP (gdV v10 false ((pMove (cV v21)) e)) fun v22 => bP (gdV v22 true ((pMove g0) e)) fun v23 => bP (gdV v22 true ((pMove g1) e)) fun v24 => bP (gdV v22 true ((pBin (bIdx 3) (cV v23) (cV v24)) e)) fun v25 => bP (gdV v22 true ((pUn (uFld 1) (cV v25)) e)) fun v26 => bP (gdV v22 true ((dLd (cV v26)) e s)) fun v27 => bP (gdV v22 true ((pMove g0) e)) fun v28 => bP (gdV v22 true ((pMove g2) e)) fun v29 => bP (gdV v22 true ((pBin (bIdx 3) (cV v28) (cV v29)) e)) fun v30 => bP (gdV v22 true ((pUn (uFld 1) (cV v30)) e)) fun v31 => bP (gdV v22 true ((dLd (cV v31)) e s)) fun v32 => bP (gdV v22 true ((pBin (bI fLt) (cV v27) (cV v32)) e)) fun v33 => bP (gdV v10 false ((pPick (cV v22) (cV v33) (cV (.bool false))) e)) fun v34 => bP ((pPick (cV v10) (cV (.bool true)) (cV v34)) e) fun v35 => .nrm (rw2 (rw1 (rw0 e fun a b c d f g _ _ _ _ _ _ _ _ _ _ => ⟨a,b,c,d,f,g,v35,v0,v1,v2,v3,v4,v5,v6,v7,v8⟩) fun _ _ _ _ _ _ _ _ _ _ _ _ _ _ _ _ => ⟨v9,v10,v10,v11,v12,v13,v14,v15,v16,v17,v18,v19,v20,v21,v22,v23⟩) fun _ _ _ _ _ _ _ _ _ _ _ _ o p q r => ⟨v24,v25,v26,v27,v28,v29,v30,v31,v32,v33,v34,v35,o,p,q,r⟩) s
def p92_2 (k : KC) (e : E) (s : St) : Res := dSeq p92_3 dRet k e s
def p92_0 (k : KC) (e : E) (s : St) : Res := dSeq p92_1 p92_2 k e s
def F92 : FDen := ⟨[u0, u1, u2], p92_0, resV [rT g6]⟩
theorem low92 : lowFunc tt [] fok Try.f92 = some F92 := by kernel_rfl
theorem run92 : FRun Try.prog [] 92 F92 := FRun.of (lowFunc_ok ttOk fokOk mixed Try.func92 low92)
/-- (carafe/sched.sleepers).Swap -/
def p93_0 (k : KC) (e : E) (s : St) : Res := lt (g0 e) fun v0 => lt (g1 e) fun v1 => lt (g0 e) fun v2 => lt (g2 e) fun v3 => lt (g0 e) fun v4 => lt (g2 e) fun v5 => bP ((pBin (bIdx 3) (cV v4) (cV v5)) e) fun v6 => bP ((dLdN 3 (cV v6)) e s) fun v7 => lt (g0 e) fun v8 => lt (g1 e) fun v9 => bP ((pBin (bIdx 3) (cV v8) (cV v9)) e) fun v10 => bP ((dLdN 3 (cV v10)) e s) fun v11 => bP ((pBin (bIdx 3) (cV v0) (cV v1)) e) fun v12 => bE ((eSt 3 (cV v12) (cV v7)) k e s) fun v13 s => bP ((pBin (bIdx 3) (cV v2) (cV v3)) e) fun v14 => bE ((eSt 3 (cV v14) (cV v11)) k e s) fun v15 s => .nrm (rw1 (rw0 e fun a b c d f g _ _ _ _ _ _ _ _ _ _ => ⟨a,b,c,d,f,g,v0,v1,v2,v3,v4,v5,v6,v7,v8,v9⟩) fun _ _ _ _ f g h i j l m n o p q r => ⟨v10,v11,v12,v14,f,g,h,i,j,l,m,n,o,p,q,r⟩) s
def F93 : FDen := ⟨[u0, u1, u2], p93_0, resV []⟩
theorem low93 : lowFunc tt [] fok Try.f93 = some F93 := by kernel_rfl
theorem run93 : FRun Try.prog [] 93 F93 := FRun.of (lowFunc_ok ttOk fokOk mixed Try.func93 low93)
/-- (*carafe/sched.sleepers).Pop -/
def p94_1 (k : KC) (e : E) (s : St) : Res := ltc (V.nili) fun v0 => .nrm (u2 e v0) s
def p94_3 (k : KC) (e : E) (s : St) : Res := dDraw [⟨none, (.p (pMove g0)), u4⟩, ⟨none, (.p (pUn uChk g4)), u5⟩, ⟨none, (.d 0 0 (dLd g5)), u6⟩, ⟨none, (.p (pMove g0)), u7⟩, ⟨none, (.p (pUn uChk g7)), u8⟩, ⟨none, (.d 0 0 (dLd g8)), u9⟩, ⟨none, (.p (pUn uLenS g9)), u10⟩, ⟨none, (.p (pBin (bI fSub) g10 (cV (.i 1)))), u11⟩, ⟨none, (.p (pBin (bIdx 3) g6 g11)), u12⟩, ⟨none, (.d 0 0 (dLdN 3 g12)), u13⟩, ⟨none, (.a (aAl 3 (ofL [(.int .u64 0), (.i 0), (.i 0)]))), u3⟩, ⟨none, (.e (eSt 3 g3 g13)), uNone⟩] k e s
def p94_5 (k : KC) (e : E) (s : St) : Res := lt (g0 e) fun v0 => lt (g0 e) fun v1 => bP ((pUn uChk (cV v1)) e) fun v2 => bP ((dLd (cV v2)) e s) fun v3 => lt (g0 e) fun v4 => bP ((pUn uChk (cV v4)) e) fun v5 => bP ((dLd (cV v5)) e s) fun v6 => bP ((pUn uLenS (cV v6)) e) fun v7 => bP ((pBin (bI fSub) (cV v7) (cV (.i 1))) e) fun v8 => bP ((pSl 3 (cV v3) none (some (cV v8)) none) e) fun v9 => bP ((pUn uChk (cV v0)) e) fun v10 => bE ((eSt 1 (cV v10) (cV v9)) k e s) fun v11 s => .nrm (rw1 (rw0 e fun a b c d f g h i j l m n o p _ _ => ⟨a,b,c,d,f,g,h,i,j,l,m,n,o,p,v0,v1⟩) fun _ _ _ _ _ _ _ _ _ l m n o p q r => ⟨v2,v3,v4,v5,v6,v7,v8,v9,v10,l,m,n,o,p,q,r⟩) s
def p94_7 (k : KC) (e : E) (s : St) : Res := bP ((dLdN 3 g3) e s) fun v0 => bP ((pUn (uIfc 86) (cV v0)) e) fun v1 => .nrm (rw1 (u2 e v1) fun a b c d f g h i j _ _ n o p q r => ⟨a,b,c,d,f,g,h,i,j,v0,v1,n,o,p,q,r⟩) s
def p94_6 (k : KC) (e : E) (s : St) : Res := dSeq p94_7 dRet k e s
def p94_4 (k : KC) (e : E) (s : St) : Res := dSeq p94_5 p94_6 k e s
def p94_2 (k : KC) (e : E) (s : St) : Res := dSeq p94_3 p94_4 k e s
def p94_0 (k : KC) (e : E) (s : St) : Res := dSeq p94_1 p94_2 k e s
def F94 : FDen := ⟨[u0], p94_0, resV [rT g2]⟩
theorem low94 : lowFunc tt [] fok Try.f94 = some F94 := by kernel_rfl
theorem run94 : FRun Try.prog [] 94 F94 := FRun.of (lowFunc_ok ttOk fokOk mixed Try.func94 low94)
/-- (*carafe/sched.sleepers).Push -/
def p95_0 (k : KC) (e : E) (s : St) : Res := dDraw [⟨none, (.p (pMove g0)), u4⟩, ⟨none, (.p (pMove g0)), u5⟩, ⟨none, (.p (pUn uChk g5)), u6⟩, ⟨none, (.d 0 0 (dLd g6)), u7⟩, ⟨none, (.p (pMove g1)), u8⟩, ⟨none, (.p (pUn (uAss 86 false (.agg [(.int .u64 0), (.i 0), (.i 0)])) g8)), u9⟩, ⟨none, (.a (aBSl 1 3 [(.int .u64 0), (.i 0), (.i 0)] [(0, 3, g9)])), u10⟩, ⟨none, (.e (eAp 3 g7 g10)), u11⟩, ⟨none, (.p (pUn uChk g4)), u12⟩, ⟨none, (.e (eSt 1 g12 g11)), uNone⟩] k e s
def F95 : FDen := ⟨[u0, u1], p95_0, resV []⟩
theorem low95 : lowFunc tt [] fok Try.f95 = some F95 := by kernel_rfl
theorem run95 : FRun Try.prog [] 95 F95 := FRun.of (lowFunc_ok ttOk fokOk mixed Try.func95 low95)
end
end Go.Proofs.YtgfghbhcifkmgaaLab
