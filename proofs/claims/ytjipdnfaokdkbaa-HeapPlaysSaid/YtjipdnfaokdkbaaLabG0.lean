/- The lab: this program's functions, in pieces. -/
import Derived.Test.YtjipdnfaokdkbaaLabT0
namespace Go.Proofs.YtjipdnfaokdkbaaLab
open Go
set_option linter.unusedVariables false
set_option maxRecDepth 100000
noncomputable section
/-- carafe/carafelaw13.HeapPlays -/
def p6_1 (k : KC) (e : E) (s : St) : Res := ltc (V.bool false) fun v0 => .nrm (u4 e v0) s
def p6_3 (k : KC) (e : E) (s : St) : Res := lt (g0 e) fun v0 => bE ((eCall 7 [(cV v0), (cV (.i 0)), (cV (.i 599))]) k e s) fun v1 s => bP ((pBin (bI fAdd) (cV (.i 1)) (cV v1)) e) fun v2 => .nrm (rw1 (u0 e v2) fun a b c d f g h i j l m n _ _ _ r => ⟨a,b,c,d,f,g,h,i,j,l,m,n,v0,v1,v2,r⟩) s
def p6_5 (k : KC) (e : E) (s : St) : Res := lt (g0 e) fun v0 => bE ((eCall 8 [(cV v0)]) k e s) fun v1 s => bP ((pUn (uExt 0) (cV v1)) e) fun v2 => bP ((pUn (uExt 1) (cV v1)) e) fun v3 => .nrm (rw2 (u31 (rw0 e fun a b c d f _ _ i j l m n o p q r => ⟨a,b,c,d,f,v2,v3,i,j,l,m,n,o,p,q,r⟩) v1) fun _ _ _ _ f g h i j l m n o p q r => ⟨v0,v1,v2,v3,f,g,h,i,j,l,m,n,o,p,q,r⟩) s
def p6_7 (k : KC) (e : E) (s : St) : Res := lt (g0 e) fun v0 => bE ((eCall 26 [(cV v0)]) k e s) fun v1 s => .nrm (rw2 (u7 e v1) fun a b c d _ _ h i j l m n o p q r => ⟨a,b,c,d,v0,v1,h,i,j,l,m,n,o,p,q,r⟩) s
def p6_10 (k : KC) (e : E) (s : St) : Res := lt (g5 e) fun v0 => bP ((pBin (bNil false nilP) (cV v0) (cV .nilp)) e) fun v1 => bP (gdV v1 false ((pMove g6) e)) fun v2 => bP (gdV v1 false ((pBin (bI fNe) (cV v2) (cV (.i 0))) e)) fun v3 => bP ((pPick (cV v1) (cV (.bool true)) (cV v3)) e) fun v4 => bP (gdV v4 false ((pMove g5) e)) fun v5 => bE (gdW v4 false s ((eCall 24 [(cV v5)]) k e s)) fun v6 s => bP (gdV v4 false ((pMove g0) e)) fun v7 => bP (gdV v4 false ((pBin (bI fNe) (cV v6) (cV v7)) e)) fun v8 => bP ((pPick (cV v4) (cV (.bool true)) (cV v8)) e) fun v9 => .nrm (rw3 (rw2 e fun a b c d f g _ _ _ _ _ _ _ _ _ _ => ⟨a,b,c,d,f,g,v0,v1,v1,v2,v3,v4,v4,v5,v6,v7⟩) fun _ _ c d f g h i j l m n o p q r => ⟨v8,v9,c,d,f,g,h,i,j,l,m,n,o,p,q,r⟩) s
def p6_13 (k : KC) (e : E) (s : St) : Res := ltc (V.bool false) fun v0 => .nrm (u4 e v0) s
def p6_12 (k : KC) (e : E) (s : St) : Res := dSeq p6_13 dRet k e s
def p6_11 (k : KC) (e : E) (s : St) : Res := dCond g49 p6_12 dSkip k e s
def p6_9 (k : KC) (e : E) (s : St) : Res := dSeq p6_10 p6_11 k e s
def p6_16 (k : KC) (e : E) (s : St) : Res := ltc (V.i 0) fun v0 => .nrm (u8 e v0) s
def p6_21 (k : KC) (e : E) (s : St) : Res := lt (g8 e) fun v0 => lt (g1 e) fun v1 => bP ((pUn uLenS (cV v1)) e) fun v2 => bP ((pBin (bI fLt) (cV v0) (cV v2)) e) fun v3 => bP (gdV v3 true ((pMove g8) e)) fun v4 => bP (gdV v3 true ((pBin (bI fLt) (cV v4) (cV (.i 40))) e)) fun v5 => bP ((pPick (cV v3) (cV v5) (cV (.bool false))) e) fun v6 => .nrm (rw3 e fun a b _ _ _ _ _ _ _ _ m n o p q r => ⟨a,b,v0,v1,v2,v3,v3,v4,v5,v6,m,n,o,p,q,r⟩) s
def p6_22 (k : KC) (e : E) (s : St) : Res := dCond g57 dSkip (dExit 0) k e s
def p6_20 (k : KC) (e : E) (s : St) : Res := dSeq p6_21 p6_22 k e s
def p6_26 (k : KC) (e : E) (s : St) : Res := lt (g1 e) fun v0 => lt (g8 e) fun v1 => bP ((pBin (bIdx 7) (cV v0) (cV v1)) e) fun v2 => bP ((dLdN 7 (cV v2)) e s) fun v3 => bE (aSt ((aAl 7 (ofL [(.i 0), (.i 0), (.i 0), (.i 0), .nils, (.i 0), .nils])) e s.next) s) fun v4 s => bE ((eSt 7 (cV v4) (cV v3)) k e s) fun v5 s => .nrm (rw3 (u9 e v4) fun a b c d f g h i j l m n _ _ _ _ => ⟨a,b,c,d,f,g,h,i,j,l,m,n,v0,v1,v2,v3⟩) s
def p6_28 (k : KC) (e : E) (s : St) : Res := lt (g7 e) fun v0 => bE ((eCall 27 [(cV v0)]) k e s) fun v1 s => .nrm (rw4 (u10 e v1) fun _ _ c d f g h i j l m n o p q r => ⟨v0,v1,c,d,f,g,h,i,j,l,m,n,o,p,q,r⟩) s
def p6_31 (k : KC) (e : E) (s : St) : Res := bP ((pUn (uFld 0) g9) e) fun v0 => bP ((dLd (cV v0)) e s) fun v1 => .nrm (rw4 e fun a b _ _ f g h i j l m n o p q r => ⟨a,b,v0,v1,f,g,h,i,j,l,m,n,o,p,q,r⟩) s
def p6_34 (k : KC) (e : E) (s : St) : Res := bP ((pBin (bI fEq) g67 (cV (.i 1))) e) fun v0 => .nrm (rw4 e fun a b c d _ _ h i j l m n o p q r => ⟨a,b,c,d,v0,v0,h,i,j,l,m,n,o,p,q,r⟩) s
def p6_38 (k : KC) (e : E) (s : St) : Res := bP ((pUn (uFld 4) g9) e) fun v0 => bP ((dLd (cV v0)) e s) fun v1 => bP ((pUn uLenS (cV v1)) e) fun v2 => bP ((pBin (bI fGt) (cV v2) (cV (.i 20))) e) fun v3 => .nrm (rw4 e fun a b c d f g _ _ _ _ m n o p q r => ⟨a,b,c,d,f,g,v0,v1,v2,v3,m,n,o,p,q,r⟩) s
def p6_40 (k : KC) (e : E) (s : St) : Res := bP ((pUn (uFld 4) g9) e) fun v0 => bP ((dLd (cV v0)) e s) fun v1 => bP ((pSl 1 (cV v1) none (some (cV (.i 20))) none) e) fun v2 => bP ((pUn (uFld 4) g9) e) fun v3 => bE ((eSt 1 (cV v3) (cV v2)) k e s) fun v4 s => .nrm (rw4 e fun a b c d f g h i j l _ _ _ _ q r => ⟨a,b,c,d,f,g,h,i,j,l,v0,v1,v2,v3,q,r⟩) s
def p6_39 (k : KC) (e : E) (s : St) : Res := dCond g73 p6_40 dSkip k e s
def p6_37 (k : KC) (e : E) (s : St) : Res := dSeq p6_38 p6_39 k e s
def p6_43 (k : KC) (e : E) (s : St) : Res := dDraw [⟨none, (.p (pMove g5)), u78⟩, ⟨none, (.p (pUn (uFld 4) g9)), u79⟩, ⟨none, (.d 1 0 (dLd g79)), u80⟩, ⟨none, (.e (eCall 17 [g78, g80])), u81⟩, ⟨none, (.p (pMove g7)), u82⟩, ⟨none, (.p (pUn (uFld 4) g9)), u83⟩, ⟨none, (.d 0 1 (dLd g83)), u84⟩, ⟨none, (.e (eCall 28 [g82, g84])), u85⟩, ⟨none, (.p (pBin (bI fNe) g81 g85)), u86⟩] k e s
def p6_46 (k : KC) (e : E) (s : St) : Res := ltc (V.bool false) fun v0 => .nrm (u4 e v0) s
def p6_45 (k : KC) (e : E) (s : St) : Res := dSeq p6_46 dRet k e s
def p6_44 (k : KC) (e : E) (s : St) : Res := dCond g86 p6_45 dSkip k e s
def p6_42 (k : KC) (e : E) (s : St) : Res := dSeq p6_43 p6_44 k e s
def p6_48 (k : KC) (e : E) (s : St) : Res := lt (g5 e) fun v0 => bP ((pUn (uFld 1) g9) e) fun v1 => bP ((dLd (cV v1)) e s) fun v2 => bE ((eCall 19 [(cV v0), (cV v2)]) k e s) fun v3 s => bP ((pUn (uExt 0) (cV v3)) e) fun v4 => bP ((pUn (uExt 1) (cV v3)) e) fun v5 => .nrm (rw5 (rw0 e fun a b c d f g h i j l m _ _ p q r => ⟨a,b,c,d,f,g,h,i,j,l,m,v4,v5,p,q,r⟩) fun a b c d f g h _ _ _ _ _ _ _ q r => ⟨a,b,c,d,f,g,h,v3,v0,v1,v2,v3,v4,v5,q,r⟩) s
def p6_50 (k : KC) (e : E) (s : St) : Res := lt (g7 e) fun v0 => bP ((pUn (uFld 1) g9) e) fun v1 => bP ((dLd (cV v1)) e s) fun v2 => bE ((eCall 29 [(cV v0), (cV v2)]) k e s) fun v3 s => bP ((pUn (uExt 0) (cV v3)) e) fun v4 => bP ((pUn (uExt 1) (cV v3)) e) fun v5 => .nrm (rw6 (rw5 (rw0 e fun a b c d f g h i j l m n o _ _ r => ⟨a,b,c,d,f,g,h,i,j,l,m,n,o,v4,v5,r⟩) fun a b c d f g h i j l m n o p _ _ => ⟨a,b,c,d,f,g,h,i,j,l,m,n,o,p,v3,v0⟩) fun _ _ _ _ _ g h i j l m n o p q r => ⟨v1,v2,v3,v4,v5,g,h,i,j,l,m,n,o,p,q,r⟩) s
def p6_52 (k : KC) (e : E) (s : St) : Res := lt (g11 e) fun v0 => lt (g13 e) fun v1 => bP ((pBin (bI fNe) (cV v0) (cV v1)) e) fun v2 => bP (gdV v2 false ((pMove g12) e)) fun v3 => bP (gdV v2 false ((pMove g14) e)) fun v4 => bP (gdV v2 false ((pBin (bI fNe) (cV v3) (cV v4)) e)) fun v5 => bP ((pPick (cV v2) (cV (.bool true)) (cV v5)) e) fun v6 => .nrm (rw6 e fun a b c d f _ _ _ _ _ _ _ _ p q r => ⟨a,b,c,d,f,v0,v1,v2,v2,v3,v4,v5,v6,p,q,r⟩) s
def p6_55 (k : KC) (e : E) (s : St) : Res := ltc (V.bool false) fun v0 => .nrm (u4 e v0) s
def p6_54 (k : KC) (e : E) (s : St) : Res := dSeq p6_55 dRet k e s
def p6_53 (k : KC) (e : E) (s : St) : Res := dCond g108 p6_54 dSkip k e s
def p6_51 (k : KC) (e : E) (s : St) : Res := dSeq p6_52 p6_53 k e s
def p6_49 (k : KC) (e : E) (s : St) : Res := dSeq p6_50 p6_51 k e s
def p6_47 (k : KC) (e : E) (s : St) : Res := dSeq p6_48 p6_49 k e s
def p6_41 (k : KC) (e : E) (s : St) : Res := dSeq p6_42 p6_47 k e s
def p6_36 (k : KC) (e : E) (s : St) : Res := dSeq p6_37 p6_41 k e s
def p6_57 (k : KC) (e : E) (s : St) : Res := bP ((pBin (bI fEq) g67 (cV (.i 2))) e) fun v0 => .nrm (rw6 e fun a b c d f g h i j l m n o _ _ r => ⟨a,b,c,d,f,g,h,i,j,l,m,n,o,v0,v0,r⟩) s
def p6_60 (k : KC) (e : E) (s : St) : Res := lt (g5 e) fun v0 => bP ((pUn (uFld 5) g9) e) fun v1 => bP ((dLd (cV v1)) e s) fun v2 => bP ((pBin rem64 (cV v2) (cV (.i 2))) e) fun v3 => bP ((pBin (bI fEq) (cV v3) (cV (.i 0))) e) fun v4 => bP ((pUn (uFld 1) g9) e) fun v5 => bP ((dLd (cV v5)) e s) fun v6 => bE ((eCall 9 [(cV v0), (cV v4), (cV v6)]) k e s) fun v7 s => bP ((pUn (uExt 0) (cV v7)) e) fun v8 => bP ((pUn (uExt 1) (cV v7)) e) fun v9 => .nrm (rw7 (u111 (u16 (u15 e v8) v9) v7) fun _ _ _ _ _ _ _ _ _ _ m n o p q r => ⟨v0,v1,v2,v3,v4,v5,v6,v7,v8,v9,m,n,o,p,q,r⟩) s
def p6_62 (k : KC) (e : E) (s : St) : Res := lt (g7 e) fun v0 => bP ((pUn (uFld 5) g9) e) fun v1 => bP ((dLd (cV v1)) e s) fun v2 => bP ((pBin rem64 (cV v2) (cV (.i 2))) e) fun v3 => bP ((pBin (bI fEq) (cV v3) (cV (.i 0))) e) fun v4 => bP ((pUn (uFld 1) g9) e) fun v5 => bP ((dLd (cV v5)) e s) fun v6 => bE ((eCall 30 [(cV v0), (cV v4), (cV v6)]) k e s) fun v7 s => bP ((pUn (uExt 0) (cV v7)) e) fun v8 => bP ((pUn (uExt 1) (cV v7)) e) fun v9 => .nrm (rw8 (rw7 (rw1 e fun a _ _ d f g h i j l m n o p q r => ⟨a,v8,v9,d,f,g,h,i,j,l,m,n,o,p,q,r⟩) fun a b c d f g h i j l _ _ _ _ _ _ => ⟨a,b,c,d,f,g,h,i,j,l,v7,v0,v1,v2,v3,v4⟩) fun _ _ _ _ _ g h i j l m n o p q r => ⟨v5,v6,v7,v8,v9,g,h,i,j,l,m,n,o,p,q,r⟩) s
def p6_64 (k : KC) (e : E) (s : St) : Res := lt (g15 e) fun v0 => lt (g17 e) fun v1 => bP ((pBin (bI fNe) (cV v0) (cV v1)) e) fun v2 => bP (gdV v2 false ((pMove g16) e)) fun v3 => bP (gdV v2 false ((pMove g18) e)) fun v4 => bP (gdV v2 false ((pBin (bI fNe) (cV v3) (cV v4)) e)) fun v5 => bP ((pPick (cV v2) (cV (.bool true)) (cV v5)) e) fun v6 => .nrm (rw8 e fun a b c d f _ _ _ _ _ _ _ _ p q r => ⟨a,b,c,d,f,v0,v1,v2,v2,v3,v4,v5,v6,p,q,r⟩) s
def p6_67 (k : KC) (e : E) (s : St) : Res := ltc (V.bool false) fun v0 => .nrm (u4 e v0) s
def p6_66 (k : KC) (e : E) (s : St) : Res := dSeq p6_67 dRet k e s
def p6_65 (k : KC) (e : E) (s : St) : Res := dCond g140 p6_66 dSkip k e s
def p6_63 (k : KC) (e : E) (s : St) : Res := dSeq p6_64 p6_65 k e s
def p6_61 (k : KC) (e : E) (s : St) : Res := dSeq p6_62 p6_63 k e s
def p6_59 (k : KC) (e : E) (s : St) : Res := dSeq p6_60 p6_61 k e s
def p6_69 (k : KC) (e : E) (s : St) : Res := bP ((pBin (bI fEq) g67 (cV (.i 3))) e) fun v0 => .nrm (rw8 e fun a b c d f g h i j l m n o _ _ r => ⟨a,b,c,d,f,g,h,i,j,l,m,n,o,v0,v0,r⟩) s
def p6_72 (k : KC) (e : E) (s : St) : Res := lt (g10 e) fun v0 => bP ((pUn (uFld 2) g9) e) fun v1 => bP ((dLd (cV v1)) e s) fun v2 => bE ((eCall 31 [(cV v0), (cV v2)]) k e s) fun v3 s => .nrm (rw9 (u143 (u19 e v3) v0) fun _ _ _ d f g h i j l m n o p q r => ⟨v1,v2,v3,d,f,g,h,i,j,l,m,n,o,p,q,r⟩) s
def p6_74 (k : KC) (e : E) (s : St) : Res := bP ((pUn (uFld 5) g9) e) fun v0 => bP ((dLd (cV v0)) e s) fun v1 => .nrm (rw9 (u20 e v1) fun a b c _ _ g h i j l m n o p q r => ⟨a,b,c,v0,v1,g,h,i,j,l,m,n,o,p,q,r⟩) s
def p6_77 (k : KC) (e : E) (s : St) : Res := bP ((pUn (uFld 3) g9) e) fun v0 => bP ((dLd (cV v0)) e s) fun v1 => bP ((pBin (bI fGe) (cV v1) (cV (.i 0))) e) fun v2 => .nrm (rw9 e fun a b c d f _ _ _ j l m n o p q r => ⟨a,b,c,d,f,v0,v1,v2,j,l,m,n,o,p,q,r⟩) s
def p6_79 (k : KC) (e : E) (s : St) : Res := lt (g10 e) fun v0 => bP ((pUn (uFld 3) g9) e) fun v1 => bP ((dLd (cV v1)) e s) fun v2 => bE ((eCall 31 [(cV v0), (cV v2)]) k e s) fun v3 s => .nrm (rw9 (u20 e v3) fun a b c d f g h i _ _ _ _ o p q r => ⟨a,b,c,d,f,g,h,i,v0,v1,v2,v3,o,p,q,r⟩) s
def p6_78 (k : KC) (e : E) (s : St) : Res := dCond g151 p6_79 dSkip k e s
def p6_76 (k : KC) (e : E) (s : St) : Res := dSeq p6_77 p6_78 k e s
def p6_81 (k : KC) (e : E) (s : St) : Res := dDraw [⟨none, (.p (pMove g5)), u156⟩, ⟨none, (.p (pMove g19)), u157⟩, ⟨none, (.p (pUn (uFld 1) g9)), u158⟩, ⟨none, (.d 1 0 (dLd g158)), u159⟩, ⟨none, (.p (pMove g20)), u160⟩, ⟨none, (.e (eCall 10 [g156, g157, g159, g160])), u161⟩, ⟨none, (.p (pMove g7)), u162⟩, ⟨none, (.p (pMove g19)), u163⟩, ⟨none, (.p (pUn (uFld 1) g9)), u164⟩, ⟨none, (.d 0 1 (dLd g164)), u165⟩, ⟨none, (.p (pMove g20)), u166⟩, ⟨none, (.e (eCall 32 [g162, g163, g165, g166])), u167⟩, ⟨none, (.p (pBin (bI fNe) g161 g167)), u168⟩] k e s
def p6_84 (k : KC) (e : E) (s : St) : Res := ltc (V.bool false) fun v0 => .nrm (u4 e v0) s
def p6_83 (k : KC) (e : E) (s : St) : Res := dSeq p6_84 dRet k e s
def p6_82 (k : KC) (e : E) (s : St) : Res := dCond g168 p6_83 dSkip k e s
def p6_80 (k : KC) (e : E) (s : St) : Res := dSeq p6_81 p6_82 k e s
def p6_75 (k : KC) (e : E) (s : St) : Res := dSeq p6_76 p6_80 k e s
def p6_73 (k : KC) (e : E) (s : St) : Res := dSeq p6_74 p6_75 k e s
def p6_71 (k : KC) (e : E) (s : St) : Res := dSeq p6_72 p6_73 k e s
def p6_86 (k : KC) (e : E) (s : St) : Res := bP ((pBin (bI fEq) g67 (cV (.i 4))) e) fun v0 => .nrm (rw10 e fun a b c d f g h i j _ _ n o p q r => ⟨a,b,c,d,f,g,h,i,j,v0,v0,n,o,p,q,r⟩) s
def p6_89 (k : KC) (e : E) (s : St) : Res := lt (g10 e) fun v0 => bP ((pUn (uFld 2) g9) e) fun v1 => bP ((dLd (cV v1)) e s) fun v2 => bE ((eCall 31 [(cV v0), (cV v2)]) k e s) fun v3 s => .nrm (rw10 (u21 e v3) fun a b c d f g h i j l m _ _ _ _ r => ⟨a,b,c,d,f,g,h,i,j,l,m,v0,v1,v2,v3,r⟩) s
def p6_91 (k : KC) (e : E) (s : St) : Res := dDraw [⟨none, (.p (pMove g5)), u175⟩, ⟨none, (.p (pMove g21)), u176⟩, ⟨none, (.p (pUn (uFld 5) g9)), u177⟩, ⟨none, (.d 1 0 (dLd g177)), u178⟩, ⟨none, (.e (eCall 23 [g175, g176, g178])), u179⟩, ⟨none, (.p (pMove g7)), u180⟩, ⟨none, (.p (pMove g21)), u181⟩, ⟨none, (.p (pUn (uFld 5) g9)), u182⟩, ⟨none, (.d 0 1 (dLd g182)), u183⟩, ⟨none, (.e (eCall 33 [g180, g181, g183])), u184⟩, ⟨none, (.p (pBin (bI fNe) g179 g184)), u185⟩] k e s
def p6_94 (k : KC) (e : E) (s : St) : Res := ltc (V.bool false) fun v0 => .nrm (u4 e v0) s
def p6_93 (k : KC) (e : E) (s : St) : Res := dSeq p6_94 dRet k e s
def p6_92 (k : KC) (e : E) (s : St) : Res := dCond g185 p6_93 dSkip k e s
def p6_90 (k : KC) (e : E) (s : St) : Res := dSeq p6_91 p6_92 k e s
def p6_88 (k : KC) (e : E) (s : St) : Res := dSeq p6_89 p6_90 k e s
def p6_96 (k : KC) (e : E) (s : St) : Res := bP ((pBin (bI fEq) g67 (cV (.i 5))) e) fun v0 => .nrm (rw11 e fun a b c d f g h i j l _ _ o p q r => ⟨a,b,c,d,f,g,h,i,j,l,v0,v0,o,p,q,r⟩) s
def p6_99 (k : KC) (e : E) (s : St) : Res := ltc (V.nils) fun v0 => .nrm (u22 e v0) s
def p6_102 (k : KC) (e : E) (s : St) : Res := ltc (V.i 0) fun v0 => .nrm (u23 e v0) s
def p6_107 (k : KC) (e : E) (s : St) : Res := lt (g23 e) fun v0 => lt (g10 e) fun v1 => bP ((pUn uLenS (cV v1)) e) fun v2 => bP ((pBin (bI fLt) (cV v0) (cV v2)) e) fun v3 => .nrm (rw11 e fun a b c d f g h i j l m n _ _ _ _ => ⟨a,b,c,d,f,g,h,i,j,l,m,n,v0,v1,v2,v3⟩) s
def p6_108 (k : KC) (e : E) (s : St) : Res := dCond g191 dSkip (dExit 3) k e s
def p6_106 (k : KC) (e : E) (s : St) : Res := dSeq p6_107 p6_108 k e s
def p6_112 (k : KC) (e : E) (s : St) : Res := lt (g23 e) fun v0 => bP ((pUn (uFld 6) g9) e) fun v1 => bP ((dLd (cV v1)) e s) fun v2 => bP ((pUn uLenS (cV v2)) e) fun v3 => bP ((pBin (bI fGe) (cV v0) (cV v3)) e) fun v4 => bP (gdV v4 false ((pUn (uFld 6) g9) e)) fun v5 => bP (gdV v4 false ((dLd (cV v5)) e s)) fun v6 => bP (gdV v4 false ((pMove g23) e)) fun v7 => bP (gdV v4 false ((pBin (bIdx 1) (cV v6) (cV v7)) e)) fun v8 => bP (gdV v4 false ((dLd (cV v8)) e s)) fun v9 => bP ((pPick (cV v4) (cV (.bool true)) (cV v9)) e) fun v10 => .nrm (rw12 e fun a b _ _ _ _ _ _ _ _ _ _ _ _ q r => ⟨a,b,v0,v1,v2,v3,v4,v4,v5,v6,v7,v8,v9,v10,q,r⟩) s
def p6_114 (k : KC) (e : E) (s : St) : Res := lt (g22 e) fun v0 => lt (g10 e) fun v1 => lt (g23 e) fun v2 => bP ((pBin (bIdx 1) (cV v1) (cV v2)) e) fun v3 => bP ((dLd (cV v3)) e s) fun v4 => bE (aSt ((aBSl 1 1 [(.i 0)] [(0, 1, (cV v4))]) e s.next) s) fun v5 s => bE ((eAp 1 (cV v0) (cV v5)) k e s) fun v6 s => .nrm (rw13 (rw12 (u22 e v6) fun a b c d f g h i j l m n o p _ _ => ⟨a,b,c,d,f,g,h,i,j,l,m,n,o,p,v0,v1⟩) fun _ _ _ _ _ g h i j l m n o p q r => ⟨v2,v3,v4,v5,v6,g,h,i,j,l,m,n,o,p,q,r⟩) s
def p6_113 (k : KC) (e : E) (s : St) : Res := dCond g205 p6_114 dSkip k e s
def p6_111 (k : KC) (e : E) (s : St) : Res := dSeq p6_112 p6_113 k e s
def p6_110 (k : KC) (e : E) (s : St) : Res := dBlock 4 p6_111 k e s
def p6_115 (k : KC) (e : E) (s : St) : Res := lt (g23 e) fun v0 => bP ((pBin (bI fAdd) (cV v0) (cV (.i 1))) e) fun v1 => .nrm (rw12 (u23 e v1) fun _ _ c d f g h i j l m n o p q r => ⟨v0,v1,c,d,f,g,h,i,j,l,m,n,o,p,q,r⟩) s
def p6_109 (k : KC) (e : E) (s : St) : Res := dSeq p6_110 p6_115 k e s
def p6_105 (k : KC) (e : E) (s : St) : Res := dSeq p6_106 p6_109 k e s
def p6_104 (k : KC) (e : E) (s : St) : Res := dLoop p6_105 k e s
def p6_103 (k : KC) (e : E) (s : St) : Res := dBlock 3 p6_104 k e s
def p6_101 (k : KC) (e : E) (s : St) : Res := dSeq p6_102 p6_103 k e s
def p6_118 (k : KC) (e : E) (s : St) : Res := bP ((pUn (uFld 1) g9) e) fun v0 => bP ((dLd (cV v0)) e s) fun v1 => bP ((pBin (bI fEq) (cV v1) (cV (.i 1))) e) fun v2 => .nrm (rw13 e fun a b c d f _ _ _ j l m n o p q r => ⟨a,b,c,d,f,v0,v1,v2,j,l,m,n,o,p,q,r⟩) s
def p6_120 (k : KC) (e : E) (s : St) : Res := lt (g7 e) fun v0 => lt (g22 e) fun v1 => bE ((eCall 34 [(cV v0), (cV v1)]) k e s) fun v2 s => bP ((pUn (uExt 0) (cV v2)) e) fun v3 => bP ((pUn (uExt 1) (cV v2)) e) fun v4 => .nrm (rw13 (u22 e v3) fun a b c d f g h i _ _ _ _ _ _ q r => ⟨a,b,c,d,f,g,h,i,v2,v0,v1,v2,v3,v4,q,r⟩) s
def p6_119 (k : KC) (e : E) (s : St) : Res := dCond g215 p6_120 dSkip k e s
def p6_117 (k : KC) (e : E) (s : St) : Res := dSeq p6_118 p6_119 k e s
def p6_122 (k : KC) (e : E) (s : St) : Res := lt (g5 e) fun v0 => lt (g22 e) fun v1 => bE ((eCall 22 [(cV v0), (cV v1)]) k e s) fun v2 s => bP ((pUn (uExt 0) (cV v2)) e) fun v3 => bP ((pUn (uExt 1) (cV v2)) e) fun v4 => .nrm (rw14 (rw13 (rw1 e fun a b c d f g h i _ _ m n o p q r => ⟨a,b,c,d,f,g,h,i,v3,v4,m,n,o,p,q,r⟩) fun a b c d f g h i j l m n o p _ _ => ⟨a,b,c,d,f,g,h,i,j,l,m,n,o,p,v2,v0⟩) fun _ _ _ _ f g h i j l m n o p q r => ⟨v1,v2,v3,v4,f,g,h,i,j,l,m,n,o,p,q,r⟩) s
def p6_124 (k : KC) (e : E) (s : St) : Res := lt (g7 e) fun v0 => lt (g22 e) fun v1 => bE ((eCall 35 [(cV v0), (cV v1)]) k e s) fun v2 s => bP ((pUn (uExt 0) (cV v2)) e) fun v3 => bP ((pUn (uExt 1) (cV v2)) e) fun v4 => .nrm (rw14 (rw1 e fun a b c d f g h i j l _ _ o p q r => ⟨a,b,c,d,f,g,h,i,j,l,v3,v4,o,p,q,r⟩) fun a b c d _ _ _ _ _ _ m n o p q r => ⟨a,b,c,d,v2,v0,v1,v2,v3,v4,m,n,o,p,q,r⟩) s
def p6_126 (k : KC) (e : E) (s : St) : Res := lt (g24 e) fun v0 => lt (g26 e) fun v1 => bE ((eCall 14 [(cV v0), (cV v1)]) k e s) fun v2 s => bP ((pUn uNot (cV v2)) e) fun v3 => bP (gdV v3 false ((pMove g25) e)) fun v4 => bP (gdV v3 false ((pMove g27) e)) fun v5 => bP (gdV v3 false ((pBin (bI fNe) (cV v4) (cV v5)) e)) fun v6 => bP ((pPick (cV v3) (cV (.bool true)) (cV v6)) e) fun v7 => .nrm (rw15 (rw14 e fun a b c d f g h i j l _ _ _ _ _ _ => ⟨a,b,c,d,f,g,h,i,j,l,v0,v1,v2,v3,v3,v4⟩) fun _ _ _ d f g h i j l m n o p q r => ⟨v5,v6,v7,d,f,g,h,i,j,l,m,n,o,p,q,r⟩) s
def p6_129 (k : KC) (e : E) (s : St) : Res := ltc (V.bool false) fun v0 => .nrm (u4 e v0) s
def p6_128 (k : KC) (e : E) (s : St) : Res := dSeq p6_129 dRet k e s
def p6_127 (k : KC) (e : E) (s : St) : Res := dCond g242 p6_128 dSkip k e s
def p6_125 (k : KC) (e : E) (s : St) : Res := dSeq p6_126 p6_127 k e s
def p6_123 (k : KC) (e : E) (s : St) : Res := dSeq p6_124 p6_125 k e s
def p6_121 (k : KC) (e : E) (s : St) : Res := dSeq p6_122 p6_123 k e s
def p6_116 (k : KC) (e : E) (s : St) : Res := dSeq p6_117 p6_121 k e s
def p6_100 (k : KC) (e : E) (s : St) : Res := dSeq p6_101 p6_116 k e s
def p6_98 (k : KC) (e : E) (s : St) : Res := dSeq p6_99 p6_100 k e s
def p6_97 (k : KC) (e : E) (s : St) : Res := dCond g186 p6_98 dSkip k e s
def p6_95 (k : KC) (e : E) (s : St) : Res := dSeq p6_96 p6_97 k e s
def p6_87 (k : KC) (e : E) (s : St) : Res := dCond g169 p6_88 p6_95 k e s
def p6_85 (k : KC) (e : E) (s : St) : Res := dSeq p6_86 p6_87 k e s
def p6_70 (k : KC) (e : E) (s : St) : Res := dCond g141 p6_71 p6_85 k e s
def p6_68 (k : KC) (e : E) (s : St) : Res := dSeq p6_69 p6_70 k e s
def p6_58 (k : KC) (e : E) (s : St) : Res := dCond g109 p6_59 p6_68 k e s
def p6_56 (k : KC) (e : E) (s : St) : Res := dSeq p6_57 p6_58 k e s
def p6_35 (k : KC) (e : E) (s : St) : Res := dCond g68 p6_36 p6_56 k e s
def p6_33 (k : KC) (e : E) (s : St) : Res := dSeq p6_34 p6_35 k e s
def p6_32 (k : KC) (e : E) (s : St) : Res := dBlock 2 p6_33 k e s
def p6_30 (k : KC) (e : E) (s : St) : Res := dSeq p6_31 p6_32 k e s
def p6_131 (k : KC) (e : E) (s : St) : Res := lt (g5 e) fun v0 => lt (g7 e) fun v1 => bE ((eCall 36 [(cV v0), (cV v1)]) k e s) fun v2 s => bP ((pUn uNot (cV v2)) e) fun v3 => .nrm (rw15 e fun a b c _ _ _ _ i j l m n o p q r => ⟨a,b,c,v0,v1,v2,v3,i,j,l,m,n,o,p,q,r⟩) s
def p6_134 (k : KC) (e : E) (s : St) : Res := ltc (V.bool false) fun v0 => .nrm (u4 e v0) s
def p6_133 (k : KC) (e : E) (s : St) : Res := dSeq p6_134 dRet k e s
def p6_132 (k : KC) (e : E) (s : St) : Res := dCond g246 p6_133 dSkip k e s
def p6_130 (k : KC) (e : E) (s : St) : Res := dSeq p6_131 p6_132 k e s
def p6_29 (k : KC) (e : E) (s : St) : Res := dSeq p6_30 p6_130 k e s
def p6_27 (k : KC) (e : E) (s : St) : Res := dSeq p6_28 p6_29 k e s
def p6_25 (k : KC) (e : E) (s : St) : Res := dSeq p6_26 p6_27 k e s
def p6_24 (k : KC) (e : E) (s : St) : Res := dBlock 1 p6_25 k e s
def p6_135 (k : KC) (e : E) (s : St) : Res := lt (g8 e) fun v0 => bP ((pBin (bI fAdd) (cV v0) (cV (.i 1))) e) fun v1 => .nrm (rw3 (u8 e v1) fun a b c d f g h i j l _ _ o p q r => ⟨a,b,c,d,f,g,h,i,j,l,v0,v1,o,p,q,r⟩) s
def p6_23 (k : KC) (e : E) (s : St) : Res := dSeq p6_24 p6_135 k e s
def p6_19 (k : KC) (e : E) (s : St) : Res := dSeq p6_20 p6_23 k e s
def p6_18 (k : KC) (e : E) (s : St) : Res := dLoop p6_19 k e s
def p6_17 (k : KC) (e : E) (s : St) : Res := dBlock 0 p6_18 k e s
def p6_15 (k : KC) (e : E) (s : St) : Res := dSeq p6_16 p6_17 k e s
def p6_137 (k : KC) (e : E) (s : St) : Res := bE ((eCall 16 []) k e s) fun v0 s => .nrm (u247 (u4 e v0) v0) s
def p6_136 (k : KC) (e : E) (s : St) : Res := dSeq p6_137 dRet k e s
def p6_14 (k : KC) (e : E) (s : St) : Res := dSeq p6_15 p6_136 k e s
def p6_8 (k : KC) (e : E) (s : St) : Res := dSeq p6_9 p6_14 k e s
def p6_6 (k : KC) (e : E) (s : St) : Res := dSeq p6_7 p6_8 k e s
def p6_4 (k : KC) (e : E) (s : St) : Res := dSeq p6_5 p6_6 k e s
def p6_2 (k : KC) (e : E) (s : St) : Res := dSeq p6_3 p6_4 k e s
def p6_0 (k : KC) (e : E) (s : St) : Res := dSeq p6_1 p6_2 k e s
def F6 : FDen := ⟨[u0, u1], p6_0, resV [rT g4]⟩
theorem low6 : lowFunc tt [] fok Try.f6 = some F6 := by kernel_rfl
theorem run6 : FRun Try.prog [] 6 F6 := FRun.of (lowFunc_ok ttOk fokOk mixed Try.func6 low6)
/-- carafe/carafebook.Within -/
def p7_1 (k : KC) (e : E) (s : St) : Res := ltc (V.i 0) fun v0 => .nrm (u6 e v0) s
def p7_3 (k : KC) (e : E) (s : St) : Res := lt (g0 e) fun v0 => lt (g2 e) fun v1 => lt (g1 e) fun v2 => bP ((pBin (bI fSub) (cV v1) (cV v2)) e) fun v3 => bP ((pBin (bI fAdd) (cV v3) (cV (.i 1))) e) fun v4 => bP ((pBin rem64 (cV v0) (cV v4)) e) fun v5 => .nrm (rw0 e fun _ b c d f g h _ _ _ _ _ _ p q r => ⟨v5,b,c,d,f,g,h,v0,v1,v2,v3,v4,v5,p,q,r⟩) s
def p7_6 (k : KC) (e : E) (s : St) : Res := lt (g0 e) fun v0 => bP ((pBin (bI fLt) (cV v0) (cV (.i 0))) e) fun v1 => .nrm (rw0 e fun a b c d f g h i j l m n o _ _ r => ⟨a,b,c,d,f,g,h,i,j,l,m,n,o,v0,v1,r⟩) s
def p7_8 (k : KC) (e : E) (s : St) : Res := lt (g0 e) fun v0 => lt (g2 e) fun v1 => bP ((pBin (bI fAdd) (cV v0) (cV v1)) e) fun v2 => lt (g1 e) fun v3 => bP ((pBin (bI fSub) (cV v2) (cV v3)) e) fun v4 => bP ((pBin (bI fAdd) (cV v4) (cV (.i 1))) e) fun v5 => .nrm (rw1 (rw0 e fun _ b c d f g h i j l m n o p q _ => ⟨v5,b,c,d,f,g,h,i,j,l,m,n,o,p,q,v0⟩) fun _ _ _ _ _ g h i j l m n o p q r => ⟨v1,v2,v3,v4,v5,g,h,i,j,l,m,n,o,p,q,r⟩) s
def p7_7 (k : KC) (e : E) (s : St) : Res := dCond g14 p7_8 dSkip k e s
def p7_5 (k : KC) (e : E) (s : St) : Res := dSeq p7_6 p7_7 k e s
def p7_10 (k : KC) (e : E) (s : St) : Res := lt (g1 e) fun v0 => lt (g0 e) fun v1 => bP ((pBin (bI fAdd) (cV v0) (cV v1)) e) fun v2 => .nrm (rw1 (u6 e v2) fun a b c d f _ _ _ j l m n o p q r => ⟨a,b,c,d,f,v0,v1,v2,j,l,m,n,o,p,q,r⟩) s
def p7_9 (k : KC) (e : E) (s : St) : Res := dSeq p7_10 dRet k e s
def p7_4 (k : KC) (e : E) (s : St) : Res := dSeq p7_5 p7_9 k e s
def p7_2 (k : KC) (e : E) (s : St) : Res := dSeq p7_3 p7_4 k e s
def p7_0 (k : KC) (e : E) (s : St) : Res := dSeq p7_1 p7_2 k e s
def F7 : FDen := ⟨[u0, u1, u2], p7_0, resV [rT g6]⟩
theorem low7 : lowFunc tt [] fok Try.f7 = some F7 := by kernel_rfl
theorem run7 : FRun Try.prog [] 7 F7 := FRun.of (lowFunc_ok ttOk fokOk mixed Try.func7 low7)
/-- carafe/heap.New -/
def p8_1 (k : KC) (e : E) (s : St) : Res := ltc (V.nilp) fun v0 => ltc (V.i 0) fun v1 => .nrm (rw0 e fun a b _ _ f g h i j l m n o p q r => ⟨a,b,v0,v1,f,g,h,i,j,l,m,n,o,p,q,r⟩) s
def p8_4 (k : KC) (e : E) (s : St) : Res := lt (g0 e) fun v0 => bP ((pBin (bI fLt) (cV v0) (cV (.i 1))) e) fun v1 => bP (gdV v1 false ((pMove g0) e)) fun v2 => bP (gdV v1 false ((pBin (bI fGt) (cV v2) (cV (.i 16384))) e)) fun v3 => bP ((pPick (cV v1) (cV (.bool true)) (cV v3)) e) fun v4 => .nrm (rw0 e fun a b c d _ _ _ _ _ _ m n o p q r => ⟨a,b,c,d,v0,v1,v1,v2,v3,v4,m,n,o,p,q,r⟩) s
def p8_7 (k : KC) (e : E) (s : St) : Res := ltc (V.nilp) fun v0 => ltc (V.i 1) fun v1 => .nrm (rw0 e fun a b _ _ f g h i j l m n o p q r => ⟨a,b,v0,v1,f,g,h,i,j,l,m,n,o,p,q,r⟩) s
def p8_6 (k : KC) (e : E) (s : St) : Res := dSeq p8_7 dRet k e s
def p8_5 (k : KC) (e : E) (s : St) : Res := dCond g9 p8_6 dSkip k e s
def p8_3 (k : KC) (e : E) (s : St) : Res := dSeq p8_4 p8_5 k e s
def p8_9 (k : KC) (e : E) (s : St) : Res := lt (g0 e) fun v0 => bP ((pBin (bI fAdd) (cV v0) (cV (.i 1))) e) fun v1 => bE (aSt ((aMkS 1 8 [(.i 0)] (cV v1) (cV v1)) e s.next) s) fun v2 s => lt (g0 e) fun v3 => bP ((pBin (bI fAdd) (cV v3) (cV (.i 1))) e) fun v4 => bE (aSt ((aMkS 1 1 [(.bool false)] (cV v4) (cV v4)) e s.next) s) fun v5 s => bE (aSt (aMk e s.next) s) fun v6 s => bP ((pBuild [.nils, .nils, (.i 0), .nils, .nilm] [(0, 1, (cV v2)), (1, 1, (cV v5)), (2, 1, (cV (.i 1))), (3, 1, (cV .nils)), (4, 1, (cV v6))]) e) fun v7 => bE (aSt ((aBox (cV v7)) e s.next) s) fun v8 s => ltc (V.i 0) fun v9 => .nrm (rw1 (rw0 e fun a b _ _ f g h i j l _ _ _ _ _ _ => ⟨a,b,v8,v9,f,g,h,i,j,l,v0,v1,v2,v3,v4,v5⟩) fun _ _ _ d f g h i j l m n o p q r => ⟨v6,v7,v8,d,f,g,h,i,j,l,m,n,o,p,q,r⟩) s
def p8_8 (k : KC) (e : E) (s : St) : Res := dSeq p8_9 dRet k e s
def p8_2 (k : KC) (e : E) (s : St) : Res := dSeq p8_3 p8_8 k e s
def p8_0 (k : KC) (e : E) (s : St) : Res := dSeq p8_1 p8_2 k e s
def F8 : FDen := ⟨[u0], p8_0, resV [rT g2, rT g3]⟩
theorem low8 : lowFunc tt [] fok Try.f8 = some F8 := by kernel_rfl
theorem run8 : FRun Try.prog [] 8 F8 := FRun.of (lowFunc_ok ttOk fokOk mixed Try.func8 low8)
/-- (*carafe/heap.Heap).Array -/
def p9_1 (k : KC) (e : E) (s : St) : Res := ltc (V.i 0) fun v0 => ltc (V.i 0) fun v1 => .nrm (rw0 e fun a b c d f g _ _ j l m n o p q r => ⟨a,b,c,d,f,g,v0,v1,j,l,m,n,o,p,q,r⟩) s
def p9_4 (k : KC) (e : E) (s : St) : Res := lt (g2 e) fun v0 => bP ((pBin (bI fLt) (cV v0) (cV (.i 0))) e) fun v1 => bP (gdV v1 false ((pMove g2) e)) fun v2 => bP (gdV v1 false ((pBin (bI fGt) (cV v2) (cV (.i 256))) e)) fun v3 => bP ((pPick (cV v1) (cV (.bool true)) (cV v3)) e) fun v4 => .nrm (rw0 e fun a b c d f g h i j _ _ _ _ _ _ r => ⟨a,b,c,d,f,g,h,i,j,v0,v1,v1,v2,v3,v4,r⟩) s
def p9_7 (k : KC) (e : E) (s : St) : Res := ltc (V.i 0) fun v0 => ltc (V.i 1) fun v1 => .nrm (rw0 e fun a b c d f g _ _ j l m n o p q r => ⟨a,b,c,d,f,g,v0,v1,j,l,m,n,o,p,q,r⟩) s
def p9_6 (k : KC) (e : E) (s : St) : Res := dSeq p9_7 dRet k e s
def p9_5 (k : KC) (e : E) (s : St) : Res := dCond g14 p9_6 dSkip k e s
def p9_3 (k : KC) (e : E) (s : St) : Res := dSeq p9_4 p9_5 k e s
def p9_9 (k : KC) (e : E) (s : St) : Res := ltc (V.i (-1)) fun v0 => .nrm (u8 e v0) s
def p9_12 (k : KC) (e : E) (s : St) : Res := lt (g1 e) fun v0 => .nrm (u15 e v0) s
def p9_14 (k : KC) (e : E) (s : St) : Res := ltc (V.i (-2)) fun v0 => .nrm (u8 e v0) s
def p9_13 (k : KC) (e : E) (s : St) : Res := dCond g15 p9_14 dSkip k e s
def p9_11 (k : KC) (e : E) (s : St) : Res := dSeq p9_12 p9_13 k e s
def p9_16 (k : KC) (e : E) (s : St) : Res := lt (g0 e) fun v0 => lt (g8 e) fun v1 => lt (g2 e) fun v2 => bE ((eCall 37 [(cV v0), (cV v1), (cV v2)]) k e s) fun v3 s => bP ((pUn (uExt 0) (cV v3)) e) fun v4 => bP ((pUn (uExt 1) (cV v3)) e) fun v5 => .nrm (rw1 (rw0 e fun a b c d f g _ _ j l m n o p q r => ⟨a,b,c,d,f,g,v4,v5,j,l,m,n,o,p,q,r⟩) fun _ _ _ _ _ _ h i j l m n o p q r => ⟨v0,v1,v2,v3,v4,v5,h,i,j,l,m,n,o,p,q,r⟩) s
def p9_15 (k : KC) (e : E) (s : St) : Res := dSeq p9_16 dRet k e s
def p9_10 (k : KC) (e : E) (s : St) : Res := dSeq p9_11 p9_15 k e s
def p9_8 (k : KC) (e : E) (s : St) : Res := dSeq p9_9 p9_10 k e s
def p9_2 (k : KC) (e : E) (s : St) : Res := dSeq p9_3 p9_8 k e s
def p9_0 (k : KC) (e : E) (s : St) : Res := dSeq p9_1 p9_2 k e s
def F9 : FDen := ⟨[u0, u1, u2], p9_0, resV [rT g6, rT g7]⟩
theorem low9 : lowFunc tt [] fok Try.f9 = some F9 := by kernel_rfl
theorem run9 : FRun Try.prog [] 9 F9 := FRun.of (lowFunc_ok ttOk fokOk mixed Try.func9 low9)
/-- (*carafe/heap.Heap).Set -/
def p10_1 (k : KC) (e : E) (s : St) : Res := ltc (V.i 0) fun v0 => .nrm (u8 e v0) s
def p10_3 (k : KC) (e : E) (s : St) : Res := lt (g0 e) fun v0 => lt (g1 e) fun v1 => lt (g2 e) fun v2 => bE ((eCall 38 [(cV v0), (cV v1), (cV v2)]) k e s) fun v3 s => bP ((pUn (uExt 0) (cV v3)) e) fun v4 => bP ((pUn (uExt 1) (cV v3)) e) fun v5 => .nrm (rw1 (rw0 e fun a b c d f g h i j _ _ _ _ _ _ _ => ⟨a,b,c,d,f,g,h,i,j,v4,v5,v3,v0,v1,v2,v3⟩) fun _ _ c d f g h i j l m n o p q r => ⟨v4,v5,c,d,f,g,h,i,j,l,m,n,o,p,q,r⟩) s
def p10_7 (k : KC) (e : E) (s : St) : Res := lt (g10 e) fun v0 => bP ((pUn uNot (cV v0)) e) fun v1 => .nrm (rw1 e fun a b _ _ _ g h i j l m n o p q r => ⟨a,b,v1,v0,v1,g,h,i,j,l,m,n,o,p,q,r⟩) s
def p10_10 (k : KC) (e : E) (s : St) : Res := ltc (V.i 1) fun v0 => .nrm (u8 e v0) s
def p10_9 (k : KC) (e : E) (s : St) : Res := dSeq p10_10 dRet k e s
def p10_12 (k : KC) (e : E) (s : St) : Res := lt (g0 e) fun v0 => lt (g1 e) fun v1 => lt (g2 e) fun v2 => bE ((eCall 21 [(cV v0), (cV v1), (cV v2)]) k e s) fun v3 s => bP (gdV v3 true ((pMove g0) e)) fun v4 => bP (gdV v3 true ((pMove g3) e)) fun v5 => bE (gdW v3 true s ((eCall 39 [(cV v4), (cV v5)]) k e s)) fun v6 s => bP (gdV v3 true ((pUn uNot (cV v6)) e)) fun v7 => bP ((pPick (cV v3) (cV v7) (cV (.bool false))) e) fun v8 => .nrm (rw1 e fun a b c d f _ _ _ _ _ _ _ _ _ _ _ => ⟨a,b,c,d,f,v8,v0,v1,v2,v3,v3,v4,v5,v6,v7,v8⟩) s
def p10_15 (k : KC) (e : E) (s : St) : Res := ltc (V.i 20) fun v0 => .nrm (u8 e v0) s
def p10_14 (k : KC) (e : E) (s : St) : Res := dSeq p10_15 dRet k e s
def p10_13 (k : KC) (e : E) (s : St) : Res := dCond g21 p10_14 dSkip k e s
def p10_11 (k : KC) (e : E) (s : St) : Res := dSeq p10_12 p10_13 k e s
def p10_8 (k : KC) (e : E) (s : St) : Res := dCond g18 p10_9 p10_11 k e s
def p10_6 (k : KC) (e : E) (s : St) : Res := dSeq p10_7 p10_8 k e s
def p10_5 (k : KC) (e : E) (s : St) : Res := dBlock 0 p10_6 k e s
def p10_17 (k : KC) (e : E) (s : St) : Res := lt (g0 e) fun v0 => bP ((pUn uChk (cV v0)) e) fun v1 => bP ((pUn (uFld 0) (cV v1)) e) fun v2 => bP ((dLd (cV v2)) e s) fun v3 => lt (g9 e) fun v4 => lt (g3 e) fun v5 => bP ((pBin (bIdx 1) (cV v3) (cV v4)) e) fun v6 => bE ((eSt 1 (cV v6) (cV v5)) k e s) fun v7 s => .nrm (rw2 e fun _ _ _ _ _ _ _ i j l m n o p q r => ⟨v0,v1,v2,v3,v4,v5,v6,i,j,l,m,n,o,p,q,r⟩) s
def p10_19 (k : KC) (e : E) (s : St) : Res := ltc (V.i 0) fun v0 => .nrm (u8 e v0) s
def p10_18 (k : KC) (e : E) (s : St) : Res := dSeq p10_19 dRet k e s
def p10_16 (k : KC) (e : E) (s : St) : Res := dSeq p10_17 p10_18 k e s
def p10_4 (k : KC) (e : E) (s : St) : Res := dSeq p10_5 p10_16 k e s
def p10_2 (k : KC) (e : E) (s : St) : Res := dSeq p10_3 p10_4 k e s
def p10_0 (k : KC) (e : E) (s : St) : Res := dSeq p10_1 p10_2 k e s
def F10 : FDen := ⟨[u0, u1, u2, u3], p10_0, resV [rT g8]⟩
theorem low10 : lowFunc tt [] fok Try.f10 = some F10 := by kernel_rfl
theorem run10 : FRun Try.prog [] 10 F10 := FRun.of (lowFunc_ok ttOk fokOk mixed Try.func10 low10)
/-- (*carafe/heap.Heap).Len -/
def p11_1 (k : KC) (e : E) (s : St) : Res := ltc (V.i 0) fun v0 => .nrm (u4 e v0) s
def p11_4 (k : KC) (e : E) (s : St) : Res := lt (g0 e) fun v0 => lt (g1 e) fun v1 => bE ((eCall 40 [(cV v0), (cV v1)]) k e s) fun v2 s => bP ((pUn uNot (cV v2)) e) fun v3 => .nrm (rw0 e fun a b c d f _ _ _ _ l m n o p q r => ⟨a,b,c,d,f,v0,v1,v2,v3,l,m,n,o,p,q,r⟩) s
def p11_7 (k : KC) (e : E) (s : St) : Res := ltc (V.i 0) fun v0 => .nrm (u4 e v0) s
def p11_6 (k : KC) (e : E) (s : St) : Res := dSeq p11_7 dRet k e s
def p11_5 (k : KC) (e : E) (s : St) : Res := dCond g8 p11_6 dSkip k e s
def p11_3 (k : KC) (e : E) (s : St) : Res := dSeq p11_4 p11_5 k e s
def p11_9 (k : KC) (e : E) (s : St) : Res := lt (g0 e) fun v0 => bP ((pUn uChk (cV v0)) e) fun v1 => bP ((pUn (uFld 0) (cV v1)) e) fun v2 => bP ((dLd (cV v2)) e s) fun v3 => lt (g1 e) fun v4 => bP ((pBin (bI fAdd) (cV v4) (cV (.i 1))) e) fun v5 => bP ((pBin (bIdx 1) (cV v3) (cV v5)) e) fun v6 => bP ((dLd (cV v6)) e s) fun v7 => .nrm (u16 (rw0 e fun a b c d _ g h i j _ _ _ _ _ _ _ => ⟨a,b,c,d,v7,g,h,i,j,v0,v1,v2,v3,v4,v5,v6⟩) v7) s
def p11_8 (k : KC) (e : E) (s : St) : Res := dSeq p11_9 dRet k e s
def p11_2 (k : KC) (e : E) (s : St) : Res := dSeq p11_3 p11_8 k e s
def p11_0 (k : KC) (e : E) (s : St) : Res := dSeq p11_1 p11_2 k e s
def F11 : FDen := ⟨[u0, u1], p11_0, resV [rT g4]⟩
theorem low11 : lowFunc tt [] fok Try.f11 = some F11 := by kernel_rfl
theorem run11 : FRun Try.prog [] 11 F11 := FRun.of (lowFunc_ok ttOk fokOk mixed Try.func11 low11)
/-- (*carafe/heap.Heap).Get -/
def p12_1 (k : KC) (e : E) (s : St) : Res := ltc (V.i 0) fun v0 => ltc (V.i 0) fun v1 => .nrm (rw0 e fun a b c d f g _ _ j l m n o p q r => ⟨a,b,c,d,f,g,v0,v1,j,l,m,n,o,p,q,r⟩) s
def p12_3 (k : KC) (e : E) (s : St) : Res := lt (g0 e) fun v0 => lt (g1 e) fun v1 => lt (g2 e) fun v2 => bE ((eCall 38 [(cV v0), (cV v1), (cV v2)]) k e s) fun v3 s => bP ((pUn (uExt 0) (cV v3)) e) fun v4 => bP ((pUn (uExt 1) (cV v3)) e) fun v5 => .nrm (u16 (rw0 e fun a b c d f g h i _ _ _ _ _ _ _ _ => ⟨a,b,c,d,f,g,h,i,v4,v5,v3,v0,v1,v2,v3,v4⟩) v5) s
def p12_6 (k : KC) (e : E) (s : St) : Res := lt (g9 e) fun v0 => bP ((pUn uNot (cV v0)) e) fun v1 => .nrm (rw1 e fun a _ _ d f g h i j l m n o p q r => ⟨a,v0,v1,d,f,g,h,i,j,l,m,n,o,p,q,r⟩) s
def p12_9 (k : KC) (e : E) (s : St) : Res := ltc (V.i 0) fun v0 => ltc (V.i 1) fun v1 => .nrm (rw0 e fun a b c d f g _ _ j l m n o p q r => ⟨a,b,c,d,f,g,v0,v1,j,l,m,n,o,p,q,r⟩) s
def p12_8 (k : KC) (e : E) (s : St) : Res := dSeq p12_9 dRet k e s
def p12_7 (k : KC) (e : E) (s : St) : Res := dCond g18 p12_8 dSkip k e s
def p12_5 (k : KC) (e : E) (s : St) : Res := dSeq p12_6 p12_7 k e s
def p12_11 (k : KC) (e : E) (s : St) : Res := lt (g0 e) fun v0 => bP ((pUn uChk (cV v0)) e) fun v1 => bP ((pUn (uFld 0) (cV v1)) e) fun v2 => bP ((dLd (cV v2)) e s) fun v3 => lt (g8 e) fun v4 => bP ((pBin (bIdx 1) (cV v3) (cV v4)) e) fun v5 => bP ((dLd (cV v5)) e s) fun v6 => ltc (V.i 0) fun v7 => .nrm (rw1 (rw0 e fun a b c d f g _ _ j l m n o p q r => ⟨a,b,c,d,f,g,v6,v7,j,l,m,n,o,p,q,r⟩) fun a b c _ _ _ _ _ _ _ m n o p q r => ⟨a,b,c,v0,v1,v2,v3,v4,v5,v6,m,n,o,p,q,r⟩) s
def p12_10 (k : KC) (e : E) (s : St) : Res := dSeq p12_11 dRet k e s
def p12_4 (k : KC) (e : E) (s : St) : Res := dSeq p12_5 p12_10 k e s
def p12_2 (k : KC) (e : E) (s : St) : Res := dSeq p12_3 p12_4 k e s
def p12_0 (k : KC) (e : E) (s : St) : Res := dSeq p12_1 p12_2 k e s
def F12 : FDen := ⟨[u0, u1, u2], p12_0, resV [rT g6, rT g7]⟩
theorem low12 : lowFunc tt [] fok Try.f12 = some F12 := by kernel_rfl
theorem run12 : FRun Try.prog [] 12 F12 := FRun.of (lowFunc_ok ttOk fokOk mixed Try.func12 low12)
/-- (*carafe/heap.Heap).Used -/
def p13_1 (k : KC) (e : E) (s : St) : Res := ltc (V.i 0) fun v0 => .nrm (u2 e v0) s
def p13_3 (k : KC) (e : E) (s : St) : Res := lt (g0 e) fun v0 => bP ((pUn uChk (cV v0)) e) fun v1 => bP ((pUn (uFld 2) (cV v1)) e) fun v2 => bP ((dLd (cV v2)) e s) fun v3 => bP ((pBin (bI fSub) (cV v3) (cV (.i 1))) e) fun v4 => .nrm (rw0 e fun a b _ _ _ _ _ _ j l m n o p q r => ⟨a,b,v4,v0,v1,v2,v3,v4,j,l,m,n,o,p,q,r⟩) s
def p13_2 (k : KC) (e : E) (s : St) : Res := dSeq p13_3 dRet k e s
def p13_0 (k : KC) (e : E) (s : St) : Res := dSeq p13_1 p13_2 k e s
def F13 : FDen := ⟨[u0], p13_0, resV [rT g2]⟩
theorem low13 : lowFunc tt [] fok Try.f13 = some F13 := by kernel_rfl
theorem run13 : FRun Try.prog [] 13 F13 := FRun.of (lowFunc_ok ttOk fokOk mixed Try.func13 low13)
/-- carafe/carafebook.Same[int] -/
def p14_1 (k : KC) (e : E) (s : St) : Res := ltc (V.bool false) fun v0 => .nrm (u4 e v0) s
def p14_4 (k : KC) (e : E) (s : St) : Res := lt (g0 e) fun v0 => bP ((pUn uLenS (cV v0)) e) fun v1 => lt (g1 e) fun v2 => bP ((pUn uLenS (cV v2)) e) fun v3 => bP ((pBin (bI fNe) (cV v1) (cV v3)) e) fun v4 => .nrm (rw0 e fun a b c d f g _ _ _ _ _ n o p q r => ⟨a,b,c,d,f,g,v0,v1,v2,v3,v4,n,o,p,q,r⟩) s
def p14_7 (k : KC) (e : E) (s : St) : Res := ltc (V.bool false) fun v0 => .nrm (u4 e v0) s
def p14_6 (k : KC) (e : E) (s : St) : Res := dSeq p14_7 dRet k e s
def p14_5 (k : KC) (e : E) (s : St) : Res := dCond g10 p14_6 dSkip k e s
def p14_3 (k : KC) (e : E) (s : St) : Res := dSeq p14_4 p14_5 k e s
def p14_10 (k : KC) (e : E) (s : St) : Res := ltc (V.i 0) fun v0 => .nrm (u5 e v0) s
def p14_15 (k : KC) (e : E) (s : St) : Res := lt (g5 e) fun v0 => lt (g0 e) fun v1 => bP ((pUn uLenS (cV v1)) e) fun v2 => bP ((pBin (bI fLt) (cV v0) (cV v2)) e) fun v3 => .nrm (rw0 e fun a b c d f g h i j l m _ _ _ _ r => ⟨a,b,c,d,f,g,h,i,j,l,m,v0,v1,v2,v3,r⟩) s
def p14_16 (k : KC) (e : E) (s : St) : Res := dCond g14 dSkip (dExit 0) k e s
def p14_14 (k : KC) (e : E) (s : St) : Res := dSeq p14_15 p14_16 k e s
def p14_20 (k : KC) (e : E) (s : St) : Res := lt (g0 e) fun v0 => lt (g5 e) fun v1 => bP ((pBin (bIdx 1) (cV v0) (cV v1)) e) fun v2 => bP ((dLd (cV v2)) e s) fun v3 => lt (g1 e) fun v4 => lt (g5 e) fun v5 => bP ((pBin (bIdx 1) (cV v4) (cV v5)) e) fun v6 => bP ((dLd (cV v6)) e s) fun v7 => bP ((pBin (bI fNe) (cV v3) (cV v7)) e) fun v8 => .nrm (rw1 e fun a _ _ _ _ _ _ _ _ _ m n o p q r => ⟨a,v0,v1,v2,v3,v4,v5,v6,v7,v8,m,n,o,p,q,r⟩) s
def p14_23 (k : KC) (e : E) (s : St) : Res := ltc (V.bool false) fun v0 => .nrm (u4 e v0) s
def p14_22 (k : KC) (e : E) (s : St) : Res := dSeq p14_23 dRet k e s
def p14_21 (k : KC) (e : E) (s : St) : Res := dCond g25 p14_22 dSkip k e s
def p14_19 (k : KC) (e : E) (s : St) : Res := dSeq p14_20 p14_21 k e s
def p14_18 (k : KC) (e : E) (s : St) : Res := dBlock 1 p14_19 k e s
def p14_24 (k : KC) (e : E) (s : St) : Res := lt (g5 e) fun v0 => bP ((pBin (bI fAdd) (cV v0) (cV (.i 1))) e) fun v1 => .nrm (u16 (rw0 e fun a b c d f _ h i j l m n o p q _ => ⟨a,b,c,d,f,v1,h,i,j,l,m,n,o,p,q,v0⟩) v1) s
def p14_17 (k : KC) (e : E) (s : St) : Res := dSeq p14_18 p14_24 k e s
def p14_13 (k : KC) (e : E) (s : St) : Res := dSeq p14_14 p14_17 k e s
def p14_12 (k : KC) (e : E) (s : St) : Res := dLoop p14_13 k e s
def p14_11 (k : KC) (e : E) (s : St) : Res := dBlock 0 p14_12 k e s
def p14_9 (k : KC) (e : E) (s : St) : Res := dSeq p14_10 p14_11 k e s
def p14_26 (k : KC) (e : E) (s : St) : Res := ltc (V.bool true) fun v0 => .nrm (u4 e v0) s
def p14_25 (k : KC) (e : E) (s : St) : Res := dSeq p14_26 dRet k e s
def p14_8 (k : KC) (e : E) (s : St) : Res := dSeq p14_9 p14_25 k e s
def p14_2 (k : KC) (e : E) (s : St) : Res := dSeq p14_3 p14_8 k e s
def p14_0 (k : KC) (e : E) (s : St) : Res := dSeq p14_1 p14_2 k e s
def F14 : FDen := ⟨[u0, u1], p14_0, resV [rT g4]⟩
theorem low14 : lowFunc tt [] fok Try.f14 = some F14 := by kernel_rfl
theorem run14 : FRun Try.prog [] 14 F14 := FRun.of (lowFunc_ok ttOk fokOk mixed Try.func14 low14)
/-- (*carafe/heap.Heap).All -/
def p15_1 (k : KC) (e : E) (s : St) : Res := ltc (V.nils) fun v0 => .nrm (u2 e v0) s
def p15_3 (k : KC) (e : E) (s : St) : Res := ltc (V.nils) fun v0 => .nrm (u3 e v0) s
def p15_6 (k : KC) (e : E) (s : St) : Res := ltc (V.i 1) fun v0 => .nrm (u4 e v0) s
def p15_11 (k : KC) (e : E) (s : St) : Res := lt (g4 e) fun v0 => lt (g0 e) fun v1 => bP ((pUn uChk (cV v1)) e) fun v2 => bP ((pUn (uFld 2) (cV v2)) e) fun v3 => bP ((dLd (cV v3)) e s) fun v4 => bP ((pBin (bI fLt) (cV v0) (cV v4)) e) fun v5 => .nrm (rw0 e fun a b c d f _ _ _ _ _ _ n o p q r => ⟨a,b,c,d,f,v0,v1,v2,v3,v4,v5,n,o,p,q,r⟩) s
def p15_12 (k : KC) (e : E) (s : St) : Res := dCond g10 dSkip (dExit 0) k e s
def p15_10 (k : KC) (e : E) (s : St) : Res := dSeq p15_11 p15_12 k e s
def p15_15 (k : KC) (e : E) (s : St) : Res := lt (g3 e) fun v0 => lt (g4 e) fun v1 => bE (aSt ((aBSl 1 1 [(.i 0)] [(0, 1, (cV v1))]) e s.next) s) fun v2 s => bE ((eAp 1 (cV v0) (cV v2)) k e s) fun v3 s => .nrm (rw1 (u3 e v3) fun a _ _ _ _ g h i j l m n o p q r => ⟨a,v0,v1,v2,v3,g,h,i,j,l,m,n,o,p,q,r⟩) s
def p15_14 (k : KC) (e : E) (s : St) : Res := dBlock 1 p15_15 k e s
def p15_16 (k : KC) (e : E) (s : St) : Res := lt (g4 e) fun v0 => lt (g0 e) fun v1 => lt (g4 e) fun v2 => bE ((eCall 11 [(cV v1), (cV v2)]) k e s) fun v3 s => bP ((pBin (bI fAdd) (cV (.i 3)) (cV v3)) e) fun v4 => bP ((pBin (bI fAdd) (cV v0) (cV v4)) e) fun v5 => .nrm (u16 (rw0 e fun a b c d _ g h i j l m _ _ _ _ _ => ⟨a,b,c,d,v5,g,h,i,j,l,m,v0,v1,v2,v3,v4⟩) v5) s
def p15_13 (k : KC) (e : E) (s : St) : Res := dSeq p15_14 p15_16 k e s
def p15_9 (k : KC) (e : E) (s : St) : Res := dSeq p15_10 p15_13 k e s
def p15_8 (k : KC) (e : E) (s : St) : Res := dLoop p15_9 k e s
def p15_7 (k : KC) (e : E) (s : St) : Res := dBlock 0 p15_8 k e s
def p15_5 (k : KC) (e : E) (s : St) : Res := dSeq p15_6 p15_7 k e s
def p15_18 (k : KC) (e : E) (s : St) : Res := lt (g3 e) fun v0 => .nrm (u21 (u2 e v0) v0) s
def p15_17 (k : KC) (e : E) (s : St) : Res := dSeq p15_18 dRet k e s
def p15_4 (k : KC) (e : E) (s : St) : Res := dSeq p15_5 p15_17 k e s
def p15_2 (k : KC) (e : E) (s : St) : Res := dSeq p15_3 p15_4 k e s
def p15_0 (k : KC) (e : E) (s : St) : Res := dSeq p15_1 p15_2 k e s
def F15 : FDen := ⟨[u0], p15_0, resV [rT g2]⟩
theorem low15 : lowFunc tt [] fok Try.f15 = some F15 := by kernel_rfl
theorem run15 : FRun Try.prog [] 15 F15 := FRun.of (lowFunc_ok ttOk fokOk mixed Try.func15 low15)
/-- carafe/carafelaw13.known -/
def p16_1 (k : KC) (e : E) (s : St) : Res := ltc (V.bool false) fun v0 => .nrm (u0 e v0) s
def p16_3 (k : KC) (e : E) (s : St) : Res := bE ((eCall 8 [(cV (.i 8))]) k e s) fun v0 s => bP ((pUn (uExt 0) (cV v0)) e) fun v1 => bP ((pUn (uExt 1) (cV v0)) e) fun v2 => .nrm (rw0 e fun a _ _ d f g h _ _ _ _ n o p q r => ⟨a,v1,v2,d,f,g,h,v0,v0,v1,v2,n,o,p,q,r⟩) s
def p16_6 (k : KC) (e : E) (s : St) : Res := lt (g1 e) fun v0 => bP ((pBin (bNil false nilP) (cV v0) (cV .nilp)) e) fun v1 => bP (gdV v1 false ((pMove g2) e)) fun v2 => bP (gdV v1 false ((pBin (bI fNe) (cV v2) (cV (.i 0))) e)) fun v3 => bP ((pPick (cV v1) (cV (.bool true)) (cV v3)) e) fun v4 => .nrm (u16 (rw0 e fun a b c d f g h i j l m _ _ _ _ _ => ⟨a,b,c,d,f,g,h,i,j,l,m,v0,v1,v1,v2,v3⟩) v4) s
def p16_9 (k : KC) (e : E) (s : St) : Res := ltc (V.bool false) fun v0 => .nrm (u0 e v0) s
def p16_8 (k : KC) (e : E) (s : St) : Res := dSeq p16_9 dRet k e s
def p16_7 (k : KC) (e : E) (s : St) : Res := dCond g16 p16_8 dSkip k e s
def p16_5 (k : KC) (e : E) (s : St) : Res := dSeq p16_6 p16_7 k e s
def p16_11 (k : KC) (e : E) (s : St) : Res := lt (g1 e) fun v0 => bE ((eCall 9 [(cV v0), (cV (.bool false)), (cV (.i 5))]) k e s) fun v1 s => bP ((pUn (uExt 0) (cV v1)) e) fun v2 => bP ((pUn (uExt 1) (cV v1)) e) fun v3 => .nrm (rw1 (rw0 e fun a b c _ _ g h i j l m n o p q r => ⟨a,b,c,v2,v3,g,h,i,j,l,m,n,o,p,q,r⟩) fun a _ _ _ _ _ h i j l m n o p q r => ⟨a,v1,v0,v1,v2,v3,h,i,j,l,m,n,o,p,q,r⟩) s
def p16_13 (k : KC) (e : E) (s : St) : Res := lt (g1 e) fun v0 => bE ((eCall 9 [(cV v0), (cV (.bool false)), (cV (.i 0))]) k e s) fun v1 s => bP ((pUn (uExt 0) (cV v1)) e) fun v2 => bP ((pUn (uExt 1) (cV v1)) e) fun v3 => .nrm (rw1 (rw0 e fun a b c d f _ _ i j l m n o p q r => ⟨a,b,c,d,f,v2,v3,i,j,l,m,n,o,p,q,r⟩) fun a b c d f g _ _ _ _ _ n o p q r => ⟨a,b,c,d,f,g,v1,v0,v1,v2,v3,n,o,p,q,r⟩) s
def p16_15 (k : KC) (e : E) (s : St) : Res := lt (g3 e) fun v0 => bP ((pBin (bI fEq) (cV v0) (cV (.i 1))) e) fun v1 => bP (gdV v1 true ((pMove g4) e)) fun v2 => bP (gdV v1 true ((pBin (bI fEq) (cV v2) (cV (.i 0))) e)) fun v3 => bP ((pPick (cV v1) (cV v3) (cV (.bool false))) e) fun v4 => bP (gdV v4 true ((pMove g6) e)) fun v5 => bP (gdV v4 true ((pBin (bI fEq) (cV v5) (cV (.i 26))) e)) fun v6 => bP ((pPick (cV v4) (cV v6) (cV (.bool false))) e) fun v7 => bP (gdV v7 true ((pMove g1) e)) fun v8 => bE (gdW v7 true s ((eCall 11 [(cV v8), (cV (.i 1))]) k e s)) fun v9 s => bP (gdV v7 true ((pBin (bI fEq) (cV v9) (cV (.i 5))) e)) fun v10 => bP ((pPick (cV v7) (cV v10) (cV (.bool false))) e) fun v11 => bP (gdV v11 true ((pMove g1) e)) fun v12 => bE (gdW v11 true s ((eCall 20 [(cV v12), (cV (.i 1))]) k e s)) fun v13 s => bP (gdV v11 true ((pBin (bI fEq) (cV v13) (cV (.i (-1)))) e)) fun v14 => bP ((pPick (cV v11) (cV v14) (cV (.bool false))) e) fun v15 => .nrm (rw2 (rw1 (u0 e v15) fun a b c d f g h i j l m _ _ _ _ _ => ⟨a,b,c,d,f,g,h,i,j,l,m,v0,v1,v1,v2,v3⟩) fun _ _ _ _ _ _ _ _ _ _ _ _ _ _ _ r => ⟨v4,v4,v5,v6,v7,v7,v8,v9,v10,v11,v11,v12,v13,v14,v15,r⟩) s
def p16_14 (k : KC) (e : E) (s : St) : Res := dSeq p16_15 dRet k e s
def p16_12 (k : KC) (e : E) (s : St) : Res := dSeq p16_13 p16_14 k e s
def p16_10 (k : KC) (e : E) (s : St) : Res := dSeq p16_11 p16_12 k e s
def p16_4 (k : KC) (e : E) (s : St) : Res := dSeq p16_5 p16_10 k e s
def p16_2 (k : KC) (e : E) (s : St) : Res := dSeq p16_3 p16_4 k e s
def p16_0 (k : KC) (e : E) (s : St) : Res := dSeq p16_1 p16_2 k e s
def F16 : FDen := ⟨[], p16_0, resV [rT g0]⟩
theorem low16 : lowFunc tt [] fok Try.f16 = some F16 := by kernel_rfl
theorem run16 : FRun Try.prog [] 16 F16 := FRun.of (lowFunc_ok ttOk fokOk mixed Try.func16 low16)
/-- (*carafe/heap.Heap).Shape -/
def p17_1 (k : KC) (e : E) (s : St) : Res := ltc (V.i 0) fun v0 => .nrm (u4 e v0) s
def p17_3 (k : KC) (e : E) (s : St) : Res := lt (g1 e) fun v0 => bP ((pUn uLenS (cV v0)) e) fun v1 => bE (aSt ((aMkS 1 1 [(.int .u8 0)] (cV v1) (cV v1)) e s.next) s) fun v2 s => .nrm (rw0 e fun a b c d f _ h i j l _ _ _ p q r => ⟨a,b,c,d,f,v2,h,i,j,l,v0,v1,v2,p,q,r⟩) s
def p17_6 (k : KC) (e : E) (s : St) : Res := lt (g1 e) fun v0 => bP ((pUn uLenS (cV v0)) e) fun v1 => ltc (V.i 0) fun v2 => .nrm (rw0 e fun a b c d f g h i j l m n o _ _ _ => ⟨a,b,c,d,f,g,h,i,j,l,m,n,o,v0,v1,v2⟩) s
def p17_10 (k : KC) (e : E) (s : St) : Res := bP ((pBin (bI fLt) g15 g14) e) fun v0 => .nrm (u16 e v0) s
def p17_12 (k : KC) (e : E) (s : St) : Res := dCond g16 dSkip (dExit 0) k e s
def p17_16 (k : KC) (e : E) (s : St) : Res := lt (g15 e) fun v0 => bP ((pBin (bIdx 1) g13 g15) e) fun v1 => bP ((dLd (cV v1)) e s) fun v2 => .nrm (rw1 (rw0 e fun a b c d f g _ _ j l m n o p q r => ⟨a,b,c,d,f,g,v0,v2,j,l,m,n,o,p,q,r⟩) fun a _ _ _ f g h i j l m n o p q r => ⟨a,v0,v1,v2,f,g,h,i,j,l,m,n,o,p,q,r⟩) s
def p17_18 (k : KC) (e : E) (s : St) : Res := lt (g7 e) fun v0 => .nrm (u20 e v0) s
def p17_20 (k : KC) (e : E) (s : St) : Res := lt (g5 e) fun v0 => lt (g6 e) fun v1 => bP ((pBin (bIdx 1) (cV v0) (cV v1)) e) fun v2 => bE ((eSt 1 (cV v2) (cV (.int .u8 1))) k e s) fun v3 s => .nrm (rw1 e fun a b c d f _ _ _ j l m n o p q r => ⟨a,b,c,d,f,v0,v1,v2,j,l,m,n,o,p,q,r⟩) s
def p17_19 (k : KC) (e : E) (s : St) : Res := dCond g20 p17_20 dSkip k e s
def p17_17 (k : KC) (e : E) (s : St) : Res := dSeq p17_18 p17_19 k e s
def p17_15 (k : KC) (e : E) (s : St) : Res := dSeq p17_16 p17_17 k e s
def p17_14 (k : KC) (e : E) (s : St) : Res := dBlock 1 p17_15 k e s
def p17_21 (k : KC) (e : E) (s : St) : Res := bP ((pBin (bI fAdd) g15 (cV (.i 1))) e) fun v0 => .nrm (u24 (u15 e v0) v0) s
def p17_13 (k : KC) (e : E) (s : St) : Res := dSeq p17_14 p17_21 k e s
def p17_11 (k : KC) (e : E) (s : St) : Res := dSeq p17_12 p17_13 k e s
def p17_9 (k : KC) (e : E) (s : St) : Res := dSeq p17_10 p17_11 k e s
def p17_8 (k : KC) (e : E) (s : St) : Res := dLoop p17_9 k e s
def p17_7 (k : KC) (e : E) (s : St) : Res := dBlock 0 p17_8 k e s
def p17_5 (k : KC) (e : E) (s : St) : Res := dSeq p17_6 p17_7 k e s
def p17_23 (k : KC) (e : E) (s : St) : Res := lt (g0 e) fun v0 => bP ((pUn uChk (cV v0)) e) fun v1 => bP ((pUn (uFld 4) (cV v1)) e) fun v2 => bP ((dLd (cV v2)) e s) fun v3 => lt (g5 e) fun v4 => bP ((dBStr (cV v4)) e s) fun v5 => bP ((dLk eqKS (.i 0) true (cV v3) (cV v5)) e s) fun v6 => bP ((pUn (uExt 0) (cV v6)) e) fun v7 => bP ((pUn (uExt 1) (cV v6)) e) fun v8 => .nrm (rw2 (rw1 (rw0 e fun a b c d f g h i _ _ m n o p q r => ⟨a,b,c,d,f,g,h,i,v7,v8,m,n,o,p,q,r⟩) fun a b c d f g h i j _ _ _ _ _ _ _ => ⟨a,b,c,d,f,g,h,i,j,v6,v0,v1,v2,v3,v4,v5⟩) fun _ _ _ d f g h i j l m n o p q r => ⟨v6,v7,v8,d,f,g,h,i,j,l,m,n,o,p,q,r⟩) s
def p17_26 (k : KC) (e : E) (s : St) : Res := lt (g9 e) fun v0 => bP ((pUn uNot (cV v0)) e) fun v1 => .nrm (rw2 e fun a b c _ _ g h i j l m n o p q r => ⟨a,b,c,v0,v1,g,h,i,j,l,m,n,o,p,q,r⟩) s
def p17_29 (k : KC) (e : E) (s : St) : Res := lt (g0 e) fun v0 => bP ((pUn uChk (cV v0)) e) fun v1 => bP ((pUn (uFld 3) (cV v1)) e) fun v2 => bP ((dLd (cV v2)) e s) fun v3 => bP ((pUn uLenS (cV v3)) e) fun v4 => .nrm (rw2 (u8 e v4) fun a b c d f _ _ _ _ _ m n o p q r => ⟨a,b,c,d,f,v0,v1,v2,v3,v4,m,n,o,p,q,r⟩) s
def p17_31 (k : KC) (e : E) (s : St) : Res := lt (g0 e) fun v0 => bP ((pUn uChk (cV v0)) e) fun v1 => bP ((pUn (uFld 4) (cV v1)) e) fun v2 => bP ((dLd (cV v2)) e s) fun v3 => lt (g5 e) fun v4 => bP ((dBStr (cV v4)) e s) fun v5 => lt (g8 e) fun v6 => bE ((eMu eqKS (cV v3) (cV v5) (cV v6)) k e s) fun v7 s => .nrm (u48 (rw2 e fun a b c d f g h i j l _ _ _ _ _ _ => ⟨a,b,c,d,f,g,h,i,j,l,v0,v1,v2,v3,v4,v5⟩) v6) s
def p17_32 (k : KC) (e : E) (s : St) : Res := dDraw [⟨none, (.p (pMove g0)), u49⟩, ⟨none, (.p (pMove g0)), u50⟩, ⟨none, (.p (pUn uChk g50)), u51⟩, ⟨none, (.p (pUn (uFld 3) g51)), u52⟩, ⟨none, (.d 0 1 (dLd g52)), u53⟩, ⟨none, (.p (pMove g1)), u54⟩, ⟨none, (.e (eCall 41 [g54])), u55⟩, ⟨none, (.a (aBSl 1 1 [.nils] [(0, 1, g55)])), u56⟩, ⟨none, (.e (eAp 1 g53 g56)), u57⟩, ⟨none, (.p (pUn uChk g49)), u58⟩, ⟨none, (.p (pUn (uFld 3) g58)), u59⟩, ⟨none, (.e (eSt 1 g59 g57)), uNone⟩] k e s
def p17_30 (k : KC) (e : E) (s : St) : Res := dSeq p17_31 p17_32 k e s
def p17_28 (k : KC) (e : E) (s : St) : Res := dSeq p17_29 p17_30 k e s
def p17_27 (k : KC) (e : E) (s : St) : Res := dCond g36 p17_28 dSkip k e s
def p17_25 (k : KC) (e : E) (s : St) : Res := dSeq p17_26 p17_27 k e s
def p17_34 (k : KC) (e : E) (s : St) : Res := lt (g8 e) fun v0 => .nrm (u60 (u4 e v0) v0) s
def p17_33 (k : KC) (e : E) (s : St) : Res := dSeq p17_34 dRet k e s
def p17_24 (k : KC) (e : E) (s : St) : Res := dSeq p17_25 p17_33 k e s
def p17_22 (k : KC) (e : E) (s : St) : Res := dSeq p17_23 p17_24 k e s
def p17_4 (k : KC) (e : E) (s : St) : Res := dSeq p17_5 p17_22 k e s
def p17_2 (k : KC) (e : E) (s : St) : Res := dSeq p17_3 p17_4 k e s
def p17_0 (k : KC) (e : E) (s : St) : Res := dSeq p17_1 p17_2 k e s
def F17 : FDen := ⟨[u0, u1], p17_0, resV [rT g4]⟩
theorem low17 : lowFunc tt [] fok Try.f17 = some F17 := by kernel_rfl
theorem run17 : FRun Try.prog [] 17 F17 := FRun.of (lowFunc_ok ttOk fokOk mixed Try.func17 low17)
/-- (*carafe/heap.Heap).Object -/
def p19_1 (k : KC) (e : E) (s : St) : Res := ltc (V.i 0) fun v0 => ltc (V.i 0) fun v1 => .nrm (rw0 e fun a b c d _ _ h i j l m n o p q r => ⟨a,b,c,d,v0,v1,h,i,j,l,m,n,o,p,q,r⟩) s
def p19_4 (k : KC) (e : E) (s : St) : Res := lt (g1 e) fun v0 => bP ((pBin (bI fLt) (cV v0) (cV (.i 0))) e) fun v1 => bP (gdV v1 false ((pMove g1) e)) fun v2 => bP (gdV v1 false ((pMove g0) e)) fun v3 => bP (gdV v1 false ((pUn uChk (cV v3)) e)) fun v4 => bP (gdV v1 false ((pUn (uFld 3) (cV v4)) e)) fun v5 => bP (gdV v1 false ((dLd (cV v5)) e s)) fun v6 => bP (gdV v1 false ((pUn uLenS (cV v6)) e)) fun v7 => bP (gdV v1 false ((pBin (bI fGe) (cV v2) (cV v7)) e)) fun v8 => bP ((pPick (cV v1) (cV (.bool true)) (cV v8)) e) fun v9 => .nrm (u16 (rw0 e fun a b c d f g _ _ _ _ _ _ _ _ _ _ => ⟨a,b,c,d,f,g,v0,v1,v1,v2,v3,v4,v5,v6,v7,v8⟩) v9) s
def p19_7 (k : KC) (e : E) (s : St) : Res := ltc (V.i 0) fun v0 => ltc (V.i 1) fun v1 => .nrm (rw0 e fun a b c d _ _ h i j l m n o p q r => ⟨a,b,c,d,v0,v1,h,i,j,l,m,n,o,p,q,r⟩) s
def p19_6 (k : KC) (e : E) (s : St) : Res := dSeq p19_7 dRet k e s
def p19_5 (k : KC) (e : E) (s : St) : Res := dCond g16 p19_6 dSkip k e s
def p19_3 (k : KC) (e : E) (s : St) : Res := dSeq p19_4 p19_5 k e s
def p19_9 (k : KC) (e : E) (s : St) : Res := lt (g0 e) fun v0 => lt (g1 e) fun v1 => lt (g0 e) fun v2 => bP ((pUn uChk (cV v2)) e) fun v3 => bP ((pUn (uFld 3) (cV v3)) e) fun v4 => bP ((dLd (cV v4)) e s) fun v5 => lt (g1 e) fun v6 => bP ((pBin (bIdx 1) (cV v5) (cV v6)) e) fun v7 => bP ((dLd (cV v7)) e s) fun v8 => bP ((pUn uLenS (cV v8)) e) fun v9 => bE ((eCall 37 [(cV v0), (cV v1), (cV v9)]) k e s) fun v10 s => bP ((pUn (uExt 0) (cV v10)) e) fun v11 => bP ((pUn (uExt 1) (cV v10)) e) fun v12 => .nrm (rw1 (rw0 e fun a b c d _ _ h i j l m n o p q r => ⟨a,b,c,d,v11,v12,h,i,j,l,m,n,o,p,q,r⟩) fun a _ _ _ _ _ _ _ _ _ _ _ _ _ q r => ⟨a,v0,v1,v2,v3,v4,v5,v6,v7,v8,v9,v10,v11,v12,q,r⟩) s
def p19_8 (k : KC) (e : E) (s : St) : Res := dSeq p19_9 dRet k e s
def p19_2 (k : KC) (e : E) (s : St) : Res := dSeq p19_3 p19_8 k e s
def p19_0 (k : KC) (e : E) (s : St) : Res := dSeq p19_1 p19_2 k e s
def F19 : FDen := ⟨[u0, u1], p19_0, resV [rT g4, rT g5]⟩
theorem low19 : lowFunc tt [] fok Try.f19 = some F19 := by kernel_rfl
theorem run19 : FRun Try.prog [] 19 F19 := FRun.of (lowFunc_ok ttOk fokOk mixed Try.func19 low19)
/-- (*carafe/heap.Heap).ShapeOf -/
def p20_1 (k : KC) (e : E) (s : St) : Res := ltc (V.i 0) fun v0 => .nrm (u4 e v0) s
def p20_4 (k : KC) (e : E) (s : St) : Res := lt (g0 e) fun v0 => lt (g1 e) fun v1 => bE ((eCall 40 [(cV v0), (cV v1)]) k e s) fun v2 s => bP ((pUn uNot (cV v2)) e) fun v3 => .nrm (rw0 e fun a b c d f _ _ _ _ l m n o p q r => ⟨a,b,c,d,f,v0,v1,v2,v3,l,m,n,o,p,q,r⟩) s
def p20_7 (k : KC) (e : E) (s : St) : Res := ltc (V.i (-3)) fun v0 => .nrm (u4 e v0) s
def p20_6 (k : KC) (e : E) (s : St) : Res := dSeq p20_7 dRet k e s
def p20_5 (k : KC) (e : E) (s : St) : Res := dCond g8 p20_6 dSkip k e s
def p20_3 (k : KC) (e : E) (s : St) : Res := dSeq p20_4 p20_5 k e s
def p20_9 (k : KC) (e : E) (s : St) : Res := lt (g0 e) fun v0 => bP ((pUn uChk (cV v0)) e) fun v1 => bP ((pUn (uFld 0) (cV v1)) e) fun v2 => bP ((dLd (cV v2)) e s) fun v3 => lt (g1 e) fun v4 => bP ((pBin (bIdx 1) (cV v3) (cV v4)) e) fun v5 => bP ((dLd (cV v5)) e s) fun v6 => .nrm (rw0 e fun a b c d _ g h i j _ _ _ _ _ _ _ => ⟨a,b,c,d,v6,g,h,i,j,v0,v1,v2,v3,v4,v5,v6⟩) s
def p20_8 (k : KC) (e : E) (s : St) : Res := dSeq p20_9 dRet k e s
def p20_2 (k : KC) (e : E) (s : St) : Res := dSeq p20_3 p20_8 k e s
def p20_0 (k : KC) (e : E) (s : St) : Res := dSeq p20_1 p20_2 k e s
def F20 : FDen := ⟨[u0, u1], p20_0, resV [rT g4]⟩
theorem low20 : lowFunc tt [] fok Try.f20 = some F20 := by kernel_rfl
theorem run20 : FRun Try.prog [] 20 F20 := FRun.of (lowFunc_ok ttOk fokOk mixed Try.func20 low20)
/-- (*carafe/heap.Heap).IsRef -/
def p21_1 (k : KC) (e : E) (s : St) : Res := ltc (V.bool false) fun v0 => .nrm (u6 e v0) s
def p21_4 (k : KC) (e : E) (s : St) : Res := lt (g0 e) fun v0 => lt (g1 e) fun v1 => lt (g2 e) fun v2 => bE ((eCall 38 [(cV v0), (cV v1), (cV v2)]) k e s) fun v3 s => bP ((pUn (uExt 0) (cV v3)) e) fun v4 => bP ((pUn (uExt 1) (cV v3)) e) fun v5 => .nrm (u16 (rw0 e fun a b c d f g h _ _ l _ _ _ _ _ _ => ⟨a,b,c,d,f,g,h,v4,v5,l,v3,v0,v1,v2,v3,v4⟩) v5) s
def p21_6 (k : KC) (e : E) (s : St) : Res := lt (g8 e) fun v0 => bP ((pUn uNot (cV v0)) e) fun v1 => .nrm (rw1 e fun a _ _ d f g h i j l m n o p q r => ⟨a,v0,v1,d,f,g,h,i,j,l,m,n,o,p,q,r⟩) s
def p21_9 (k : KC) (e : E) (s : St) : Res := ltc (V.bool false) fun v0 => .nrm (u6 e v0) s
def p21_8 (k : KC) (e : E) (s : St) : Res := dSeq p21_9 dRet k e s
def p21_7 (k : KC) (e : E) (s : St) : Res := dCond g18 p21_8 dSkip k e s
def p21_5 (k : KC) (e : E) (s : St) : Res := dSeq p21_6 p21_7 k e s
def p21_3 (k : KC) (e : E) (s : St) : Res := dSeq p21_4 p21_5 k e s
def p21_11 (k : KC) (e : E) (s : St) : Res := lt (g0 e) fun v0 => lt (g1 e) fun v1 => bE ((eCall 20 [(cV v0), (cV v1)]) k e s) fun v2 s => .nrm (rw1 (u9 e v2) fun a b c _ _ _ h i j l m n o p q r => ⟨a,b,c,v0,v1,v2,h,i,j,l,m,n,o,p,q,r⟩) s
def p21_13 (k : KC) (e : E) (s : St) : Res := lt (g9 e) fun v0 => .nrm (u22 e v0) s
def p21_16 (k : KC) (e : E) (s : St) : Res := bP ((pBin (bI fEq) g22 (cV (.i (-2)))) e) fun v0 => .nrm (rw2 e fun a _ _ d f g h i j l m n o p q r => ⟨a,v0,v0,d,f,g,h,i,j,l,m,n,o,p,q,r⟩) s
def p21_19 (k : KC) (e : E) (s : St) : Res := ltc (V.bool true) fun v0 => .nrm (u6 e v0) s
def p21_18 (k : KC) (e : E) (s : St) : Res := dSeq p21_19 dRet k e s
def p21_21 (k : KC) (e : E) (s : St) : Res := bP ((pBin (bI fEq) g22 (cV (.i (-1)))) e) fun v0 => .nrm (rw2 e fun a b c _ _ g h i j l m n o p q r => ⟨a,b,c,v0,v0,g,h,i,j,l,m,n,o,p,q,r⟩) s
def p21_24 (k : KC) (e : E) (s : St) : Res := ltc (V.bool false) fun v0 => .nrm (u6 e v0) s
def p21_23 (k : KC) (e : E) (s : St) : Res := dSeq p21_24 dRet k e s
def p21_26 (k : KC) (e : E) (s : St) : Res := lt (g0 e) fun v0 => bP ((pUn uChk (cV v0)) e) fun v1 => bP ((pUn (uFld 3) (cV v1)) e) fun v2 => bP ((dLd (cV v2)) e s) fun v3 => lt (g9 e) fun v4 => bP ((pBin (bIdx 1) (cV v3) (cV v4)) e) fun v5 => bP ((dLd (cV v5)) e s) fun v6 => lt (g2 e) fun v7 => bP ((pBin (bIdx 1) (cV v6) (cV v7)) e) fun v8 => bP ((dLd (cV v8)) e s) fun v9 => .nrm (u32 (rw1 (u6 e v9) fun a b c d f g h _ _ _ _ _ _ _ _ _ => ⟨a,b,c,d,f,g,h,v0,v1,v2,v3,v4,v5,v6,v7,v8⟩) v9) s
def p21_25 (k : KC) (e : E) (s : St) : Res := dSeq p21_26 dRet k e s
def p21_22 (k : KC) (e : E) (s : St) : Res := dCond g35 p21_23 p21_25 k e s
def p21_20 (k : KC) (e : E) (s : St) : Res := dSeq p21_21 p21_22 k e s
def p21_17 (k : KC) (e : E) (s : St) : Res := dCond g33 p21_18 p21_20 k e s
def p21_15 (k : KC) (e : E) (s : St) : Res := dSeq p21_16 p21_17 k e s
def p21_14 (k : KC) (e : E) (s : St) : Res := dBlock 0 p21_15 k e s
def p21_12 (k : KC) (e : E) (s : St) : Res := dSeq p21_13 p21_14 k e s
def p21_10 (k : KC) (e : E) (s : St) : Res := dSeq p21_11 p21_12 k e s
def p21_2 (k : KC) (e : E) (s : St) : Res := dSeq p21_3 p21_10 k e s
def p21_0 (k : KC) (e : E) (s : St) : Res := dSeq p21_1 p21_2 k e s
def F21 : FDen := ⟨[u0, u1, u2], p21_0, resV [rT g6]⟩
theorem low21 : lowFunc tt [] fok Try.f21 = some F21 := by kernel_rfl
theorem run21 : FRun Try.prog [] 21 F21 := FRun.of (lowFunc_ok ttOk fokOk mixed Try.func21 low21)
/-- (*carafe/heap.Heap).Slide -/
def p22_1 (k : KC) (e : E) (s : St) : Res := bE (aSt ((aBox g0) e s.next) s) fun v0 s => bE (aSt ((aBox g1) e s.next) s) fun v1 s => ltc (V.nils) fun v2 => ltc (V.i 0) fun v3 => .nrm (rw0 e fun a b _ _ _ _ h i j l m n o p q r => ⟨a,b,v0,v1,v2,v3,h,i,j,l,m,n,o,p,q,r⟩) s
def p22_3 (k : KC) (e : E) (s : St) : Res := bE (aSt (aMk e s.next) s) fun v0 s => bE ((eMu eqKI (cV v0) (cV (.i 0)) (cV (.i 0))) k e s) fun v1 s => bE (aSt ((aAl 1 (ofL [.nilm])) e s.next) s) fun v2 s => bE ((eSt 1 (cV v2) (cV v0)) k e s) fun v3 s => .nrm (rw0 e fun a b c d f g _ i j l m n o _ _ r => ⟨a,b,c,d,f,g,v2,i,j,l,m,n,o,v0,v0,r⟩) s
def p22_5 (k : KC) (e : E) (s : St) : Res := ltc (V.nils) fun v0 => .nrm (u7 e v0) s
def p22_7 (k : KC) (e : E) (s : St) : Res := ltc (V.i 1) fun v0 => .nrm (u8 e v0) s
def p22_10 (k : KC) (e : E) (s : St) : Res := bP ((dLd g3) e s) fun v0 => bP ((pUn uLenS (cV v0)) e) fun v1 => ltc (V.i 0) fun v2 => .nrm (rw1 (u15 e v0) fun _ _ c d f g h i j l m n o p q r => ⟨v1,v2,c,d,f,g,h,i,j,l,m,n,o,p,q,r⟩) s
def p22_14 (k : KC) (e : E) (s : St) : Res := bP ((pBin (bI fLt) g17 g16) e) fun v0 => .nrm (u18 e v0) s
def p22_16 (k : KC) (e : E) (s : St) : Res := dCond g18 dSkip (dExit 0) k e s
def p22_20 (k : KC) (e : E) (s : St) : Res := lt (g17 e) fun v0 => bP ((pBin (bIdx 1) g15 g17) e) fun v1 => bP ((dLd (cV v1)) e s) fun v2 => .nrm (rw1 (rw0 e fun a b c d f g h i j _ _ n o p q r => ⟨a,b,c,d,f,g,h,i,j,v0,v2,n,o,p,q,r⟩) fun a b c _ _ _ h i j l m n o p q r => ⟨a,b,c,v0,v1,v2,h,i,j,l,m,n,o,p,q,r⟩) s
def p22_23 (k : KC) (e : E) (s : St) : Res := bP ((dLd g2) e s) fun v0 => lt (g10 e) fun v1 => bE ((eCall 40 [(cV v0), (cV v1)]) k e s) fun v2 s => bP ((pUn uNot (cV v2)) e) fun v3 => bP (gdV v3 false ((pMove g9) e)) fun v4 => bP (gdV v3 false ((pBin (bI fGt) (cV v4) (cV (.i 0))) e)) fun v5 => bP (gdV v3 false ((pMove (cV v5)) e)) fun v6 => bP (gdV v6 true ((dLd g3) e s)) fun v7 => bP (gdV v6 true ((pMove g9) e)) fun v8 => bP (gdV v6 true ((pBin (bI fSub) (cV v8) (cV (.i 1))) e)) fun v9 => bP (gdV v6 true ((pBin (bIdx 1) (cV v7) (cV v9)) e)) fun v10 => bP (gdV v6 true ((dLd (cV v10)) e s)) fun v11 => bP (gdV v6 true ((pMove g10) e)) fun v12 => bP (gdV v6 true ((pBin (bI fGe) (cV v11) (cV v12)) e)) fun v13 => bP (gdV v3 false ((pPick (cV v6) (cV v13) (cV (.bool false))) e)) fun v14 => bP ((pPick (cV v3) (cV (.bool true)) (cV v14)) e) fun v15 => .nrm (rw2 (rw1 e fun a b c d f g _ _ _ _ _ _ _ _ _ _ => ⟨a,b,c,d,f,g,v0,v1,v2,v3,v3,v4,v5,v6,v7,v8⟩) fun _ _ _ _ _ _ _ i j l m n o p q r => ⟨v9,v10,v11,v12,v13,v14,v15,i,j,l,m,n,o,p,q,r⟩) s
def p22_26 (k : KC) (e : E) (s : St) : Res := ltc (V.nils) fun v0 => ltc (V.i 1) fun v1 => .nrm (rw0 e fun a b c d _ _ h i j l m n o p q r => ⟨a,b,c,d,v0,v1,h,i,j,l,m,n,o,p,q,r⟩) s
def p22_25 (k : KC) (e : E) (s : St) : Res := dSeq p22_26 dRet k e s
def p22_24 (k : KC) (e : E) (s : St) : Res := dCond g38 p22_25 dSkip k e s
def p22_22 (k : KC) (e : E) (s : St) : Res := dSeq p22_23 p22_24 k e s
def p22_28 (k : KC) (e : E) (s : St) : Res := bP ((dLd g6) e s) fun v0 => lt (g10 e) fun v1 => lt (g8 e) fun v2 => bE ((eMu eqKI (cV v0) (cV v1) (cV v2)) k e s) fun v3 s => .nrm (rw2 e fun a b c d f g h _ _ _ m n o p q r => ⟨a,b,c,d,f,g,h,v0,v1,v2,m,n,o,p,q,r⟩) s
def p22_30 (k : KC) (e : E) (s : St) : Res := lt (g7 e) fun v0 => lt (g8 e) fun v1 => bE (aSt ((aBSl 1 1 [(.i 0)] [(0, 1, (cV v1))]) e s.next) s) fun v2 s => bE ((eAp 1 (cV v0) (cV v2)) k e s) fun v3 s => .nrm (rw2 (u7 e v3) fun a b c d f g h i j l _ _ _ _ q r => ⟨a,b,c,d,f,g,h,i,j,l,v0,v1,v2,v3,q,r⟩) s
def p22_31 (k : KC) (e : E) (s : St) : Res := lt (g8 e) fun v0 => bP ((dLd g2) e s) fun v1 => lt (g10 e) fun v2 => bE ((eCall 11 [(cV v1), (cV v2)]) k e s) fun v3 s => bP ((pBin (bI fAdd) (cV (.i 3)) (cV v3)) e) fun v4 => bP ((pBin (bI fAdd) (cV v0) (cV v4)) e) fun v5 => .nrm (rw3 (rw2 (u8 e v5) fun a b c d f g h i j l m n o p _ _ => ⟨a,b,c,d,f,g,h,i,j,l,m,n,o,p,v0,v1⟩) fun _ _ _ _ f g h i j l m n o p q r => ⟨v2,v3,v4,v5,f,g,h,i,j,l,m,n,o,p,q,r⟩) s
def p22_29 (k : KC) (e : E) (s : St) : Res := dSeq p22_30 p22_31 k e s
def p22_27 (k : KC) (e : E) (s : St) : Res := dSeq p22_28 p22_29 k e s
def p22_21 (k : KC) (e : E) (s : St) : Res := dSeq p22_22 p22_27 k e s
def p22_19 (k : KC) (e : E) (s : St) : Res := dSeq p22_20 p22_21 k e s
def p22_18 (k : KC) (e : E) (s : St) : Res := dBlock 1 p22_19 k e s
def p22_32 (k : KC) (e : E) (s : St) : Res := bP ((pBin (bI fAdd) g17 (cV (.i 1))) e) fun v0 => .nrm (u52 (u17 e v0) v0) s
def p22_17 (k : KC) (e : E) (s : St) : Res := dSeq p22_18 p22_32 k e s
def p22_15 (k : KC) (e : E) (s : St) : Res := dSeq p22_16 p22_17 k e s
def p22_13 (k : KC) (e : E) (s : St) : Res := dSeq p22_14 p22_15 k e s
def p22_12 (k : KC) (e : E) (s : St) : Res := dLoop p22_13 k e s
def p22_11 (k : KC) (e : E) (s : St) : Res := dBlock 0 p22_12 k e s
def p22_9 (k : KC) (e : E) (s : St) : Res := dSeq p22_10 p22_11 k e s
def p22_34 (k : KC) (e : E) (s : St) : Res := bP ((pFun 42 [] [g3, g2]) e) fun v0 => .nrm (u53 (u11 e v0) v0) s
def p22_36 (k : KC) (e : E) (s : St) : Res := lt (g11 e) fun v0 => bP ((pFun 43 [] [g6, g2]) e) fun v1 => bE ((eCallV fok (cV v0) [(cV v1)]) k e s) fun v2 s => .nrm (rw3 (u12 e v2) fun a b c d f g _ _ _ l m n o p q r => ⟨a,b,c,d,f,g,v0,v1,v2,l,m,n,o,p,q,r⟩) s
def p22_39 (k : KC) (e : E) (s : St) : Res := lt (g12 e) fun v0 => bP ((pUn uNot (cV v0)) e) fun v1 => .nrm (rw3 e fun a b c d f g h i j _ _ n o p q r => ⟨a,b,c,d,f,g,h,i,j,v0,v1,n,o,p,q,r⟩) s
def p22_42 (k : KC) (e : E) (s : St) : Res := ltc (V.nils) fun v0 => ltc (V.i 1) fun v1 => .nrm (rw0 e fun a b c d _ _ h i j l m n o p q r => ⟨a,b,c,d,v0,v1,h,i,j,l,m,n,o,p,q,r⟩) s
def p22_41 (k : KC) (e : E) (s : St) : Res := dSeq p22_42 dRet k e s
def p22_40 (k : KC) (e : E) (s : St) : Res := dCond g58 p22_41 dSkip k e s
def p22_38 (k : KC) (e : E) (s : St) : Res := dSeq p22_39 p22_40 k e s
def p22_44 (k : KC) (e : E) (s : St) : Res := lt (g11 e) fun v0 => bP ((pFun 44 [] [g6, g2]) e) fun v1 => bE ((eCallV fok (cV v0) [(cV v1)]) k e s) fun v2 s => .nrm (rw3 e fun a b c d f g h i j l m _ _ _ q r => ⟨a,b,c,d,f,g,h,i,j,l,m,v0,v1,v2,q,r⟩) s
def p22_46 (k : KC) (e : E) (s : St) : Res := bP ((dLd g2) e s) fun v0 => bP ((dLd g3) e s) fun v1 => lt (g7 e) fun v2 => bE ((eCall 45 [(cV v0), (cV v1), (cV v2)]) k e s) fun v3 s => .nrm (rw4 (rw3 e fun a b c d f g h i j l m n o p _ _ => ⟨a,b,c,d,f,g,h,i,j,l,m,n,o,p,v0,v1⟩) fun _ _ c d f g h i j l m n o p q r => ⟨v2,v3,c,d,f,g,h,i,j,l,m,n,o,p,q,r⟩) s
def p22_48 (k : KC) (e : E) (s : St) : Res := lt (g7 e) fun v0 => ltc (V.i 0) fun v1 => .nrm (u66 (rw0 e fun a b c d _ _ h i j l m n o p q r => ⟨a,b,c,d,v0,v1,h,i,j,l,m,n,o,p,q,r⟩) v0) s
def p22_47 (k : KC) (e : E) (s : St) : Res := dSeq p22_48 dRet k e s
def p22_45 (k : KC) (e : E) (s : St) : Res := dSeq p22_46 p22_47 k e s
def p22_43 (k : KC) (e : E) (s : St) : Res := dSeq p22_44 p22_45 k e s
def p22_37 (k : KC) (e : E) (s : St) : Res := dSeq p22_38 p22_43 k e s
def p22_35 (k : KC) (e : E) (s : St) : Res := dSeq p22_36 p22_37 k e s
def p22_33 (k : KC) (e : E) (s : St) : Res := dSeq p22_34 p22_35 k e s
def p22_8 (k : KC) (e : E) (s : St) : Res := dSeq p22_9 p22_33 k e s
def p22_6 (k : KC) (e : E) (s : St) : Res := dSeq p22_7 p22_8 k e s
def p22_4 (k : KC) (e : E) (s : St) : Res := dSeq p22_5 p22_6 k e s
def p22_2 (k : KC) (e : E) (s : St) : Res := dSeq p22_3 p22_4 k e s
def p22_0 (k : KC) (e : E) (s : St) : Res := dSeq p22_1 p22_2 k e s
def F22 : FDen := ⟨[u0, u1], p22_0, resV [rT g4, rT g5]⟩
theorem low22 : lowFunc tt [] fok Try.f22 = some F22 := by kernel_rfl
theorem run22 : FRun Try.prog [] 22 F22 := FRun.of (lowFunc_ok ttOk fokOk mixed Try.func22 low22)
/-- (*carafe/heap.Heap).SetTag -/
def p23_1 (k : KC) (e : E) (s : St) : Res := ltc (V.i 0) fun v0 => .nrm (u6 e v0) s
def p23_4 (k : KC) (e : E) (s : St) : Res := lt (g0 e) fun v0 => lt (g1 e) fun v1 => bE ((eCall 40 [(cV v0), (cV v1)]) k e s) fun v2 s => bP ((pUn uNot (cV v2)) e) fun v3 => .nrm (rw0 e fun a b c d f g h _ _ _ _ n o p q r => ⟨a,b,c,d,f,g,h,v0,v1,v2,v3,n,o,p,q,r⟩) s
def p23_7 (k : KC) (e : E) (s : St) : Res := ltc (V.i 1) fun v0 => .nrm (u6 e v0) s
def p23_6 (k : KC) (e : E) (s : St) : Res := dSeq p23_7 dRet k e s
def p23_5 (k : KC) (e : E) (s : St) : Res := dCond g10 p23_6 dSkip k e s
def p23_3 (k : KC) (e : E) (s : St) : Res := dSeq p23_4 p23_5 k e s
def p23_9 (k : KC) (e : E) (s : St) : Res := lt (g0 e) fun v0 => bP ((pUn uChk (cV v0)) e) fun v1 => bP ((pUn (uFld 0) (cV v1)) e) fun v2 => bP ((dLd (cV v2)) e s) fun v3 => lt (g1 e) fun v4 => bP ((pBin (bI fAdd) (cV v4) (cV (.i 2))) e) fun v5 => lt (g2 e) fun v6 => bP ((pBin (bIdx 1) (cV v3) (cV v5)) e) fun v7 => bE ((eSt 1 (cV v7) (cV v6)) k e s) fun v8 s => .nrm (rw1 (rw0 e fun a b c d f g h i j l m _ _ _ _ _ => ⟨a,b,c,d,f,g,h,i,j,l,m,v0,v1,v2,v3,v4⟩) fun _ _ _ d f g h i j l m n o p q r => ⟨v5,v6,v7,d,f,g,h,i,j,l,m,n,o,p,q,r⟩) s
def p23_11 (k : KC) (e : E) (s : St) : Res := ltc (V.i 0) fun v0 => .nrm (u6 e v0) s
def p23_10 (k : KC) (e : E) (s : St) : Res := dSeq p23_11 dRet k e s
def p23_8 (k : KC) (e : E) (s : St) : Res := dSeq p23_9 p23_10 k e s
def p23_2 (k : KC) (e : E) (s : St) : Res := dSeq p23_3 p23_8 k e s
def p23_0 (k : KC) (e : E) (s : St) : Res := dSeq p23_1 p23_2 k e s
def F23 : FDen := ⟨[u0, u1, u2], p23_0, resV [rT g6]⟩
theorem low23 : lowFunc tt [] fok Try.f23 = some F23 := by kernel_rfl
theorem run23 : FRun Try.prog [] 23 F23 := FRun.of (lowFunc_ok ttOk fokOk mixed Try.func23 low23)
/-- (*carafe/heap.Heap).Words -/
def p24_1 (k : KC) (e : E) (s : St) : Res := ltc (V.i 0) fun v0 => .nrm (u2 e v0) s
def p24_3 (k : KC) (e : E) (s : St) : Res := lt (g0 e) fun v0 => bP ((pUn uChk (cV v0)) e) fun v1 => bP ((pUn (uFld 0) (cV v1)) e) fun v2 => bP ((dLd (cV v2)) e s) fun v3 => bP ((pUn uLenS (cV v3)) e) fun v4 => bP ((pBin (bI fSub) (cV v4) (cV (.i 1))) e) fun v5 => .nrm (rw0 e fun a b _ _ _ _ _ _ _ l m n o p q r => ⟨a,b,v5,v0,v1,v2,v3,v4,v5,l,m,n,o,p,q,r⟩) s
def p24_2 (k : KC) (e : E) (s : St) : Res := dSeq p24_3 dRet k e s
def p24_0 (k : KC) (e : E) (s : St) : Res := dSeq p24_1 p24_2 k e s
def F24 : FDen := ⟨[u0], p24_0, resV [rT g2]⟩
theorem low24 : lowFunc tt [] fok Try.f24 = some F24 := by kernel_rfl
theorem run24 : FRun Try.prog [] 24 F24 := FRun.of (lowFunc_ok ttOk fokOk mixed Try.func24 low24)
/-- (*carafe/heap.Heap).Tag -/
def p25_1 (k : KC) (e : E) (s : St) : Res := ltc (V.i 0) fun v0 => .nrm (u4 e v0) s
def p25_4 (k : KC) (e : E) (s : St) : Res := lt (g0 e) fun v0 => lt (g1 e) fun v1 => bE ((eCall 40 [(cV v0), (cV v1)]) k e s) fun v2 s => bP ((pUn uNot (cV v2)) e) fun v3 => .nrm (rw0 e fun a b c d f _ _ _ _ l m n o p q r => ⟨a,b,c,d,f,v0,v1,v2,v3,l,m,n,o,p,q,r⟩) s
def p25_7 (k : KC) (e : E) (s : St) : Res := ltc (V.i 0) fun v0 => .nrm (u4 e v0) s
def p25_6 (k : KC) (e : E) (s : St) : Res := dSeq p25_7 dRet k e s
def p25_5 (k : KC) (e : E) (s : St) : Res := dCond g8 p25_6 dSkip k e s
def p25_3 (k : KC) (e : E) (s : St) : Res := dSeq p25_4 p25_5 k e s
def p25_9 (k : KC) (e : E) (s : St) : Res := lt (g0 e) fun v0 => bP ((pUn uChk (cV v0)) e) fun v1 => bP ((pUn (uFld 0) (cV v1)) e) fun v2 => bP ((dLd (cV v2)) e s) fun v3 => lt (g1 e) fun v4 => bP ((pBin (bI fAdd) (cV v4) (cV (.i 2))) e) fun v5 => bP ((pBin (bIdx 1) (cV v3) (cV v5)) e) fun v6 => bP ((dLd (cV v6)) e s) fun v7 => .nrm (u16 (rw0 e fun a b c d _ g h i j _ _ _ _ _ _ _ => ⟨a,b,c,d,v7,g,h,i,j,v0,v1,v2,v3,v4,v5,v6⟩) v7) s
def p25_8 (k : KC) (e : E) (s : St) : Res := dSeq p25_9 dRet k e s
def p25_2 (k : KC) (e : E) (s : St) : Res := dSeq p25_3 p25_8 k e s
def p25_0 (k : KC) (e : E) (s : St) : Res := dSeq p25_1 p25_2 k e s
def F25 : FDen := ⟨[u0, u1], p25_0, resV [rT g4]⟩
theorem low25 : lowFunc tt [] fok Try.f25 = some F25 := by kernel_rfl
theorem run25 : FRun Try.prog [] 25 F25 := FRun.of (lowFunc_ok ttOk fokOk mixed Try.func25 low25)
/-- carafe/caraferef13.New -/
def p26_1 (k : KC) (e : E) (s : St) : Res := ltc (V.nilp) fun v0 => .nrm (u2 e v0) s
def p26_3 (k : KC) (e : E) (s : St) : Res := lt (g0 e) fun v0 => bP ((pBuild [(.i 0), .nils, .nils] [(0, 1, (cV v0))]) e) fun v1 => bE (aSt ((aBox (cV v1)) e s.next) s) fun v2 s => .nrm (rw0 e fun a b _ _ _ _ h i j l m n o p q r => ⟨a,b,v2,v0,v1,v2,h,i,j,l,m,n,o,p,q,r⟩) s
def p26_2 (k : KC) (e : E) (s : St) : Res := dSeq p26_3 dRet k e s
def p26_0 (k : KC) (e : E) (s : St) : Res := dSeq p26_1 p26_2 k e s
def F26 : FDen := ⟨[u0], p26_0, resV [rT g2]⟩
theorem low26 : lowFunc tt [] fok Try.f26 = some F26 := by kernel_rfl
theorem run26 : FRun Try.prog [] 26 F26 := FRun.of (lowFunc_ok ttOk fokOk mixed Try.func26 low26)
/-- (*carafe/caraferef13.Heap).All -/
def p27_1 (k : KC) (e : E) (s : St) : Res := ltc (V.nils) fun v0 => .nrm (u2 e v0) s
def p27_3 (k : KC) (e : E) (s : St) : Res := ltc (V.nils) fun v0 => .nrm (u3 e v0) s
def p27_6 (k : KC) (e : E) (s : St) : Res := ltc (V.i 0) fun v0 => .nrm (u4 e v0) s
def p27_11 (k : KC) (e : E) (s : St) : Res := lt (g4 e) fun v0 => lt (g0 e) fun v1 => bP ((pUn uChk (cV v1)) e) fun v2 => bP ((pUn (uFld 1) (cV v2)) e) fun v3 => bP ((dLd (cV v3)) e s) fun v4 => bP ((pUn uLenS (cV v4)) e) fun v5 => bP ((pBin (bI fLt) (cV v0) (cV v5)) e) fun v6 => .nrm (rw0 e fun a b c d f _ _ _ _ _ _ _ o p q r => ⟨a,b,c,d,f,v0,v1,v2,v3,v4,v5,v6,o,p,q,r⟩) s
def p27_12 (k : KC) (e : E) (s : St) : Res := dCond g11 dSkip (dExit 0) k e s
def p27_10 (k : KC) (e : E) (s : St) : Res := dSeq p27_11 p27_12 k e s
def p27_15 (k : KC) (e : E) (s : St) : Res := lt (g3 e) fun v0 => lt (g0 e) fun v1 => bP ((pUn uChk (cV v1)) e) fun v2 => bP ((pUn (uFld 1) (cV v2)) e) fun v3 => bP ((dLd (cV v3)) e s) fun v4 => lt (g4 e) fun v5 => bP ((pBin (bIdx 4) (cV v4) (cV v5)) e) fun v6 => bP ((pUn (uFld 0) (cV v6)) e) fun v7 => bP ((dLd (cV v7)) e s) fun v8 => bE (aSt ((aBSl 1 1 [(.i 0)] [(0, 1, (cV v8))]) e s.next) s) fun v9 s => bE ((eAp 1 (cV v0) (cV v9)) k e s) fun v10 s => .nrm (rw1 (rw0 e fun a b c _ f g h i j l m n o p _ _ => ⟨a,b,c,v10,f,g,h,i,j,l,m,n,o,p,v0,v1⟩) fun _ _ _ _ _ _ _ _ _ l m n o p q r => ⟨v2,v3,v4,v5,v6,v7,v8,v9,v10,l,m,n,o,p,q,r⟩) s
def p27_14 (k : KC) (e : E) (s : St) : Res := dBlock 1 p27_15 k e s
def p27_16 (k : KC) (e : E) (s : St) : Res := lt (g4 e) fun v0 => bP ((pBin (bI fAdd) (cV v0) (cV (.i 1))) e) fun v1 => .nrm (rw0 e fun a b c d _ g h i j l m n _ _ q r => ⟨a,b,c,d,v1,g,h,i,j,l,m,n,v0,v1,q,r⟩) s
def p27_13 (k : KC) (e : E) (s : St) : Res := dSeq p27_14 p27_16 k e s
def p27_9 (k : KC) (e : E) (s : St) : Res := dSeq p27_10 p27_13 k e s
def p27_8 (k : KC) (e : E) (s : St) : Res := dLoop p27_9 k e s
def p27_7 (k : KC) (e : E) (s : St) : Res := dBlock 0 p27_8 k e s
def p27_5 (k : KC) (e : E) (s : St) : Res := dSeq p27_6 p27_7 k e s
def p27_18 (k : KC) (e : E) (s : St) : Res := lt (g3 e) fun v0 => .nrm (u25 (u2 e v0) v0) s
def p27_17 (k : KC) (e : E) (s : St) : Res := dSeq p27_18 dRet k e s
def p27_4 (k : KC) (e : E) (s : St) : Res := dSeq p27_5 p27_17 k e s
def p27_2 (k : KC) (e : E) (s : St) : Res := dSeq p27_3 p27_4 k e s
def p27_0 (k : KC) (e : E) (s : St) : Res := dSeq p27_1 p27_2 k e s
def F27 : FDen := ⟨[u0], p27_0, resV [rT g2]⟩
theorem low27 : lowFunc tt [] fok Try.f27 = some F27 := by kernel_rfl
theorem run27 : FRun Try.prog [] 27 F27 := FRun.of (lowFunc_ok ttOk fokOk mixed Try.func27 low27)
/-- (*carafe/caraferef13.Heap).Shape -/
def p28_1 (k : KC) (e : E) (s : St) : Res := ltc (V.i 0) fun v0 => .nrm (u4 e v0) s
def p28_4 (k : KC) (e : E) (s : St) : Res := ltc (V.i 0) fun v0 => .nrm (u5 e v0) s
def p28_9 (k : KC) (e : E) (s : St) : Res := lt (g5 e) fun v0 => lt (g0 e) fun v1 => bP ((pUn uChk (cV v1)) e) fun v2 => bP ((pUn (uFld 2) (cV v2)) e) fun v3 => bP ((dLd (cV v3)) e s) fun v4 => bP ((pUn uLenS (cV v4)) e) fun v5 => bP ((pBin (bI fLt) (cV v0) (cV v5)) e) fun v6 => .nrm (rw0 e fun a b c d f g h i _ _ _ _ _ _ _ r => ⟨a,b,c,d,f,g,h,i,v0,v1,v2,v3,v4,v5,v6,r⟩) s
def p28_10 (k : KC) (e : E) (s : St) : Res := dCond g14 dSkip (dExit 0) k e s
def p28_8 (k : KC) (e : E) (s : St) : Res := dSeq p28_9 p28_10 k e s
def p28_14 (k : KC) (e : E) (s : St) : Res := lt (g0 e) fun v0 => bP ((pUn uChk (cV v0)) e) fun v1 => bP ((pUn (uFld 2) (cV v1)) e) fun v2 => bP ((dLd (cV v2)) e s) fun v3 => lt (g5 e) fun v4 => bP ((pBin (bIdx 1) (cV v3) (cV v4)) e) fun v5 => bP ((dLd (cV v5)) e s) fun v6 => bP ((pUn uLenS (cV v6)) e) fun v7 => lt (g1 e) fun v8 => bP ((pUn uLenS (cV v8)) e) fun v9 => bP ((pBin (bI fEq) (cV v7) (cV v9)) e) fun v10 => .nrm (rw1 (u6 e v10) fun a _ _ _ _ _ _ _ _ _ _ _ o p q r => ⟨a,v0,v1,v2,v3,v4,v5,v6,v7,v8,v9,v10,o,p,q,r⟩) s
def p28_17 (k : KC) (e : E) (s : St) : Res := ltc (V.i 0) fun v0 => .nrm (u7 e v0) s
def p28_22 (k : KC) (e : E) (s : St) : Res := lt (g6 e) fun v0 => bP (gdV v0 true ((pMove g7) e)) fun v1 => bP (gdV v0 true ((pMove g1) e)) fun v2 => bP (gdV v0 true ((pUn uLenS (cV v2)) e)) fun v3 => bP (gdV v0 true ((pBin (bI fLt) (cV v1) (cV v3)) e)) fun v4 => bP ((pPick (cV v0) (cV v4) (cV (.bool false))) e) fun v5 => .nrm (rw2 (rw1 e fun a b c d f g h i j l m n _ _ _ _ => ⟨a,b,c,d,f,g,h,i,j,l,m,n,v0,v0,v1,v2⟩) fun _ _ _ d f g h i j l m n o p q r => ⟨v3,v4,v5,d,f,g,h,i,j,l,m,n,o,p,q,r⟩) s
def p28_23 (k : KC) (e : E) (s : St) : Res := dCond g34 dSkip (dExit 2) k e s
def p28_21 (k : KC) (e : E) (s : St) : Res := dSeq p28_22 p28_23 k e s
def p28_26 (k : KC) (e : E) (s : St) : Res := lt (g0 e) fun v0 => bP ((pUn uChk (cV v0)) e) fun v1 => bP ((pUn (uFld 2) (cV v1)) e) fun v2 => bP ((dLd (cV v2)) e s) fun v3 => lt (g5 e) fun v4 => bP ((pBin (bIdx 1) (cV v3) (cV v4)) e) fun v5 => bP ((dLd (cV v5)) e s) fun v6 => lt (g7 e) fun v7 => bP ((pBin (bIdx 1) (cV v6) (cV v7)) e) fun v8 => bP ((dLd (cV v8)) e s) fun v9 => lt (g1 e) fun v10 => lt (g7 e) fun v11 => bP ((pBin (bIdx 1) (cV v10) (cV v11)) e) fun v12 => bP ((dLd (cV v12)) e s) fun v13 => bP ((pBin (bBool false) (cV v9) (cV v13)) e) fun v14 => .nrm (rw3 (rw2 (u6 e v14) fun a b c d f _ _ _ _ _ _ _ _ _ _ _ => ⟨a,b,c,d,f,v0,v1,v2,v3,v4,v5,v6,v7,v8,v9,v10⟩) fun _ _ _ _ f g h i j l m n o p q r => ⟨v11,v12,v13,v14,f,g,h,i,j,l,m,n,o,p,q,r⟩) s
def p28_25 (k : KC) (e : E) (s : St) : Res := dBlock 3 p28_26 k e s
def p28_27 (k : KC) (e : E) (s : St) : Res := lt (g7 e) fun v0 => bP ((pBin (bI fAdd) (cV v0) (cV (.i 1))) e) fun v1 => .nrm (rw2 (u7 e v1) fun a b c _ _ g h i j l m n o p q r => ⟨a,b,c,v0,v1,g,h,i,j,l,m,n,o,p,q,r⟩) s
def p28_24 (k : KC) (e : E) (s : St) : Res := dSeq p28_25 p28_27 k e s
def p28_20 (k : KC) (e : E) (s : St) : Res := dSeq p28_21 p28_24 k e s
def p28_19 (k : KC) (e : E) (s : St) : Res := dLoop p28_20 k e s
def p28_18 (k : KC) (e : E) (s : St) : Res := dBlock 2 p28_19 k e s
def p28_16 (k : KC) (e : E) (s : St) : Res := dSeq p28_17 p28_18 k e s
def p28_29 (k : KC) (e : E) (s : St) : Res := lt (g6 e) fun v0 => .nrm (u52 e v0) s
def p28_32 (k : KC) (e : E) (s : St) : Res := lt (g5 e) fun v0 => .nrm (u53 (u4 e v0) v0) s
def p28_31 (k : KC) (e : E) (s : St) : Res := dSeq p28_32 dRet k e s
def p28_30 (k : KC) (e : E) (s : St) : Res := dCond g52 p28_31 dSkip k e s
def p28_28 (k : KC) (e : E) (s : St) : Res := dSeq p28_29 p28_30 k e s
def p28_15 (k : KC) (e : E) (s : St) : Res := dSeq p28_16 p28_28 k e s
def p28_13 (k : KC) (e : E) (s : St) : Res := dSeq p28_14 p28_15 k e s
def p28_12 (k : KC) (e : E) (s : St) : Res := dBlock 1 p28_13 k e s
def p28_33 (k : KC) (e : E) (s : St) : Res := lt (g5 e) fun v0 => bP ((pBin (bI fAdd) (cV v0) (cV (.i 1))) e) fun v1 => .nrm (u16 (rw0 e fun a b c d f _ h i j l m n o p q _ => ⟨a,b,c,d,f,v1,h,i,j,l,m,n,o,p,q,v0⟩) v1) s
def p28_11 (k : KC) (e : E) (s : St) : Res := dSeq p28_12 p28_33 k e s
def p28_7 (k : KC) (e : E) (s : St) : Res := dSeq p28_8 p28_11 k e s
def p28_6 (k : KC) (e : E) (s : St) : Res := dLoop p28_7 k e s
def p28_5 (k : KC) (e : E) (s : St) : Res := dBlock 0 p28_6 k e s
def p28_3 (k : KC) (e : E) (s : St) : Res := dSeq p28_4 p28_5 k e s
def p28_35 (k : KC) (e : E) (s : St) : Res := dDraw [⟨none, (.p (pMove g0)), u54⟩, ⟨none, (.p (pMove g0)), u55⟩, ⟨none, (.p (pUn uChk g55)), u56⟩, ⟨none, (.p (pUn (uFld 2) g56)), u57⟩, ⟨none, (.d 0 1 (dLd g57)), u58⟩, ⟨none, (.a (aBSl 0 1 [] [])), u59⟩, ⟨none, (.p (pMove g1)), u60⟩, ⟨none, (.e (eAp 1 g59 g60)), u61⟩, ⟨none, (.a (aBSl 1 1 [.nils] [(0, 1, g61)])), u62⟩, ⟨none, (.e (eAp 1 g58 g62)), u63⟩, ⟨none, (.p (pUn uChk g54)), u64⟩, ⟨none, (.p (pUn (uFld 2) g64)), u65⟩, ⟨none, (.e (eSt 1 g65 g63)), uNone⟩] k e s
def p28_37 (k : KC) (e : E) (s : St) : Res := lt (g0 e) fun v0 => bP ((pUn uChk (cV v0)) e) fun v1 => bP ((pUn (uFld 2) (cV v1)) e) fun v2 => bP ((dLd (cV v2)) e s) fun v3 => bP ((pUn uLenS (cV v3)) e) fun v4 => bP ((pBin (bI fSub) (cV v4) (cV (.i 1))) e) fun v5 => .nrm (rw4 (u4 e v5) fun a b _ _ _ _ _ _ j l m n o p q r => ⟨a,b,v0,v1,v2,v3,v4,v5,j,l,m,n,o,p,q,r⟩) s
def p28_36 (k : KC) (e : E) (s : St) : Res := dSeq p28_37 dRet k e s
def p28_34 (k : KC) (e : E) (s : St) : Res := dSeq p28_35 p28_36 k e s
def p28_2 (k : KC) (e : E) (s : St) : Res := dSeq p28_3 p28_34 k e s
def p28_0 (k : KC) (e : E) (s : St) : Res := dSeq p28_1 p28_2 k e s
def F28 : FDen := ⟨[u0, u1], p28_0, resV [rT g4]⟩
theorem low28 : lowFunc tt [] fok Try.f28 = some F28 := by kernel_rfl
theorem run28 : FRun Try.prog [] 28 F28 := FRun.of (lowFunc_ok ttOk fokOk mixed Try.func28 low28)
/-- (*carafe/caraferef13.Heap).Object -/
def p29_1 (k : KC) (e : E) (s : St) : Res := ltc (V.i 0) fun v0 => ltc (V.i 0) fun v1 => .nrm (rw0 e fun a b c d _ _ h i j l m n o p q r => ⟨a,b,c,d,v0,v1,h,i,j,l,m,n,o,p,q,r⟩) s
def p29_4 (k : KC) (e : E) (s : St) : Res := lt (g1 e) fun v0 => bP ((pBin (bI fLt) (cV v0) (cV (.i 0))) e) fun v1 => bP (gdV v1 false ((pMove g1) e)) fun v2 => bP (gdV v1 false ((pMove g0) e)) fun v3 => bP (gdV v1 false ((pUn uChk (cV v3)) e)) fun v4 => bP (gdV v1 false ((pUn (uFld 2) (cV v4)) e)) fun v5 => bP (gdV v1 false ((dLd (cV v5)) e s)) fun v6 => bP (gdV v1 false ((pUn uLenS (cV v6)) e)) fun v7 => bP (gdV v1 false ((pBin (bI fGe) (cV v2) (cV v7)) e)) fun v8 => bP ((pPick (cV v1) (cV (.bool true)) (cV v8)) e) fun v9 => .nrm (u16 (rw0 e fun a b c d f g _ _ _ _ _ _ _ _ _ _ => ⟨a,b,c,d,f,g,v0,v1,v1,v2,v3,v4,v5,v6,v7,v8⟩) v9) s
def p29_7 (k : KC) (e : E) (s : St) : Res := ltc (V.i 0) fun v0 => ltc (V.i 1) fun v1 => .nrm (rw0 e fun a b c d _ _ h i j l m n o p q r => ⟨a,b,c,d,v0,v1,h,i,j,l,m,n,o,p,q,r⟩) s
def p29_6 (k : KC) (e : E) (s : St) : Res := dSeq p29_7 dRet k e s
def p29_5 (k : KC) (e : E) (s : St) : Res := dCond g16 p29_6 dSkip k e s
def p29_3 (k : KC) (e : E) (s : St) : Res := dSeq p29_4 p29_5 k e s
def p29_9 (k : KC) (e : E) (s : St) : Res := lt (g0 e) fun v0 => lt (g1 e) fun v1 => lt (g0 e) fun v2 => bP ((pUn uChk (cV v2)) e) fun v3 => bP ((pUn (uFld 2) (cV v3)) e) fun v4 => bP ((dLd (cV v4)) e s) fun v5 => lt (g1 e) fun v6 => bP ((pBin (bIdx 1) (cV v5) (cV v6)) e) fun v7 => bP ((dLd (cV v7)) e s) fun v8 => bP ((pUn uLenS (cV v8)) e) fun v9 => bE ((eCall 46 [(cV v0), (cV v1), (cV v9)]) k e s) fun v10 s => bP ((pUn (uExt 0) (cV v10)) e) fun v11 => bP ((pUn (uExt 1) (cV v10)) e) fun v12 => .nrm (rw1 (rw0 e fun a b c d _ _ h i j l m n o p q r => ⟨a,b,c,d,v11,v12,h,i,j,l,m,n,o,p,q,r⟩) fun a _ _ _ _ _ _ _ _ _ _ _ _ _ q r => ⟨a,v0,v1,v2,v3,v4,v5,v6,v7,v8,v9,v10,v11,v12,q,r⟩) s
def p29_8 (k : KC) (e : E) (s : St) : Res := dSeq p29_9 dRet k e s
def p29_2 (k : KC) (e : E) (s : St) : Res := dSeq p29_3 p29_8 k e s
def p29_0 (k : KC) (e : E) (s : St) : Res := dSeq p29_1 p29_2 k e s
def F29 : FDen := ⟨[u0, u1], p29_0, resV [rT g4, rT g5]⟩
theorem low29 : lowFunc tt [] fok Try.f29 = some F29 := by kernel_rfl
theorem run29 : FRun Try.prog [] 29 F29 := FRun.of (lowFunc_ok ttOk fokOk mixed Try.func29 low29)
/-- (*carafe/caraferef13.Heap).Array -/
def p30_1 (k : KC) (e : E) (s : St) : Res := ltc (V.i 0) fun v0 => ltc (V.i 0) fun v1 => .nrm (rw0 e fun a b c d f g _ _ j l m n o p q r => ⟨a,b,c,d,f,g,v0,v1,j,l,m,n,o,p,q,r⟩) s
def p30_4 (k : KC) (e : E) (s : St) : Res := lt (g2 e) fun v0 => bP ((pBin (bI fLt) (cV v0) (cV (.i 0))) e) fun v1 => bP (gdV v1 false ((pMove g2) e)) fun v2 => bP (gdV v1 false ((pBin (bI fGt) (cV v2) (cV (.i 256))) e)) fun v3 => bP ((pPick (cV v1) (cV (.bool true)) (cV v3)) e) fun v4 => .nrm (rw0 e fun a b c d f g h i _ _ _ _ _ _ q r => ⟨a,b,c,d,f,g,h,i,v0,v1,v1,v2,v3,v4,q,r⟩) s
def p30_7 (k : KC) (e : E) (s : St) : Res := ltc (V.i 0) fun v0 => ltc (V.i 1) fun v1 => .nrm (rw0 e fun a b c d f g _ _ j l m n o p q r => ⟨a,b,c,d,f,g,v0,v1,j,l,m,n,o,p,q,r⟩) s
def p30_6 (k : KC) (e : E) (s : St) : Res := dSeq p30_7 dRet k e s
def p30_5 (k : KC) (e : E) (s : St) : Res := dCond g13 p30_6 dSkip k e s
def p30_3 (k : KC) (e : E) (s : St) : Res := dSeq p30_4 p30_5 k e s
def p30_10 (k : KC) (e : E) (s : St) : Res := lt (g1 e) fun v0 => .nrm (u14 e v0) s
def p30_13 (k : KC) (e : E) (s : St) : Res := lt (g0 e) fun v0 => lt (g2 e) fun v1 => bE ((eCall 46 [(cV v0), (cV (.i (-2))), (cV v1)]) k e s) fun v2 s => bP ((pUn (uExt 0) (cV v2)) e) fun v3 => bP ((pUn (uExt 1) (cV v2)) e) fun v4 => .nrm (rw1 (rw0 e fun a b c d f g _ _ j l m n o p q _ => ⟨a,b,c,d,f,g,v3,v4,j,l,m,n,o,p,q,v0⟩) fun _ _ _ _ f g h i j l m n o p q r => ⟨v1,v2,v3,v4,f,g,h,i,j,l,m,n,o,p,q,r⟩) s
def p30_12 (k : KC) (e : E) (s : St) : Res := dSeq p30_13 dRet k e s
def p30_11 (k : KC) (e : E) (s : St) : Res := dCond g14 p30_12 dSkip k e s
def p30_9 (k : KC) (e : E) (s : St) : Res := dSeq p30_10 p30_11 k e s
def p30_15 (k : KC) (e : E) (s : St) : Res := lt (g0 e) fun v0 => lt (g2 e) fun v1 => bE ((eCall 46 [(cV v0), (cV (.i (-1))), (cV v1)]) k e s) fun v2 s => bP ((pUn (uExt 0) (cV v2)) e) fun v3 => bP ((pUn (uExt 1) (cV v2)) e) fun v4 => .nrm (rw1 (rw0 e fun a b c d f g _ _ j l m n o p q r => ⟨a,b,c,d,f,g,v3,v4,j,l,m,n,o,p,q,r⟩) fun a b c d _ _ _ _ _ l m n o p q r => ⟨a,b,c,d,v0,v1,v2,v3,v4,l,m,n,o,p,q,r⟩) s
def p30_14 (k : KC) (e : E) (s : St) : Res := dSeq p30_15 dRet k e s
def p30_8 (k : KC) (e : E) (s : St) : Res := dSeq p30_9 p30_14 k e s
def p30_2 (k : KC) (e : E) (s : St) : Res := dSeq p30_3 p30_8 k e s
def p30_0 (k : KC) (e : E) (s : St) : Res := dSeq p30_1 p30_2 k e s
def F30 : FDen := ⟨[u0, u1, u2], p30_0, resV [rT g6, rT g7]⟩
theorem low30 : lowFunc tt [] fok Try.f30 = some F30 := by kernel_rfl
theorem run30 : FRun Try.prog [] 30 F30 := FRun.of (lowFunc_ok ttOk fokOk mixed Try.func30 low30)
/-- carafe/carafelaw13.pick -/
def p31_1 (k : KC) (e : E) (s : St) : Res := ltc (V.i 0) fun v0 => .nrm (u4 e v0) s
def p31_4 (k : KC) (e : E) (s : St) : Res := lt (g0 e) fun v0 => bP ((pUn uLenS (cV v0)) e) fun v1 => bP ((pBin (bI fEq) (cV v1) (cV (.i 0))) e) fun v2 => bP (gdV v2 false ((pMove g1) e)) fun v3 => bP (gdV v2 false ((pBin rem64 (cV v3) (cV (.i 7))) e)) fun v4 => bP (gdV v2 false ((pBin (bI fEq) (cV v4) (cV (.i 6))) e)) fun v5 => bP ((pPick (cV v2) (cV (.bool true)) (cV v5)) e) fun v6 => .nrm (rw0 e fun a b c d f _ _ _ _ _ _ _ _ p q r => ⟨a,b,c,d,f,v0,v1,v2,v2,v3,v4,v5,v6,p,q,r⟩) s
def p31_7 (k : KC) (e : E) (s : St) : Res := lt (g1 e) fun v0 => .nrm (rw0 e fun a b c d _ g h i j l m n o _ q r => ⟨a,b,c,d,v0,g,h,i,j,l,m,n,o,v0,q,r⟩) s
def p31_6 (k : KC) (e : E) (s : St) : Res := dSeq p31_7 dRet k e s
def p31_5 (k : KC) (e : E) (s : St) : Res := dCond g12 p31_6 dSkip k e s
def p31_3 (k : KC) (e : E) (s : St) : Res := dSeq p31_4 p31_5 k e s
def p31_9 (k : KC) (e : E) (s : St) : Res := lt (g0 e) fun v0 => lt (g1 e) fun v1 => lt (g0 e) fun v2 => bP ((pUn uLenS (cV v2)) e) fun v3 => bP ((pBin (bI fSub) (cV v3) (cV (.i 1))) e) fun v4 => bE ((eCall 7 [(cV v1), (cV (.i 0)), (cV v4)]) k e s) fun v5 s => bP ((pBin (bIdx 1) (cV v0) (cV v5)) e) fun v6 => bP ((dLd (cV v6)) e s) fun v7 => .nrm (rw1 (rw0 e fun a b c d _ g h i j l m n o p _ _ => ⟨a,b,c,d,v7,g,h,i,j,l,m,n,o,p,v0,v1⟩) fun _ _ _ _ _ _ h i j l m n o p q r => ⟨v2,v3,v4,v5,v6,v7,h,i,j,l,m,n,o,p,q,r⟩) s
def p31_8 (k : KC) (e : E) (s : St) : Res := dSeq p31_9 dRet k e s
def p31_2 (k : KC) (e : E) (s : St) : Res := dSeq p31_3 p31_8 k e s
def p31_0 (k : KC) (e : E) (s : St) : Res := dSeq p31_1 p31_2 k e s
def F31 : FDen := ⟨[u0, u1], p31_0, resV [rT g4]⟩
theorem low31 : lowFunc tt [] fok Try.f31 = some F31 := by kernel_rfl
theorem run31 : FRun Try.prog [] 31 F31 := FRun.of (lowFunc_ok ttOk fokOk mixed Try.func31 low31)
/-- (*carafe/caraferef13.Heap).Set -/
def p32_1 (k : KC) (e : E) (s : St) : Res := ltc (V.i 0) fun v0 => .nrm (u8 e v0) s
def p32_3 (k : KC) (e : E) (s : St) : Res := lt (g0 e) fun v0 => lt (g1 e) fun v1 => bE ((eCall 47 [(cV v0), (cV v1)]) k e s) fun v2 s => .nrm (rw0 e fun a b c d f g h i j _ _ _ _ p q r => ⟨a,b,c,d,f,g,h,i,j,v2,v0,v1,v2,p,q,r⟩) s
def p32_6 (k : KC) (e : E) (s : St) : Res := lt (g9 e) fun v0 => bP ((pBin (bNil false nilP) (cV v0) (cV .nilp)) e) fun v1 => bP (gdV v1 false ((pMove g2) e)) fun v2 => bP (gdV v1 false ((pBin (bI fLt) (cV v2) (cV (.i 0))) e)) fun v3 => bP ((pPick (cV v1) (cV (.bool true)) (cV v3)) e) fun v4 => bP (gdV v4 false ((pMove g2) e)) fun v5 => bP (gdV v4 false ((pMove g9) e)) fun v6 => bP (gdV v4 false ((pUn uChk (cV v6)) e)) fun v7 => bP (gdV v4 false ((pUn (uFld 2) (cV v7)) e)) fun v8 => bP (gdV v4 false ((dLd (cV v8)) e s)) fun v9 => bP (gdV v4 false ((pUn uLenS (cV v9)) e)) fun v10 => bP (gdV v4 false ((pBin (bI fGe) (cV v5) (cV v10)) e)) fun v11 => bP ((pPick (cV v4) (cV (.bool true)) (cV v11)) e) fun v12 => .nrm (rw1 (rw0 e fun a b c d f g h i j l m n o _ _ _ => ⟨a,b,c,d,f,g,h,i,j,l,m,n,o,v0,v1,v1⟩) fun _ _ _ _ _ _ _ _ _ _ _ _ o p q r => ⟨v2,v3,v4,v4,v5,v6,v7,v8,v9,v10,v11,v12,o,p,q,r⟩) s
def p32_9 (k : KC) (e : E) (s : St) : Res := ltc (V.i 1) fun v0 => .nrm (u8 e v0) s
def p32_8 (k : KC) (e : E) (s : St) : Res := dSeq p32_9 dRet k e s
def p32_7 (k : KC) (e : E) (s : St) : Res := dCond g27 p32_8 dSkip k e s
def p32_5 (k : KC) (e : E) (s : St) : Res := dSeq p32_6 p32_7 k e s
def p32_12 (k : KC) (e : E) (s : St) : Res := lt (g0 e) fun v0 => lt (g1 e) fun v1 => lt (g2 e) fun v2 => bE ((eCall 48 [(cV v0), (cV v1), (cV v2)]) k e s) fun v3 s => bP (gdV v3 true ((pMove g3) e)) fun v4 => bP (gdV v3 true ((pBin (bI fNe) (cV v4) (cV (.i 0))) e)) fun v5 => bP ((pPick (cV v3) (cV v5) (cV (.bool false))) e) fun v6 => bP (gdV v6 true ((pMove g3) e)) fun v7 => bP (gdV v6 true ((pBin (bI fLt) (cV v7) (cV (.i 0))) e)) fun v8 => bP (gdV v6 true ((pMove (cV v8)) e)) fun v9 => bP (gdV v9 false ((pMove g3) e)) fun v10 => bP (gdV v9 false ((pBin (bI fGt) (cV v10) (cV (.i 16384))) e)) fun v11 => bP (gdV v6 true ((pPick (cV v9) (cV (.bool true)) (cV v11)) e)) fun v12 => bP (gdV v6 true ((pMove (cV v12)) e)) fun v13 => bP (gdV v13 false ((pMove g0) e)) fun v14 => bP (gdV v13 false ((pMove g3) e)) fun v15 => bE (gdW v13 false s ((eCall 47 [(cV v14), (cV v15)]) k e s)) fun v16 s => bP (gdV v13 false ((pBin (bNil false nilP) (cV v16) (cV .nilp)) e)) fun v17 => bP (gdV v6 true ((pPick (cV v13) (cV (.bool true)) (cV v17)) e)) fun v18 => bP ((pPick (cV v6) (cV v18) (cV (.bool false))) e) fun v19 => .nrm (rw3 (rw2 (rw1 e fun a b c d f g h i j l m n _ _ _ _ => ⟨a,b,c,d,f,g,h,i,j,l,m,n,v0,v1,v2,v3⟩) fun _ _ _ _ _ _ _ _ _ _ _ _ _ _ _ _ => ⟨v3,v4,v5,v6,v6,v7,v8,v9,v10,v11,v12,v13,v14,v15,v16,v17⟩) fun _ _ c d f g h i j l m n o p q r => ⟨v18,v19,c,d,f,g,h,i,j,l,m,n,o,p,q,r⟩) s
def p32_15 (k : KC) (e : E) (s : St) : Res := ltc (V.i 20) fun v0 => .nrm (u8 e v0) s
def p32_14 (k : KC) (e : E) (s : St) : Res := dSeq p32_15 dRet k e s
def p32_13 (k : KC) (e : E) (s : St) : Res := dCond g49 p32_14 dSkip k e s
def p32_11 (k : KC) (e : E) (s : St) : Res := dSeq p32_12 p32_13 k e s
def p32_17 (k : KC) (e : E) (s : St) : Res := lt (g9 e) fun v0 => bP ((pUn uChk (cV v0)) e) fun v1 => bP ((pUn (uFld 2) (cV v1)) e) fun v2 => bP ((dLd (cV v2)) e s) fun v3 => lt (g2 e) fun v4 => lt (g3 e) fun v5 => bP ((pBin (bIdx 1) (cV v3) (cV v4)) e) fun v6 => bE ((eSt 1 (cV v6) (cV v5)) k e s) fun v7 s => .nrm (rw3 e fun a b _ _ _ _ _ _ _ l m n o p q r => ⟨a,b,v0,v1,v2,v3,v4,v5,v6,l,m,n,o,p,q,r⟩) s
def p32_19 (k : KC) (e : E) (s : St) : Res := ltc (V.i 0) fun v0 => .nrm (u8 e v0) s
def p32_18 (k : KC) (e : E) (s : St) : Res := dSeq p32_19 dRet k e s
def p32_16 (k : KC) (e : E) (s : St) : Res := dSeq p32_17 p32_18 k e s
def p32_10 (k : KC) (e : E) (s : St) : Res := dSeq p32_11 p32_16 k e s
def p32_4 (k : KC) (e : E) (s : St) : Res := dSeq p32_5 p32_10 k e s
def p32_2 (k : KC) (e : E) (s : St) : Res := dSeq p32_3 p32_4 k e s
def p32_0 (k : KC) (e : E) (s : St) : Res := dSeq p32_1 p32_2 k e s
def F32 : FDen := ⟨[u0, u1, u2, u3], p32_0, resV [rT g8]⟩
theorem low32 : lowFunc tt [] fok Try.f32 = some F32 := by kernel_rfl
theorem run32 : FRun Try.prog [] 32 F32 := FRun.of (lowFunc_ok ttOk fokOk mixed Try.func32 low32)
/-- (*carafe/caraferef13.Heap).SetTag -/
def p33_1 (k : KC) (e : E) (s : St) : Res := ltc (V.i 0) fun v0 => .nrm (u6 e v0) s
def p33_3 (k : KC) (e : E) (s : St) : Res := lt (g0 e) fun v0 => lt (g1 e) fun v1 => bE ((eCall 47 [(cV v0), (cV v1)]) k e s) fun v2 s => .nrm (rw0 e fun a b c d f g h _ _ _ _ n o p q r => ⟨a,b,c,d,f,g,h,v2,v0,v1,v2,n,o,p,q,r⟩) s
def p33_6 (k : KC) (e : E) (s : St) : Res := lt (g7 e) fun v0 => bP ((pBin (bNil false nilP) (cV v0) (cV .nilp)) e) fun v1 => .nrm (rw0 e fun a b c d f g h i j l m _ _ p q r => ⟨a,b,c,d,f,g,h,i,j,l,m,v0,v1,p,q,r⟩) s
def p33_9 (k : KC) (e : E) (s : St) : Res := ltc (V.i 1) fun v0 => .nrm (u6 e v0) s
def p33_8 (k : KC) (e : E) (s : St) : Res := dSeq p33_9 dRet k e s
def p33_7 (k : KC) (e : E) (s : St) : Res := dCond g12 p33_8 dSkip k e s
def p33_5 (k : KC) (e : E) (s : St) : Res := dSeq p33_6 p33_7 k e s
def p33_11 (k : KC) (e : E) (s : St) : Res := lt (g7 e) fun v0 => lt (g2 e) fun v1 => bP ((pUn uChk (cV v0)) e) fun v2 => bP ((pUn (uFld 3) (cV v2)) e) fun v3 => bE ((eSt 1 (cV v3) (cV v1)) k e s) fun v4 s => .nrm (u16 (rw0 e fun a b c d f g h i j l m n o _ _ _ => ⟨a,b,c,d,f,g,h,i,j,l,m,n,o,v0,v1,v2⟩) v3) s
def p33_13 (k : KC) (e : E) (s : St) : Res := ltc (V.i 0) fun v0 => .nrm (u6 e v0) s
def p33_12 (k : KC) (e : E) (s : St) : Res := dSeq p33_13 dRet k e s
def p33_10 (k : KC) (e : E) (s : St) : Res := dSeq p33_11 p33_12 k e s
def p33_4 (k : KC) (e : E) (s : St) : Res := dSeq p33_5 p33_10 k e s
def p33_2 (k : KC) (e : E) (s : St) : Res := dSeq p33_3 p33_4 k e s
def p33_0 (k : KC) (e : E) (s : St) : Res := dSeq p33_1 p33_2 k e s
def F33 : FDen := ⟨[u0, u1, u2], p33_0, resV [rT g6]⟩
theorem low33 : lowFunc tt [] fok Try.f33 = some F33 := by kernel_rfl
theorem run33 : FRun Try.prog [] 33 F33 := FRun.of (lowFunc_ok ttOk fokOk mixed Try.func33 low33)
/-- (*carafe/caraferef13.Heap).Mark -/
def p34_1 (k : KC) (e : E) (s : St) : Res := ltc (V.nils) fun v0 => ltc (V.bool false) fun v1 => .nrm (rw0 e fun a b c d _ _ h i j l m n o p q r => ⟨a,b,c,d,v0,v1,h,i,j,l,m,n,o,p,q,r⟩) s
def p34_3 (k : KC) (e : E) (s : St) : Res := ltc (V.nils) fun v0 => .nrm (u6 e v0) s
def p34_5 (k : KC) (e : E) (s : St) : Res := ltc (V.nils) fun v0 => .nrm (u7 e v0) s
def p34_8 (k : KC) (e : E) (s : St) : Res := ltc (V.i 0) fun v0 => .nrm (u8 e v0) s
def p34_13 (k : KC) (e : E) (s : St) : Res := lt (g8 e) fun v0 => lt (g1 e) fun v1 => bP ((pUn uLenS (cV v1)) e) fun v2 => bP ((pBin (bI fLt) (cV v0) (cV v2)) e) fun v3 => .nrm (rw1 (rw0 e fun a b c d f g h i j l m n o p _ _ => ⟨a,b,c,d,f,g,h,i,j,l,m,n,o,p,v0,v1⟩) fun _ _ c d f g h i j l m n o p q r => ⟨v2,v3,c,d,f,g,h,i,j,l,m,n,o,p,q,r⟩) s
def p34_14 (k : KC) (e : E) (s : St) : Res := dCond g17 dSkip (dExit 0) k e s
def p34_12 (k : KC) (e : E) (s : St) : Res := dSeq p34_13 p34_14 k e s
def p34_19 (k : KC) (e : E) (s : St) : Res := lt (g1 e) fun v0 => lt (g8 e) fun v1 => bP ((pBin (bIdx 1) (cV v0) (cV v1)) e) fun v2 => bP ((dLd (cV v2)) e s) fun v3 => bP ((pBin (bI fNe) (cV v3) (cV (.i 0))) e) fun v4 => bP (gdV v4 true ((pMove g0) e)) fun v5 => bP (gdV v4 true ((pMove g1) e)) fun v6 => bP (gdV v4 true ((pMove g8) e)) fun v7 => bP (gdV v4 true ((pBin (bIdx 1) (cV v6) (cV v7)) e)) fun v8 => bP (gdV v4 true ((dLd (cV v8)) e s)) fun v9 => bE (gdW v4 true s ((eCall 47 [(cV v5), (cV v9)]) k e s)) fun v10 s => bP (gdV v4 true ((pBin (bNil false nilP) (cV v10) (cV .nilp)) e)) fun v11 => bP ((pPick (cV v4) (cV v11) (cV (.bool false))) e) fun v12 => .nrm (rw2 (rw1 e fun a b c d _ _ _ _ _ _ _ _ _ _ _ _ => ⟨a,b,c,d,v0,v1,v2,v3,v4,v4,v5,v6,v7,v8,v9,v10⟩) fun _ _ c d f g h i j l m n o p q r => ⟨v11,v12,c,d,f,g,h,i,j,l,m,n,o,p,q,r⟩) s
def p34_22 (k : KC) (e : E) (s : St) : Res := ltc (V.nils) fun v0 => ltc (V.bool false) fun v1 => .nrm (rw0 e fun a b c d _ _ h i j l m n o p q r => ⟨a,b,c,d,v0,v1,h,i,j,l,m,n,o,p,q,r⟩) s
def p34_21 (k : KC) (e : E) (s : St) : Res := dSeq p34_22 dRet k e s
def p34_20 (k : KC) (e : E) (s : St) : Res := dCond g33 p34_21 dSkip k e s
def p34_18 (k : KC) (e : E) (s : St) : Res := dSeq p34_19 p34_20 k e s
def p34_23 (k : KC) (e : E) (s : St) : Res := lt (g7 e) fun v0 => lt (g1 e) fun v1 => lt (g8 e) fun v2 => bP ((pBin (bIdx 1) (cV v1) (cV v2)) e) fun v3 => bP ((dLd (cV v3)) e s) fun v4 => bE (aSt ((aBSl 1 1 [(.i 0)] [(0, 1, (cV v4))]) e s.next) s) fun v5 s => bE ((eAp 1 (cV v0) (cV v5)) k e s) fun v6 s => .nrm (rw2 (u7 e v6) fun a b _ _ _ _ _ _ _ l m n o p q r => ⟨a,b,v0,v1,v2,v3,v4,v5,v6,l,m,n,o,p,q,r⟩) s
def p34_17 (k : KC) (e : E) (s : St) : Res := dSeq p34_18 p34_23 k e s
def p34_16 (k : KC) (e : E) (s : St) : Res := dBlock 1 p34_17 k e s
def p34_24 (k : KC) (e : E) (s : St) : Res := lt (g8 e) fun v0 => bP ((pBin (bI fAdd) (cV v0) (cV (.i 1))) e) fun v1 => .nrm (rw1 (u8 e v1) fun a b _ _ f g h i j l m n o p q r => ⟨a,b,v0,v1,f,g,h,i,j,l,m,n,o,p,q,r⟩) s
def p34_15 (k : KC) (e : E) (s : St) : Res := dSeq p34_16 p34_24 k e s
def p34_11 (k : KC) (e : E) (s : St) : Res := dSeq p34_12 p34_15 k e s
def p34_10 (k : KC) (e : E) (s : St) : Res := dLoop p34_11 k e s
def p34_9 (k : KC) (e : E) (s : St) : Res := dBlock 0 p34_10 k e s
def p34_7 (k : KC) (e : E) (s : St) : Res := dSeq p34_8 p34_9 k e s
def p34_30 (k : KC) (e : E) (s : St) : Res := lt (g7 e) fun v0 => bP ((pUn uLenS (cV v0)) e) fun v1 => bP ((pBin (bI fGt) (cV v1) (cV (.i 0))) e) fun v2 => .nrm (rw2 e fun a b c d f g h i j _ _ _ o p q r => ⟨a,b,c,d,f,g,h,i,j,v0,v1,v2,o,p,q,r⟩) s
def p34_31 (k : KC) (e : E) (s : St) : Res := dCond g43 dSkip (dExit 2) k e s
def p34_29 (k : KC) (e : E) (s : St) : Res := dSeq p34_30 p34_31 k e s
def p34_34 (k : KC) (e : E) (s : St) : Res := lt (g7 e) fun v0 => lt (g7 e) fun v1 => bP ((pUn uLenS (cV v1)) e) fun v2 => bP ((pBin (bI fSub) (cV v2) (cV (.i 1))) e) fun v3 => bP ((pBin (bIdx 1) (cV v0) (cV v3)) e) fun v4 => bP ((dLd (cV v4)) e s) fun v5 => .nrm (rw3 (rw2 (u9 e v5) fun a b c d f g h i j l m n _ _ _ _ => ⟨a,b,c,d,f,g,h,i,j,l,m,n,v0,v1,v2,v3⟩) fun _ _ c d f g h i j l m n o p q r => ⟨v4,v5,c,d,f,g,h,i,j,l,m,n,o,p,q,r⟩) s
def p34_36 (k : KC) (e : E) (s : St) : Res := lt (g7 e) fun v0 => lt (g7 e) fun v1 => bP ((pUn uLenS (cV v1)) e) fun v2 => bP ((pBin (bI fSub) (cV v2) (cV (.i 1))) e) fun v3 => bP ((pSl 1 (cV v0) none (some (cV v3)) none) e) fun v4 => .nrm (rw3 (u7 e v4) fun a b _ _ _ _ _ i j l m n o p q r => ⟨a,b,v0,v1,v2,v3,v4,i,j,l,m,n,o,p,q,r⟩) s
def p34_39 (k : KC) (e : E) (s : St) : Res := lt (g9 e) fun v0 => bP ((pBin (bI fEq) (cV v0) (cV (.i 0))) e) fun v1 => bP (gdV v1 false ((pMove g6) e)) fun v2 => bP (gdV v1 false ((pMove g9) e)) fun v3 => bE (gdW v1 false s ((eCall 49 [(cV v2), (cV v3)]) k e s)) fun v4 s => bP (gdV v1 false ((pBin (bI fGe) (cV v4) (cV (.i 0))) e)) fun v5 => bP ((pPick (cV v1) (cV (.bool true)) (cV v5)) e) fun v6 => .nrm (rw3 e fun a b c d f g h _ _ _ _ _ _ _ _ r => ⟨a,b,c,d,f,g,h,v0,v1,v1,v2,v3,v4,v5,v6,r⟩) s
def p34_40 (k : KC) (e : E) (s : St) : Res := dCond g62 (dExit 3) dSkip k e s
def p34_38 (k : KC) (e : E) (s : St) : Res := dSeq p34_39 p34_40 k e s
def p34_42 (k : KC) (e : E) (s : St) : Res := lt (g6 e) fun v0 => lt (g9 e) fun v1 => bE (aSt ((aBSl 1 1 [(.i 0)] [(0, 1, (cV v1))]) e s.next) s) fun v2 s => bE ((eAp 1 (cV v0) (cV v2)) k e s) fun v3 s => .nrm (rw4 (u63 (u6 e v3) v0) fun _ _ _ d f g h i j l m n o p q r => ⟨v1,v2,v3,d,f,g,h,i,j,l,m,n,o,p,q,r⟩) s
def p34_44 (k : KC) (e : E) (s : St) : Res := lt (g0 e) fun v0 => lt (g9 e) fun v1 => bE ((eCall 47 [(cV v0), (cV v1)]) k e s) fun v2 s => .nrm (rw4 (u10 e v2) fun a b c _ _ _ h i j l m n o p q r => ⟨a,b,c,v0,v1,v2,h,i,j,l,m,n,o,p,q,r⟩) s
def p34_46 (k : KC) (e : E) (s : St) : Res := ltc (V.i 0) fun v0 => .nrm (u11 e v0) s
def p34_51 (k : KC) (e : E) (s : St) : Res := lt (g11 e) fun v0 => lt (g10 e) fun v1 => bP ((pUn uChk (cV v1)) e) fun v2 => bP ((pUn (uFld 2) (cV v2)) e) fun v3 => bP ((dLd (cV v3)) e s) fun v4 => bP ((pUn uLenS (cV v4)) e) fun v5 => bP ((pBin (bI fLt) (cV v0) (cV v5)) e) fun v6 => .nrm (rw4 e fun a b c d f g _ _ _ _ _ _ _ p q r => ⟨a,b,c,d,f,g,v0,v1,v2,v3,v4,v5,v6,p,q,r⟩) s
def p34_52 (k : KC) (e : E) (s : St) : Res := dCond g76 dSkip (dExit 4) k e s
def p34_50 (k : KC) (e : E) (s : St) : Res := dSeq p34_51 p34_52 k e s
def p34_56 (k : KC) (e : E) (s : St) : Res := lt (g0 e) fun v0 => lt (g9 e) fun v1 => lt (g11 e) fun v2 => bE ((eCall 48 [(cV v0), (cV v1), (cV v2)]) k e s) fun v3 s => .nrm (rw5 (u79 e v0) fun _ _ _ d f g h i j l m n o p q r => ⟨v1,v2,v3,d,f,g,h,i,j,l,m,n,o,p,q,r⟩) s
def p34_58 (k : KC) (e : E) (s : St) : Res := lt (g7 e) fun v0 => lt (g10 e) fun v1 => bP ((pUn uChk (cV v1)) e) fun v2 => bP ((pUn (uFld 2) (cV v2)) e) fun v3 => bP ((dLd (cV v3)) e s) fun v4 => lt (g11 e) fun v5 => bP ((pBin (bIdx 1) (cV v4) (cV v5)) e) fun v6 => bP ((dLd (cV v6)) e s) fun v7 => bE (aSt ((aBSl 1 1 [(.i 0)] [(0, 1, (cV v7))]) e s.next) s) fun v8 s => bE ((eAp 1 (cV v0) (cV v8)) k e s) fun v9 s => .nrm (rw5 (u7 e v9) fun a b c _ _ _ _ _ _ _ _ _ _ p q r => ⟨a,b,c,v0,v1,v2,v3,v4,v5,v6,v7,v8,v9,p,q,r⟩) s
def p34_57 (k : KC) (e : E) (s : St) : Res := dCond g82 p34_58 dSkip k e s
def p34_55 (k : KC) (e : E) (s : St) : Res := dSeq p34_56 p34_57 k e s
def p34_54 (k : KC) (e : E) (s : St) : Res := dBlock 5 p34_55 k e s
def p34_59 (k : KC) (e : E) (s : St) : Res := lt (g11 e) fun v0 => bP ((pBin (bI fAdd) (cV v0) (cV (.i 1))) e) fun v1 => .nrm (rw4 (u11 e v1) fun a b c d f g h i j l m n o _ _ r => ⟨a,b,c,d,f,g,h,i,j,l,m,n,o,v0,v1,r⟩) s
def p34_53 (k : KC) (e : E) (s : St) : Res := dSeq p34_54 p34_59 k e s
def p34_49 (k : KC) (e : E) (s : St) : Res := dSeq p34_50 p34_53 k e s
def p34_48 (k : KC) (e : E) (s : St) : Res := dLoop p34_49 k e s
def p34_47 (k : KC) (e : E) (s : St) : Res := dBlock 4 p34_48 k e s
def p34_45 (k : KC) (e : E) (s : St) : Res := dSeq p34_46 p34_47 k e s
def p34_43 (k : KC) (e : E) (s : St) : Res := dSeq p34_44 p34_45 k e s
def p34_41 (k : KC) (e : E) (s : St) : Res := dSeq p34_42 p34_43 k e s
def p34_37 (k : KC) (e : E) (s : St) : Res := dSeq p34_38 p34_41 k e s
def p34_35 (k : KC) (e : E) (s : St) : Res := dSeq p34_36 p34_37 k e s
def p34_33 (k : KC) (e : E) (s : St) : Res := dSeq p34_34 p34_35 k e s
def p34_32 (k : KC) (e : E) (s : St) : Res := dBlock 3 p34_33 k e s
def p34_28 (k : KC) (e : E) (s : St) : Res := dSeq p34_29 p34_32 k e s
def p34_27 (k : KC) (e : E) (s : St) : Res := dLoop p34_28 k e s
def p34_26 (k : KC) (e : E) (s : St) : Res := dBlock 2 p34_27 k e s
def p34_62 (k : KC) (e : E) (s : St) : Res := ltc (V.i 1) fun v0 => .nrm (u12 e v0) s
def p34_67 (k : KC) (e : E) (s : St) : Res := lt (g12 e) fun v0 => lt (g6 e) fun v1 => bP ((pUn uLenS (cV v1)) e) fun v2 => bP ((pBin (bI fLt) (cV v0) (cV v2)) e) fun v3 => .nrm (u96 (rw5 e fun a b c d f g h i j l m n o _ _ _ => ⟨a,b,c,d,f,g,h,i,j,l,m,n,o,v0,v1,v2⟩) v3) s
def p34_68 (k : KC) (e : E) (s : St) : Res := dCond g96 dSkip (dExit 6) k e s
def p34_66 (k : KC) (e : E) (s : St) : Res := dSeq p34_67 p34_68 k e s
def p34_72 (k : KC) (e : E) (s : St) : Res := lt (g12 e) fun v0 => .nrm (u99 (u13 e v0) v0) s
def p34_77 (k : KC) (e : E) (s : St) : Res := lt (g13 e) fun v0 => bP ((pBin (bI fGt) (cV v0) (cV (.i 0))) e) fun v1 => bP (gdV v1 true ((pMove g6) e)) fun v2 => bP (gdV v1 true ((pMove g13) e)) fun v3 => bP (gdV v1 true ((pBin (bI fSub) (cV v3) (cV (.i 1))) e)) fun v4 => bP (gdV v1 true ((pBin (bIdx 1) (cV v2) (cV v4)) e)) fun v5 => bP (gdV v1 true ((dLd (cV v5)) e s)) fun v6 => bP (gdV v1 true ((pMove g6) e)) fun v7 => bP (gdV v1 true ((pMove g13) e)) fun v8 => bP (gdV v1 true ((pBin (bIdx 1) (cV v7) (cV v8)) e)) fun v9 => bP (gdV v1 true ((dLd (cV v9)) e s)) fun v10 => bP (gdV v1 true ((pBin (bI fGt) (cV v6) (cV v10)) e)) fun v11 => bP ((pPick (cV v1) (cV v11) (cV (.bool false))) e) fun v12 => .nrm (rw7 (rw6 e fun a b c d _ _ _ _ _ _ _ _ _ _ _ _ => ⟨a,b,c,d,v0,v1,v1,v2,v3,v4,v5,v6,v7,v8,v9,v10⟩) fun _ _ c d f g h i j l m n o p q r => ⟨v11,v12,c,d,f,g,h,i,j,l,m,n,o,p,q,r⟩) s
def p34_78 (k : KC) (e : E) (s : St) : Res := dCond g113 dSkip (dExit 8) k e s
def p34_76 (k : KC) (e : E) (s : St) : Res := dSeq p34_77 p34_78 k e s
def p34_81 (k : KC) (e : E) (s : St) : Res := lt (g6 e) fun v0 => lt (g13 e) fun v1 => bP ((pBin (bI fSub) (cV v1) (cV (.i 1))) e) fun v2 => lt (g6 e) fun v3 => lt (g13 e) fun v4 => lt (g6 e) fun v5 => lt (g13 e) fun v6 => bP ((pBin (bIdx 1) (cV v5) (cV v6)) e) fun v7 => bP ((dLd (cV v7)) e s) fun v8 => lt (g6 e) fun v9 => lt (g13 e) fun v10 => bP ((pBin (bI fSub) (cV v10) (cV (.i 1))) e) fun v11 => bP ((pBin (bIdx 1) (cV v9) (cV v11)) e) fun v12 => bP ((dLd (cV v12)) e s) fun v13 => bP ((pBin (bIdx 1) (cV v0) (cV v2)) e) fun v14 => bE ((eSt 1 (cV v14) (cV v8)) k e s) fun v15 s => bP ((pBin (bIdx 1) (cV v3) (cV v4)) e) fun v16 => bE ((eSt 1 (cV v16) (cV v13)) k e s) fun v17 s => .nrm (rw8 (rw7 e fun a b c d _ _ _ _ _ _ _ _ _ _ _ _ => ⟨a,b,c,d,v0,v1,v2,v3,v4,v5,v6,v7,v8,v9,v10,v11⟩) fun _ _ _ _ f g h i j l m n o p q r => ⟨v12,v13,v14,v16,f,g,h,i,j,l,m,n,o,p,q,r⟩) s
def p34_80 (k : KC) (e : E) (s : St) : Res := dBlock 9 p34_81 k e s
def p34_82 (k : KC) (e : E) (s : St) : Res := lt (g13 e) fun v0 => bP ((pBin (bI fSub) (cV v0) (cV (.i 1))) e) fun v1 => .nrm (rw7 (u13 e v1) fun a b _ _ f g h i j l m n o p q r => ⟨a,b,v0,v1,f,g,h,i,j,l,m,n,o,p,q,r⟩) s
def p34_79 (k : KC) (e : E) (s : St) : Res := dSeq p34_80 p34_82 k e s
def p34_75 (k : KC) (e : E) (s : St) : Res := dSeq p34_76 p34_79 k e s
def p34_74 (k : KC) (e : E) (s : St) : Res := dLoop p34_75 k e s
def p34_73 (k : KC) (e : E) (s : St) : Res := dBlock 8 p34_74 k e s
def p34_71 (k : KC) (e : E) (s : St) : Res := dSeq p34_72 p34_73 k e s
def p34_70 (k : KC) (e : E) (s : St) : Res := dBlock 7 p34_71 k e s
def p34_83 (k : KC) (e : E) (s : St) : Res := lt (g12 e) fun v0 => bP ((pBin (bI fAdd) (cV v0) (cV (.i 1))) e) fun v1 => .nrm (rw6 (u12 e v1) fun a _ _ d f g h i j l m n o p q r => ⟨a,v0,v1,d,f,g,h,i,j,l,m,n,o,p,q,r⟩) s
def p34_69 (k : KC) (e : E) (s : St) : Res := dSeq p34_70 p34_83 k e s
def p34_65 (k : KC) (e : E) (s : St) : Res := dSeq p34_66 p34_69 k e s
def p34_64 (k : KC) (e : E) (s : St) : Res := dLoop p34_65 k e s
def p34_63 (k : KC) (e : E) (s : St) : Res := dBlock 6 p34_64 k e s
def p34_61 (k : KC) (e : E) (s : St) : Res := dSeq p34_62 p34_63 k e s
def p34_85 (k : KC) (e : E) (s : St) : Res := lt (g6 e) fun v0 => ltc (V.bool true) fun v1 => .nrm (u132 (rw0 e fun a b c d _ _ h i j l m n o p q r => ⟨a,b,c,d,v0,v1,h,i,j,l,m,n,o,p,q,r⟩) v0) s
def p34_84 (k : KC) (e : E) (s : St) : Res := dSeq p34_85 dRet k e s
def p34_60 (k : KC) (e : E) (s : St) : Res := dSeq p34_61 p34_84 k e s
def p34_25 (k : KC) (e : E) (s : St) : Res := dSeq p34_26 p34_60 k e s
def p34_6 (k : KC) (e : E) (s : St) : Res := dSeq p34_7 p34_25 k e s
def p34_4 (k : KC) (e : E) (s : St) : Res := dSeq p34_5 p34_6 k e s
def p34_2 (k : KC) (e : E) (s : St) : Res := dSeq p34_3 p34_4 k e s
def p34_0 (k : KC) (e : E) (s : St) : Res := dSeq p34_1 p34_2 k e s
def F34 : FDen := ⟨[u0, u1], p34_0, resV [rT g4, rT g5]⟩
theorem low34 : lowFunc tt [] fok Try.f34 = some F34 := by kernel_rfl
theorem run34 : FRun Try.prog [] 34 F34 := FRun.of (lowFunc_ok ttOk fokOk mixed Try.func34 low34)
/-- (*carafe/caraferef13.Heap).Slide -/
def p35_1 (k : KC) (e : E) (s : St) : Res := ltc (V.nils) fun v0 => ltc (V.i 0) fun v1 => .nrm (rw0 e fun a b c d _ _ h i j l m n o p q r => ⟨a,b,c,d,v0,v1,h,i,j,l,m,n,o,p,q,r⟩) s
def p35_4 (k : KC) (e : E) (s : St) : Res := ltc (V.i 0) fun v0 => .nrm (u6 e v0) s
def p35_9 (k : KC) (e : E) (s : St) : Res := lt (g6 e) fun v0 => lt (g1 e) fun v1 => bP ((pUn uLenS (cV v1)) e) fun v2 => bP ((pBin (bI fLt) (cV v0) (cV v2)) e) fun v3 => .nrm (rw1 e fun a _ _ _ _ g h i j l m n o p q r => ⟨a,v0,v1,v2,v3,g,h,i,j,l,m,n,o,p,q,r⟩) s
def p35_10 (k : KC) (e : E) (s : St) : Res := dCond g20 dSkip (dExit 0) k e s
def p35_8 (k : KC) (e : E) (s : St) : Res := dSeq p35_9 p35_10 k e s
def p35_14 (k : KC) (e : E) (s : St) : Res := lt (g0 e) fun v0 => lt (g1 e) fun v1 => lt (g6 e) fun v2 => bP ((pBin (bIdx 1) (cV v1) (cV v2)) e) fun v3 => bP ((dLd (cV v3)) e s) fun v4 => bE ((eCall 47 [(cV v0), (cV v4)]) k e s) fun v5 s => .nrm (rw1 (u7 e v5) fun a b c d f g h _ _ _ _ _ _ p q r => ⟨a,b,c,d,f,g,h,v0,v1,v2,v3,v4,v5,p,q,r⟩) s
def p35_17 (k : KC) (e : E) (s : St) : Res := lt (g7 e) fun v0 => bP ((pBin (bNil false nilP) (cV v0) (cV .nilp)) e) fun v1 => bP (gdV v1 false ((pMove g6) e)) fun v2 => bP (gdV v1 false ((pBin (bI fGt) (cV v2) (cV (.i 0))) e)) fun v3 => bP (gdV v1 false ((pMove (cV v3)) e)) fun v4 => bP (gdV v4 true ((pMove g1) e)) fun v5 => bP (gdV v4 true ((pMove g6) e)) fun v6 => bP (gdV v4 true ((pBin (bI fSub) (cV v6) (cV (.i 1))) e)) fun v7 => bP (gdV v4 true ((pBin (bIdx 1) (cV v5) (cV v7)) e)) fun v8 => bP (gdV v4 true ((dLd (cV v8)) e s)) fun v9 => bP (gdV v4 true ((pMove g1) e)) fun v10 => bP (gdV v4 true ((pMove g6) e)) fun v11 => bP (gdV v4 true ((pBin (bIdx 1) (cV v10) (cV v11)) e)) fun v12 => bP (gdV v4 true ((dLd (cV v12)) e s)) fun v13 => bP (gdV v4 true ((pBin (bI fGe) (cV v9) (cV v13)) e)) fun v14 => bP (gdV v1 false ((pPick (cV v4) (cV v14) (cV (.bool false))) e)) fun v15 => bP ((pPick (cV v1) (cV (.bool true)) (cV v15)) e) fun v16 => .nrm (rw2 (rw1 e fun a b c d f g h i j l m n o _ _ _ => ⟨a,b,c,d,f,g,h,i,j,l,m,n,o,v0,v1,v1⟩) fun _ _ _ _ _ _ _ _ _ _ _ _ _ _ _ r => ⟨v2,v3,v4,v5,v6,v7,v8,v9,v10,v11,v12,v13,v14,v15,v16,r⟩) s
def p35_20 (k : KC) (e : E) (s : St) : Res := ltc (V.nils) fun v0 => ltc (V.i 1) fun v1 => .nrm (rw0 e fun a b c d _ _ h i j l m n o p q r => ⟨a,b,c,d,v0,v1,h,i,j,l,m,n,o,p,q,r⟩) s
def p35_19 (k : KC) (e : E) (s : St) : Res := dSeq p35_20 dRet k e s
def p35_18 (k : KC) (e : E) (s : St) : Res := dCond g46 p35_19 dSkip k e s
def p35_16 (k : KC) (e : E) (s : St) : Res := dSeq p35_17 p35_18 k e s
def p35_22 (k : KC) (e : E) (s : St) : Res := ltc (V.i 0) fun v0 => .nrm (u8 e v0) s
def p35_27 (k : KC) (e : E) (s : St) : Res := lt (g8 e) fun v0 => lt (g7 e) fun v1 => bP ((pUn uChk (cV v1)) e) fun v2 => bP ((pUn (uFld 2) (cV v2)) e) fun v3 => bP ((dLd (cV v3)) e s) fun v4 => bP ((pUn uLenS (cV v4)) e) fun v5 => bP ((pBin (bI fLt) (cV v0) (cV v5)) e) fun v6 => .nrm (rw3 (u47 e v0) fun _ _ _ _ _ _ h i j l m n o p q r => ⟨v1,v2,v3,v4,v5,v6,h,i,j,l,m,n,o,p,q,r⟩) s
def p35_28 (k : KC) (e : E) (s : St) : Res := dCond g53 dSkip (dExit 2) k e s
def p35_26 (k : KC) (e : E) (s : St) : Res := dSeq p35_27 p35_28 k e s
def p35_32 (k : KC) (e : E) (s : St) : Res := lt (g0 e) fun v0 => lt (g1 e) fun v1 => lt (g6 e) fun v2 => bP ((pBin (bIdx 1) (cV v1) (cV v2)) e) fun v3 => bP ((dLd (cV v3)) e s) fun v4 => lt (g8 e) fun v5 => bE ((eCall 48 [(cV v0), (cV v4), (cV v5)]) k e s) fun v6 s => bP (gdV v6 true ((pMove g7) e)) fun v7 => bP (gdV v6 true ((pUn uChk (cV v7)) e)) fun v8 => bP (gdV v6 true ((pUn (uFld 2) (cV v8)) e)) fun v9 => bP (gdV v6 true ((dLd (cV v9)) e s)) fun v10 => bP (gdV v6 true ((pMove g8) e)) fun v11 => bP (gdV v6 true ((pBin (bIdx 1) (cV v10) (cV v11)) e)) fun v12 => bP (gdV v6 true ((dLd (cV v12)) e s)) fun v13 => bP (gdV v6 true ((pBin (bI fNe) (cV v13) (cV (.i 0))) e)) fun v14 => bP ((pPick (cV v6) (cV v14) (cV (.bool false))) e) fun v15 => bP (gdV v15 true ((pMove g1) e)) fun v16 => bP (gdV v15 true ((pMove g7) e)) fun v17 => bP (gdV v15 true ((pUn uChk (cV v17)) e)) fun v18 => bP (gdV v15 true ((pUn (uFld 2) (cV v18)) e)) fun v19 => bP (gdV v15 true ((dLd (cV v19)) e s)) fun v20 => bP (gdV v15 true ((pMove g8) e)) fun v21 => bP (gdV v15 true ((pBin (bIdx 1) (cV v20) (cV v21)) e)) fun v22 => bP (gdV v15 true ((dLd (cV v22)) e s)) fun v23 => bE (gdW v15 true s ((eCall 49 [(cV v16), (cV v23)]) k e s)) fun v24 s => bP (gdV v15 true ((pBin (bI fLt) (cV v24) (cV (.i 0))) e)) fun v25 => bP ((pPick (cV v15) (cV v25) (cV (.bool false))) e) fun v26 => .nrm (rw5 (rw4 (rw3 e fun a b c d f g h i _ _ _ _ _ _ _ _ => ⟨a,b,c,d,f,g,h,i,v0,v1,v2,v3,v4,v5,v6,v6⟩) fun _ _ _ _ _ _ _ _ _ _ _ _ _ _ _ _ => ⟨v7,v8,v9,v10,v11,v12,v13,v14,v15,v15,v16,v17,v18,v19,v20,v21⟩) fun _ _ _ _ _ g h i j l m n o p q r => ⟨v22,v23,v24,v25,v26,g,h,i,j,l,m,n,o,p,q,r⟩) s
def p35_35 (k : KC) (e : E) (s : St) : Res := ltc (V.nils) fun v0 => ltc (V.i 1) fun v1 => .nrm (rw0 e fun a b c d _ _ h i j l m n o p q r => ⟨a,b,c,d,v0,v1,h,i,j,l,m,n,o,p,q,r⟩) s
def p35_34 (k : KC) (e : E) (s : St) : Res := dSeq p35_35 dRet k e s
def p35_33 (k : KC) (e : E) (s : St) : Res := dCond g84 p35_34 dSkip k e s
def p35_31 (k : KC) (e : E) (s : St) : Res := dSeq p35_32 p35_33 k e s
def p35_30 (k : KC) (e : E) (s : St) : Res := dBlock 3 p35_31 k e s
def p35_36 (k : KC) (e : E) (s : St) : Res := lt (g8 e) fun v0 => bP ((pBin (bI fAdd) (cV v0) (cV (.i 1))) e) fun v1 => .nrm (rw3 (u8 e v1) fun a b c d f g _ _ j l m n o p q r => ⟨a,b,c,d,f,g,v0,v1,j,l,m,n,o,p,q,r⟩) s
def p35_29 (k : KC) (e : E) (s : St) : Res := dSeq p35_30 p35_36 k e s
def p35_25 (k : KC) (e : E) (s : St) : Res := dSeq p35_26 p35_29 k e s
def p35_24 (k : KC) (e : E) (s : St) : Res := dLoop p35_25 k e s
def p35_23 (k : KC) (e : E) (s : St) : Res := dBlock 2 p35_24 k e s
def p35_21 (k : KC) (e : E) (s : St) : Res := dSeq p35_22 p35_23 k e s
def p35_15 (k : KC) (e : E) (s : St) : Res := dSeq p35_16 p35_21 k e s
def p35_13 (k : KC) (e : E) (s : St) : Res := dSeq p35_14 p35_15 k e s
def p35_12 (k : KC) (e : E) (s : St) : Res := dBlock 1 p35_13 k e s
def p35_37 (k : KC) (e : E) (s : St) : Res := lt (g6 e) fun v0 => bP ((pBin (bI fAdd) (cV v0) (cV (.i 1))) e) fun v1 => .nrm (rw1 (u6 e v1) fun a b c d f _ _ i j l m n o p q r => ⟨a,b,c,d,f,v0,v1,i,j,l,m,n,o,p,q,r⟩) s
def p35_11 (k : KC) (e : E) (s : St) : Res := dSeq p35_12 p35_37 k e s
def p35_7 (k : KC) (e : E) (s : St) : Res := dSeq p35_8 p35_11 k e s
def p35_6 (k : KC) (e : E) (s : St) : Res := dLoop p35_7 k e s
def p35_5 (k : KC) (e : E) (s : St) : Res := dBlock 0 p35_6 k e s
def p35_3 (k : KC) (e : E) (s : St) : Res := dSeq p35_4 p35_5 k e s
def p35_39 (k : KC) (e : E) (s : St) : Res := ltc (V.nils) fun v0 => .nrm (u9 e v0) s
def p35_41 (k : KC) (e : E) (s : St) : Res := ltc (V.i 1) fun v0 => .nrm (u10 e v0) s
def p35_44 (k : KC) (e : E) (s : St) : Res := ltc (V.i 0) fun v0 => .nrm (u11 e v0) s
def p35_49 (k : KC) (e : E) (s : St) : Res := lt (g11 e) fun v0 => lt (g1 e) fun v1 => bP ((pUn uLenS (cV v1)) e) fun v2 => bP ((pBin (bI fLt) (cV v0) (cV v2)) e) fun v3 => .nrm (rw5 e fun a b c d f _ _ _ _ l m n o p q r => ⟨a,b,c,d,f,v0,v1,v2,v3,l,m,n,o,p,q,r⟩) s
def p35_50 (k : KC) (e : E) (s : St) : Res := dCond g88 dSkip (dExit 4) k e s
def p35_48 (k : KC) (e : E) (s : St) : Res := dSeq p35_49 p35_50 k e s
def p35_54 (k : KC) (e : E) (s : St) : Res := lt (g9 e) fun v0 => lt (g10 e) fun v1 => bE (aSt ((aBSl 1 1 [(.i 0)] [(0, 1, (cV v1))]) e s.next) s) fun v2 s => bE ((eAp 1 (cV v0) (cV v2)) k e s) fun v3 s => .nrm (rw5 (u9 e v3) fun a b c d f g h i j l m _ _ _ _ r => ⟨a,b,c,d,f,g,h,i,j,l,m,v0,v1,v2,v3,r⟩) s
def p35_55 (k : KC) (e : E) (s : St) : Res := lt (g10 e) fun v0 => bP ((pBin (bI fAdd) (cV v0) (cV (.i 3))) e) fun v1 => lt (g0 e) fun v2 => lt (g1 e) fun v3 => lt (g11 e) fun v4 => bP ((pBin (bIdx 1) (cV v3) (cV v4)) e) fun v5 => bP ((dLd (cV v5)) e s) fun v6 => bE ((eCall 47 [(cV v2), (cV v6)]) k e s) fun v7 s => bP ((pUn uChk (cV v7)) e) fun v8 => bP ((pUn (uFld 2) (cV v8)) e) fun v9 => bP ((dLd (cV v9)) e s) fun v10 => bP ((pUn uLenS (cV v10)) e) fun v11 => bP ((pBin (bI fAdd) (cV v1) (cV v11)) e) fun v12 => .nrm (rw6 (u95 (u10 e v12) v0) fun _ _ _ _ _ _ _ _ _ _ _ _ o p q r => ⟨v1,v2,v3,v4,v5,v6,v7,v8,v9,v10,v11,v12,o,p,q,r⟩) s
def p35_53 (k : KC) (e : E) (s : St) : Res := dSeq p35_54 p35_55 k e s
def p35_52 (k : KC) (e : E) (s : St) : Res := dBlock 5 p35_53 k e s
def p35_56 (k : KC) (e : E) (s : St) : Res := lt (g11 e) fun v0 => bP ((pBin (bI fAdd) (cV v0) (cV (.i 1))) e) fun v1 => .nrm (rw5 (u11 e v1) fun a b c d f g h i j _ _ n o p q r => ⟨a,b,c,d,f,g,h,i,j,v0,v1,n,o,p,q,r⟩) s
def p35_51 (k : KC) (e : E) (s : St) : Res := dSeq p35_52 p35_56 k e s
def p35_47 (k : KC) (e : E) (s : St) : Res := dSeq p35_48 p35_51 k e s
def p35_46 (k : KC) (e : E) (s : St) : Res := dLoop p35_47 k e s
def p35_45 (k : KC) (e : E) (s : St) : Res := dBlock 4 p35_46 k e s
def p35_43 (k : KC) (e : E) (s : St) : Res := dSeq p35_44 p35_45 k e s
def p35_58 (k : KC) (e : E) (s : St) : Res := ltc (V.nils) fun v0 => .nrm (u12 e v0) s
def p35_61 (k : KC) (e : E) (s : St) : Res := ltc (V.i 0) fun v0 => .nrm (u13 e v0) s
def p35_66 (k : KC) (e : E) (s : St) : Res := lt (g13 e) fun v0 => lt (g1 e) fun v1 => bP ((pUn uLenS (cV v1)) e) fun v2 => bP ((pBin (bI fLt) (cV v0) (cV v2)) e) fun v3 => .nrm (rw6 e fun a b c d f g h i j l m n _ _ _ _ => ⟨a,b,c,d,f,g,h,i,j,l,m,n,v0,v1,v2,v3⟩) s
def p35_67 (k : KC) (e : E) (s : St) : Res := dCond g111 dSkip (dExit 6) k e s
def p35_65 (k : KC) (e : E) (s : St) : Res := dSeq p35_66 p35_67 k e s
def p35_71 (k : KC) (e : E) (s : St) : Res := lt (g0 e) fun v0 => lt (g1 e) fun v1 => lt (g13 e) fun v2 => bP ((pBin (bIdx 1) (cV v1) (cV v2)) e) fun v3 => bP ((dLd (cV v3)) e s) fun v4 => bE ((eCall 47 [(cV v0), (cV v4)]) k e s) fun v5 s => bP ((pUn uChk (cV v5)) e) fun v6 => bP ((dLdN 4 (cV v6)) e s) fun v7 => bE (aSt ((aAl 4 (ofL [(.i 0), (.i 0), .nils, (.i 0)])) e s.next) s) fun v8 s => bE ((eSt 4 (cV v8) (cV v7)) k e s) fun v9 s => .nrm (rw7 (u14 e v8) fun a b _ _ _ _ _ _ _ _ m n o p q r => ⟨a,b,v0,v1,v2,v3,v4,v5,v6,v7,m,n,o,p,q,r⟩) s
def p35_73 (k : KC) (e : E) (s : St) : Res := bE (aSt ((aBSl 0 1 [] []) e s.next) s) fun v0 s => bP ((pUn (uFld 2) g14) e) fun v1 => bP ((dLd (cV v1)) e s) fun v2 => bE ((eAp 1 (cV v0) (cV v2)) k e s) fun v3 s => .nrm (rw7 (u15 e v3) fun a b c d f g h i j l _ _ _ _ q r => ⟨a,b,c,d,f,g,h,i,j,l,v0,v1,v2,v3,q,r⟩) s
def p35_76 (k : KC) (e : E) (s : St) : Res := ltc (V.i 0) fun v0 => .nrm (u16 e v0) s
def p35_81 (k : KC) (e : E) (s : St) : Res := lt (g16 e) fun v0 => lt (g15 e) fun v1 => bP ((pUn uLenS (cV v1)) e) fun v2 => bP ((pBin (bI fLt) (cV v0) (cV v2)) e) fun v3 => .nrm (rw8 (rw7 e fun a b c d f g h i j l m n o p _ _ => ⟨a,b,c,d,f,g,h,i,j,l,m,n,o,p,v0,v1⟩) fun _ _ c d f g h i j l m n o p q r => ⟨v2,v3,c,d,f,g,h,i,j,l,m,n,o,p,q,r⟩) s
def p35_82 (k : KC) (e : E) (s : St) : Res := dCond g129 dSkip (dExit 8) k e s
def p35_80 (k : KC) (e : E) (s : St) : Res := dSeq p35_81 p35_82 k e s
def p35_86 (k : KC) (e : E) (s : St) : Res := lt (g0 e) fun v0 => lt (g1 e) fun v1 => lt (g13 e) fun v2 => bP ((pBin (bIdx 1) (cV v1) (cV v2)) e) fun v3 => bP ((dLd (cV v3)) e s) fun v4 => lt (g16 e) fun v5 => bE ((eCall 48 [(cV v0), (cV v4), (cV v5)]) k e s) fun v6 s => bP (gdV v6 true ((pMove g15) e)) fun v7 => bP (gdV v6 true ((pMove g16) e)) fun v8 => bP (gdV v6 true ((pBin (bIdx 1) (cV v7) (cV v8)) e)) fun v9 => bP (gdV v6 true ((dLd (cV v9)) e s)) fun v10 => bP (gdV v6 true ((pBin (bI fNe) (cV v10) (cV (.i 0))) e)) fun v11 => bP ((pPick (cV v6) (cV v11) (cV (.bool false))) e) fun v12 => .nrm (rw9 (rw8 e fun a b c d _ _ _ _ _ _ _ _ _ _ _ _ => ⟨a,b,c,d,v0,v1,v2,v3,v4,v5,v6,v6,v7,v8,v9,v10⟩) fun _ _ c d f g h i j l m n o p q r => ⟨v11,v12,c,d,f,g,h,i,j,l,m,n,o,p,q,r⟩) s
def p35_88 (k : KC) (e : E) (s : St) : Res := lt (g15 e) fun v0 => lt (g16 e) fun v1 => lt (g9 e) fun v2 => lt (g1 e) fun v3 => lt (g15 e) fun v4 => lt (g16 e) fun v5 => bP ((pBin (bIdx 1) (cV v4) (cV v5)) e) fun v6 => bP ((dLd (cV v6)) e s) fun v7 => bE ((eCall 49 [(cV v3), (cV v7)]) k e s) fun v8 s => bP ((pBin (bIdx 1) (cV v2) (cV v8)) e) fun v9 => bP ((dLd (cV v9)) e s) fun v10 => bP ((pBin (bIdx 1) (cV v0) (cV v1)) e) fun v11 => bE ((eSt 1 (cV v11) (cV v10)) k e s) fun v12 s => .nrm (rw9 e fun a b _ _ _ _ _ _ _ _ _ _ _ _ q r => ⟨a,b,v0,v1,v2,v3,v4,v5,v6,v7,v8,v9,v10,v11,q,r⟩) s
def p35_87 (k : KC) (e : E) (s : St) : Res := dCond g145 p35_88 dSkip k e s
def p35_85 (k : KC) (e : E) (s : St) : Res := dSeq p35_86 p35_87 k e s
def p35_84 (k : KC) (e : E) (s : St) : Res := dBlock 9 p35_85 k e s
def p35_89 (k : KC) (e : E) (s : St) : Res := lt (g16 e) fun v0 => bP ((pBin (bI fAdd) (cV v0) (cV (.i 1))) e) fun v1 => .nrm (rw8 (u16 e v1) fun a b _ _ f g h i j l m n o p q r => ⟨a,b,v0,v1,f,g,h,i,j,l,m,n,o,p,q,r⟩) s
def p35_83 (k : KC) (e : E) (s : St) : Res := dSeq p35_84 p35_89 k e s
def p35_79 (k : KC) (e : E) (s : St) : Res := dSeq p35_80 p35_83 k e s
def p35_78 (k : KC) (e : E) (s : St) : Res := dLoop p35_79 k e s
def p35_77 (k : KC) (e : E) (s : St) : Res := dBlock 8 p35_78 k e s
def p35_75 (k : KC) (e : E) (s : St) : Res := dSeq p35_76 p35_77 k e s
def p35_90 (k : KC) (e : E) (s : St) : Res := dDraw [⟨none, (.p (pMove g12)), u158⟩, ⟨none, (.p (pMove g9)), u159⟩, ⟨none, (.p (pMove g13)), u160⟩, ⟨none, (.p (pBin (bIdx 1) g159 g160)), u161⟩, ⟨none, (.d 0 0 (dLd g161)), u162⟩, ⟨none, (.p (pUn (uFld 1) g14)), u163⟩, ⟨none, (.d 0 0 (dLd g163)), u164⟩, ⟨none, (.p (pMove g15)), u165⟩, ⟨none, (.p (pUn (uFld 3) g14)), u166⟩, ⟨none, (.d 0 0 (dLd g166)), u167⟩, ⟨none, (.p (pBuild [(.i 0), (.i 0), .nils, (.i 0)] [(0, 1, g162), (1, 1, g164), (2, 1, g165), (3, 1, g167)])), u168⟩, ⟨none, (.a (aBSl 1 4 [(.i 0), (.i 0), .nils, (.i 0)] [(0, 4, g168)])), u169⟩, ⟨none, (.e (eAp 4 g158 g169)), u170⟩, ⟨none, (.p (pMove g170)), u12⟩] k e s
def p35_74 (k : KC) (e : E) (s : St) : Res := dSeq p35_75 p35_90 k e s
def p35_72 (k : KC) (e : E) (s : St) : Res := dSeq p35_73 p35_74 k e s
def p35_70 (k : KC) (e : E) (s : St) : Res := dSeq p35_71 p35_72 k e s
def p35_69 (k : KC) (e : E) (s : St) : Res := dBlock 7 p35_70 k e s
def p35_91 (k : KC) (e : E) (s : St) : Res := lt (g13 e) fun v0 => bP ((pBin (bI fAdd) (cV v0) (cV (.i 1))) e) fun v1 => .nrm (rw7 (u13 e v1) fun _ _ c d f g h i j l m n o p q r => ⟨v0,v1,c,d,f,g,h,i,j,l,m,n,o,p,q,r⟩) s
def p35_68 (k : KC) (e : E) (s : St) : Res := dSeq p35_69 p35_91 k e s
def p35_64 (k : KC) (e : E) (s : St) : Res := dSeq p35_65 p35_68 k e s
def p35_63 (k : KC) (e : E) (s : St) : Res := dLoop p35_64 k e s
def p35_62 (k : KC) (e : E) (s : St) : Res := dBlock 6 p35_63 k e s
def p35_60 (k : KC) (e : E) (s : St) : Res := dSeq p35_61 p35_62 k e s
def p35_93 (k : KC) (e : E) (s : St) : Res := lt (g0 e) fun v0 => lt (g12 e) fun v1 => bP ((pUn uChk (cV v0)) e) fun v2 => bP ((pUn (uFld 1) (cV v2)) e) fun v3 => bE ((eSt 1 (cV v3) (cV v1)) k e s) fun v4 s => .nrm (rw10 e fun a b c d f g h i j l m _ _ _ _ r => ⟨a,b,c,d,f,g,h,i,j,l,m,v0,v1,v2,v3,r⟩) s
def p35_95 (k : KC) (e : E) (s : St) : Res := lt (g9 e) fun v0 => ltc (V.i 0) fun v1 => .nrm (u175 (rw0 e fun a b c d _ _ h i j l m n o p q r => ⟨a,b,c,d,v0,v1,h,i,j,l,m,n,o,p,q,r⟩) v0) s
def p35_94 (k : KC) (e : E) (s : St) : Res := dSeq p35_95 dRet k e s
def p35_92 (k : KC) (e : E) (s : St) : Res := dSeq p35_93 p35_94 k e s
def p35_59 (k : KC) (e : E) (s : St) : Res := dSeq p35_60 p35_92 k e s
def p35_57 (k : KC) (e : E) (s : St) : Res := dSeq p35_58 p35_59 k e s
def p35_42 (k : KC) (e : E) (s : St) : Res := dSeq p35_43 p35_57 k e s
def p35_40 (k : KC) (e : E) (s : St) : Res := dSeq p35_41 p35_42 k e s
def p35_38 (k : KC) (e : E) (s : St) : Res := dSeq p35_39 p35_40 k e s
def p35_2 (k : KC) (e : E) (s : St) : Res := dSeq p35_3 p35_38 k e s
def p35_0 (k : KC) (e : E) (s : St) : Res := dSeq p35_1 p35_2 k e s
def F35 : FDen := ⟨[u0, u1], p35_0, resV [rT g4, rT g5]⟩
theorem low35 : lowFunc tt [] fok Try.f35 = some F35 := by kernel_rfl
theorem run35 : FRun Try.prog [] 35 F35 := FRun.of (lowFunc_ok ttOk fokOk mixed Try.func35 low35)
/-- carafe/carafelaw13.same -/
def p36_1 (k : KC) (e : E) (s : St) : Res := ltc (V.bool false) fun v0 => .nrm (u4 e v0) s
def p36_3 (k : KC) (e : E) (s : St) : Res := lt (g0 e) fun v0 => bE ((eCall 15 [(cV v0)]) k e s) fun v1 s => .nrm (rw0 e fun a b c d f _ h i j l m n _ _ q r => ⟨a,b,c,d,f,v1,h,i,j,l,m,n,v0,v1,q,r⟩) s
def p36_6 (k : KC) (e : E) (s : St) : Res := lt (g5 e) fun v0 => lt (g1 e) fun v1 => bE ((eCall 27 [(cV v1)]) k e s) fun v2 s => bE ((eCall 14 [(cV v0), (cV v2)]) k e s) fun v3 s => bP ((pUn uNot (cV v3)) e) fun v4 => bP (gdV v4 false ((pMove g0) e)) fun v5 => bE (gdW v4 false s ((eCall 13 [(cV v5)]) k e s)) fun v6 s => bP (gdV v4 false ((pMove g1) e)) fun v7 => bE (gdW v4 false s ((eCall 50 [(cV v7)]) k e s)) fun v8 s => bP (gdV v4 false ((pBin (bI fNe) (cV v6) (cV v8)) e)) fun v9 => bP ((pPick (cV v4) (cV (.bool true)) (cV v9)) e) fun v10 => .nrm (rw1 (rw0 e fun a b c d f g h i j l m n o p _ _ => ⟨a,b,c,d,f,g,h,i,j,l,m,n,o,p,v0,v1⟩) fun _ _ _ _ _ _ _ _ _ _ m n o p q r => ⟨v2,v3,v4,v4,v5,v6,v7,v8,v9,v10,m,n,o,p,q,r⟩) s
def p36_9 (k : KC) (e : E) (s : St) : Res := ltc (V.bool false) fun v0 => .nrm (u4 e v0) s
def p36_8 (k : KC) (e : E) (s : St) : Res := dSeq p36_9 dRet k e s
def p36_7 (k : KC) (e : E) (s : St) : Res := dCond g25 p36_8 dSkip k e s
def p36_5 (k : KC) (e : E) (s : St) : Res := dSeq p36_6 p36_7 k e s
def p36_12 (k : KC) (e : E) (s : St) : Res := ltc (V.i 0) fun v0 => .nrm (u6 e v0) s
def p36_17 (k : KC) (e : E) (s : St) : Res := lt (g6 e) fun v0 => lt (g5 e) fun v1 => bP ((pUn uLenS (cV v1)) e) fun v2 => bP ((pBin (bI fLt) (cV v0) (cV v2)) e) fun v3 => .nrm (rw1 e fun a b c d f g h i j l _ _ _ _ q r => ⟨a,b,c,d,f,g,h,i,j,l,v0,v1,v2,v3,q,r⟩) s
def p36_18 (k : KC) (e : E) (s : St) : Res := dCond g29 dSkip (dExit 0) k e s
def p36_16 (k : KC) (e : E) (s : St) : Res := dSeq p36_17 p36_18 k e s
def p36_23 (k : KC) (e : E) (s : St) : Res := dDraw [⟨none, (.p (pMove g0)), u32⟩, ⟨none, (.p (pMove g5)), u33⟩, ⟨none, (.p (pMove g6)), u34⟩, ⟨none, (.p (pBin (bIdx 1) g33 g34)), u35⟩, ⟨none, (.d 1 0 (dLd g35)), u36⟩, ⟨none, (.e (eCall 11 [g32, g36])), u37⟩, ⟨none, (.p (pMove g1)), u38⟩, ⟨none, (.p (pMove g5)), u39⟩, ⟨none, (.p (pMove g6)), u40⟩, ⟨none, (.p (pBin (bIdx 1) g39 g40)), u41⟩, ⟨none, (.d 0 1 (dLd g41)), u42⟩, ⟨none, (.e (eCall 51 [g38, g42])), u43⟩, ⟨none, (.p (pBin (bI fNe) g37 g43)), u44⟩, ⟨none, (.p (pMove g44)), u45⟩, ⟨(some (45, false)), (.p (pMove g0)), u46⟩, ⟨(some (45, false)), (.p (pMove g5)), u47⟩, ⟨(some (45, false)), (.p (pMove g6)), u48⟩, ⟨(some (45, false)), (.p (pBin (bIdx 1) g47 g48)), u49⟩, ⟨(some (45, false)), (.d 1 0 (dLd g49)), u50⟩, ⟨(some (45, false)), (.e (eCall 20 [g46, g50])), u51⟩, ⟨(some (45, false)), (.p (pMove g1)), u52⟩, ⟨(some (45, false)), (.p (pMove g5)), u53⟩, ⟨(some (45, false)), (.p (pMove g6)), u54⟩, ⟨(some (45, false)), (.p (pBin (bIdx 1) g53 g54)), u55⟩, ⟨(some (45, false)), (.d 2 3 (dLd g55)), u56⟩, ⟨(some (45, false)), (.e (eCall 52 [g52, g56])), u57⟩, ⟨(some (45, false)), (.p (pBin (bI fNe) g51 g57)), u58⟩, ⟨none, (.p (pPick g45 (cV (.bool true)) g58)), u59⟩, ⟨none, (.p (pMove g59)), u60⟩, ⟨(some (60, false)), (.p (pMove g0)), u61⟩, ⟨(some (60, false)), (.p (pMove g5)), u62⟩, ⟨(some (60, false)), (.p (pMove g6)), u63⟩, ⟨(some (60, false)), (.p (pBin (bIdx 1) g62 g63)), u64⟩, ⟨(some (60, false)), (.d 1 0 (dLd g64)), u65⟩, ⟨(some (60, false)), (.e (eCall 25 [g61, g65])), u66⟩, ⟨(some (60, false)), (.p (pMove g1)), u67⟩, ⟨(some (60, false)), (.p (pMove g5)), u68⟩, ⟨(some (60, false)), (.p (pMove g6)), u69⟩, ⟨(some (60, false)), (.p (pBin (bIdx 1) g68 g69)), u70⟩, ⟨(some (60, false)), (.d 4 5 (dLd g70)), u71⟩, ⟨(some (60, false)), (.e (eCall 53 [g67, g71])), u72⟩, ⟨(some (60, false)), (.p (pBin (bI fNe) g66 g72)), u73⟩, ⟨none, (.p (pPick g60 (cV (.bool true)) g73)), u74⟩] k e s
def p36_26 (k : KC) (e : E) (s : St) : Res := ltc (V.bool false) fun v0 => .nrm (u4 e v0) s
def p36_25 (k : KC) (e : E) (s : St) : Res := dSeq p36_26 dRet k e s
def p36_24 (k : KC) (e : E) (s : St) : Res := dCond g74 p36_25 dSkip k e s
def p36_22 (k : KC) (e : E) (s : St) : Res := dSeq p36_23 p36_24 k e s
def p36_28 (k : KC) (e : E) (s : St) : Res := ltc (V.i (-1)) fun v0 => .nrm (u7 e v0) s
def p36_33 (k : KC) (e : E) (s : St) : Res := lt (g7 e) fun v0 => lt (g0 e) fun v1 => lt (g5 e) fun v2 => lt (g6 e) fun v3 => bP ((pBin (bIdx 1) (cV v2) (cV v3)) e) fun v4 => bP ((dLd (cV v4)) e s) fun v5 => bE ((eCall 11 [(cV v1), (cV v5)]) k e s) fun v6 s => bP ((pBin (bI fLe) (cV v0) (cV v6)) e) fun v7 => .nrm (rw5 (rw4 e fun a b c d f g h i j l m _ _ _ _ _ => ⟨a,b,c,d,f,g,h,i,j,l,m,v0,v1,v2,v3,v4⟩) fun _ _ _ d f g h i j l m n o p q r => ⟨v5,v6,v7,d,f,g,h,i,j,l,m,n,o,p,q,r⟩) s
def p36_34 (k : KC) (e : E) (s : St) : Res := dCond g82 dSkip (dExit 2) k e s
def p36_32 (k : KC) (e : E) (s : St) : Res := dSeq p36_33 p36_34 k e s
def p36_38 (k : KC) (e : E) (s : St) : Res := lt (g0 e) fun v0 => lt (g5 e) fun v1 => lt (g6 e) fun v2 => bP ((pBin (bIdx 1) (cV v1) (cV v2)) e) fun v3 => bP ((dLd (cV v3)) e s) fun v4 => lt (g7 e) fun v5 => bE ((eCall 12 [(cV v0), (cV v4), (cV v5)]) k e s) fun v6 s => bP ((pUn (uExt 0) (cV v6)) e) fun v7 => bP ((pUn (uExt 1) (cV v6)) e) fun v8 => .nrm (rw5 (rw0 e fun a b c d f g h i _ _ m n o p q r => ⟨a,b,c,d,f,g,h,i,v7,v8,m,n,o,p,q,r⟩) fun a b c d f _ _ _ _ _ _ _ _ _ _ r => ⟨a,b,c,d,f,v6,v0,v1,v2,v3,v4,v5,v6,v7,v8,r⟩) s
def p36_40 (k : KC) (e : E) (s : St) : Res := lt (g1 e) fun v0 => lt (g5 e) fun v1 => lt (g6 e) fun v2 => bP ((pBin (bIdx 1) (cV v1) (cV v2)) e) fun v3 => bP ((dLd (cV v3)) e s) fun v4 => lt (g7 e) fun v5 => bE ((eCall 54 [(cV v0), (cV v4), (cV v5)]) k e s) fun v6 s => bP ((pUn (uExt 0) (cV v6)) e) fun v7 => bP ((pUn (uExt 1) (cV v6)) e) fun v8 => .nrm (rw6 (u95 (rw0 e fun a b c d f g h i j l _ _ o p q r => ⟨a,b,c,d,f,g,h,i,j,l,v7,v8,o,p,q,r⟩) v6) fun _ _ _ _ _ _ _ _ _ l m n o p q r => ⟨v0,v1,v2,v3,v4,v5,v6,v7,v8,l,m,n,o,p,q,r⟩) s
def p36_42 (k : KC) (e : E) (s : St) : Res := dDraw [⟨none, (.p (pMove g8)), u105⟩, ⟨none, (.p (pMove g10)), u106⟩, ⟨none, (.p (pBin (bI fNe) g105 g106)), u107⟩, ⟨none, (.p (pMove g107)), u108⟩, ⟨(some (108, false)), (.p (pMove g9)), u109⟩, ⟨(some (108, false)), (.p (pMove g11)), u110⟩, ⟨(some (108, false)), (.p (pBin (bI fNe) g109 g110)), u111⟩, ⟨none, (.p (pPick g108 (cV (.bool true)) g111)), u112⟩, ⟨none, (.p (pMove g112)), u113⟩, ⟨(some (113, false)), (.p (pMove g0)), u114⟩, ⟨(some (113, false)), (.p (pMove g5)), u115⟩, ⟨(some (113, false)), (.p (pMove g6)), u116⟩, ⟨(some (113, false)), (.p (pBin (bIdx 1) g115 g116)), u117⟩, ⟨(some (113, false)), (.d 1 0 (dLd g117)), u118⟩, ⟨(some (113, false)), (.p (pMove g7)), u119⟩, ⟨(some (113, false)), (.e (eCall 21 [g114, g118, g119])), u120⟩, ⟨(some (113, false)), (.p (pMove g1)), u121⟩, ⟨(some (113, false)), (.p (pMove g5)), u122⟩, ⟨(some (113, false)), (.p (pMove g6)), u123⟩, ⟨(some (113, false)), (.p (pBin (bIdx 1) g122 g123)), u124⟩, ⟨(some (113, false)), (.d 0 1 (dLd g124)), u125⟩, ⟨(some (113, false)), (.p (pMove g7)), u126⟩, ⟨(some (113, false)), (.e (eCall 48 [g121, g125, g126])), u127⟩, ⟨(some (113, false)), (.p (pBin (bBool true) g120 g127)), u128⟩, ⟨none, (.p (pPick g113 (cV (.bool true)) g128)), u129⟩] k e s
def p36_45 (k : KC) (e : E) (s : St) : Res := ltc (V.bool false) fun v0 => .nrm (u4 e v0) s
def p36_44 (k : KC) (e : E) (s : St) : Res := dSeq p36_45 dRet k e s
def p36_43 (k : KC) (e : E) (s : St) : Res := dCond g129 p36_44 dSkip k e s
def p36_41 (k : KC) (e : E) (s : St) : Res := dSeq p36_42 p36_43 k e s
def p36_39 (k : KC) (e : E) (s : St) : Res := dSeq p36_40 p36_41 k e s
def p36_37 (k : KC) (e : E) (s : St) : Res := dSeq p36_38 p36_39 k e s
def p36_36 (k : KC) (e : E) (s : St) : Res := dBlock 3 p36_37 k e s
def p36_46 (k : KC) (e : E) (s : St) : Res := lt (g7 e) fun v0 => bP ((pBin (bI fAdd) (cV v0) (cV (.i 1))) e) fun v1 => .nrm (rw5 (u7 e v1) fun a b c _ _ g h i j l m n o p q r => ⟨a,b,c,v0,v1,g,h,i,j,l,m,n,o,p,q,r⟩) s
def p36_35 (k : KC) (e : E) (s : St) : Res := dSeq p36_36 p36_46 k e s
def p36_31 (k : KC) (e : E) (s : St) : Res := dSeq p36_32 p36_35 k e s
def p36_30 (k : KC) (e : E) (s : St) : Res := dLoop p36_31 k e s
def p36_29 (k : KC) (e : E) (s : St) : Res := dBlock 2 p36_30 k e s
def p36_27 (k : KC) (e : E) (s : St) : Res := dSeq p36_28 p36_29 k e s
def p36_21 (k : KC) (e : E) (s : St) : Res := dSeq p36_22 p36_27 k e s
def p36_20 (k : KC) (e : E) (s : St) : Res := dBlock 1 p36_21 k e s
def p36_47 (k : KC) (e : E) (s : St) : Res := lt (g6 e) fun v0 => bP ((pBin (bI fAdd) (cV v0) (cV (.i 1))) e) fun v1 => .nrm (rw1 (u6 e v1) fun a b c d f g h i j l m n o p _ _ => ⟨a,b,c,d,f,g,h,i,j,l,m,n,o,p,v0,v1⟩) s
def p36_19 (k : KC) (e : E) (s : St) : Res := dSeq p36_20 p36_47 k e s
def p36_15 (k : KC) (e : E) (s : St) : Res := dSeq p36_16 p36_19 k e s
def p36_14 (k : KC) (e : E) (s : St) : Res := dLoop p36_15 k e s
def p36_13 (k : KC) (e : E) (s : St) : Res := dBlock 0 p36_14 k e s
def p36_11 (k : KC) (e : E) (s : St) : Res := dSeq p36_12 p36_13 k e s
def p36_49 (k : KC) (e : E) (s : St) : Res := ltc (V.bool true) fun v0 => .nrm (u4 e v0) s
def p36_48 (k : KC) (e : E) (s : St) : Res := dSeq p36_49 dRet k e s
def p36_10 (k : KC) (e : E) (s : St) : Res := dSeq p36_11 p36_48 k e s
def p36_4 (k : KC) (e : E) (s : St) : Res := dSeq p36_5 p36_10 k e s
def p36_2 (k : KC) (e : E) (s : St) : Res := dSeq p36_3 p36_4 k e s
def p36_0 (k : KC) (e : E) (s : St) : Res := dSeq p36_1 p36_2 k e s
def F36 : FDen := ⟨[u0, u1], p36_0, resV [rT g4]⟩
theorem low36 : lowFunc tt [] fok Try.f36 = some F36 := by kernel_rfl
theorem run36 : FRun Try.prog [] 36 F36 := FRun.of (lowFunc_ok ttOk fokOk mixed Try.func36 low36)
/-- (*carafe/heap.Heap).put -/
def p37_1 (k : KC) (e : E) (s : St) : Res := ltc (V.i 0) fun v0 => ltc (V.i 0) fun v1 => .nrm (rw0 e fun a b c d f g _ _ j l m n o p q r => ⟨a,b,c,d,f,g,v0,v1,j,l,m,n,o,p,q,r⟩) s
def p37_4 (k : KC) (e : E) (s : St) : Res := lt (g2 e) fun v0 => lt (g0 e) fun v1 => bE ((eCall 24 [(cV v1)]) k e s) fun v2 s => lt (g0 e) fun v3 => bE ((eCall 13 [(cV v3)]) k e s) fun v4 s => bP ((pBin (bI fSub) (cV v2) (cV v4)) e) fun v5 => bP ((pBin (bI fSub) (cV v5) (cV (.i 3))) e) fun v6 => bP ((pBin (bI fGt) (cV v0) (cV v6)) e) fun v7 => .nrm (u16 (rw0 e fun a b c d f g h i j _ _ _ _ _ _ _ => ⟨a,b,c,d,f,g,h,i,j,v0,v1,v2,v3,v4,v5,v6⟩) v7) s
def p37_7 (k : KC) (e : E) (s : St) : Res := ltc (V.i 0) fun v0 => ltc (V.i 26) fun v1 => .nrm (rw0 e fun a b c d f g _ _ j l m n o p q r => ⟨a,b,c,d,f,g,v0,v1,j,l,m,n,o,p,q,r⟩) s
def p37_6 (k : KC) (e : E) (s : St) : Res := dSeq p37_7 dRet k e s
def p37_5 (k : KC) (e : E) (s : St) : Res := dCond g16 p37_6 dSkip k e s
def p37_3 (k : KC) (e : E) (s : St) : Res := dSeq p37_4 p37_5 k e s
def p37_9 (k : KC) (e : E) (s : St) : Res := lt (g0 e) fun v0 => bP ((pUn uChk (cV v0)) e) fun v1 => bP ((pUn (uFld 2) (cV v1)) e) fun v2 => bP ((dLd (cV v2)) e s) fun v3 => .nrm (rw1 (u8 e v3) fun a _ _ _ _ g h i j l m n o p q r => ⟨a,v0,v1,v2,v3,g,h,i,j,l,m,n,o,p,q,r⟩) s
def p37_11 (k : KC) (e : E) (s : St) : Res := lt (g0 e) fun v0 => bP ((pUn uChk (cV v0)) e) fun v1 => bP ((pUn (uFld 0) (cV v1)) e) fun v2 => bP ((dLd (cV v2)) e s) fun v3 => lt (g8 e) fun v4 => lt (g8 e) fun v5 => bP ((pBin (bI fAdd) (cV v5) (cV (.i 3))) e) fun v6 => lt (g2 e) fun v7 => bP ((pBin (bI fAdd) (cV v6) (cV v7)) e) fun v8 => bP ((pSl 1 (cV v3) (some (cV v4)) (some (cV v8)) none) e) fun v9 => bE ((eClr [(.i 0)] (cV v9)) k e s) fun v10 s => .nrm (rw1 e fun a b c d f _ _ _ _ _ _ _ _ _ _ r => ⟨a,b,c,d,f,v0,v1,v2,v3,v4,v5,v6,v7,v8,v9,r⟩) s
def p37_13 (k : KC) (e : E) (s : St) : Res := lt (g0 e) fun v0 => bP ((pUn uChk (cV v0)) e) fun v1 => bP ((pUn (uFld 0) (cV v1)) e) fun v2 => bP ((dLd (cV v2)) e s) fun v3 => lt (g8 e) fun v4 => lt (g0 e) fun v5 => bP ((pUn uChk (cV v5)) e) fun v6 => bP ((pUn (uFld 0) (cV v6)) e) fun v7 => bP ((dLd (cV v7)) e s) fun v8 => lt (g8 e) fun v9 => bP ((pBin (bI fAdd) (cV v9) (cV (.i 1))) e) fun v10 => lt (g1 e) fun v11 => lt (g2 e) fun v12 => bP ((pBin (bIdx 1) (cV v3) (cV v4)) e) fun v13 => bE ((eSt 1 (cV v13) (cV v11)) k e s) fun v14 s => bP ((pBin (bIdx 1) (cV v8) (cV v10)) e) fun v15 => bE ((eSt 1 (cV v15) (cV v12)) k e s) fun v16 s => .nrm (rw2 (u31 e v0) fun _ _ _ _ _ _ _ _ _ _ _ _ _ _ q r => ⟨v1,v2,v3,v4,v5,v6,v7,v8,v9,v10,v11,v12,v13,v15,q,r⟩) s
def p37_15 (k : KC) (e : E) (s : St) : Res := lt (g0 e) fun v0 => bP ((pUn uChk (cV v0)) e) fun v1 => bP ((pUn (uFld 1) (cV v1)) e) fun v2 => bP ((dLd (cV v2)) e s) fun v3 => lt (g8 e) fun v4 => bP ((pBin (bIdx 1) (cV v3) (cV v4)) e) fun v5 => bE ((eSt 1 (cV v5) (cV (.bool true))) k e s) fun v6 s => .nrm (rw3 (rw2 e fun a b c d f g h i j l m n o p _ _ => ⟨a,b,c,d,f,g,h,i,j,l,m,n,o,p,v0,v1⟩) fun _ _ _ _ f g h i j l m n o p q r => ⟨v2,v3,v4,v5,f,g,h,i,j,l,m,n,o,p,q,r⟩) s
def p37_17 (k : KC) (e : E) (s : St) : Res := lt (g0 e) fun v0 => bP ((pUn uChk (cV v0)) e) fun v1 => bP ((pUn (uFld 2) (cV v1)) e) fun v2 => bP ((dLd (cV v2)) e s) fun v3 => lt (g2 e) fun v4 => bP ((pBin (bI fAdd) (cV (.i 3)) (cV v4)) e) fun v5 => bP ((pBin (bI fAdd) (cV v3) (cV v5)) e) fun v6 => bP ((pUn uChk (cV v0)) e) fun v7 => bP ((pUn (uFld 2) (cV v7)) e) fun v8 => bE ((eSt 1 (cV v8) (cV v6)) k e s) fun v9 s => .nrm (rw3 e fun a b c d _ _ _ _ _ _ _ _ _ p q r => ⟨a,b,c,d,v0,v1,v2,v3,v4,v5,v6,v7,v8,p,q,r⟩) s
def p37_19 (k : KC) (e : E) (s : St) : Res := lt (g8 e) fun v0 => ltc (V.i 0) fun v1 => .nrm (u61 (rw0 e fun a b c d f g _ _ j l m n o p q r => ⟨a,b,c,d,f,g,v0,v1,j,l,m,n,o,p,q,r⟩) v0) s
def p37_18 (k : KC) (e : E) (s : St) : Res := dSeq p37_19 dRet k e s
def p37_16 (k : KC) (e : E) (s : St) : Res := dSeq p37_17 p37_18 k e s
def p37_14 (k : KC) (e : E) (s : St) : Res := dSeq p37_15 p37_16 k e s
def p37_12 (k : KC) (e : E) (s : St) : Res := dSeq p37_13 p37_14 k e s
def p37_10 (k : KC) (e : E) (s : St) : Res := dSeq p37_11 p37_12 k e s
def p37_8 (k : KC) (e : E) (s : St) : Res := dSeq p37_9 p37_10 k e s
def p37_2 (k : KC) (e : E) (s : St) : Res := dSeq p37_3 p37_8 k e s
def p37_0 (k : KC) (e : E) (s : St) : Res := dSeq p37_1 p37_2 k e s
def F37 : FDen := ⟨[u0, u1, u2], p37_0, resV [rT g6, rT g7]⟩
theorem low37 : lowFunc tt [] fok Try.f37 = some F37 := by kernel_rfl
theorem run37 : FRun Try.prog [] 37 F37 := FRun.of (lowFunc_ok ttOk fokOk mixed Try.func37 low37)
/-- (*carafe/heap.Heap).field -/
def p38_1 (k : KC) (e : E) (s : St) : Res := ltc (V.i 0) fun v0 => ltc (V.bool false) fun v1 => .nrm (rw0 e fun a b c d f g _ _ j l m n o p q r => ⟨a,b,c,d,f,g,v0,v1,j,l,m,n,o,p,q,r⟩) s
def p38_3 (k : KC) (e : E) (s : St) : Res := lt (g1 e) fun v0 => bP ((pBin (bI fAdd) (cV v0) (cV (.i 3))) e) fun v1 => lt (g2 e) fun v2 => bP ((pBin (bI fAdd) (cV v1) (cV v2)) e) fun v3 => lt (g2 e) fun v4 => bP ((pBin (bI fGe) (cV v4) (cV (.i 0))) e) fun v5 => bP (gdV v5 true ((pMove g2) e)) fun v6 => bP (gdV v5 true ((pMove g0) e)) fun v7 => bP (gdV v5 true ((pMove g1) e)) fun v8 => bE (gdW v5 true s ((eCall 11 [(cV v7), (cV v8)]) k e s)) fun v9 s => bP (gdV v5 true ((pBin (bI fLt) (cV v6) (cV v9)) e)) fun v10 => bP ((pPick (cV v5) (cV v10) (cV (.bool false))) e) fun v11 => .nrm (rw1 (rw0 e fun a b c d f g _ _ _ _ _ _ _ _ _ _ => ⟨a,b,c,d,f,g,v3,v11,v0,v1,v2,v3,v4,v5,v5,v6⟩) fun _ _ _ _ _ g h i j l m n o p q r => ⟨v7,v8,v9,v10,v11,g,h,i,j,l,m,n,o,p,q,r⟩) s
def p38_2 (k : KC) (e : E) (s : St) : Res := dSeq p38_3 dRet k e s
def p38_0 (k : KC) (e : E) (s : St) : Res := dSeq p38_1 p38_2 k e s
def F38 : FDen := ⟨[u0, u1, u2], p38_0, resV [rT g6, rT g7]⟩
theorem low38 : lowFunc tt [] fok Try.f38 = some F38 := by kernel_rfl
theorem run38 : FRun Try.prog [] 38 F38 := FRun.of (lowFunc_ok ttOk fokOk mixed Try.func38 low38)
/-- (*carafe/heap.Heap).fits -/
def p39_1 (k : KC) (e : E) (s : St) : Res := ltc (V.bool false) fun v0 => .nrm (u4 e v0) s
def p39_3 (k : KC) (e : E) (s : St) : Res := lt (g1 e) fun v0 => bP ((pBin (bI fGe) (cV v0) (cV (.i 0))) e) fun v1 => bP (gdV v1 true ((pMove g1) e)) fun v2 => bP (gdV v1 true ((pMove g0) e)) fun v3 => bP (gdV v1 true ((pUn uChk (cV v3)) e)) fun v4 => bP (gdV v1 true ((pUn (uFld 1) (cV v4)) e)) fun v5 => bP (gdV v1 true ((dLd (cV v5)) e s)) fun v6 => bP (gdV v1 true ((pUn uLenS (cV v6)) e)) fun v7 => bP (gdV v1 true ((pBin (bI fLt) (cV v2) (cV v7)) e)) fun v8 => bP ((pPick (cV v1) (cV v8) (cV (.bool false))) e) fun v9 => bP (gdV v9 true ((pMove g1) e)) fun v10 => bP (gdV v9 true ((pBin (bI fEq) (cV v10) (cV (.i 0))) e)) fun v11 => bP (gdV v9 true ((pMove (cV v11)) e)) fun v12 => bP (gdV v12 false ((pMove g0) e)) fun v13 => bP (gdV v12 false ((pMove g1) e)) fun v14 => bE (gdW v12 false s ((eCall 40 [(cV v13), (cV v14)]) k e s)) fun v15 s => bP (gdV v9 true ((pPick (cV v12) (cV (.bool true)) (cV v15)) e)) fun v16 => bP ((pPick (cV v9) (cV v16) (cV (.bool false))) e) fun v17 => .nrm (rw1 (rw0 e fun a b c d _ _ _ _ _ _ _ _ _ _ _ _ => ⟨a,b,c,d,v17,v0,v1,v1,v2,v3,v4,v5,v6,v7,v8,v9⟩) fun _ _ _ _ _ _ _ _ _ l m n o p q r => ⟨v9,v10,v11,v12,v13,v14,v15,v16,v17,l,m,n,o,p,q,r⟩) s
def p39_2 (k : KC) (e : E) (s : St) : Res := dSeq p39_3 dRet k e s
def p39_0 (k : KC) (e : E) (s : St) : Res := dSeq p39_1 p39_2 k e s
def F39 : FDen := ⟨[u0, u1], p39_0, resV [rT g4]⟩
theorem low39 : lowFunc tt [] fok Try.f39 = some F39 := by kernel_rfl
theorem run39 : FRun Try.prog [] 39 F39 := FRun.of (lowFunc_ok ttOk fokOk mixed Try.func39 low39)
/-- (*carafe/heap.Heap).is -/
def p40_1 (k : KC) (e : E) (s : St) : Res := ltc (V.bool false) fun v0 => .nrm (u4 e v0) s
def p40_3 (k : KC) (e : E) (s : St) : Res := lt (g1 e) fun v0 => bP ((pBin (bI fGt) (cV v0) (cV (.i 0))) e) fun v1 => bP (gdV v1 true ((pMove g1) e)) fun v2 => bP (gdV v1 true ((pMove g0) e)) fun v3 => bP (gdV v1 true ((pUn uChk (cV v3)) e)) fun v4 => bP (gdV v1 true ((pUn (uFld 1) (cV v4)) e)) fun v5 => bP (gdV v1 true ((dLd (cV v5)) e s)) fun v6 => bP (gdV v1 true ((pUn uLenS (cV v6)) e)) fun v7 => bP (gdV v1 true ((pBin (bI fLt) (cV v2) (cV v7)) e)) fun v8 => bP ((pPick (cV v1) (cV v8) (cV (.bool false))) e) fun v9 => bP (gdV v9 true ((pMove g0) e)) fun v10 => bP (gdV v9 true ((pUn uChk (cV v10)) e)) fun v11 => bP (gdV v9 true ((pUn (uFld 1) (cV v11)) e)) fun v12 => bP (gdV v9 true ((dLd (cV v12)) e s)) fun v13 => bP (gdV v9 true ((pMove g1) e)) fun v14 => bP (gdV v9 true ((pBin (bIdx 1) (cV v13) (cV v14)) e)) fun v15 => bP (gdV v9 true ((dLd (cV v15)) e s)) fun v16 => bP ((pPick (cV v9) (cV v16) (cV (.bool false))) e) fun v17 => .nrm (rw1 (rw0 e fun a b c d _ _ _ _ _ _ _ _ _ _ _ _ => ⟨a,b,c,d,v17,v0,v1,v1,v2,v3,v4,v5,v6,v7,v8,v9⟩) fun _ _ _ _ _ _ _ _ _ l m n o p q r => ⟨v9,v10,v11,v12,v13,v14,v15,v16,v17,l,m,n,o,p,q,r⟩) s
def p40_2 (k : KC) (e : E) (s : St) : Res := dSeq p40_3 dRet k e s
def p40_0 (k : KC) (e : E) (s : St) : Res := dSeq p40_1 p40_2 k e s
def F40 : FDen := ⟨[u0, u1], p40_0, resV [rT g4]⟩
theorem low40 : lowFunc tt [] fok Try.f40 = some F40 := by kernel_rfl
theorem run40 : FRun Try.prog [] 40 F40 := FRun.of (lowFunc_ok ttOk fokOk mixed Try.func40 low40)
/-- slices.Clone[[]bool,bool] -/
def p41_1 (k : KC) (e : E) (s : St) : Res := ltc (V.nils) fun v0 => .nrm (u2 e v0) s
def p41_4 (k : KC) (e : E) (s : St) : Res := lt (g0 e) fun v0 => bP ((pBin (bNil false nilS) (cV v0) (cV .nils)) e) fun v1 => .nrm (rw0 e fun a b c _ _ g h i j l m n o p q r => ⟨a,b,c,v0,v1,g,h,i,j,l,m,n,o,p,q,r⟩) s
def p41_7 (k : KC) (e : E) (s : St) : Res := ltc (V.nils) fun v0 => .nrm (u2 e v0) s
def p41_6 (k : KC) (e : E) (s : St) : Res := dSeq p41_7 dRet k e s
def p41_5 (k : KC) (e : E) (s : St) : Res := dCond g4 p41_6 dSkip k e s
def p41_3 (k : KC) (e : E) (s : St) : Res := dSeq p41_4 p41_5 k e s
def p41_9 (k : KC) (e : E) (s : St) : Res := bE (aSt ((aBSl 0 1 [] []) e s.next) s) fun v0 s => lt (g0 e) fun v1 => bE ((eAp 1 (cV v0) (cV v1)) k e s) fun v2 s => .nrm (rw0 e fun a b _ d f _ _ _ j l m n o p q r => ⟨a,b,v2,d,f,v0,v1,v2,j,l,m,n,o,p,q,r⟩) s
def p41_8 (k : KC) (e : E) (s : St) : Res := dSeq p41_9 dRet k e s
def p41_2 (k : KC) (e : E) (s : St) : Res := dSeq p41_3 p41_8 k e s
def p41_0 (k : KC) (e : E) (s : St) : Res := dSeq p41_1 p41_2 k e s
def F41 : FDen := ⟨[u0], p41_0, resV [rT g2]⟩
theorem low41 : lowFunc tt [] fok Try.f41 = some F41 := by kernel_rfl
theorem run41 : FRun Try.prog [] 41 F41 := FRun.of (lowFunc_ok ttOk fokOk mixed Try.func41 low41)
/-- (*carafe/heap.Heap).Slide$1 -/
def p42_1 (k : KC) (e : E) (s : St) : Res := ltc (V.bool false) fun v0 => .nrm (u4 e v0) s
def p42_4 (k : KC) (e : E) (s : St) : Res := bP ((dLd g1) e s) fun v0 => bP ((pUn uLenS (cV v0)) e) fun v1 => ltc (V.i 0) fun v2 => .nrm (rw0 e fun a b c d f g h i _ _ _ n o p q r => ⟨a,b,c,d,f,g,h,i,v0,v1,v2,n,o,p,q,r⟩) s
def p42_8 (k : KC) (e : E) (s : St) : Res := bP ((pBin (bI fLt) g10 g9) e) fun v0 => .nrm (u11 e v0) s
def p42_10 (k : KC) (e : E) (s : St) : Res := dCond g11 dSkip (dExit 0) k e s
def p42_14 (k : KC) (e : E) (s : St) : Res := bP ((pBin (bIdx 1) g8 g10) e) fun v0 => bP ((dLd (cV v0)) e s) fun v1 => .nrm (rw0 e fun a b c d f g _ i j l m n _ _ q r => ⟨a,b,c,d,f,g,v1,i,j,l,m,n,v0,v1,q,r⟩) s
def p42_16 (k : KC) (e : E) (s : St) : Res := bP ((dLd g2) e s) fun v0 => lt (g6 e) fun v1 => bE ((eCall 11 [(cV v0), (cV v1)]) k e s) fun v2 s => ltc (V.i 0) fun v3 => .nrm (rw1 (rw0 e fun a b c d f g h i j l m n o p _ _ => ⟨a,b,c,d,f,g,h,i,j,l,m,n,o,p,v0,v1⟩) fun _ _ c d f g h i j l m n o p q r => ⟨v2,v3,c,d,f,g,h,i,j,l,m,n,o,p,q,r⟩) s
def p42_20 (k : KC) (e : E) (s : St) : Res := bP ((pBin (bI fLt) g17 g16) e) fun v0 => .nrm (u18 e v0) s
def p42_22 (k : KC) (e : E) (s : St) : Res := dCond g18 dSkip (dExit 2) k e s
def p42_26 (k : KC) (e : E) (s : St) : Res := lt (g17 e) fun v0 => .nrm (u19 (u7 e v0) v0) s
def p42_28 (k : KC) (e : E) (s : St) : Res := bP ((dLd g2) e s) fun v0 => lt (g6 e) fun v1 => lt (g7 e) fun v2 => bE ((eCall 21 [(cV v0), (cV v1), (cV v2)]) k e s) fun v3 s => bP (gdV v3 true ((pMove g0) e)) fun v4 => bP (gdV v3 true ((pMove g6) e)) fun v5 => bP (gdV v3 true ((pMove g7) e)) fun v6 => bE (gdW v3 true s ((eCallV fok (cV v4) [(cV v5), (cV v6)]) k e s)) fun v7 s => bP (gdV v3 true ((pUn uNot (cV v7)) e)) fun v8 => bP ((pPick (cV v3) (cV v8) (cV (.bool false))) e) fun v9 => .nrm (rw1 e fun a b c d _ _ _ _ _ _ _ _ _ _ _ r => ⟨a,b,c,d,v0,v1,v2,v3,v3,v4,v5,v6,v7,v8,v9,r⟩) s
def p42_31 (k : KC) (e : E) (s : St) : Res := ltc (V.bool false) fun v0 => .nrm (u4 e v0) s
def p42_30 (k : KC) (e : E) (s : St) : Res := dSeq p42_31 dRet k e s
def p42_29 (k : KC) (e : E) (s : St) : Res := dCond g30 p42_30 dSkip k e s
def p42_27 (k : KC) (e : E) (s : St) : Res := dSeq p42_28 p42_29 k e s
def p42_25 (k : KC) (e : E) (s : St) : Res := dSeq p42_26 p42_27 k e s
def p42_24 (k : KC) (e : E) (s : St) : Res := dBlock 3 p42_25 k e s
def p42_32 (k : KC) (e : E) (s : St) : Res := bP ((pBin (bI fAdd) g17 (cV (.i 1))) e) fun v0 => .nrm (rw1 e fun a _ c d f g h i j l m n o p q _ => ⟨a,v0,c,d,f,g,h,i,j,l,m,n,o,p,q,v0⟩) s
def p42_23 (k : KC) (e : E) (s : St) : Res := dSeq p42_24 p42_32 k e s
def p42_21 (k : KC) (e : E) (s : St) : Res := dSeq p42_22 p42_23 k e s
def p42_19 (k : KC) (e : E) (s : St) : Res := dSeq p42_20 p42_21 k e s
def p42_18 (k : KC) (e : E) (s : St) : Res := dLoop p42_19 k e s
def p42_17 (k : KC) (e : E) (s : St) : Res := dBlock 2 p42_18 k e s
def p42_15 (k : KC) (e : E) (s : St) : Res := dSeq p42_16 p42_17 k e s
def p42_13 (k : KC) (e : E) (s : St) : Res := dSeq p42_14 p42_15 k e s
def p42_12 (k : KC) (e : E) (s : St) : Res := dBlock 1 p42_13 k e s
def p42_33 (k : KC) (e : E) (s : St) : Res := bP ((pBin (bI fAdd) g10 (cV (.i 1))) e) fun v0 => .nrm (u32 (u10 e v0) v0) s
def p42_11 (k : KC) (e : E) (s : St) : Res := dSeq p42_12 p42_33 k e s
def p42_9 (k : KC) (e : E) (s : St) : Res := dSeq p42_10 p42_11 k e s
def p42_7 (k : KC) (e : E) (s : St) : Res := dSeq p42_8 p42_9 k e s
def p42_6 (k : KC) (e : E) (s : St) : Res := dLoop p42_7 k e s
def p42_5 (k : KC) (e : E) (s : St) : Res := dBlock 0 p42_6 k e s
def p42_3 (k : KC) (e : E) (s : St) : Res := dSeq p42_4 p42_5 k e s
def p42_35 (k : KC) (e : E) (s : St) : Res := ltc (V.bool true) fun v0 => .nrm (u4 e v0) s
def p42_34 (k : KC) (e : E) (s : St) : Res := dSeq p42_35 dRet k e s
def p42_2 (k : KC) (e : E) (s : St) : Res := dSeq p42_3 p42_34 k e s
def p42_0 (k : KC) (e : E) (s : St) : Res := dSeq p42_1 p42_2 k e s
def F42 : FDen := ⟨[u0, u1, u2], p42_0, resV [rT g4]⟩
theorem low42 : lowFunc tt [] fok Try.f42 = some F42 := by kernel_rfl
theorem run42 : FRun Try.prog [] 42 F42 := FRun.of (lowFunc_ok ttOk fokOk mixed Try.func42 low42)
/-- (*carafe/heap.Heap).Slide$2 -/
def p43_1 (k : KC) (e : E) (s : St) : Res := ltc (V.bool false) fun v0 => .nrm (u6 e v0) s
def p43_3 (k : KC) (e : E) (s : St) : Res := bP ((dLd g2) e s) fun v0 => bP ((dLd g3) e s) fun v1 => bP ((pUn uChk (cV v1)) e) fun v2 => bP ((pUn (uFld 0) (cV v2)) e) fun v3 => bP ((dLd (cV v3)) e s) fun v4 => lt (g0 e) fun v5 => bP ((pBin (bI fAdd) (cV v5) (cV (.i 3))) e) fun v6 => lt (g1 e) fun v7 => bP ((pBin (bI fAdd) (cV v6) (cV v7)) e) fun v8 => bP ((pBin (bIdx 1) (cV v4) (cV v8)) e) fun v9 => bP ((dLd (cV v9)) e s) fun v10 => bP ((dLk eqKI (.i 0) true (cV v0) (cV v10)) e s) fun v11 => bP ((pUn (uExt 0) (cV v11)) e) fun v12 => bP ((pUn (uExt 1) (cV v11)) e) fun v13 => .nrm (rw1 (rw0 e fun a b c d f g h _ _ _ _ _ _ _ _ _ => ⟨a,b,c,d,f,g,h,v12,v13,v11,v0,v1,v2,v3,v4,v5⟩) fun _ _ _ _ _ _ _ _ j l m n o p q r => ⟨v6,v7,v8,v9,v10,v11,v12,v13,j,l,m,n,o,p,q,r⟩) s
def p43_5 (k : KC) (e : E) (s : St) : Res := lt (g8 e) fun v0 => .nrm (u24 (u6 e v0) v0) s
def p43_4 (k : KC) (e : E) (s : St) : Res := dSeq p43_5 dRet k e s
def p43_2 (k : KC) (e : E) (s : St) : Res := dSeq p43_3 p43_4 k e s
def p43_0 (k : KC) (e : E) (s : St) : Res := dSeq p43_1 p43_2 k e s
def F43 : FDen := ⟨[u0, u1, u2, u3], p43_0, resV [rT g6]⟩
theorem low43 : lowFunc tt [] fok Try.f43 = some F43 := by kernel_rfl
theorem run43 : FRun Try.prog [] 43 F43 := FRun.of (lowFunc_ok ttOk fokOk mixed Try.func43 low43)
/-- (*carafe/heap.Heap).Slide$3 -/
def p44_1 (k : KC) (e : E) (s : St) : Res := ltc (V.bool false) fun v0 => .nrm (u6 e v0) s
def p44_3 (k : KC) (e : E) (s : St) : Res := bP ((dLd g3) e s) fun v0 => bP ((pUn uChk (cV v0)) e) fun v1 => bP ((pUn (uFld 0) (cV v1)) e) fun v2 => bP ((dLd (cV v2)) e s) fun v3 => lt (g0 e) fun v4 => bP ((pBin (bI fAdd) (cV v4) (cV (.i 3))) e) fun v5 => lt (g1 e) fun v6 => bP ((pBin (bI fAdd) (cV v5) (cV v6)) e) fun v7 => bP ((dLd g2) e s) fun v8 => bP ((dLd g3) e s) fun v9 => bP ((pUn uChk (cV v9)) e) fun v10 => bP ((pUn (uFld 0) (cV v10)) e) fun v11 => bP ((dLd (cV v11)) e s) fun v12 => lt (g0 e) fun v13 => bP ((pBin (bI fAdd) (cV v13) (cV (.i 3))) e) fun v14 => lt (g1 e) fun v15 => bP ((pBin (bI fAdd) (cV v14) (cV v15)) e) fun v16 => bP ((pBin (bIdx 1) (cV v12) (cV v16)) e) fun v17 => bP ((dLd (cV v17)) e s) fun v18 => bP ((dLk eqKI (.i 0) false (cV v8) (cV v18)) e s) fun v19 => bP ((pBin (bIdx 1) (cV v3) (cV v7)) e) fun v20 => bE ((eSt 1 (cV v20) (cV v19)) k e s) fun v21 s => .nrm (rw1 (rw0 e fun a b c d f g h _ _ _ _ _ _ _ _ _ => ⟨a,b,c,d,f,g,h,v0,v1,v2,v3,v4,v5,v6,v7,v8⟩) fun _ _ _ _ _ _ _ _ _ _ _ _ o p q r => ⟨v9,v10,v11,v12,v13,v14,v15,v16,v17,v18,v19,v20,o,p,q,r⟩) s
def p44_5 (k : KC) (e : E) (s : St) : Res := ltc (V.bool true) fun v0 => .nrm (u6 e v0) s
def p44_4 (k : KC) (e : E) (s : St) : Res := dSeq p44_5 dRet k e s
def p44_2 (k : KC) (e : E) (s : St) : Res := dSeq p44_3 p44_4 k e s
def p44_0 (k : KC) (e : E) (s : St) : Res := dSeq p44_1 p44_2 k e s
def F44 : FDen := ⟨[u0, u1, u2, u3], p44_0, resV [rT g6]⟩
theorem low44 : lowFunc tt [] fok Try.f44 = some F44 := by kernel_rfl
theorem run44 : FRun Try.prog [] 44 F44 := FRun.of (lowFunc_ok ttOk fokOk mixed Try.func44 low44)
/-- (*carafe/heap.Heap).slide -/
def p45_1 (k : KC) (e : E) (s : St) : Res := lt (g1 e) fun v0 => bP ((pUn uLenS (cV v0)) e) fun v1 => bE (aSt ((aMkS 1 8 [(.i 0)] (cV v1) (cV v1)) e s.next) s) fun v2 s => .nrm (rw0 e fun a b c d f g _ i j l m _ _ _ q r => ⟨a,b,c,d,f,g,v2,i,j,l,m,v0,v1,v2,q,r⟩) s
def p45_4 (k : KC) (e : E) (s : St) : Res := lt (g1 e) fun v0 => bP ((pUn uLenS (cV v0)) e) fun v1 => ltc (V.i 0) fun v2 => .nrm (u16 (rw0 e fun a b c d f g h i j l m n o p _ _ => ⟨a,b,c,d,f,g,h,i,j,l,m,n,o,p,v0,v1⟩) v2) s
def p45_8 (k : KC) (e : E) (s : St) : Res := bP ((pBin (bI fLt) g16 g15) e) fun v0 => .nrm (u17 e v0) s
def p45_10 (k : KC) (e : E) (s : St) : Res := dCond g17 dSkip (dExit 0) k e s
def p45_14 (k : KC) (e : E) (s : St) : Res := lt (g16 e) fun v0 => bP ((pBin (bIdx 1) g14 g16) e) fun v1 => bP ((dLd (cV v1)) e s) fun v2 => .nrm (rw1 (rw0 e fun a b c d f g h _ _ l m n o p q r => ⟨a,b,c,d,f,g,h,v0,v2,l,m,n,o,p,q,r⟩) fun a b _ _ _ g h i j l m n o p q r => ⟨a,b,v0,v1,v2,g,h,i,j,l,m,n,o,p,q,r⟩) s
def p45_15 (k : KC) (e : E) (s : St) : Res := lt (g6 e) fun v0 => lt (g7 e) fun v1 => lt (g0 e) fun v2 => lt (g8 e) fun v3 => bE ((eCall 11 [(cV v2), (cV v3)]) k e s) fun v4 s => bP ((pBin (bI fAdd) (cV (.i 3)) (cV v4)) e) fun v5 => bP ((pBin (bIdx 1) (cV v0) (cV v1)) e) fun v6 => bE ((eSt 1 (cV v6) (cV v5)) k e s) fun v7 s => .nrm (rw1 e fun a b c d f _ _ _ _ _ _ _ o p q r => ⟨a,b,c,d,f,v0,v1,v2,v3,v4,v5,v6,o,p,q,r⟩) s
def p45_13 (k : KC) (e : E) (s : St) : Res := dSeq p45_14 p45_15 k e s
def p45_12 (k : KC) (e : E) (s : St) : Res := dBlock 1 p45_13 k e s
def p45_16 (k : KC) (e : E) (s : St) : Res := bP ((pBin (bI fAdd) g16 (cV (.i 1))) e) fun v0 => .nrm (rw1 e fun _ b c d f g h i j l m n _ p q r => ⟨v0,b,c,d,f,g,h,i,j,l,m,n,v0,p,q,r⟩) s
def p45_11 (k : KC) (e : E) (s : St) : Res := dSeq p45_12 p45_16 k e s
def p45_9 (k : KC) (e : E) (s : St) : Res := dSeq p45_10 p45_11 k e s
def p45_7 (k : KC) (e : E) (s : St) : Res := dSeq p45_8 p45_9 k e s
def p45_6 (k : KC) (e : E) (s : St) : Res := dLoop p45_7 k e s
def p45_5 (k : KC) (e : E) (s : St) : Res := dBlock 0 p45_6 k e s
def p45_3 (k : KC) (e : E) (s : St) : Res := dSeq p45_4 p45_5 k e s
def p45_18 (k : KC) (e : E) (s : St) : Res := lt (g0 e) fun v0 => bP ((pUn uChk (cV v0)) e) fun v1 => bP ((pUn (uFld 1) (cV v1)) e) fun v2 => bP ((dLd (cV v2)) e s) fun v3 => bE ((eClr [(.bool false)] (cV v3)) k e s) fun v4 s => .nrm (u32 (rw1 e fun a b c d f g h i j l m n o _ _ _ => ⟨a,b,c,d,f,g,h,i,j,l,m,n,o,v0,v1,v2⟩) v3) s
def p45_20 (k : KC) (e : E) (s : St) : Res := lt (g0 e) fun v0 => bP ((pUn uChk (cV v0)) e) fun v1 => bP ((pUn (uFld 2) (cV v1)) e) fun v2 => bE ((eSt 1 (cV v2) (cV (.i 1))) k e s) fun v3 s => .nrm (rw2 e fun a _ _ _ f g h i j l m n o p q r => ⟨a,v0,v1,v2,f,g,h,i,j,l,m,n,o,p,q,r⟩) s
def p45_23 (k : KC) (e : E) (s : St) : Res := lt (g6 e) fun v0 => bP ((pUn uLenS (cV v0)) e) fun v1 => ltc (V.i 0) fun v2 => .nrm (rw2 e fun a b c d _ _ _ i j l m n o p q r => ⟨a,b,c,d,v0,v1,v2,i,j,l,m,n,o,p,q,r⟩) s
def p45_27 (k : KC) (e : E) (s : St) : Res := bP ((pBin (bI fLt) g38 g37) e) fun v0 => .nrm (u39 e v0) s
def p45_29 (k : KC) (e : E) (s : St) : Res := dCond g39 dSkip (dExit 2) k e s
def p45_33 (k : KC) (e : E) (s : St) : Res := lt (g38 e) fun v0 => bP ((pBin (bIdx 1) g36 g38) e) fun v1 => bP ((dLd (cV v1)) e s) fun v2 => .nrm (rw2 (rw0 e fun a b c d f g h i j _ _ n o p q r => ⟨a,b,c,d,f,g,h,i,j,v0,v2,n,o,p,q,r⟩) fun a b c d f g h i _ _ _ n o p q r => ⟨a,b,c,d,f,g,h,i,v0,v1,v2,n,o,p,q,r⟩) s
def p45_35 (k : KC) (e : E) (s : St) : Res := lt (g0 e) fun v0 => bP ((pUn uChk (cV v0)) e) fun v1 => bP ((pUn (uFld 0) (cV v1)) e) fun v2 => bP ((dLd (cV v2)) e s) fun v3 => lt (g2 e) fun v4 => lt (g9 e) fun v5 => bP ((pBin (bIdx 1) (cV v4) (cV v5)) e) fun v6 => bP ((dLd (cV v6)) e s) fun v7 => bP ((pSl 1 (cV v3) (some (cV v7)) none none) e) fun v8 => lt (g0 e) fun v9 => bP ((pUn uChk (cV v9)) e) fun v10 => bP ((pUn (uFld 0) (cV v10)) e) fun v11 => bP ((dLd (cV v11)) e s) fun v12 => lt (g1 e) fun v13 => lt (g9 e) fun v14 => bP ((pBin (bIdx 1) (cV v13) (cV v14)) e) fun v15 => bP ((dLd (cV v15)) e s) fun v16 => lt (g1 e) fun v17 => lt (g9 e) fun v18 => bP ((pBin (bIdx 1) (cV v17) (cV v18)) e) fun v19 => bP ((dLd (cV v19)) e s) fun v20 => lt (g10 e) fun v21 => bP ((pBin (bI fAdd) (cV v20) (cV v21)) e) fun v22 => bP ((pSl 1 (cV v12) (some (cV v16)) (some (cV v22)) none) e) fun v23 => bE ((eCp 1 (cV v8) (cV v23)) k e s) fun v24 s => .nrm (rw4 (rw3 (rw2 e fun a b c d f g h i j l m _ _ _ _ _ => ⟨a,b,c,d,f,g,h,i,j,l,m,v0,v1,v2,v3,v4⟩) fun _ _ _ _ _ _ _ _ _ _ _ _ _ _ _ _ => ⟨v5,v6,v7,v8,v9,v10,v11,v12,v13,v14,v15,v16,v17,v18,v19,v20⟩) fun _ _ _ _ f g h i j l m n o p q r => ⟨v21,v22,v23,v24,f,g,h,i,j,l,m,n,o,p,q,r⟩) s
def p45_37 (k : KC) (e : E) (s : St) : Res := lt (g0 e) fun v0 => bP ((pUn uChk (cV v0)) e) fun v1 => bP ((pUn (uFld 1) (cV v1)) e) fun v2 => bP ((dLd (cV v2)) e s) fun v3 => lt (g2 e) fun v4 => lt (g9 e) fun v5 => bP ((pBin (bIdx 1) (cV v4) (cV v5)) e) fun v6 => bP ((dLd (cV v6)) e s) fun v7 => bP ((pBin (bIdx 1) (cV v3) (cV v7)) e) fun v8 => bE ((eSt 1 (cV v8) (cV (.bool true))) k e s) fun v9 s => .nrm (rw4 e fun a b c d _ _ _ _ _ _ _ _ _ p q r => ⟨a,b,c,d,v0,v1,v2,v3,v4,v5,v6,v7,v8,p,q,r⟩) s
def p45_38 (k : KC) (e : E) (s : St) : Res := lt (g0 e) fun v0 => lt (g2 e) fun v1 => lt (g9 e) fun v2 => bP ((pBin (bIdx 1) (cV v1) (cV v2)) e) fun v3 => bP ((dLd (cV v3)) e s) fun v4 => lt (g10 e) fun v5 => bP ((pBin (bI fAdd) (cV v4) (cV v5)) e) fun v6 => bP ((pUn uChk (cV v0)) e) fun v7 => bP ((pUn (uFld 2) (cV v7)) e) fun v8 => bE ((eSt 1 (cV v8) (cV v6)) k e s) fun v9 s => .nrm (rw5 (rw4 e fun a b c d f g h i j l m n o _ _ _ => ⟨a,b,c,d,f,g,h,i,j,l,m,n,o,v0,v1,v2⟩) fun _ _ _ _ _ _ h i j l m n o p q r => ⟨v3,v4,v5,v6,v7,v8,h,i,j,l,m,n,o,p,q,r⟩) s
def p45_36 (k : KC) (e : E) (s : St) : Res := dSeq p45_37 p45_38 k e s
def p45_34 (k : KC) (e : E) (s : St) : Res := dSeq p45_35 p45_36 k e s
def p45_32 (k : KC) (e : E) (s : St) : Res := dSeq p45_33 p45_34 k e s
def p45_31 (k : KC) (e : E) (s : St) : Res := dBlock 3 p45_32 k e s
def p45_39 (k : KC) (e : E) (s : St) : Res := bP ((pBin (bI fAdd) g38 (cV (.i 1))) e) fun v0 => .nrm (u86 (u38 e v0) v0) s
def p45_30 (k : KC) (e : E) (s : St) : Res := dSeq p45_31 p45_39 k e s
def p45_28 (k : KC) (e : E) (s : St) : Res := dSeq p45_29 p45_30 k e s
def p45_26 (k : KC) (e : E) (s : St) : Res := dSeq p45_27 p45_28 k e s
def p45_25 (k : KC) (e : E) (s : St) : Res := dLoop p45_26 k e s
def p45_24 (k : KC) (e : E) (s : St) : Res := dBlock 2 p45_25 k e s
def p45_22 (k : KC) (e : E) (s : St) : Res := dSeq p45_23 p45_24 k e s
def p45_40 (k : KC) (e : E) (s : St) : Res := lt (g0 e) fun v0 => bP ((pUn uChk (cV v0)) e) fun v1 => bP ((pUn (uFld 0) (cV v1)) e) fun v2 => bP ((dLd (cV v2)) e s) fun v3 => lt (g0 e) fun v4 => bP ((pUn uChk (cV v4)) e) fun v5 => bP ((pUn (uFld 2) (cV v5)) e) fun v6 => bP ((dLd (cV v6)) e s) fun v7 => bP ((pSl 1 (cV v3) (some (cV v7)) none none) e) fun v8 => bE ((eClr [(.i 0)] (cV v8)) k e s) fun v9 s => .nrm (rw5 e fun a b c d f g h _ _ _ _ _ _ _ _ _ => ⟨a,b,c,d,f,g,h,v0,v1,v2,v3,v4,v5,v6,v7,v8⟩) s
def p45_21 (k : KC) (e : E) (s : St) : Res := dSeq p45_22 p45_40 k e s
def p45_19 (k : KC) (e : E) (s : St) : Res := dSeq p45_20 p45_21 k e s
def p45_17 (k : KC) (e : E) (s : St) : Res := dSeq p45_18 p45_19 k e s
def p45_2 (k : KC) (e : E) (s : St) : Res := dSeq p45_3 p45_17 k e s
def p45_0 (k : KC) (e : E) (s : St) : Res := dSeq p45_1 p45_2 k e s
def F45 : FDen := ⟨[u0, u1, u2], p45_0, resV []⟩
theorem low45 : lowFunc tt [] fok Try.f45 = some F45 := by kernel_rfl
theorem run45 : FRun Try.prog [] 45 F45 := FRun.of (lowFunc_ok ttOk fokOk mixed Try.func45 low45)
/-- (*carafe/caraferef13.Heap).put -/
def p46_1 (k : KC) (e : E) (s : St) : Res := ltc (V.i 0) fun v0 => ltc (V.i 0) fun v1 => .nrm (rw0 e fun a b c d f g _ _ j l m n o p q r => ⟨a,b,c,d,f,g,v0,v1,j,l,m,n,o,p,q,r⟩) s
def p46_3 (k : KC) (e : E) (s : St) : Res := lt (g0 e) fun v0 => bE ((eCall 50 [(cV v0)]) k e s) fun v1 s => bP ((pBin (bI fAdd) (cV v1) (cV (.i 1))) e) fun v2 => .nrm (rw0 e fun a b c d f g h i _ _ _ _ o p q r => ⟨a,b,c,d,f,g,h,i,v2,v0,v1,v2,o,p,q,r⟩) s
def p46_6 (k : KC) (e : E) (s : St) : Res := dDraw [⟨none, (.p (pMove g0)), u12⟩, ⟨none, (.p (pUn uChk g12)), u13⟩, ⟨none, (.p (pUn (uFld 0) g13)), u14⟩, ⟨none, (.d 0 1 (dLd g14)), u15⟩, ⟨none, (.p (pMove g0)), u16⟩, ⟨none, (.e (eCall 50 [g16])), u17⟩, ⟨none, (.p (pBin (bI fSub) g15 g17)), u18⟩, ⟨none, (.p (pMove g2)), u19⟩, ⟨none, (.p (pBin (bI fAdd) (cV (.i 3)) g19)), u20⟩, ⟨none, (.p (pBin (bI fLt) g18 g20)), u21⟩] k e s
def p46_9 (k : KC) (e : E) (s : St) : Res := ltc (V.i 0) fun v0 => ltc (V.i 26) fun v1 => .nrm (rw0 e fun a b c d f g _ _ j l m n o p q r => ⟨a,b,c,d,f,g,v0,v1,j,l,m,n,o,p,q,r⟩) s
def p46_8 (k : KC) (e : E) (s : St) : Res := dSeq p46_9 dRet k e s
def p46_7 (k : KC) (e : E) (s : St) : Res := dCond g21 p46_8 dSkip k e s
def p46_5 (k : KC) (e : E) (s : St) : Res := dSeq p46_6 p46_7 k e s
def p46_11 (k : KC) (e : E) (s : St) : Res := dDraw [⟨none, (.p (pMove g0)), u22⟩, ⟨none, (.p (pMove g0)), u23⟩, ⟨none, (.p (pUn uChk g23)), u24⟩, ⟨none, (.p (pUn (uFld 1) g24)), u25⟩, ⟨none, (.d 0 0 (dLd g25)), u26⟩, ⟨none, (.p (pMove g8)), u27⟩, ⟨none, (.p (pMove g1)), u28⟩, ⟨none, (.p (pMove g2)), u29⟩, ⟨none, (.a (aMkS 1 8 [(.i 0)] g29 g29)), u30⟩, ⟨none, (.p (pBuild [(.i 0), (.i 0), .nils, (.i 0)] [(0, 1, g27), (1, 1, g28), (2, 1, g30)])), u31⟩, ⟨none, (.a (aBSl 1 4 [(.i 0), (.i 0), .nils, (.i 0)] [(0, 4, g31)])), u32⟩, ⟨none, (.e (eAp 4 g26 g32)), u33⟩, ⟨none, (.p (pUn uChk g22)), u34⟩, ⟨none, (.p (pUn (uFld 1) g34)), u35⟩, ⟨none, (.e (eSt 1 g35 g33)), uNone⟩] k e s
def p46_13 (k : KC) (e : E) (s : St) : Res := lt (g8 e) fun v0 => ltc (V.i 0) fun v1 => .nrm (u36 (rw0 e fun a b c d f g _ _ j l m n o p q r => ⟨a,b,c,d,f,g,v0,v1,j,l,m,n,o,p,q,r⟩) v0) s
def p46_12 (k : KC) (e : E) (s : St) : Res := dSeq p46_13 dRet k e s
def p46_10 (k : KC) (e : E) (s : St) : Res := dSeq p46_11 p46_12 k e s
def p46_4 (k : KC) (e : E) (s : St) : Res := dSeq p46_5 p46_10 k e s
def p46_2 (k : KC) (e : E) (s : St) : Res := dSeq p46_3 p46_4 k e s
def p46_0 (k : KC) (e : E) (s : St) : Res := dSeq p46_1 p46_2 k e s
def F46 : FDen := ⟨[u0, u1, u2], p46_0, resV [rT g6, rT g7]⟩
theorem low46 : lowFunc tt [] fok Try.f46 = some F46 := by kernel_rfl
theorem run46 : FRun Try.prog [] 46 F46 := FRun.of (lowFunc_ok ttOk fokOk mixed Try.func46 low46)
/-- (*carafe/caraferef13.Heap).find -/
def p47_1 (k : KC) (e : E) (s : St) : Res := ltc (V.nilp) fun v0 => .nrm (u4 e v0) s
def p47_4 (k : KC) (e : E) (s : St) : Res := ltc (V.i 0) fun v0 => .nrm (u5 e v0) s
def p47_9 (k : KC) (e : E) (s : St) : Res := lt (g5 e) fun v0 => lt (g0 e) fun v1 => bP ((pUn uChk (cV v1)) e) fun v2 => bP ((pUn (uFld 1) (cV v2)) e) fun v3 => bP ((dLd (cV v3)) e s) fun v4 => bP ((pUn uLenS (cV v4)) e) fun v5 => bP ((pBin (bI fLt) (cV v0) (cV v5)) e) fun v6 => .nrm (rw0 e fun a b c d f g _ _ _ _ _ _ _ p q r => ⟨a,b,c,d,f,g,v0,v1,v2,v3,v4,v5,v6,p,q,r⟩) s
def p47_10 (k : KC) (e : E) (s : St) : Res := dCond g12 dSkip (dExit 0) k e s
def p47_8 (k : KC) (e : E) (s : St) : Res := dSeq p47_9 p47_10 k e s
def p47_14 (k : KC) (e : E) (s : St) : Res := lt (g0 e) fun v0 => bP ((pUn uChk (cV v0)) e) fun v1 => bP ((pUn (uFld 1) (cV v1)) e) fun v2 => bP ((dLd (cV v2)) e s) fun v3 => lt (g5 e) fun v4 => bP ((pBin (bIdx 4) (cV v3) (cV v4)) e) fun v5 => bP ((pUn (uFld 0) (cV v5)) e) fun v6 => bP ((dLd (cV v6)) e s) fun v7 => lt (g1 e) fun v8 => bP ((pBin (bI fEq) (cV v7) (cV v8)) e) fun v9 => .nrm (rw1 (u15 e v0) fun _ _ _ _ _ _ _ _ _ l m n o p q r => ⟨v1,v2,v3,v4,v5,v6,v7,v8,v9,l,m,n,o,p,q,r⟩) s
def p47_17 (k : KC) (e : E) (s : St) : Res := lt (g0 e) fun v0 => bP ((pUn uChk (cV v0)) e) fun v1 => bP ((pUn (uFld 1) (cV v1)) e) fun v2 => bP ((dLd (cV v2)) e s) fun v3 => lt (g5 e) fun v4 => bP ((pBin (bIdx 4) (cV v3) (cV v4)) e) fun v5 => .nrm (rw1 (u4 e v5) fun a b c d f g h i j _ _ _ _ _ _ r => ⟨a,b,c,d,f,g,h,i,j,v0,v1,v2,v3,v4,v5,r⟩) s
def p47_16 (k : KC) (e : E) (s : St) : Res := dSeq p47_17 dRet k e s
def p47_15 (k : KC) (e : E) (s : St) : Res := dCond g24 p47_16 dSkip k e s
def p47_13 (k : KC) (e : E) (s : St) : Res := dSeq p47_14 p47_15 k e s
def p47_12 (k : KC) (e : E) (s : St) : Res := dBlock 1 p47_13 k e s
def p47_18 (k : KC) (e : E) (s : St) : Res := lt (g5 e) fun v0 => bP ((pBin (bI fAdd) (cV v0) (cV (.i 1))) e) fun v1 => .nrm (rw0 e fun a b c d f _ h i j l m n o _ _ r => ⟨a,b,c,d,f,v1,h,i,j,l,m,n,o,v0,v1,r⟩) s
def p47_11 (k : KC) (e : E) (s : St) : Res := dSeq p47_12 p47_18 k e s
def p47_7 (k : KC) (e : E) (s : St) : Res := dSeq p47_8 p47_11 k e s
def p47_6 (k : KC) (e : E) (s : St) : Res := dLoop p47_7 k e s
def p47_5 (k : KC) (e : E) (s : St) : Res := dBlock 0 p47_6 k e s
def p47_3 (k : KC) (e : E) (s : St) : Res := dSeq p47_4 p47_5 k e s
def p47_20 (k : KC) (e : E) (s : St) : Res := ltc (V.nilp) fun v0 => .nrm (u4 e v0) s
def p47_19 (k : KC) (e : E) (s : St) : Res := dSeq p47_20 dRet k e s
def p47_2 (k : KC) (e : E) (s : St) : Res := dSeq p47_3 p47_19 k e s
def p47_0 (k : KC) (e : E) (s : St) : Res := dSeq p47_1 p47_2 k e s
def F47 : FDen := ⟨[u0, u1], p47_0, resV [rT g4]⟩
theorem low47 : lowFunc tt [] fok Try.f47 = some F47 := by kernel_rfl
theorem run47 : FRun Try.prog [] 47 F47 := FRun.of (lowFunc_ok ttOk fokOk mixed Try.func47 low47)
/-- (*carafe/caraferef13.Heap).IsRef -/
def p48_1 (k : KC) (e : E) (s : St) : Res := ltc (V.bool false) fun v0 => .nrm (u6 e v0) s
def p48_3 (k : KC) (e : E) (s : St) : Res := lt (g0 e) fun v0 => lt (g1 e) fun v1 => bE ((eCall 47 [(cV v0), (cV v1)]) k e s) fun v2 s => .nrm (rw0 e fun a b c d f g h _ _ _ _ n o p q r => ⟨a,b,c,d,f,g,h,v2,v0,v1,v2,n,o,p,q,r⟩) s
def p48_6 (k : KC) (e : E) (s : St) : Res := lt (g7 e) fun v0 => bP ((pBin (bNil false nilP) (cV v0) (cV .nilp)) e) fun v1 => bP (gdV v1 false ((pMove g2) e)) fun v2 => bP (gdV v1 false ((pBin (bI fLt) (cV v2) (cV (.i 0))) e)) fun v3 => bP ((pPick (cV v1) (cV (.bool true)) (cV v3)) e) fun v4 => bP (gdV v4 false ((pMove g2) e)) fun v5 => bP (gdV v4 false ((pMove g7) e)) fun v6 => bP (gdV v4 false ((pUn uChk (cV v6)) e)) fun v7 => bP (gdV v4 false ((pUn (uFld 2) (cV v7)) e)) fun v8 => bP (gdV v4 false ((dLd (cV v8)) e s)) fun v9 => bP (gdV v4 false ((pUn uLenS (cV v9)) e)) fun v10 => bP (gdV v4 false ((pBin (bI fGe) (cV v5) (cV v10)) e)) fun v11 => bP ((pPick (cV v4) (cV (.bool true)) (cV v11)) e) fun v12 => .nrm (rw1 (rw0 e fun a b c d f g h i j l m _ _ _ _ _ => ⟨a,b,c,d,f,g,h,i,j,l,m,v0,v1,v1,v2,v3⟩) fun _ _ _ _ _ _ _ _ _ _ m n o p q r => ⟨v4,v4,v5,v6,v7,v8,v9,v10,v11,v12,m,n,o,p,q,r⟩) s
def p48_9 (k : KC) (e : E) (s : St) : Res := ltc (V.bool false) fun v0 => .nrm (u6 e v0) s
def p48_8 (k : KC) (e : E) (s : St) : Res := dSeq p48_9 dRet k e s
def p48_7 (k : KC) (e : E) (s : St) : Res := dCond g25 p48_8 dSkip k e s
def p48_5 (k : KC) (e : E) (s : St) : Res := dSeq p48_6 p48_7 k e s
def p48_11 (k : KC) (e : E) (s : St) : Res := lt (g7 e) fun v0 => bP ((pUn uChk (cV v0)) e) fun v1 => bP ((pUn (uFld 1) (cV v1)) e) fun v2 => bP ((dLd (cV v2)) e s) fun v3 => bP ((pBin (bI fEq) (cV v3) (cV (.i (-2)))) e) fun v4 => bP (gdV v4 false ((pMove g7) e)) fun v5 => bP (gdV v4 false ((pUn uChk (cV v5)) e)) fun v6 => bP (gdV v4 false ((pUn (uFld 1) (cV v6)) e)) fun v7 => bP (gdV v4 false ((dLd (cV v7)) e s)) fun v8 => bP (gdV v4 false ((pBin (bI fGe) (cV v8) (cV (.i 0))) e)) fun v9 => bP (gdV v4 false ((pMove (cV v9)) e)) fun v10 => bP (gdV v10 true ((pMove g0) e)) fun v11 => bP (gdV v10 true ((pUn uChk (cV v11)) e)) fun v12 => bP (gdV v10 true ((pUn (uFld 2) (cV v12)) e)) fun v13 => bP (gdV v10 true ((dLd (cV v13)) e s)) fun v14 => bP (gdV v10 true ((pMove g7) e)) fun v15 => bP (gdV v10 true ((pUn uChk (cV v15)) e)) fun v16 => bP (gdV v10 true ((pUn (uFld 1) (cV v16)) e)) fun v17 => bP (gdV v10 true ((dLd (cV v17)) e s)) fun v18 => bP (gdV v10 true ((pBin (bIdx 1) (cV v14) (cV v18)) e)) fun v19 => bP (gdV v10 true ((dLd (cV v19)) e s)) fun v20 => bP (gdV v10 true ((pMove g2) e)) fun v21 => bP (gdV v10 true ((pBin (bIdx 1) (cV v20) (cV v21)) e)) fun v22 => bP (gdV v10 true ((dLd (cV v22)) e s)) fun v23 => bP (gdV v4 false ((pPick (cV v10) (cV v23) (cV (.bool false))) e)) fun v24 => bP ((pPick (cV v4) (cV (.bool true)) (cV v24)) e) fun v25 => .nrm (rw3 (rw2 (rw1 (u6 e v25) fun a b c d f g h i j l _ _ _ _ _ _ => ⟨a,b,c,d,f,g,h,i,j,l,v0,v1,v2,v3,v4,v4⟩) fun _ _ _ _ _ _ _ _ _ _ _ _ _ _ _ _ => ⟨v5,v6,v7,v8,v9,v10,v11,v12,v13,v14,v15,v16,v17,v18,v19,v20⟩) fun _ _ _ _ _ g h i j l m n o p q r => ⟨v21,v22,v23,v24,v25,g,h,i,j,l,m,n,o,p,q,r⟩) s
def p48_10 (k : KC) (e : E) (s : St) : Res := dSeq p48_11 dRet k e s
def p48_4 (k : KC) (e : E) (s : St) : Res := dSeq p48_5 p48_10 k e s
def p48_2 (k : KC) (e : E) (s : St) : Res := dSeq p48_3 p48_4 k e s
def p48_0 (k : KC) (e : E) (s : St) : Res := dSeq p48_1 p48_2 k e s
def F48 : FDen := ⟨[u0, u1, u2], p48_0, resV [rT g6]⟩
theorem low48 : lowFunc tt [] fok Try.f48 = some F48 := by kernel_rfl
theorem run48 : FRun Try.prog [] 48 F48 := FRun.of (lowFunc_ok ttOk fokOk mixed Try.func48 low48)
/-- carafe/caraferef13.has -/
def p49_1 (k : KC) (e : E) (s : St) : Res := ltc (V.i 0) fun v0 => .nrm (u4 e v0) s
def p49_4 (k : KC) (e : E) (s : St) : Res := ltc (V.i 0) fun v0 => .nrm (u5 e v0) s
def p49_9 (k : KC) (e : E) (s : St) : Res := lt (g5 e) fun v0 => lt (g0 e) fun v1 => bP ((pUn uLenS (cV v1)) e) fun v2 => bP ((pBin (bI fLt) (cV v0) (cV v2)) e) fun v3 => .nrm (rw0 e fun a b c d f g _ _ _ _ m n o p q r => ⟨a,b,c,d,f,g,v0,v1,v2,v3,m,n,o,p,q,r⟩) s
def p49_10 (k : KC) (e : E) (s : St) : Res := dCond g9 dSkip (dExit 0) k e s
def p49_8 (k : KC) (e : E) (s : St) : Res := dSeq p49_9 p49_10 k e s
def p49_14 (k : KC) (e : E) (s : St) : Res := lt (g0 e) fun v0 => lt (g5 e) fun v1 => bP ((pBin (bIdx 1) (cV v0) (cV v1)) e) fun v2 => bP ((dLd (cV v2)) e s) fun v3 => lt (g1 e) fun v4 => bP ((pBin (bI fEq) (cV v3) (cV v4)) e) fun v5 => .nrm (rw1 (rw0 e fun a b c d f g h i j l m n _ _ _ _ => ⟨a,b,c,d,f,g,h,i,j,l,m,n,v0,v1,v2,v3⟩) fun _ _ c d f g h i j l m n o p q r => ⟨v4,v5,c,d,f,g,h,i,j,l,m,n,o,p,q,r⟩) s
def p49_17 (k : KC) (e : E) (s : St) : Res := lt (g5 e) fun v0 => .nrm (u18 (u4 e v0) v0) s
def p49_16 (k : KC) (e : E) (s : St) : Res := dSeq p49_17 dRet k e s
def p49_15 (k : KC) (e : E) (s : St) : Res := dCond g17 p49_16 dSkip k e s
def p49_13 (k : KC) (e : E) (s : St) : Res := dSeq p49_14 p49_15 k e s
def p49_12 (k : KC) (e : E) (s : St) : Res := dBlock 1 p49_13 k e s
def p49_18 (k : KC) (e : E) (s : St) : Res := lt (g5 e) fun v0 => bP ((pBin (bI fAdd) (cV v0) (cV (.i 1))) e) fun v1 => .nrm (rw0 e fun a b c d f _ h i j l _ _ o p q r => ⟨a,b,c,d,f,v1,h,i,j,l,v0,v1,o,p,q,r⟩) s
def p49_11 (k : KC) (e : E) (s : St) : Res := dSeq p49_12 p49_18 k e s
def p49_7 (k : KC) (e : E) (s : St) : Res := dSeq p49_8 p49_11 k e s
def p49_6 (k : KC) (e : E) (s : St) : Res := dLoop p49_7 k e s
def p49_5 (k : KC) (e : E) (s : St) : Res := dBlock 0 p49_6 k e s
def p49_3 (k : KC) (e : E) (s : St) : Res := dSeq p49_4 p49_5 k e s
def p49_20 (k : KC) (e : E) (s : St) : Res := ltc (V.i (-1)) fun v0 => .nrm (u4 e v0) s
def p49_19 (k : KC) (e : E) (s : St) : Res := dSeq p49_20 dRet k e s
def p49_2 (k : KC) (e : E) (s : St) : Res := dSeq p49_3 p49_19 k e s
def p49_0 (k : KC) (e : E) (s : St) : Res := dSeq p49_1 p49_2 k e s
def F49 : FDen := ⟨[u0, u1], p49_0, resV [rT g4]⟩
theorem low49 : lowFunc tt [] fok Try.f49 = some F49 := by kernel_rfl
theorem run49 : FRun Try.prog [] 49 F49 := FRun.of (lowFunc_ok ttOk fokOk mixed Try.func49 low49)
/-- (*carafe/caraferef13.Heap).Used -/
def p50_1 (k : KC) (e : E) (s : St) : Res := ltc (V.i 0) fun v0 => .nrm (u2 e v0) s
def p50_3 (k : KC) (e : E) (s : St) : Res := ltc (V.i 0) fun v0 => .nrm (u3 e v0) s
def p50_6 (k : KC) (e : E) (s : St) : Res := ltc (V.i 0) fun v0 => .nrm (u4 e v0) s
def p50_11 (k : KC) (e : E) (s : St) : Res := lt (g4 e) fun v0 => lt (g0 e) fun v1 => bP ((pUn uChk (cV v1)) e) fun v2 => bP ((pUn (uFld 1) (cV v2)) e) fun v3 => bP ((dLd (cV v3)) e s) fun v4 => bP ((pUn uLenS (cV v4)) e) fun v5 => bP ((pBin (bI fLt) (cV v0) (cV v5)) e) fun v6 => .nrm (rw0 e fun a b c d f _ _ _ _ _ _ _ o p q r => ⟨a,b,c,d,f,v0,v1,v2,v3,v4,v5,v6,o,p,q,r⟩) s
def p50_12 (k : KC) (e : E) (s : St) : Res := dCond g11 dSkip (dExit 0) k e s
def p50_10 (k : KC) (e : E) (s : St) : Res := dSeq p50_11 p50_12 k e s
def p50_15 (k : KC) (e : E) (s : St) : Res := lt (g3 e) fun v0 => bP ((pBin (bI fAdd) (cV v0) (cV (.i 3))) e) fun v1 => lt (g0 e) fun v2 => bP ((pUn uChk (cV v2)) e) fun v3 => bP ((pUn (uFld 1) (cV v3)) e) fun v4 => bP ((dLd (cV v4)) e s) fun v5 => lt (g4 e) fun v6 => bP ((pBin (bIdx 4) (cV v5) (cV v6)) e) fun v7 => bP ((pUn (uFld 2) (cV v7)) e) fun v8 => bP ((dLd (cV v8)) e s) fun v9 => bP ((pUn uLenS (cV v9)) e) fun v10 => bP ((pBin (bI fAdd) (cV v1) (cV v10)) e) fun v11 => .nrm (rw1 (rw0 e fun a b c _ f g h i j l m n o p _ _ => ⟨a,b,c,v11,f,g,h,i,j,l,m,n,o,p,v0,v1⟩) fun _ _ _ _ _ _ _ _ _ _ m n o p q r => ⟨v2,v3,v4,v5,v6,v7,v8,v9,v10,v11,m,n,o,p,q,r⟩) s
def p50_14 (k : KC) (e : E) (s : St) : Res := dBlock 1 p50_15 k e s
def p50_16 (k : KC) (e : E) (s : St) : Res := lt (g4 e) fun v0 => bP ((pBin (bI fAdd) (cV v0) (cV (.i 1))) e) fun v1 => .nrm (rw0 e fun a b c d _ g h i j l m n _ _ q r => ⟨a,b,c,d,v1,g,h,i,j,l,m,n,v0,v1,q,r⟩) s
def p50_13 (k : KC) (e : E) (s : St) : Res := dSeq p50_14 p50_16 k e s
def p50_9 (k : KC) (e : E) (s : St) : Res := dSeq p50_10 p50_13 k e s
def p50_8 (k : KC) (e : E) (s : St) : Res := dLoop p50_9 k e s
def p50_7 (k : KC) (e : E) (s : St) : Res := dBlock 0 p50_8 k e s
def p50_5 (k : KC) (e : E) (s : St) : Res := dSeq p50_6 p50_7 k e s
def p50_18 (k : KC) (e : E) (s : St) : Res := lt (g3 e) fun v0 => .nrm (u26 (u2 e v0) v0) s
def p50_17 (k : KC) (e : E) (s : St) : Res := dSeq p50_18 dRet k e s
def p50_4 (k : KC) (e : E) (s : St) : Res := dSeq p50_5 p50_17 k e s
def p50_2 (k : KC) (e : E) (s : St) : Res := dSeq p50_3 p50_4 k e s
def p50_0 (k : KC) (e : E) (s : St) : Res := dSeq p50_1 p50_2 k e s
def F50 : FDen := ⟨[u0], p50_0, resV [rT g2]⟩
theorem low50 : lowFunc tt [] fok Try.f50 = some F50 := by kernel_rfl
theorem run50 : FRun Try.prog [] 50 F50 := FRun.of (lowFunc_ok ttOk fokOk mixed Try.func50 low50)
/-- (*carafe/caraferef13.Heap).Len -/
def p51_1 (k : KC) (e : E) (s : St) : Res := ltc (V.i 0) fun v0 => .nrm (u4 e v0) s
def p51_3 (k : KC) (e : E) (s : St) : Res := lt (g0 e) fun v0 => lt (g1 e) fun v1 => bE ((eCall 47 [(cV v0), (cV v1)]) k e s) fun v2 s => .nrm (rw0 e fun a b c d f _ _ _ _ l m n o p q r => ⟨a,b,c,d,f,v2,v0,v1,v2,l,m,n,o,p,q,r⟩) s
def p51_6 (k : KC) (e : E) (s : St) : Res := lt (g5 e) fun v0 => bP ((pBin (bNil false nilP) (cV v0) (cV .nilp)) e) fun v1 => .nrm (rw0 e fun a b c d f g h i j _ _ n o p q r => ⟨a,b,c,d,f,g,h,i,j,v0,v1,n,o,p,q,r⟩) s
def p51_9 (k : KC) (e : E) (s : St) : Res := ltc (V.i 0) fun v0 => .nrm (u4 e v0) s
def p51_8 (k : KC) (e : E) (s : St) : Res := dSeq p51_9 dRet k e s
def p51_7 (k : KC) (e : E) (s : St) : Res := dCond g10 p51_8 dSkip k e s
def p51_5 (k : KC) (e : E) (s : St) : Res := dSeq p51_6 p51_7 k e s
def p51_11 (k : KC) (e : E) (s : St) : Res := lt (g5 e) fun v0 => bP ((pUn uChk (cV v0)) e) fun v1 => bP ((pUn (uFld 2) (cV v1)) e) fun v2 => bP ((dLd (cV v2)) e s) fun v3 => bP ((pUn uLenS (cV v3)) e) fun v4 => .nrm (rw0 e fun a b c d _ g h i j l m _ _ _ _ _ => ⟨a,b,c,d,v4,g,h,i,j,l,m,v0,v1,v2,v3,v4⟩) s
def p51_10 (k : KC) (e : E) (s : St) : Res := dSeq p51_11 dRet k e s
def p51_4 (k : KC) (e : E) (s : St) : Res := dSeq p51_5 p51_10 k e s
def p51_2 (k : KC) (e : E) (s : St) : Res := dSeq p51_3 p51_4 k e s
def p51_0 (k : KC) (e : E) (s : St) : Res := dSeq p51_1 p51_2 k e s
def F51 : FDen := ⟨[u0, u1], p51_0, resV [rT g4]⟩
theorem low51 : lowFunc tt [] fok Try.f51 = some F51 := by kernel_rfl
theorem run51 : FRun Try.prog [] 51 F51 := FRun.of (lowFunc_ok ttOk fokOk mixed Try.func51 low51)
/-- (*carafe/caraferef13.Heap).ShapeOf -/
def p52_1 (k : KC) (e : E) (s : St) : Res := ltc (V.i 0) fun v0 => .nrm (u4 e v0) s
def p52_3 (k : KC) (e : E) (s : St) : Res := lt (g0 e) fun v0 => lt (g1 e) fun v1 => bE ((eCall 47 [(cV v0), (cV v1)]) k e s) fun v2 s => .nrm (rw0 e fun a b c d f _ _ _ _ l m n o p q r => ⟨a,b,c,d,f,v2,v0,v1,v2,l,m,n,o,p,q,r⟩) s
def p52_6 (k : KC) (e : E) (s : St) : Res := lt (g5 e) fun v0 => bP ((pBin (bNil false nilP) (cV v0) (cV .nilp)) e) fun v1 => .nrm (rw0 e fun a b c d f g h i j _ _ n o p q r => ⟨a,b,c,d,f,g,h,i,j,v0,v1,n,o,p,q,r⟩) s
def p52_9 (k : KC) (e : E) (s : St) : Res := ltc (V.i (-3)) fun v0 => .nrm (u4 e v0) s
def p52_8 (k : KC) (e : E) (s : St) : Res := dSeq p52_9 dRet k e s
def p52_7 (k : KC) (e : E) (s : St) : Res := dCond g10 p52_8 dSkip k e s
def p52_5 (k : KC) (e : E) (s : St) : Res := dSeq p52_6 p52_7 k e s
def p52_11 (k : KC) (e : E) (s : St) : Res := lt (g5 e) fun v0 => bP ((pUn uChk (cV v0)) e) fun v1 => bP ((pUn (uFld 1) (cV v1)) e) fun v2 => bP ((dLd (cV v2)) e s) fun v3 => .nrm (rw0 e fun a b c d _ g h i j l m _ _ _ _ r => ⟨a,b,c,d,v3,g,h,i,j,l,m,v0,v1,v2,v3,r⟩) s
def p52_10 (k : KC) (e : E) (s : St) : Res := dSeq p52_11 dRet k e s
def p52_4 (k : KC) (e : E) (s : St) : Res := dSeq p52_5 p52_10 k e s
def p52_2 (k : KC) (e : E) (s : St) : Res := dSeq p52_3 p52_4 k e s
def p52_0 (k : KC) (e : E) (s : St) : Res := dSeq p52_1 p52_2 k e s
def F52 : FDen := ⟨[u0, u1], p52_0, resV [rT g4]⟩
theorem low52 : lowFunc tt [] fok Try.f52 = some F52 := by kernel_rfl
theorem run52 : FRun Try.prog [] 52 F52 := FRun.of (lowFunc_ok ttOk fokOk mixed Try.func52 low52)
/-- (*carafe/caraferef13.Heap).Tag -/
def p53_1 (k : KC) (e : E) (s : St) : Res := ltc (V.i 0) fun v0 => .nrm (u4 e v0) s
def p53_3 (k : KC) (e : E) (s : St) : Res := lt (g0 e) fun v0 => lt (g1 e) fun v1 => bE ((eCall 47 [(cV v0), (cV v1)]) k e s) fun v2 s => .nrm (rw0 e fun a b c d f _ _ _ _ l m n o p q r => ⟨a,b,c,d,f,v2,v0,v1,v2,l,m,n,o,p,q,r⟩) s
def p53_6 (k : KC) (e : E) (s : St) : Res := lt (g5 e) fun v0 => bP ((pBin (bNil false nilP) (cV v0) (cV .nilp)) e) fun v1 => .nrm (rw0 e fun a b c d f g h i j _ _ n o p q r => ⟨a,b,c,d,f,g,h,i,j,v0,v1,n,o,p,q,r⟩) s
def p53_9 (k : KC) (e : E) (s : St) : Res := ltc (V.i 0) fun v0 => .nrm (u4 e v0) s
def p53_8 (k : KC) (e : E) (s : St) : Res := dSeq p53_9 dRet k e s
def p53_7 (k : KC) (e : E) (s : St) : Res := dCond g10 p53_8 dSkip k e s
def p53_5 (k : KC) (e : E) (s : St) : Res := dSeq p53_6 p53_7 k e s
def p53_11 (k : KC) (e : E) (s : St) : Res := lt (g5 e) fun v0 => bP ((pUn uChk (cV v0)) e) fun v1 => bP ((pUn (uFld 3) (cV v1)) e) fun v2 => bP ((dLd (cV v2)) e s) fun v3 => .nrm (rw0 e fun a b c d _ g h i j l m _ _ _ _ r => ⟨a,b,c,d,v3,g,h,i,j,l,m,v0,v1,v2,v3,r⟩) s
def p53_10 (k : KC) (e : E) (s : St) : Res := dSeq p53_11 dRet k e s
def p53_4 (k : KC) (e : E) (s : St) : Res := dSeq p53_5 p53_10 k e s
def p53_2 (k : KC) (e : E) (s : St) : Res := dSeq p53_3 p53_4 k e s
def p53_0 (k : KC) (e : E) (s : St) : Res := dSeq p53_1 p53_2 k e s
def F53 : FDen := ⟨[u0, u1], p53_0, resV [rT g4]⟩
theorem low53 : lowFunc tt [] fok Try.f53 = some F53 := by kernel_rfl
theorem run53 : FRun Try.prog [] 53 F53 := FRun.of (lowFunc_ok ttOk fokOk mixed Try.func53 low53)
/-- (*carafe/caraferef13.Heap).Get -/
def p54_1 (k : KC) (e : E) (s : St) : Res := ltc (V.i 0) fun v0 => ltc (V.i 0) fun v1 => .nrm (rw0 e fun a b c d f g _ _ j l m n o p q r => ⟨a,b,c,d,f,g,v0,v1,j,l,m,n,o,p,q,r⟩) s
def p54_3 (k : KC) (e : E) (s : St) : Res := lt (g0 e) fun v0 => lt (g1 e) fun v1 => bE ((eCall 47 [(cV v0), (cV v1)]) k e s) fun v2 s => .nrm (rw0 e fun a b c d f g h i _ _ _ _ o p q r => ⟨a,b,c,d,f,g,h,i,v2,v0,v1,v2,o,p,q,r⟩) s
def p54_6 (k : KC) (e : E) (s : St) : Res := lt (g8 e) fun v0 => bP ((pBin (bNil false nilP) (cV v0) (cV .nilp)) e) fun v1 => bP (gdV v1 false ((pMove g2) e)) fun v2 => bP (gdV v1 false ((pBin (bI fLt) (cV v2) (cV (.i 0))) e)) fun v3 => bP ((pPick (cV v1) (cV (.bool true)) (cV v3)) e) fun v4 => bP (gdV v4 false ((pMove g2) e)) fun v5 => bP (gdV v4 false ((pMove g8) e)) fun v6 => bP (gdV v4 false ((pUn uChk (cV v6)) e)) fun v7 => bP (gdV v4 false ((pUn (uFld 2) (cV v7)) e)) fun v8 => bP (gdV v4 false ((dLd (cV v8)) e s)) fun v9 => bP (gdV v4 false ((pUn uLenS (cV v9)) e)) fun v10 => bP (gdV v4 false ((pBin (bI fGe) (cV v5) (cV v10)) e)) fun v11 => bP ((pPick (cV v4) (cV (.bool true)) (cV v11)) e) fun v12 => .nrm (rw1 (rw0 e fun a b c d f g h i j l m n _ _ _ _ => ⟨a,b,c,d,f,g,h,i,j,l,m,n,v0,v1,v1,v2⟩) fun _ _ _ _ _ _ _ _ _ _ _ n o p q r => ⟨v3,v4,v4,v5,v6,v7,v8,v9,v10,v11,v12,n,o,p,q,r⟩) s
def p54_9 (k : KC) (e : E) (s : St) : Res := ltc (V.i 0) fun v0 => ltc (V.i 1) fun v1 => .nrm (rw0 e fun a b c d f g _ _ j l m n o p q r => ⟨a,b,c,d,f,g,v0,v1,j,l,m,n,o,p,q,r⟩) s
def p54_8 (k : KC) (e : E) (s : St) : Res := dSeq p54_9 dRet k e s
def p54_7 (k : KC) (e : E) (s : St) : Res := dCond g26 p54_8 dSkip k e s
def p54_5 (k : KC) (e : E) (s : St) : Res := dSeq p54_6 p54_7 k e s
def p54_11 (k : KC) (e : E) (s : St) : Res := lt (g8 e) fun v0 => bP ((pUn uChk (cV v0)) e) fun v1 => bP ((pUn (uFld 2) (cV v1)) e) fun v2 => bP ((dLd (cV v2)) e s) fun v3 => lt (g2 e) fun v4 => bP ((pBin (bIdx 1) (cV v3) (cV v4)) e) fun v5 => bP ((dLd (cV v5)) e s) fun v6 => ltc (V.i 0) fun v7 => .nrm (rw2 (rw1 (rw0 e fun a b c d f g _ _ j l m n o p q r => ⟨a,b,c,d,f,g,v6,v7,j,l,m,n,o,p,q,r⟩) fun a b c d f g h i j l m _ _ _ _ _ => ⟨a,b,c,d,f,g,h,i,j,l,m,v0,v1,v2,v3,v4⟩) fun _ _ c d f g h i j l m n o p q r => ⟨v5,v6,c,d,f,g,h,i,j,l,m,n,o,p,q,r⟩) s
def p54_10 (k : KC) (e : E) (s : St) : Res := dSeq p54_11 dRet k e s
def p54_4 (k : KC) (e : E) (s : St) : Res := dSeq p54_5 p54_10 k e s
def p54_2 (k : KC) (e : E) (s : St) : Res := dSeq p54_3 p54_4 k e s
def p54_0 (k : KC) (e : E) (s : St) : Res := dSeq p54_1 p54_2 k e s
def F54 : FDen := ⟨[u0, u1, u2], p54_0, resV [rT g6, rT g7]⟩
theorem low54 : lowFunc tt [] fok Try.f54 = some F54 := by kernel_rfl
theorem run54 : FRun Try.prog [] 54 F54 := FRun.of (lowFunc_ok ttOk fokOk mixed Try.func54 low54)
end
end Go.Proofs.YtjipdnfaokdkbaaLab
