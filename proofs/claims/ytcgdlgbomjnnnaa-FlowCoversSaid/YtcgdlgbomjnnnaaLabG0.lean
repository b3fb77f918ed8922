/- The lab: this program's functions, in pieces. Pruned. -/
import Derived.Test.YtcgdlgbomjnnnaaLabT0
import Derived.Test.YtcgdlgbomjnnnaaLabTb
import Derived.Test.YtcgdlgbomjnnnaaLabSo
namespace Go.Proofs.YtcgdlgbomjnnnaaLab
open Go
set_option linter.unusedVariables false
set_option maxRecDepth 100000
noncomputable section
variable (k:KC)(e:E)(s:St)
def aar:Den:=fun _ e s=>bM (V.bool false) fun v0=>.au (u2 e v0) s
def Zk:aB:=lt (g0 e) fun v0=>bE (ak 13 [(cV .ax), (cV v0)] k e s) fun v1 s=>bP (aA (dL 0) (cV v1) e) fun v2=>bP (aA (dL 1) (cV v1) e) fun v3=>bP (aA (dL 2) (cV v1) e) fun v4=>.au (cN (bJ e fun r=>{r with a3:=v2,a4:=v3,a5:=v4,a14:=v1,a15:=v0}) fun r=>{r with a0:=v1,a1:=v2,a2:=v3,a3:=v4}) s
def aaj:aB:=lt (g3 e) fun v0=>lt (g4 e) fun v1=>bE (ak 8 [(cV v0), (cV v1), (cV .ax)] k e s) fun v2 s=>bP (aA (dL 0) (cV v2) e) fun v3=>bP (aA (dL 1) (cV v2) e) fun v4=>.au (cN (bJ e fun r=>{r with a6:=v3,a7:=v4}) fun r=>{r with a4:=v2,a5:=v0,a6:=v1,a7:=v2,a8:=v3,a9:=v4}) s
def Zx:Den:=fun _ e s=>lt (g6 e) fun v0=>bP (aj (bI sg) (cV v0) (cV (.i 0)) e) fun v1=>.au (cN e fun r=>{r with a10:=v0,a11:=v1}) s
def UI:Den:=fun _ e s=>bM (V.bool false) fun v0=>.au (u2 e v0) s
def Po:aB:=lt (g3 e) fun v0=>lt (g4 e) fun v1=>bE (ak 17 [cV v0,cV v1] k e s) fun v2 s=>.au (cN (u8 e v2) fun r=>{r with a12:=v0,a13:=v1,a14:=v2}) s
def Qb:Den:=fun _ e s=>bM (V.i 0) fun v0=>.au (u9 e v0) s
def SD:Den:=fun _ e s=>bM (V.i 0) fun v0=>.au (u10 e v0) s
def Sd:Den:=fun _ e s=>lt (g10 e) fun v0=>lt (g8 e) fun v1=>bP (aA aP (cV v1) e) fun v2=>bP (aj (bI fN) (cV v0) (cV v2) e) fun v3=>.au (dh (u31 e v0) fun r=>{r with a0:=v1,a1:=v2,a2:=v3}) s
def Rz:Den:=fun _ e s=>lt (g8 e) fun v0=>lt (g10 e) fun v1=>bP (aj (aQ 3) (cV v0) (cV v1) e) fun v2=>bP (aA (aC 0) (cV v2) e) fun v3=>bP ((aO (cV v3)) e s) fun v4=>lt (g9 e) fun v5=>bP (aj (bI sg) (cV v4) (cV v5) e) fun v6=>bP (aL v6 false (aD g8 e)) fun v7=>bP (aL v6 false (aD g10 e)) fun v8=>bP (aL v6 false (aj (aQ 3) (cV v7) (cV v8) e)) fun v9=>bP (aL v6 false (aA (aC 1) (cV v9) e)) fun v10=>bP (aL v6 false ((aO (cV v10)) e s)) fun v11=>bP (aL v6 false (aD g9 e)) fun v12=>bP (aL v6 false (aj (bI xj) (cV v11) (cV v12) e)) fun v13=>bP (aN (cV v6) (cV (.bool true)) (cV v13) e) fun v14=>bP (aL v14 false (aD g8 e)) fun v15=>bP (aL v14 false (aD g10 e)) fun v16=>bP (aL v14 false (aj (aQ 3) (cV v15) (cV v16) e)) fun v17=>bP (aL v14 false (aA (aC 1) (cV v17) e)) fun v18=>bP (aL v14 false ((aO (cV v18)) e s)) fun v19=>bP (aL v14 false (aD g3 e)) fun v20=>bP (aL v14 false (aA aP (cV v20) e)) fun v21=>bP (aL v14 false (aj (bI rX) (cV v19) (cV v21) e)) fun v22=>bP (aN (cV v14) (cV (.bool true)) (cV v22) e) fun v23=>.au (GR (lU e fun a b c d f _ _ _ _ _ _ _ _ _ _ _=>⟨a,b,c,d,f,v0,v1,v2,v3,v4,v5,v6,v6,v7,v8,v9⟩) fun _ _ _ _ _ _ _ _ _ _ _ _ _ _ _ r=>⟨v10,v11,v12,v13,v14,v14,v15,v16,v17,v18,v19,v20,v21,v22,v23,r⟩) s
def Uj:Den:=fun _ e s=>bM (V.bool false) fun v0=>.au (u2 e v0) s
def Qp:Den:=fun _ e s=>lt (g8 e) fun v0=>lt (g10 e) fun v1=>bP (aj (aQ 3) (cV v0) (cV v1) e) fun v2=>bP (aA (aC 0) (cV v2) e) fun v3=>bP ((aO (cV v3)) e s) fun v4=>.au (jj (u63 (u11 e v4) v0) fun r=>{r with a0:=v1,a1:=v2,a2:=v3,a3:=v4}) s
def Rl:Den:=fun _ e s=>lt (g11 e) fun v0=>lt (g8 e) fun v1=>lt (g10 e) fun v2=>bP (aj (aQ 3) (cV v1) (cV v2) e) fun v3=>bP (aA (aC 1) (cV v3) e) fun v4=>bP ((aO (cV v4)) e s) fun v5=>bP (aj (bI ep) (cV v5) (cV (.i 1)) e) fun v6=>bP (aj (bI fN) (cV v0) (cV v6) e) fun v7=>.au (jj e fun r=>{r with a4:=v0,a5:=v1,a6:=v2,a7:=v3,a8:=v4,a9:=v5,a10:=v6,a11:=v7}) s
def PM:aB:=lt (g3 e) fun v0=>lt (g11 e) fun v1=>bP (aj (aQ 4) (cV v0) (cV v1) e) fun v2=>bP (aA (aC 1) (cV v2) e) fun v3=>bP ((aO (cV v3)) e s) fun v4=>bE (ak 18 [cV v4] k e s) fun v5 s=>bP (aL v5 false (aD g3 e)) fun v6=>bP (aL v5 false (aD g11 e)) fun v7=>bP (aL v5 false (aj (aQ 4) (cV v6) (cV v7) e)) fun v8=>bP (aL v5 false (aA (aC 1) (cV v8) e)) fun v9=>bP (aL v5 false ((aO (cV v9)) e s)) fun v10=>bE (iH v5 false s (ak 19 [cV v10] k e s)) fun v11 s=>bP (aN (cV v5) (cV (.bool true)) (cV v11) e) fun v12=>.au (Mz (jj e fun r=>{r with a14:=v0,a15:=v1}) fun _ _ _ _ _ _ _ _ _ _ _ _ o p q r=>⟨v2,v3,v4,v5,v5,v6,v7,v8,v9,v10,v11,v12,o,p,q,r⟩) s
def U4:Den:=fun _ e s=>bM (V.bool false) fun v0=>.au (u2 e v0) s
def Tm:Den:=fun _ e s=>lt (g11 e) fun v0=>bP (aj (bI bQ) (cV v0) (cV (.i 1)) e) fun v1=>.au (jj (u11 e v1) fun r=>{r with a12:=v0,a13:=v1}) s
def Pw:aB:=lt (g3 e) fun v0=>lt (g8 e) fun v1=>lt (g10 e) fun v2=>bP (aj (aQ 3) (cV v1) (cV v2) e) fun v3=>bP (aA (aC 1) (cV v3) e) fun v4=>bP ((aO (cV v4)) e s) fun v5=>bP (aj (bI ep) (cV v5) (cV (.i 1)) e) fun v6=>bE (ak 10 [cV v0,cV v6] k e s) fun v7 s=>.au (mN (kL (u12 e v7) fun r=>{r with a12:=v0,a13:=v1,a14:=v2,a15:=v3}) fun r=>{r with a0:=v4,a1:=v5,a2:=v6,a3:=v7}) s
def Uw:Den:=fun _ e s=>lt (g12 e) fun v0=>bP (aA aP (cV v0) e) fun v1=>lt (g8 e) fun v2=>lt (g10 e) fun v3=>bP (aj (aQ 3) (cV v2) (cV v3) e) fun v4=>bP (aA (aC 2) (cV v4) e) fun v5=>bP ((aO (cV v5)) e s) fun v6=>bP (aA aP (cV v6) e) fun v7=>bP (aj (bI sg) (cV v1) (cV v7) e) fun v8=>.au (rw6 e fun a b c d _ _ _ _ _ _ _ _ _ p q r=>⟨a,b,c,d,v0,v1,v2,v3,v4,v5,v6,v7,v8,p,q,r⟩) s
def Rr:Den:=fun _ e s=>bM (V.bool false) fun v0=>.au (u2 e v0) s
def U7:Den:=fun _ e s=>bM (V.i 0) fun v0=>.au (u13 e v0) s
def SQ:Den:=fun _ e s=>lt (g13 e) fun v0=>lt (g12 e) fun v1=>bP (aA aP (cV v1) e) fun v2=>bP (aj (bI fN) (cV v0) (cV v2) e) fun v3=>.au (u112 (mN e fun r=>{r with a13:=v0,a14:=v1,a15:=v2}) v3) s
def P_:Den:=fun _ e s=>lt (g8 e) fun v0=>lt (g10 e) fun v1=>bP (aj (aQ 3) (cV v0) (cV v1) e) fun v2=>bP (aA (aC 2) (cV v2) e) fun v3=>bP ((aO (cV v3)) e s) fun v4=>lt (g13 e) fun v5=>bP (aj (aQ 1) (cV v4) (cV v5) e) fun v6=>bP ((aO (cV v6)) e s) fun v7=>bP (aj (bI fN) (cV v7) (cV (.i 0)) e) fun v8=>bP (aL v8 false (aD g8 e)) fun v9=>bP (aL v8 false (aD g10 e)) fun v10=>bP (aL v8 false (aj (aQ 3) (cV v9) (cV v10) e)) fun v11=>bP (aL v8 false (aA (aC 2) (cV v11) e)) fun v12=>bP (aL v8 false ((aO (cV v12)) e s)) fun v13=>bP (aL v8 false (aD g13 e)) fun v14=>bP (aL v8 false (aj (aQ 1) (cV v13) (cV v14) e)) fun v15=>bP (aL v8 false ((aO (cV v15)) e s)) fun v16=>bP (aL v8 false (aD g8 e)) fun v17=>bP (aL v8 false (aA aP (cV v17) e)) fun v18=>bP (aL v8 false (aj (bI qD) (cV v16) (cV v18) e)) fun v19=>bP (aN (cV v8) (cV (.bool true)) (cV v19) e) fun v20=>bP (aL v20 false (aD g8 e)) fun v21=>bP (aL v20 false (aD g8 e)) fun v22=>bP (aL v20 false (aD g10 e)) fun v23=>bP (aL v20 false (aj (aQ 3) (cV v22) (cV v23) e)) fun v24=>bP (aL v20 false (aA (aC 2) (cV v24) e)) fun v25=>bP (aL v20 false ((aO (cV v25)) e s)) fun v26=>bP (aL v20 false (aD g13 e)) fun v27=>bP (aL v20 false (aj (aQ 1) (cV v26) (cV v27) e)) fun v28=>bP (aL v20 false ((aO (cV v28)) e s)) fun v29=>bP (aL v20 false (aj (aQ 3) (cV v21) (cV v29) e)) fun v30=>bP (aL v20 false (aA (aC 0) (cV v30) e)) fun v31=>bP (aL v20 false ((aO (cV v31)) e s)) fun v32=>bP (aL v20 false (aD g12 e)) fun v33=>bP (aL v20 false (aD g13 e)) fun v34=>bP (aL v20 false (aj (aQ 1) (cV v33) (cV v34) e)) fun v35=>bP (aL v20 false ((aO (cV v35)) e s)) fun v36=>bP (aL v20 false (aj (bI sg) (cV v32) (cV v36) e)) fun v37=>bP (aN (cV v20) (cV (.bool true)) (cV v37) e) fun v38=>.au (rw9 (rw8 (rw7 e fun a b c _ _ _ _ _ _ _ _ _ _ _ _ _=>⟨a,b,c,v0,v1,v2,v3,v4,v5,v6,v7,v8,v8,v9,v10,v11⟩) fun _ _ _ _ _ _ _ _ _ _ _ _ _ _ _ _=>⟨v12,v13,v14,v15,v16,v17,v18,v19,v20,v20,v21,v22,v23,v24,v25,v26⟩) fun _ _ _ _ _ _ _ _ _ _ _ _ o p q r=>⟨v27,v28,v29,v30,v31,v32,v33,v34,v35,v36,v37,v38,o,p,q,r⟩) s
def Pd:Den:=fun _ e s=>bM (V.bool false) fun v0=>.au (u2 e v0) s
def UB:Den:=fun _ e s=>lt (g13 e) fun v0=>bP (aj (bI bQ) (cV v0) (cV (.i 1)) e) fun v1=>.au (pR (u13 e v1) fun r=>{r with a1:=v0,a2:=v1}) s
def QW:Den:=fun _ e s=>lt (g8 e) fun v0=>lt (g10 e) fun v1=>bP (aj (aQ 3) (cV v0) (cV v1) e) fun v2=>bP (aA (aC 1) (cV v2) e) fun v3=>bP ((aO (cV v3)) e s) fun v4=>.au (u160 (yY (u9 e v4) fun r=>{r with a12:=v0,a13:=v1,a14:=v2,a15:=v3}) v4) s
def Sb:aB:=af Pw (af (af Uw (av g108 (af Rr aU) ay)) (af (af U7 (aG 4 (cB (af (af SQ (av g112 ay (bW 4))) (af (aG 5 (af P_ (av g155 (af Pd aU) ay))) UB))))) QW)) k e s
def Qr:aB:=af (af Qp (aG 2 (cB (af (af Rl (av g75 ay (bW 2))) (af (aG 3 (af PM (av g91 (af U4 aU) ay))) Tm))))) Sb k e s
def Tx:Den:=fun _ e s=>lt (g10 e) fun v0=>bP (aj (bI bQ) (cV v0) (cV (.i 1)) e) fun v1=>.au (dh (u10 e v1) fun r=>{r with a3:=v0,a4:=v1}) s
def RY:aB:=lt (g9 e) fun v0=>lt (g3 e) fun v1=>bP (aA aP (cV v1) e) fun v2=>bP (aj (bI bh) (cV v0) (cV v2) e) fun v3=>bE (iH v3 true s (ak 12 [] k e s)) fun v4 s=>bP (aN (cV v3) (cV v4) (cV (.bool false)) e) fun v5=>.au (Bv (u2 e v5) fun r=>{r with a1:=v0,a2:=v1,a3:=v2,a4:=v3,a5:=v3,a6:=v4,a7:=v5}) s
def Wr:aB:=af aar (af Zk (af aaj (af (af Zx (av g27 (af UI aU) ay)) (af Po (af Qb (af (af SD (aG 0 (cB (af (af Sd (av g34 ay (bW 0))) (af (aG 1 (af (af Rz (av g62 (af Uj aU) ay)) Qr)) Tx))))) (af RY aU))))))) k e s
def F5 : aY := ⟨[u0], Wr, aM [rT g2]⟩
theorem acE : aJ tt [] fok Try.f5 = some F5 := by kernel_rfl
theorem aan : aI Try.prog [] 5 F5 := aI.of (az bY bA mixed Try.func5 acE)
def aah:Den:=fun _ e s=>bE (dm (lT 4 (cL [(.i 0), (.i 0), (.i 0), (.i 0)]) e s.next) s) fun v0 s=>.au (u6 e v0) s
def Zn:aB:=lt (g0 e) fun v0=>lt (g1 e) fun v1=>lt (g2 e) fun v2=>bP (bF [(.i 0), (.i 0), (.i 0), (.i 0)] [(0, 1, (cV v0)), (1, 1, (cV v1)), (2, 1, (cV v2))] e) fun v3=>bE (dW 4 g6 (cV v3) k e s) fun v4 s=>.au (bJ e fun r=>{r with a7:=v0,a8:=v1,a9:=v2,a10:=v3}) s
def YX:aB:=af aah (af Zn aU) k e s
def F7 : aY := ⟨[u0, u1, u2], YX, aM [rC true (nat_lit 4) g6]⟩
theorem abz : aJ tt [] fok Try.f7 = some F7 := by kernel_rfl
theorem Zz : aI Try.prog [] 7 F7 := aI.of (az bY bA mixed Try.func7 abz)
def aae:Den:=fun _ e s=>bM (V.i 0) fun v0=>bM (V.i 0) fun v1=>.au (bJ e fun r=>{r with a6:=v0,a7:=v1}) s
def Zc:Den:=fun _ e s=>lt (g0 e) fun v0=>bP (aA aP (cV v0) e) fun v1=>bP (aj (bI bh) (cV v1) (cV (.i 0)) e) fun v2=>.au (cN (u15 e v0) fun r=>{r with a0:=v1,a1:=v2}) s
def aam:Den:=fun _ e s=>bM (V.i 17) fun v0=>bM (V.i 0) fun v1=>.au (bJ e fun r=>{r with a6:=v0,a7:=v1}) s
def PG:Den:=fun _ e s=>lt (g0 e) fun v0=>bP (aA aP (cV v0) e) fun v1=>bM (V.i 0) fun v2=>.au (cN e fun r=>{r with a2:=v0,a3:=v1,a4:=v2}) s
def UZ:Den:=fun _ e s=>bP (aj (bI fN) g20 g19 e) fun v0=>.au (u21 e v0) s
def SJ:aB:=bP (aj (aQ 4) g18 g20 e) fun v0=>bP ((di 4 (cV v0)) e s) fun v1=>bE (dm (lT 4 (cL [(.i 0), (.i 0), (.i 0), (.i 0)]) e s.next) s) fun v2 s=>bE (dW 4 (cV v2) (cV v1) k e s) fun v3 s=>.au (cN (u9 e v2) fun r=>{r with a6:=v0,a7:=v1}) s
def Qn:aB:=bP (aA (aC 1) g9 e) fun v0=>bP ((aO (cV v0)) e s) fun v1=>bE (ak 21 [cV v1] k e s) fun v2 s=>bP (aL v2 true (aD g0 e)) fun v3=>bP (aL v2 true (aA (aC 2) g9 e)) fun v4=>bP (aL v2 true ((aO (cV v4)) e s)) fun v5=>bE (iH v2 true s (ak 11 [cV v3,cV v5] k e s)) fun v6 s=>bP (aL v2 true (aj (bI fN) (cV v6) (cV (.i 0)) e)) fun v7=>bP (aN (cV v2) (cV v7) (cV (.bool false)) e) fun v8=>.au (dh (cN e fun r=>{r with a8:=v0,a9:=v1,a10:=v2,a11:=v2,a12:=v3,a13:=v4,a14:=v5,a15:=v6}) fun r=>{r with a0:=v7,a1:=v8}) s
def Se:Den:=fun _ e s=>bP (aA (aC 0) g9 e) fun v0=>bP ((aO (cV v0)) e s) fun v1=>bM (V.i 16) fun v2=>.au (dh (bJ e fun r=>{r with a6:=v2,a7:=v1}) fun r=>{r with a2:=v0,a3:=v1}) s
def UD:Den:=fun _ e s=>bP (aj (bI bQ) g20 (cV (.i 1)) e) fun v0=>.au (u36 (u20 e v0) v0) s
def T0:aB:=lt (g0 e) fun v0=>lt (g0 e) fun v1=>bP (aA aP (cV v1) e) fun v2=>bP (aj (bI ep) (cV v2) (cV (.i 1)) e) fun v3=>bP (aj (aQ 4) (cV v0) (cV v3) e) fun v4=>bP ((di 4 (cV v4)) e s) fun v5=>bE (dm (lT 4 (cL [(.i 0), (.i 0), (.i 0), (.i 0)]) e s.next) s) fun v6 s=>bE (dW 4 (cV v6) (cV v5) k e s) fun v7 s=>.au (dh (u10 e v6) fun r=>{r with a5:=v0,a6:=v1,a7:=v2,a8:=v3,a9:=v4,a10:=v5}) s
def R6:aB:=bP (aA (aC 1) g10 e) fun v0=>bP ((aO (cV v0)) e s) fun v1=>bE (ak 22 [cV v1] k e s) fun v2 s=>bP (aA jw (cV v2) e) fun v3=>.au (dh e fun r=>{r with a11:=v0,a12:=v1,a13:=v2,a14:=v3}) s
def UW:Den:=fun _ e s=>bP (aA (aC 0) g10 e) fun v0=>bP ((aO (cV v0)) e s) fun v1=>bM (V.i 17) fun v2=>.au (u48 (u47 (bJ e fun r=>{r with a6:=v2,a7:=v1}) v0) v1) s
def Q8:Den:=fun _ e s=>lt (g1 e) fun v0=>bP (aA aP (cV v0) e) fun v1=>bM (V.i 0) fun v2=>.au (fW e fun r=>{r with a1:=v0,a2:=v1,a3:=v2}) s
def Tj:Den:=fun _ e s=>bP (aj (bI fN) g51 g50 e) fun v0=>.au (u52 e v0) s
def Ro:aB:=bP (aj (aQ 4) g49 g51 e) fun v0=>bP ((di 4 (cV v0)) e s) fun v1=>bE (dm (lT 4 (cL [(.i 0), (.i 0), (.i 0), (.str [])]) e s.next) s) fun v2 s=>bE (dW 4 (cV v2) (cV v1) k e s) fun v3 s=>.au (fW (u12 e v2) fun r=>{r with a5:=v0,a6:=v1}) s
def SK:aB:=gT [⟨none, (.p (aD g0)), u55⟩, ⟨none, (.p (aA (aC 0) g12)), u56⟩, ⟨none, (.d 1 0 (aO g56)), u57⟩, ⟨none, (.e (ak 11 [g55, g57])), u58⟩, ⟨none, (.p (aj (bI fN) g58 (cV (.i 0)))), u59⟩, ⟨none, (.p (aD g59)), u60⟩, ⟨(some (60, false)), (.p (aD g0)), u61⟩, ⟨(some (60, false)), (.p (aA (aC 2) g12)), u62⟩, ⟨(some (60, false)), (.d 1 0 (aO g62)), u63⟩, ⟨(some (60, false)), (.e (ak 11 [g61, g63])), u64⟩, ⟨(some (60, false)), (.p (aj (bI fN) g64 (cV (.i 0)))), u65⟩, ⟨none, (.p (aN g60 (cV (.bool true)) g65)), u66⟩, ⟨none, (.p (aD g66)), u67⟩, ⟨(some (67, false)), (.p (aD g0)), u68⟩, ⟨(some (67, false)), (.p (aA (aC 1) g12)), u69⟩, ⟨(some (67, false)), (.d 1 0 (aO g69)), u70⟩, ⟨(some (67, false)), (.e (ak 11 [g68, g70])), u71⟩, ⟨(some (67, false)), (.p (aj (bI fN) g71 (cV (.i 0)))), u72⟩, ⟨(some (67, false)), (.p (aD g72)), u73⟩, ⟨(some (73, true)), (.p (aA (aC 1) g12)), u74⟩, ⟨(some (73, true)), (.d 3 4 (aO g74)), u75⟩, ⟨(some (73, true)), (.p (aD g0)), u76⟩, ⟨(some (73, true)), (.e (ak 23 [g76])), u77⟩, ⟨(some (73, true)), (.p (aj (bI sg) g75 g77)), u78⟩, ⟨(some (67, false)), (.p (aN g73 g78 (cV (.bool false)))), u79⟩, ⟨none, (.p (aN g67 (cV (.bool true)) g79)), u80⟩, ⟨none, (.p (aD g80)), u81⟩, ⟨(some (81, false)), (.p (aA (aC 0) g12)), u82⟩, ⟨(some (81, false)), (.d 1 0 (aO g82)), u83⟩, ⟨(some (81, false)), (.p (aA (aC 1) g12)), u84⟩, ⟨(some (81, false)), (.d 1 0 (aO g84)), u85⟩, ⟨(some (81, false)), (.p (aj (bI qD) g83 g85)), u86⟩, ⟨none, (.p (aN g81 (cV (.bool true)) g86)), u87⟩] k e s
def TY:Den:=fun _ e s=>bP (aA (aC 0) g12 e) fun v0=>bP ((aO (cV v0)) e s) fun v1=>bM (V.i 16) fun v2=>.au (kL (bJ e fun r=>{r with a6:=v2,a7:=v1}) fun r=>{r with a8:=v0,a9:=v1}) s
def Qq:Den:=fun _ e s=>bP (aj (bI bQ) g51 (cV (.i 1)) e) fun v0=>.au (u90 (u51 e v0) v0) s
def Su:Den:=fun _ e s=>lt (g2 e) fun v0=>bP (aA aP (cV v0) e) fun v1=>bM (V.i 0) fun v2=>.au (kL e fun r=>{r with a11:=v0,a12:=v1,a13:=v2}) s
def Rc:Den:=fun _ e s=>bP (aj (bI fN) g93 g92 e) fun v0=>.au (u94 e v0) s
def QL:aB:=lt (g93 e) fun v0=>bP (aj (aQ 3) g91 g93 e) fun v1=>bP ((di 3 (cV v1)) e s) fun v2=>bE (dm (lT 3 (cL [(.i 0), .ax, .ax]) e s.next) s) fun v3 s=>bE (dW 3 (cV v3) (cV v2) k e s) fun v4 s=>.au (mN (u95 (bJ e fun r=>{r with a13:=v0,a14:=v3}) v0) fun r=>{r with a0:=v1,a1:=v2}) s
def Q3:aB:=lt (g0 e) fun v0=>bP (aA (aC 0) g14 e) fun v1=>bP ((aO (cV v1)) e s) fun v2=>bE (ak 11 [cV v0,cV v2] k e s) fun v3 s=>bP (aj (bI fN) (cV v3) (cV (.i 0)) e) fun v4=>.au (mN e fun r=>{r with a2:=v4,a3:=v0,a4:=v1,a5:=v2,a6:=v3,a7:=v4}) s
def TW:Den:=fun _ e s=>bP (aA (aC 0) g14 e) fun v0=>bP ((aO (cV v0)) e s) fun v1=>bM (V.i 16) fun v2=>.au (mN (bJ e fun r=>{r with a6:=v2,a7:=v1}) fun r=>{r with a8:=v0,a9:=v1}) s
def Pt:aB:=lt (g2 e) fun v0=>lt (g13 e) fun v1=>bP (yC 3 (cV v0) none (some (cV v1)) none e) fun v2=>bP (uq 25 [] [g14] e) fun v3=>bE (ak 24 [cV v2,cV v3] k e s) fun v4 s=>.au (mN e fun r=>{r with a10:=v4,a11:=v0,a12:=v1,a13:=v2,a14:=v3,a15:=v4}) s
def Pb:Den:=fun _ e s=>bP (aA (aC 0) g14 e) fun v0=>bP ((aO (cV v0)) e s) fun v1=>bM (V.i 21) fun v2=>.au (pR (bJ e fun r=>{r with a6:=v2,a7:=v1}) fun r=>{r with a0:=v0,a1:=v1}) s
def SO:Den:=fun _ e s=>bP (aj (bI bQ) g93 (cV (.i 1)) e) fun v0=>.au (u114 (u93 e v0) v0) s
def Sw:Den:=fun _ e s=>bM (V.i 0) fun v0=>bM (V.i 0) fun v1=>.au (bJ e fun r=>{r with a6:=v0,a7:=v1}) s
def LN:aB:=af (af Su (aG 4 (cB (af Rc (af (av g94 ay (bW 4)) (af (aG 5 (af QL (aG 6 (af Q3 (av g98 (af TW aU) (af Pt (av g106 (af Pb aU) ay))))))) SO)))))) (af Sw aU) k e s
def Cz:aB:=af (af Q8 (aG 2 (cB (af Tj (af (av g52 ay (bW 2)) (af (aG 3 (af Ro (af SK (av g87 (af TY aU) ay)))) Qq)))))) LN k e s
def xx:aB:=af (af T0 (af R6 (av g46 (af UW aU) ay))) Cz k e s
def VV:aB:=af aae (af (af Zc (av g17 (af aam aU) ay)) (af (af PG (aG 0 (cB (af UZ (af (av g21 ay (bW 0)) (af (aG 1 (af SJ (af Qn (av g33 (af Se aU) ay)))) UD)))))) xx)) k e s
def F8 : aY := ⟨[u0, u1, u2], VV, aM [rT g6, rT g7]⟩
theorem acz : aJ tt [] fok Try.f8 = some F8 := by kernel_rfl
theorem Yl : aI Try.prog [] 8 F8 := aI.of (az bY bA mixed Try.func8 acz)
def abe:Den:=fun _ e s=>bM (V.bool false) fun v0=>.au (u4 e v0) s
def aaf:Den:=fun _ e s=>lt (g0 e) fun v0=>bP (aA aP (cV v0) e) fun v1=>lt (g1 e) fun v2=>bP (aA aP (cV v2) e) fun v3=>bP (aj (bI sg) (cV v1) (cV v3) e) fun v4=>.au (bJ e fun r=>{r with a6:=v0,a7:=v1,a8:=v2,a9:=v3,a10:=v4}) s
def aaW:Den:=fun _ e s=>bM (V.bool false) fun v0=>.au (u4 e v0) s
def Ul:Den:=fun _ e s=>bM (V.i 0) fun v0=>.au (u5 e v0) s
def UX:Den:=fun _ e s=>lt (g5 e) fun v0=>lt (g0 e) fun v1=>bP (aA aP (cV v1) e) fun v2=>bP (aj (bI fN) (cV v0) (cV v2) e) fun v3=>.au (bJ e fun r=>{r with a11:=v0,a12:=v1,a13:=v2,a14:=v3}) s
def TX:Den:=fun _ e s=>lt (g0 e) fun v0=>lt (g5 e) fun v1=>bP (aj (aQ 1) (cV v0) (cV v1) e) fun v2=>bP ((aO (cV v2)) e s) fun v3=>lt (g1 e) fun v4=>lt (g5 e) fun v5=>bP (aj (aQ 1) (cV v4) (cV v5) e) fun v6=>bP ((aO (cV v6)) e s) fun v7=>bP (aj (bI sg) (cV v3) (cV v7) e) fun v8=>.au (cN e fun r=>{r with a1:=v0,a2:=v1,a3:=v2,a4:=v3,a5:=v4,a6:=v5,a7:=v6,a8:=v7,a9:=v8}) s
def U6:Den:=fun _ e s=>bM (V.bool false) fun v0=>.au (u4 e v0) s
def QS:Den:=fun _ e s=>lt (g5 e) fun v0=>bP (aj (bI bQ) (cV v0) (cV (.i 1)) e) fun v1=>.au (u16 (bJ e fun r=>{r with a5:=v1,a15:=v0}) v1) s
def Sl:Den:=fun _ e s=>bM (V.bool true) fun v0=>.au (u4 e v0) s
def Ya:aB:=af abe (af (af aaf (av g10 (af aaW aU) ay)) (af (af Ul (aG 0 (cB (af (af UX (av g14 ay (bW 0))) (af (aG 1 (af TX (av g25 (af U6 aU) ay))) QS))))) (af Sl aU))) k e s
def F9 : aY := ⟨[u0, u1], Ya, aM [rT g4]⟩
theorem adh : aJ tt [] fok Try.f9 = some F9 := by kernel_rfl
theorem X5 : aI Try.prog [] 9 F9 := aI.of (az bY bA mixed Try.func9 adh)
def T6:Den:=fun _ e s=>bM (V.ax) fun v0=>.au (u4 e v0) s
def Qu:Den:=fun _ e s=>lt (g1 e) fun v0=>bP (aj (bI fN) (cV v0) (cV (.i 0)) e) fun v1=>bP (aL v1 false (aD g1 e)) fun v2=>bP (aL v1 false (aD g0 e)) fun v3=>bP (aL v1 false (aA aP (cV v3) e)) fun v4=>bP (aL v1 false (aj (bI qD) (cV v2) (cV v4) e)) fun v5=>bP (aN (cV v1) (cV (.bool true)) (cV v5) e) fun v6=>.au (bJ e fun r=>{r with a7:=v0,a8:=v1,a9:=v1,a10:=v2,a11:=v3,a12:=v4,a13:=v5,a14:=v6}) s
def O4:Den:=fun _ e s=>bM (V.ax) fun v0=>.au (u4 e v0) s
def TN:Den:=fun _ e s=>bM (V.ax) fun v0=>.au (u5 e v0) s
def zI:aB:=lt (g0 e) fun v0=>lt (g1 e) fun v1=>bP (aj (aQ 4) (cV v0) (cV v1) e) fun v2=>bP (aA (aC 1) (cV v2) e) fun v3=>bP ((aO (cV v3)) e s) fun v4=>bE (ak 22 [cV v4] k e s) fun v5 s=>bP (aA jw (cV v5) e) fun v6=>bP (aL v6 true (aD g1 e)) fun v7=>bP (aL v6 true (aj (bI bQ) (cV v7) (cV (.i 1)) e)) fun v8=>bP (aL v6 true (aD g0 e)) fun v9=>bP (aL v6 true (aA aP (cV v9) e)) fun v10=>bP (aL v6 true (aj (bI fN) (cV v8) (cV v10) e)) fun v11=>bP (aN (cV v6) (cV v11) (cV (.bool false)) e) fun v12=>.au (mP (u15 e v0) fun _ _ _ _ _ _ _ _ _ _ _ _ _ p q r=>⟨v1,v2,v3,v4,v5,v6,v6,v7,v8,v9,v10,v11,v12,p,q,r⟩) s
def AH:aB:=lt (g5 e) fun v0=>lt (g1 e) fun v1=>bP (aj (bI bQ) (cV v1) (cV (.i 1)) e) fun v2=>bE (dm (cG 1 1 [(.i 0)] [(0, 1, (cV v2))] e s.next) s) fun v3 s=>bE (oB 1 (cV v0) (cV v3) k e s) fun v4 s=>.au (dh (cN (u5 e v4) fun r=>{r with a13:=v0,a14:=v1,a15:=v2}) fun r=>{r with a0:=v3,a1:=v4}) s
def Lj:aB:=lt (g0 e) fun v0=>lt (g1 e) fun v1=>bP (aj (aQ 4) (cV v0) (cV v1) e) fun v2=>bP (aA (aC 1) (cV v2) e) fun v3=>bP ((aO (cV v3)) e s) fun v4=>bE (ak 21 [cV v4] k e s) fun v5 s=>.au (dh e fun r=>{r with a2:=v0,a3:=v1,a4:=v2,a5:=v3,a6:=v4,a7:=v5}) s
def Hh:aB:=lt (g0 e) fun v0=>lt (g0 e) fun v1=>lt (g1 e) fun v2=>bP (aj (aQ 4) (cV v1) (cV v2) e) fun v3=>bP (aA (aC 2) (cV v3) e) fun v4=>bP ((aO (cV v4)) e s) fun v5=>bE (ak 11 [cV v0,cV v5] k e s) fun v6 s=>.au (dh (u6 e v6) fun r=>{r with a8:=v0,a9:=v1,a10:=v2,a11:=v3,a12:=v4,a13:=v5,a14:=v6}) s
def GD:Den:=fun _ e s=>lt (g6 e) fun v0=>bP (aj (bI qD) (cV v0) (cV (.i 0)) e) fun v1=>.au (u48 (u47 e v0) v1) s
def D5:aB:=lt (g5 e) fun v0=>lt (g6 e) fun v1=>bE (dm (cG 1 1 [(.i 0)] [(0, 1, (cV v1))] e s.next) s) fun v2 s=>bE (oB 1 (cV v0) (cV v2) k e s) fun v3 s=>.au (fW (u5 e v3) fun r=>{r with a1:=v0,a2:=v1,a3:=v2,a4:=v3}) s
def II:aB:=lt (g5 e) fun v0=>bE (ak 26 [cV v0] k e s) fun v1 s=>.au (fW e fun r=>{r with a5:=v0,a6:=v1}) s
def JR:aB:=lt (g5 e) fun v0=>bE (ak 27 [cV v0] k e s) fun v1 s=>.au (fW (u4 e v1) fun r=>{r with a7:=v0,a8:=v1}) s
def vq:aB:=af II (af JR aU) k e s
def oY:aB:=af (af Lj (av g39 (af Hh (af GD (av g48 D5 ay))) ay)) vq k e s
def Ej:aB:=af T6 (af (af Qu (av g14 (af O4 aU) ay)) (af TN (af (af zI (av g28 AH ay)) oY))) k e s
def XR : aY := ⟨[u0, u1], Ej, aM [rT g4]⟩
theorem aaX : aJ tt [] fok Try.f10 = some XR := by kernel_rfl
theorem PC : aI Try.prog [] 10 XR := aI.of (az bY bA mixed Try.func10 aaX)
def Rf:Den:=fun _ e s=>bM (V.i 0) fun v0=>.au (u4 e v0) s
def QA:aB:=lt (g0 e) fun v0=>lt (g1 e) fun v1=>bE (ak 28 [(cV v0), (cV v1), (cV (.func 29 [] []))] k e s) fun v2 s=>bP (aA (dL 0) (cV v2) e) fun v3=>bP (aA (dL 1) (cV v2) e) fun v4=>.au (bJ e fun r=>{r with a5:=v3,a6:=v4,a7:=v2,a8:=v0,a9:=v1,a10:=v2,a11:=v3,a12:=v4}) s
def Rn:Den:=fun _ e s=>lt (g6 e) fun v0=>bP (aA jw (cV v0) e) fun v1=>.au (bJ e fun r=>{r with a13:=v0,a14:=v1}) s
def Tt:Den:=fun _ e s=>bM (V.i (-1)) fun v0=>.au (u4 e v0) s
def zN:Den:=fun _ e s=>lt (g5 e) fun v0=>.au (bJ e fun r=>{r with a4:=v0,a15:=v0}) s
def Dk:aB:=af Rf (af QA (af (af Rn (av g14 (af Tt aU) ay)) (af zN aU))) k e s
def ZY : aY := ⟨[u0, u1], Dk, aM [rT g4]⟩
theorem Zp : aJ tt [] fok Try.f11 = some ZY := by kernel_rfl
theorem Tk : aI Try.prog [] 11 ZY := aI.of (az bY bA mixed Try.func11 Zp)
def Qm:Den:=fun _ e s=>bM (V.bool false) fun v0=>.au (u0 e v0) s
def Uh:aB:=bE (ak 7 [(cV (.i 0)), (cV (.i 0)), (cV (.i 0))] k e s) fun v0 s=>bE (dm (cG 1 4 [(.i 0), (.i 0), (.i 0), (.i 0)] [(0, 4, (cV v0))] e s.next) s) fun v1 s=>bE (ak 8 [(cV v1), (cV .ax), (cV .ax)] k e s) fun v2 s=>bP (aA (dL 0) (cV v2) e) fun v3=>bP (aA (dL 1) (cV v2) e) fun v4=>.au (bJ e fun r=>{r with a1:=v3,a2:=v4,a4:=v2,a5:=v0,a6:=v1,a7:=v2,a8:=v3,a9:=v4}) s
def O_:aB:=bE (ak 7 [(cV (.i 0)), (cV (.i 167)), (cV (.i 3))] k e s) fun v0 s=>bE (ak 7 [(cV (.i 3)), (cV (.i 167)), (cV (.i 0))] k e s) fun v1 s=>bE (dm (cG 2 4 [(.i 0), (.i 0), (.i 0), (.i 0), (.i 0), (.i 0), (.i 0), (.i 0)] [(0, 4, (cV v0)), (4, 4, (cV v1))] e s.next) s) fun v2 s=>bE (ak 17 [(cV v2), (cV .ax)] k e s) fun v3 s=>.au (bJ e fun r=>{r with a3:=v3,a10:=v0,a11:=v1,a12:=v2,a13:=v3}) s
def Qv:aB:=lt (g1 e) fun v0=>bP (aj (bI bh) (cV v0) (cV (.i 17)) e) fun v1=>bP (aL v1 true (aD g2 e)) fun v2=>bP (aL v1 true (aj (bI bh) (cV v2) (cV (.i 0)) e)) fun v3=>bP (aN (cV v1) (cV v3) (cV (.bool false)) e) fun v4=>bP (aL v4 true (aD g3 e)) fun v5=>bE (iH v4 true s (dm (cG 1 1 [(.i 0)] [(0, 1, (cV (.i 1)))] e s.next) s)) fun v6 s=>bP (aL v4 true (bF [(.i 0), (.i 0), .ax] [(0, 1, (cV (.i 0))), (1, 1, (cV (.i 1))), (2, 1, (cV v6))] e)) fun v7=>bE (iH v4 true s (dm (cG 1 1 [(.i 0)] [(0, 1, (cV (.i 0)))] e s.next) s)) fun v8 s=>bP (aL v4 true (bF [(.i 0), (.i 0), .ax] [(0, 1, (cV (.i 1))), (1, 1, (cV (.i 2))), (2, 1, (cV v8))] e)) fun v9=>bE (iH v4 true s (dm (cG 2 3 [(.i 0), (.i 0), .ax, (.i 0), (.i 0), .ax] [(0, 3, (cV v7)), (3, 3, (cV v9))] e s.next) s)) fun v10 s=>bE (iH v4 true s (ak 31 [cV v5,cV v10] k e s)) fun v11 s=>bP (aN (cV v4) (cV v11) (cV (.bool false)) e) fun v12=>bE (iH v12 true s (ak 7 [(cV (.i 0)), (cV (.i 177)), (cV (.i 0))] k e s)) fun v13 s=>bE (iH v12 true s (ak 7 [(cV (.i 1)), (cV (.i 177)), (cV (.i 0))] k e s)) fun v14 s=>bE (iH v12 true s (dm (cG 2 4 [(.i 0), (.i 0), (.i 0), (.i 0), (.i 0), (.i 0), (.i 0), (.i 0)] [(0, 4, (cV v13)), (4, 4, (cV v14))] e s.next) s)) fun v15 s=>bE (iH v12 true s (ak 20 [(cV v15), (cV .ax)] k e s)) fun v16 s=>bE (iH v12 true s (dm (cG 2 1 [(.bool false), (.bool false)] [(0, 1, (cV (.bool true))), (1, 1, (cV (.bool false)))] e s.next) s)) fun v17 s=>bE (iH v12 true s (ak 32 [cV v16,cV v17] k e s)) fun v18 s=>bP (aN (cV v12) (cV v18) (cV (.bool false)) e) fun v19=>.au (dh (mP (bJ e fun r=>{r with a0:=v19,a14:=v0,a15:=v1}) fun _ _ _ _ _ _ _ _ _ _ _ _ _ _ _ _=>⟨v1,v2,v3,v4,v4,v5,v6,v7,v8,v9,v10,v11,v12,v12,v13,v14⟩) fun r=>{r with a0:=v15,a1:=v16,a2:=v17,a3:=v18,a4:=v19}) s
def Q0:aB:=af Qm (af Uh (af O_ (af Qv aU))) k e s
def XG : aY := ⟨[], Q0, aM [rT g0]⟩
theorem ZH : aJ tt [] fok Try.f12 = some XG := by kernel_rfl
theorem aaD : aI Try.prog [] 12 XG := aI.of (az bY bA mixed Try.func12 ZH)
def Rq:Den:=fun _ e s=>bM (V.ax) fun v0=>bM (V.ax) fun v1=>bM (V.ax) fun v2=>.au (bJ e fun r=>{r with a4:=v0,a5:=v1,a6:=v2}) s
def O1:aB:=lt (g0 e) fun v0=>bE (ak 33 [cV v0] k e s) fun v1 s=>bP (aA (dL 0) (cV v1) e) fun v2=>bP (aA (dL 1) (cV v1) e) fun v3=>bP (aA (dL 2) (cV v1) e) fun v4=>.au (cN (bJ e fun r=>{r with a7:=v2,a8:=v3,a9:=v4,a12:=v1,a13:=v0,a14:=v1,a15:=v2}) fun r=>{r with a0:=v3,a1:=v4}) s
def To:Den:=fun _ e s=>lt (g8 e) fun v0=>bP (aj (bI bh) (cV v0) (cV (.i 0)) e) fun v1=>bP (aL v1 true (aD g7 e)) fun v2=>bP (aL v1 true (aA aP (cV v2) e)) fun v3=>bP (aL v1 true (aj (bI rX) (cV v3) (cV (.i 0)) e)) fun v4=>bP (aN (cV v1) (cV v4) (cV (.bool false)) e) fun v5=>bP (aL v5 true (aD g0 e)) fun v6=>bP (aL v5 true (aA aP (cV v6) e)) fun v7=>bP (aL v5 true (aj (bI fN) (cV v7) (cV (.i 300)) e)) fun v8=>bP (aN (cV v5) (cV v8) (cV (.bool false)) e) fun v9=>.au (mP e fun a b _ _ _ _ _ _ _ _ _ _ _ _ q r=>⟨a,b,v0,v1,v1,v2,v3,v4,v5,v5,v6,v7,v8,v9,q,r⟩) s
def U0:Den:=fun _ e s=>lt (g7 e) fun v0=>bM (V.ax) fun v1=>bM (V.ax) fun v2=>.au (u30 (bJ e fun r=>{r with a4:=v0,a5:=v1,a6:=v2}) v0) s
def CR:aB:=lt (g1 e) fun v0=>bE (ak 34 [cV v0] k e s) fun v1 s=>.au (u32 (u31 (u10 e v1) v0) v1) s
def J4:aB:=lt (g10 e) fun v0=>lt (g10 e) fun v1=>bP (aA aP (cV v1) e) fun v2=>bP (aj (bI ep) (cV v2) (cV (.i 1)) e) fun v3=>bP (aj (aQ 5) (cV v0) (cV v3) e) fun v4=>bP (aA (aC 4) (cV v4) e) fun v5=>bP ((aO (cV v5)) e s) fun v6=>bP (aj (aQ 9) (cV v6) (cV (.i 0)) e) fun v7=>bP ((di 9 (cV v7)) e s) fun v8=>bE (dm (lT 9 (cL [(.str []), (.str []), (.bool false), (.bool false), (.i 0), (.i 0), .ax, .ax, .ax]) e s.next) s) fun v9 s=>bE (dW 9 (cV v9) (cV v8) k e s) fun v10 s=>.au (dh (u11 e v9) fun r=>{r with a1:=v0,a2:=v1,a3:=v2,a4:=v3,a5:=v4,a6:=v5,a7:=v6,a8:=v7,a9:=v8}) s
def CA:aB:=bP (aA (aC 6) g11 e) fun v0=>bP ((aO (cV v0)) e s) fun v1=>bE (ak 33 [cV v1] k e s) fun v2 s=>bP (aA (dL 0) (cV v2) e) fun v3=>bP (aA (dL 1) (cV v2) e) fun v4=>bP (aA (dL 2) (cV v2) e) fun v5=>.au (u48 (dh (u7 e v3) fun r=>{r with a10:=v2,a11:=v0,a12:=v1,a13:=v2,a14:=v3,a15:=v4}) v5) s
def B2:Den:=fun _ e s=>lt (g7 e) fun v0=>bP (aA (aC 7) g11 e) fun v1=>bP ((aO (cV v1)) e s) fun v2=>bP (aA (aC 8) g11 e) fun v3=>bP ((aO (cV v3)) e s) fun v4=>.au (fW (bJ e fun r=>{r with a4:=v0,a5:=v2,a6:=v4}) fun r=>{r with a1:=v0,a2:=v1,a3:=v2,a4:=v3,a5:=v4}) s
def Au:aB:=af Rq (af O1 (af (af To (av g29 (af U0 aU) ay)) (af CR (af J4 (af CA (af B2 aU)))))) k e s
def Uz : aY := ⟨[u0, u1], Au, aM [rT g4, rT g5, rT g6]⟩
theorem ZJ : aJ tt [] fok Try.f13 = some Uz := by kernel_rfl
theorem TM : aI Try.prog [] 13 Uz := aI.of (az bY bA mixed Try.func13 ZJ)
def Ud:Den:=fun _ e s=>bE (dm (jZ g0 e s.next) s) fun v0 s=>bM (V.ax) fun v1=>.au (bJ e fun r=>{r with a2:=v0,a4:=v1}) s
def RQ:Den:=fun _ e s=>bP ((aO g2) e s) fun v0=>bP (aA aP (cV v0) e) fun v1=>bP (aj (bI bh) (cV v1) (cV (.i 0)) e) fun v2=>.au (cN e fun r=>{r with a2:=v0,a3:=v1,a4:=v2}) s
def Sg:Den:=fun _ e s=>bM (V.ax) fun v0=>.au (u4 e v0) s
def Tw:Den:=fun _ e s=>bE (dm (cG 1 1 [(.i 0)] [(0, 1, (cV (.i 0)))] e s.next) s) fun v0 s=>.au (u21 (u5 e v0) v0) s
def FJ:Den:=fun _ e s=>bP ((aO g2) e s) fun v0=>bP (aA aP (cV v0) e) fun v1=>bM (V.i 0) fun v2=>.au (cN e fun r=>{r with a6:=v0,a7:=v1,a8:=v2}) s
def Mg:Den:=fun _ e s=>bP (aj (bI fN) g24 g23 e) fun v0=>.au (u25 e v0) s
def AN:aB:=lt (g24 e) fun v0=>bP (aj (aQ 4) g22 g24 e) fun v1=>bP ((di 4 (cV v1)) e s) fun v2=>bE (dm (lT 4 (cL [(.i 0), (.i 0), (.i 0), (.i 0)]) e s.next) s) fun v3 s=>bE (dW 4 (cV v3) (cV v2) k e s) fun v4 s=>.au (cN (bJ e fun r=>{r with a6:=v0,a7:=v3}) fun r=>{r with a10:=v0,a11:=v1,a12:=v2}) s
def E_:aB:=bP (aA (aC 1) g7 e) fun v0=>bP ((aO (cV v0)) e s) fun v1=>bE (ak 21 [cV v1] k e s) fun v2 s=>.au (cN e fun r=>{r with a13:=v0,a14:=v1,a15:=v2}) s
def Am:aB:=lt (g5 e) fun v0=>bP ((aO g2) e s) fun v1=>bP (aA (aC 2) g7 e) fun v2=>bP ((aO (cV v2)) e s) fun v3=>bE (ak 11 [cV v1,cV v3] k e s) fun v4 s=>bE (dm (cG 1 1 [(.i 0)] [(0, 1, (cV v4))] e s.next) s) fun v5 s=>bE (oB 1 (cV v0) (cV v5) k e s) fun v6 s=>.au (dh (u5 e v6) fun r=>{r with a0:=v0,a1:=v1,a2:=v2,a3:=v3,a4:=v4,a5:=v5,a6:=v6}) s
def J0:aB:=bP (aA (aC 1) g7 e) fun v0=>bP ((aO (cV v0)) e s) fun v1=>bE (ak 21 [cV v1] k e s) fun v2 s=>bP (aL v2 false (aA (aC 1) g7 e)) fun v3=>bP (aL v2 false ((aO (cV v3)) e s)) fun v4=>bE (iH v2 false s (ak 22 [cV v4] k e s)) fun v5 s=>bP (aN (cV v2) (cV (.bool true)) (cV v5) e) fun v6=>.au (dh e fun r=>{r with a7:=v0,a8:=v1,a9:=v2,a10:=v2,a11:=v3,a12:=v4,a13:=v5,a14:=v6}) s
def zV:aB:=lt (g5 e) fun v0=>lt (g6 e) fun v1=>bP (aj (bI bQ) (cV v1) (cV (.i 1)) e) fun v2=>bE (dm (cG 1 1 [(.i 0)] [(0, 1, (cV v2))] e s.next) s) fun v3 s=>bE (oB 1 (cV v0) (cV v3) k e s) fun v4 s=>.au (fW (u47 (u5 e v4) v0) fun r=>{r with a0:=v1,a1:=v2,a2:=v3,a3:=v4}) s
def Fl:Den:=fun _ e s=>bP (aj (bI bQ) g24 (cV (.i 1)) e) fun v0=>.au (u52 (u24 e v0) v0) s
def Co:Den:=fun _ e s=>lt (g1 e) fun v0=>bP (aA aP (cV v0) e) fun v1=>bM (V.i 0) fun v2=>.au (fW e fun r=>{r with a5:=v0,a6:=v1,a7:=v2}) s
def DD:Den:=fun _ e s=>bP (aj (bI fN) g55 g54 e) fun v0=>.au (u56 e v0) s
def Im:aB:=bP (aj (aQ 4) g53 g55 e) fun v0=>bP ((di 4 (cV v0)) e s) fun v1=>bE (dm (lT 4 (cL [(.i 0), (.i 0), (.i 0), (.str [])]) e s.next) s) fun v2 s=>bE (dW 4 (cV v2) (cV v1) k e s) fun v3 s=>.au (fW (u9 e v2) fun r=>{r with a9:=v0,a10:=v1}) s
def Cp:aB:=gT [⟨none, (.p (aD g5)), u59⟩, ⟨none, (.d 0 0 (aO g2)), u60⟩, ⟨none, (.p (aA (aC 2) g9)), u61⟩, ⟨none, (.d 0 0 (aO g61)), u62⟩, ⟨none, (.e (ak 11 [g60, g62])), u63⟩, ⟨none, (.d 0 1 (aO g2)), u64⟩, ⟨none, (.p (aA (aC 0) g9)), u65⟩, ⟨none, (.d 0 1 (aO g65)), u66⟩, ⟨none, (.e (ak 11 [g64, g66])), u67⟩, ⟨none, (.d 0 2 (aO g2)), u68⟩, ⟨none, (.p (aA (aC 1) g9)), u69⟩, ⟨none, (.d 0 2 (aO g69)), u70⟩, ⟨none, (.e (ak 11 [g68, g70])), u71⟩, ⟨none, (.a (cG 3 1 [(.i 0), (.i 0), (.i 0)] [(0, 1, g63), (1, 1, g67), (2, 1, g71)])), u72⟩, ⟨none, (.e (oB 1 g59 g72)), u73⟩, ⟨none, (.p (aD g73)), u5⟩] k e s
def Me:Den:=fun _ e s=>bP (aj (bI bQ) g55 (cV (.i 1)) e) fun v0=>.au (u74 (u55 e v0) v0) s
def K2:aB:=lt (g5 e) fun v0=>bP (uq 38 [] [g2] e) fun v1=>bE (ak 37 [cV v0,cV v1] k e s) fun v2 s=>.au (jj (u5 e v2) fun r=>{r with a11:=v0,a12:=v1,a13:=v2}) s
def Km:aB:=lt (g5 e) fun v0=>bE (ak 26 [cV v0] k e s) fun v1 s=>.au (jj e fun r=>{r with a14:=v0,a15:=v1}) s
def EK:aB:=lt (g5 e) fun v0=>bE (ak 27 [cV v0] k e s) fun v1 s=>.au (kL (u5 e v1) fun r=>{r with a0:=v0,a1:=v1}) s
def K3:Den:=fun _ e s=>bM (V.ax) fun v0=>.au (u10 e v0) s
def JX:Den:=fun _ e s=>lt (g5 e) fun v0=>bP (aA aP (cV v0) e) fun v1=>bM (V.i 0) fun v2=>.au (kL e fun r=>{r with a2:=v0,a3:=v1,a4:=v2}) s
def Ar:Den:=fun _ e s=>bP (aj (bI fN) g84 g83 e) fun v0=>.au (u85 e v0) s
def GI:Den:=fun _ e s=>lt (g84 e) fun v0=>bP (aj (aQ 1) g82 g84 e) fun v1=>bP ((aO (cV v1)) e s) fun v2=>.au (kL (bJ e fun r=>{r with a11:=v0,a12:=v2}) fun r=>{r with a6:=v0,a7:=v1,a8:=v2}) s
def zM:aB:=lt (g12 e) fun v0=>bP ((aO g2) e s) fun v1=>bP (aA aP (cV v1) e) fun v2=>bP (bF [(.i 0), (.i 0), .ax] [(0, 1, (cV v0)), (1, 1, (cV v2))] e) fun v3=>bE (dm (lT 3 (cL [(.i 0), (.i 0), .ax]) e s.next) s) fun v4 s=>bE (dW 3 (cV v4) (cV v3) k e s) fun v5 s=>.au (kL (u13 e v4) fun r=>{r with a9:=v0,a10:=v1,a11:=v2,a12:=v3}) s
def GH:Den:=fun _ e s=>lt (g11 e) fun v0=>bP (aj (bI bQ) (cV v0) (cV (.i 1)) e) fun v1=>lt (g5 e) fun v2=>bP (aA aP (cV v2) e) fun v3=>bP (aj (bI fN) (cV v1) (cV v3) e) fun v4=>.au (mN (kL e fun r=>{r with a13:=v0,a14:=v1,a15:=v2}) fun r=>{r with a0:=v3,a1:=v4}) s
def HJ:aB:=lt (g5 e) fun v0=>lt (g11 e) fun v1=>bP (aj (bI bQ) (cV v1) (cV (.i 1)) e) fun v2=>bP (aj (aQ 1) (cV v0) (cV v2) e) fun v3=>bP ((aO (cV v3)) e s) fun v4=>bP (aA (aC 1) g13 e) fun v5=>bE (dW 1 (cV v5) (cV v4) k e s) fun v6 s=>.au (mN e fun r=>{r with a2:=v0,a3:=v1,a4:=v2,a5:=v3,a6:=v4,a7:=v5}) s
def LD:aB:=bP ((aO g2) e s) fun v0=>bP (aA (aC 1) g13 e) fun v1=>bP ((aO (cV v1)) e s) fun v2=>bP (aj (bI ep) (cV v2) (cV (.i 1)) e) fun v3=>bE (ak 10 [cV v0,cV v3] k e s) fun v4 s=>bP (aA aP (cV v4) e) fun v5=>bM (V.i 0) fun v6=>.au (mN e fun r=>{r with a8:=v0,a9:=v1,a10:=v2,a11:=v3,a12:=v4,a13:=v5,a14:=v6}) s
def Ke:Den:=fun _ e s=>bP (aj (bI fN) g110 g109 e) fun v0=>.au (u111 e v0) s
def Di:Den:=fun _ e s=>bP (aj (aQ 1) g108 g110 e) fun v0=>bP ((aO (cV v0)) e s) fun v1=>.au (pR (u15 e v1) fun r=>{r with a0:=v0,a1:=v1}) s
def Cs:aB:=lt (g5 e) fun v0=>lt (g15 e) fun v1=>bE (ak 39 [cV v0,cV v1] k e s) fun v2 s=>bP (aA (dL 0) (cV v2) e) fun v3=>bP (aA (dL 1) (cV v2) e) fun v4=>.au (pR (cN e fun r=>{r with a0:=v3,a1:=v4}) fun r=>{r with a2:=v2,a3:=v0,a4:=v1,a5:=v2,a6:=v3,a7:=v4}) s
def KP:Den:=fun _ e s=>lt (g17 e) fun v0=>.au (u120 e v0) s
def LZ:aB:=bP (aA (aC 2) g13 e) fun v0=>bP ((aO (cV v0)) e s) fun v1=>lt (g16 e) fun v2=>bE (dm (cG 1 1 [(.i 0)] [(0, 1, (cV v2))] e s.next) s) fun v3 s=>bE (oB 1 (cV v1) (cV v3) k e s) fun v4 s=>bP (aA (aC 2) g13 e) fun v5=>bE (dW 1 (cV v5) (cV v4) k e s) fun v6 s=>.au (pR e fun r=>{r with a9:=v0,a10:=v1,a11:=v2,a12:=v3,a13:=v4,a14:=v5}) s
def HQ:Den:=fun _ e s=>bP (aj (bI bQ) g110 (cV (.i 1)) e) fun v0=>.au (u127 (u110 e v0) v0) s
def AS:aB:=lt (g10 e) fun v0=>bP ((di 3 g13) e s) fun v1=>bE (dm (cG 1 3 [(.i 0), (.i 0), .ax] [(0, 3, (cV v1))] e s.next) s) fun v2 s=>bE (jR 3 (cV v0) (cV v2) k e s) fun v3 s=>.au (qs (u10 e v3) fun r=>{r with a0:=v0,a1:=v1,a2:=v2,a3:=v3}) s
def xh:Den:=fun _ e s=>bP (aA (aC 1) g13 e) fun v0=>bP ((aO (cV v0)) e s) fun v1=>bP ((aO g2) e s) fun v2=>bP (aA aP (cV v2) e) fun v3=>bP (aj (bI bh) (cV v1) (cV v3) e) fun v4=>.au (qs e fun r=>{r with a4:=v0,a5:=v1,a6:=v2,a7:=v3,a8:=v4}) s
def sA:aB:=af (af LD (aG 6 (cB (af Ke (af (av g111 ay (bW 6)) (af (aG 7 (af Di (af Cs (af KP (av g120 LZ ay))))) HQ)))))) (af AS (af xh (av g136 (bW 4) ay))) k e s
def xp:Den:=fun _ e s=>bP (aj (bI bQ) g84 (cV (.i 1)) e) fun v0=>.au (u137 (u84 e v0) v0) s
def wQ:Den:=fun _ e s=>lt (g10 e) fun v0=>.au (u138 (u4 e v0) v0) s
def vg:aB:=af K2 (af Km (af EK (af K3 (af ay (af (af JX (aG 4 (cB (af Ar (af (av g85 ay (bW 4)) (af (aG 5 (af GI (af zM (af (af GH (av g97 HJ ay)) sA)))) xp)))))) (af wQ aU)))))) k e s
def vW:aB:=af (af Co (aG 2 (cB (af DD (af (av g56 ay (bW 2)) (af (aG 3 (af Im Cp)) Me)))))) vg k e s
def CC:aB:=af Ud (af (af RQ (av g20 (af Sg aU) ay)) (af Tw (af (af FJ (aG 0 (cB (af Mg (af (av g25 ay (bW 0)) (af (aG 1 (af AN (af (af E_ (av g31 Am ay)) (af J0 (av g46 zV ay))))) Fl)))))) vW))) k e s
def XT : aY := ⟨[u0, u1], CC, aM [rT g4]⟩
theorem aaF : aJ tt [] fok Try.f17 = some XT := by kernel_rfl
theorem Uq : aI Try.prog [] 17 XT := aI.of (az bY bA mixed Try.func17 aaF)
noncomputable def VU : aY := iF (fO 0 256 fun i => .bool (fU i))
noncomputable def Xm : aY := iF (fO 0 256 fun i => .bool (ey i))
def O2:Den:=fun _ e s=>bE (dm (jZ g0 e s.next) s) fun v0 s=>bM (V.ax) fun v1=>.au (bJ e fun r=>{r with a2:=v0,a4:=v1}) s
def Ss:aB:=bP ((aO g2) e s) fun v0=>bP (aA aP (cV v0) e) fun v1=>bE (dm (r9 1 1 [(.bool false)] (cV v1) (cV v1) e s.next) s) fun v2 s=>bE (dm (lT 1 (cL [.ax]) e s.next) s) fun v3 s=>bE (dW 1 (cV v3) (cV v2) k e s) fun v4 s=>.au (bJ e fun r=>{r with a5:=v3,a13:=v0,a14:=v1,a15:=v2}) s
def U8:Den:=fun _ e s=>bE (dm (lT 1 (cL [.ax]) e s.next) s) fun v0 s=>.au (u6 e v0) s
def PO:Den:=fun _ e s=>bP (uq 40 [] [g2, g5, g6] e) fun v0=>.au (u16 (u7 e v0) v0) s
def Uu:aB:=lt (g7 e) fun v0=>bE (fQ fok (cV v0) [(cV (.i 0))] k e s) fun v1 s=>.au (cN e fun r=>{r with a1:=v0,a2:=v1}) s
def CZ:Den:=fun _ e s=>bP ((aO g6) e s) fun v0=>bP (aA aP (cV v0) e) fun v1=>bP (aj (bI rX) (cV v1) (cV (.i 0)) e) fun v2=>.au (cN e fun r=>{r with a3:=v0,a4:=v1,a5:=v2}) s
def Hy:Den:=fun _ e s=>bP ((aO g6) e s) fun v0=>bP ((aO g6) e s) fun v1=>bP (aA aP (cV v1) e) fun v2=>bP (aj (bI ep) (cV v2) (cV (.i 1)) e) fun v3=>bP (aj (aQ 1) (cV v0) (cV v3) e) fun v4=>bP ((aO (cV v4)) e s) fun v5=>.au (cN (u8 e v5) fun r=>{r with a6:=v0,a7:=v1,a8:=v2,a9:=v3,a10:=v4,a11:=v5}) s
def Eu:aB:=bP ((aO g6) e s) fun v0=>bP ((aO g6) e s) fun v1=>bP (aA aP (cV v1) e) fun v2=>bP (aj (bI ep) (cV v2) (cV (.i 1)) e) fun v3=>bP (yC 1 (cV v0) none (some (cV v3)) none e) fun v4=>bE (dW 1 g6 (cV v4) k e s) fun v5 s=>.au (u32 (cN e fun r=>{r with a12:=v0,a13:=v1,a14:=v2,a15:=v3}) v4) s
def LK:aB:=bP ((aO g2) e s) fun v0=>lt (g8 e) fun v1=>bE (ak 10 [cV v0,cV v1] k e s) fun v2 s=>bP (aA aP (cV v2) e) fun v3=>bM (V.i 0) fun v4=>.au (dh e fun r=>{r with a1:=v0,a2:=v1,a3:=v2,a4:=v3,a5:=v4}) s
def JL:Den:=fun _ e s=>bP (aj (bI fN) g37 g36 e) fun v0=>.au (u38 e v0) s
def Lq:Den:=fun _ e s=>bP (aj (aQ 1) g35 g37 e) fun v0=>bP ((aO (cV v0)) e s) fun v1=>.au (dh (u10 e v1) fun r=>{r with a7:=v0,a8:=v1}) s
def LV:aB:=lt (g7 e) fun v0=>lt (g10 e) fun v1=>bE (fQ fok (cV v0) [cV v1] k e s) fun v2 s=>.au (dh e fun r=>{r with a9:=v0,a10:=v1,a11:=v2}) s
def GG:Den:=fun _ e s=>bP (aj (bI bQ) g37 (cV (.i 1)) e) fun v0=>.au (dh e fun r=>{r with a5:=v0,a12:=v0}) s
def Hu:Den:=fun _ e s=>lt (g1 e) fun v0=>bP (aA aP (cV v0) e) fun v1=>bM (V.i 0) fun v2=>.au (dh e fun r=>{r with a13:=v0,a14:=v1,a15:=v2}) s
def D_:Den:=fun _ e s=>bP (aj (bI fN) g47 g46 e) fun v0=>.au (u48 e v0) s
def EU:aB:=bP (aj (aQ 4) g45 g47 e) fun v0=>bP ((di 4 (cV v0)) e s) fun v1=>bE (dm (lT 4 (cL [(.i 0), (.i 0), (.i 0), (.str [])]) e s.next) s) fun v2 s=>bE (dW 4 (cV v2) (cV v1) k e s) fun v3 s=>.au (fW (u12 e v2) fun r=>{r with a1:=v0,a2:=v1}) s
def BU:Den:=fun _ e s=>bP (aA (aC 0) g12 e) fun v0=>bP ((aO (cV v0)) e s) fun v1=>bP ((aO g2) e s) fun v2=>lt (g8 e) fun v3=>bP (aj (aQ 4) (cV v2) (cV v3) e) fun v4=>bP (aA (aC 0) (cV v4) e) fun v5=>bP ((aO (cV v5)) e s) fun v6=>bP (aj (bI xj) (cV v1) (cV v6) e) fun v7=>bP (aL v7 true ((aO g2) e s)) fun v8=>bP (aL v7 true (aD g8 e)) fun v9=>bP (aL v7 true (aj (aQ 4) (cV v8) (cV v9) e)) fun v10=>bP (aL v7 true (aA (aC 0) (cV v10) e)) fun v11=>bP (aL v7 true ((aO (cV v11)) e s)) fun v12=>bP (aL v7 true (aA (aC 1) g12 e)) fun v13=>bP (aL v7 true ((aO (cV v13)) e s)) fun v14=>bP (aL v7 true (aj (bI fN) (cV v12) (cV v14) e)) fun v15=>bP (aN (cV v7) (cV v15) (cV (.bool false)) e) fun v16=>.au (jj (GR e fun a b c _ _ _ _ _ _ _ _ _ _ _ _ _=>⟨a,b,c,v0,v1,v2,v3,v4,v5,v6,v7,v7,v8,v9,v10,v11⟩) fun r=>{r with a0:=v12,a1:=v13,a2:=v14,a3:=v15,a4:=v16}) s
def Mo:aB:=lt (g7 e) fun v0=>bP ((aO g2) e s) fun v1=>bP (aA (aC 2) g12 e) fun v2=>bP ((aO (cV v2)) e s) fun v3=>bE (ak 11 [cV v1,cV v3] k e s) fun v4 s=>bE (fQ fok (cV v0) [cV v4] k e s) fun v5 s=>.au (jj e fun r=>{r with a5:=v0,a6:=v1,a7:=v2,a8:=v3,a9:=v4,a10:=v5}) s
def Ml:Den:=fun _ e s=>bP (aj (bI bQ) g47 (cV (.i 1)) e) fun v0=>.au (u75 (u47 e v0) v0) s
def DU:Den:=fun _ e s=>bP ((aO g5) e s) fun v0=>.au (u76 (u4 e v0) v0) s
def Pc:aB:=af O2 (af Ss (af U8 (af PO (af Uu (af (aG 0 (cB (af (af CZ (av g21 ay (bW 0))) (aG 1 (af Hy (af Eu (af (af LK (aG 2 (cB (af JL (af (av g38 ay (bW 2)) (af (aG 3 (af Lq LV)) GG)))))) (af Hu (aG 4 (cB (af D_ (af (av g48 ay (bW 4)) (af (aG 5 (af EU (af BU (av g68 Mo ay)))) Ml))))))))))))) (af DU aU)))))) k e s
def Y7 : aY := ⟨[u0, u1], Pc, aM [rT g4]⟩
theorem aaJ : aJ tt [] fok Try.f20 = some Y7 := by kernel_rfl
theorem Qd : aI Try.prog [] 20 Y7 := aI.of (az bY bA mixed Try.func20 aaJ)
noncomputable def WI : aY := iF (fO 0 256 fun i => .bool (fU i))
noncomputable def VQ : aY := iF (fO 0 256 fun i => .bool (ey i))
def Py:Den:=fun _ e s=>bM (V.i 0) fun v0=>.au (u2 e v0) s
def UE:aB:=lt (g0 e) fun v0=>lt (g0 e) fun v1=>bP (aA aP (cV v1) e) fun v2=>bP (aj (bI ep) (cV v2) (cV (.i 1)) e) fun v3=>bP (aj (aQ 4) (cV v0) (cV v3) e) fun v4=>bP ((di 4 (cV v4)) e s) fun v5=>bE (dm (lT 4 (cL [(.i 0), (.i 0), (.i 0), (.i 0)]) e s.next) s) fun v6 s=>bE (dW 4 (cV v6) (cV v5) k e s) fun v7 s=>.au (bJ e fun r=>{r with a3:=v6,a4:=v0,a5:=v1,a6:=v2,a7:=v3,a8:=v4,a9:=v5}) s
def Sy:aB:=gT [⟨none, (.p (aA (aC 0) g3)), u10⟩, ⟨none, (.d 0 1 (aO g10)), u11⟩, ⟨none, (.p (aA (aC 1) g3)), u12⟩, ⟨none, (.d 1 0 (aO g12)), u13⟩, ⟨none, (.e (ak 41 [g13])), u14⟩, ⟨none, (.p (aj (bI bQ) g11 g14)), u15⟩, ⟨none, (.p (aD g15)), u2⟩] k e s
def JO:aB:=af Py (af UE (af Sy aU)) k e s
def F23 : aY := ⟨[u0], JO, aM [rT g2]⟩
theorem aaU : aJ tt [] fok Try.f23 = some F23 := by kernel_rfl
theorem Pg : aI Try.prog [] 23 F23 := aI.of (az bY bA mixed Try.func23 aaU)
def PD:Den:=fun _ e s=>bM (V.bool false) fun v0=>.au (u4 e v0) s
def Qs:aB:=lt (g0 e) fun v0=>lt (g1 e) fun v1=>bE (ak 42 [cV v0,cV v1] k e s) fun v2 s=>bP (aj (bI qD) (cV v2) (cV (.i 0)) e) fun v3=>.au (bJ e fun r=>{r with a4:=v3,a5:=v0,a6:=v1,a7:=v2,a8:=v3}) s
def Cc:aB:=af PD (af Qs aU) k e s
def Z5 : aY := ⟨[u0, u1], Cc, aM [rT g4]⟩
theorem aab : aJ tt [] fok Try.f24 = some Z5 := by kernel_rfl
theorem Ra : aI Try.prog [] 24 Z5 := aI.of (az bY bA mixed Try.func24 aab)
def T3:Den:=fun _ e s=>bE (dm (jZ g0 e s.next) s) fun v0 s=>bM (V.bool false) fun v1=>.au (bJ e fun r=>{r with a2:=v0,a3:=v1}) s
def Q5:Den:=fun _ e s=>bP (aA (aC 0) g2 e) fun v0=>bP ((aO (cV v0)) e s) fun v1=>bP (aA (aC 0) g1 e) fun v2=>bP ((aO (cV v2)) e s) fun v3=>bP (aj (bI qD) (cV v1) (cV v3) e) fun v4=>.au (bJ e fun r=>{r with a3:=v4,a4:=v0,a5:=v1,a6:=v2,a7:=v3,a8:=v4}) s
def LB:aB:=af T3 (af Q5 aU) k e s
def Y_ : aY := ⟨[u0, u1], LB, aM [rT g3]⟩
theorem aaw : aJ tt [] fok Try.f25 = some Y_ := by kernel_rfl
theorem QK : aI Try.prog [] 25 Y_ := aI.of (az bY bA mixed Try.func25 aaw)
noncomputable def F26 : aY := Ay
def Ta:Den:=fun _ e s=>bM (V.ax) fun v0=>.au (u2 e v0) s
def TD:Den:=fun _ e s=>lt (g0 e) fun v0=>bP (aA aP (cV v0) e) fun v1=>bP (aj (bI fN) (cV v1) (cV (.i 2)) e) fun v2=>.au (bJ e fun r=>{r with a6:=v0,a7:=v1,a8:=v2}) s
def Rm:Den:=fun _ e s=>lt (g0 e) fun v0=>.au (bJ e fun r=>{r with a2:=v0,a9:=v0}) s
def JI:Den:=fun _ e s=>bM (V.i 1) fun v0=>.au (u3 e v0) s
def EE:Den:=fun _ e s=>lt (g3 e) fun v0=>lt (g0 e) fun v1=>bP (aA aP (cV v1) e) fun v2=>bP (aj (bI fN) (cV v0) (cV v2) e) fun v3=>.au (bJ e fun r=>{r with a10:=v0,a11:=v1,a12:=v2,a13:=v3}) s
def Fi:Den:=fun _ e s=>lt (g0 e) fun v0=>lt (g3 e) fun v1=>bP (aj (aQ 1) (cV v0) (cV v1) e) fun v2=>bP ((aO (cV v2)) e s) fun v3=>lt (g0 e) fun v4=>lt (g3 e) fun v5=>bP (aj (bI ep) (cV v5) (cV (.i 1)) e) fun v6=>bP (aj (aQ 1) (cV v4) (cV v6) e) fun v7=>bP ((aO (cV v7)) e s) fun v8=>bP (aj (bI bh) (cV v3) (cV v8) e) fun v9=>.au (mP e fun _ _ _ _ _ _ _ _ _ _ m n o p q r=>⟨v0,v1,v2,v3,v4,v5,v6,v7,v8,v9,m,n,o,p,q,r⟩) s
def KU:Den:=fun _ e s=>lt (g0 e) fun v0=>lt (g3 e) fun v1=>bP (yC 1 (cV v0) (some (cV v1)) none none e) fun v2=>.au (cN (u4 e v2) fun r=>{r with a10:=v0,a11:=v1,a12:=v2}) s
def D1:Den:=fun _ e s=>bM (V.i 1) fun v0=>.au (u5 e v0) s
def FV:Den:=fun _ e s=>lt (g5 e) fun v0=>lt (g4 e) fun v1=>bP (aA aP (cV v1) e) fun v2=>bP (aj (bI fN) (cV v0) (cV v2) e) fun v3=>.au (u32 (cN e fun r=>{r with a13:=v0,a14:=v1,a15:=v2}) v3) s
def D2:Den:=fun _ e s=>lt (g4 e) fun v0=>lt (g5 e) fun v1=>bP (aj (aQ 1) (cV v0) (cV v1) e) fun v2=>bP ((aO (cV v2)) e s) fun v3=>lt (g4 e) fun v4=>lt (g5 e) fun v5=>bP (aj (bI ep) (cV v5) (cV (.i 1)) e) fun v6=>bP (aj (aQ 1) (cV v4) (cV v6) e) fun v7=>bP ((aO (cV v7)) e s) fun v8=>bP (aj (bI sg) (cV v3) (cV v8) e) fun v9=>.au (lU e fun a b c _ _ _ _ _ _ _ _ _ _ p q r=>⟨a,b,c,v0,v1,v2,v3,v4,v5,v6,v7,v8,v9,p,q,r⟩) s
def zJ:aB:=lt (g0 e) fun v0=>lt (g3 e) fun v1=>lt (g4 e) fun v2=>lt (g5 e) fun v3=>bP (aj (aQ 1) (cV v2) (cV v3) e) fun v4=>bP ((aO (cV v4)) e s) fun v5=>bP (aj (aQ 1) (cV v0) (cV v1) e) fun v6=>bE (dW 1 (cV v6) (cV v5) k e s) fun v7 s=>.au (fW (dh e fun r=>{r with a13:=v0,a14:=v1,a15:=v2}) fun r=>{r with a0:=v3,a1:=v4,a2:=v5,a3:=v6}) s
def JU:Den:=fun _ e s=>lt (g3 e) fun v0=>bP (aj (bI bQ) (cV v0) (cV (.i 1)) e) fun v1=>.au (fW (u3 e v1) fun r=>{r with a4:=v0,a5:=v1}) s
def Cf:Den:=fun _ e s=>lt (g5 e) fun v0=>bP (aj (bI bQ) (cV v0) (cV (.i 1)) e) fun v1=>.au (dh (u5 e v1) fun r=>{r with a1:=v0,a2:=v1}) s
def Ex:aB:=lt (g0 e) fun v0=>lt (g3 e) fun v1=>bP (yC 1 (cV v0) (some (cV v1)) none none e) fun v2=>bE (rW [(.i 0)] (cV v2) k e s) fun v3 s=>.au (fW e fun r=>{r with a6:=v0,a7:=v1,a8:=v2}) s
def IT:Den:=fun _ e s=>lt (g0 e) fun v0=>lt (g3 e) fun v1=>bP (yC 1 (cV v0) none (some (cV v1)) none e) fun v2=>.au (fW (u2 e v2) fun r=>{r with a9:=v0,a10:=v1,a11:=v2}) s
def HO:Den:=fun _ e s=>lt (g3 e) fun v0=>bP (aj (bI bQ) (cV v0) (cV (.i 1)) e) fun v1=>.au (bJ e fun r=>{r with a3:=v1,a14:=v0,a15:=v1}) s
def KV:Den:=fun _ e s=>lt (g0 e) fun v0=>.au (u60 (u2 e v0) v0) s
def Jq:aB:=af Ta (af (af TD (av g8 (af Rm aU) ay)) (af (af JI (aG 0 (cB (af (af EE (av g13 ay (bW 0))) (af (aG 1 (af Fi (av g25 (af KU (af (af D1 (aG 2 (cB (af (af FV (av g32 ay (bW 2))) (af (aG 3 (af D2 (av g44 (af zJ JU) ay))) Cf))))) (af Ex (af IT aU)))) ay))) HO))))) (af KV aU))) k e s
def X_ : aY := ⟨[u0], Jq, aM [rT g2]⟩
theorem Zy : aJ tt [] fok Try.f27 = some X_ := by kernel_rfl
theorem QD : aI Try.prog [] 27 X_ := aI.of (az bY bA mixed Try.func27 Zy)
def Qk:Den:=fun _ e s=>bM (V.i 0) fun v0=>bM (V.bool false) fun v1=>.au (bJ e fun r=>{r with a6:=v0,a7:=v1}) s
def Up:Den:=fun _ e s=>lt (g0 e) fun v0=>bP (aA aP (cV v0) e) fun v1=>.au (bJ e fun r=>{r with a8:=v1,a12:=v0,a13:=v1}) s
def TH:Den:=fun _ e s=>lt (g8 e) fun v0=>bM (V.i 0) fun v1=>.au (bJ e fun r=>{r with a9:=v1,a10:=v0,a14:=v0}) s
def Bo:Den:=fun _ e s=>lt (g9 e) fun v0=>lt (g10 e) fun v1=>bP (aj (bI fN) (cV v0) (cV v1) e) fun v2=>.au (cN (u15 e v0) fun r=>{r with a0:=v1,a1:=v2}) s
def I9:Den:=fun _ e s=>lt (g9 e) fun v0=>lt (g10 e) fun v1=>bP (aj (bI bQ) (cV v0) (cV v1) e) fun v2=>bP (aA (cQ .u64) (cV v2) e) fun v3=>bP (aj (xT .shr .u64) (cV v3) (cV (.int .u64 1)) e) fun v4=>bP (aA (cQ .i64) (cV v4) e) fun v5=>.au (cN (u11 e v5) fun r=>{r with a2:=v0,a3:=v1,a4:=v2,a5:=v3,a6:=v4,a7:=v5}) s
def Hw:aB:=lt (g2 e) fun v0=>lt (g0 e) fun v1=>lt (g11 e) fun v2=>bP (aj (aQ 4) (cV v1) (cV v2) e) fun v3=>bP ((di 4 (cV v3)) e s) fun v4=>lt (g1 e) fun v5=>bE (fQ fok (cV v0) [cV v4,cV v5] k e s) fun v6 s=>bP (aj (bI fN) (cV v6) (cV (.i 0)) e) fun v7=>.au (cN e fun r=>{r with a8:=v0,a9:=v1,a10:=v2,a11:=v3,a12:=v4,a13:=v5,a14:=v6,a15:=v7}) s
def DL:Den:=fun _ e s=>lt (g11 e) fun v0=>bP (aj (bI bQ) (cV v0) (cV (.i 1)) e) fun v1=>.au (dh (u9 e v1) fun r=>{r with a0:=v0,a1:=v1}) s
def DS:Den:=fun _ e s=>lt (g11 e) fun v0=>.au (u34 (u10 e v0) v0) s
def Bt:aB:=lt (g9 e) fun v0=>lt (g9 e) fun v1=>lt (g8 e) fun v2=>bP (aj (bI fN) (cV v1) (cV v2) e) fun v3=>bP (aL v3 true (aD g2 e)) fun v4=>bP (aL v3 true (aD g0 e)) fun v5=>bP (aL v3 true (aD g9 e)) fun v6=>bP (aL v3 true (aj (aQ 4) (cV v5) (cV v6) e)) fun v7=>bP (aL v3 true ((di 4 (cV v7)) e s)) fun v8=>bP (aL v3 true (aD g1 e)) fun v9=>bE (iH v3 true s (fQ fok (cV v4) [cV v8,cV v9] k e s)) fun v10 s=>bP (aL v3 true (aj (bI bh) (cV v10) (cV (.i 0)) e)) fun v11=>bP (aN (cV v3) (cV v11) (cV (.bool false)) e) fun v12=>.au (u48 (lU (bJ e fun r=>{r with a6:=v0,a7:=v12}) fun a b c _ _ _ _ _ _ _ _ _ _ _ _ _=>⟨a,b,c,v0,v1,v2,v3,v3,v4,v5,v6,v7,v8,v9,v10,v11⟩) v12) s
def Bm:aB:=af Qk (af Up (af TH (af (aG 0 (cB (af (af Bo (av g17 ay (bW 0))) (aG 1 (af I9 (af Hw (av g31 DL DS))))))) (af Bt aU)))) k e s
def Z9 : aY := ⟨[u0, u1, u2], Bm, aM [rT g6, rT g7]⟩
theorem Z4 : aJ tt [] fok Try.f28 = some Z9 := by kernel_rfl
theorem PK : aI Try.prog [] 28 Z9 := aI.of (az bY bA mixed Try.func28 Z4)
def Sr:Den:=fun _ e s=>bE (dm (jZ g0 e s.next) s) fun v0 s=>bM (V.i 0) fun v1=>.au (bJ e fun r=>{r with a2:=v0,a4:=v1}) s
def Pz:aB:=bP (aA (aC 0) g2 e) fun v0=>bP ((aO (cV v0)) e s) fun v1=>lt (g1 e) fun v2=>bE (ak 30 [cV v1,cV v2] k e s) fun v3 s=>.au (bJ e fun r=>{r with a4:=v3,a5:=v0,a6:=v1,a7:=v2,a8:=v3}) s
def Mp:aB:=af Sr (af Pz aU) k e s
def Yf : aY := ⟨[u0, u1], Mp, aM [rT g4]⟩
theorem Z6 : aJ tt [] fok Try.f29 = some Yf := by kernel_rfl
theorem RT : aI Try.prog [] 29 Yf := aI.of (az bY bA mixed Try.func29 Z6)
def O7:Den:=fun _ e s=>bM (V.i 0) fun v0=>.au (u4 e v0) s
def UO:aB:=lt (g0 e) fun v0=>bE (ak 45 [cV v0] k e s) fun v1 s=>.au (bJ e fun r=>{r with a5:=v1,a7:=v0,a8:=v1}) s
def O8:aB:=lt (g1 e) fun v0=>bE (ak 45 [cV v0] k e s) fun v1 s=>.au (bJ e fun r=>{r with a6:=v1,a9:=v0,a10:=v1}) s
def SH:Den:=fun _ e s=>lt (g5 e) fun v0=>.au (u11 e v0) s
def ER:Den:=fun _ e s=>lt (g6 e) fun v0=>.au (u12 e v0) s
def KX:Den:=fun _ e s=>bM (V.i 0) fun v0=>.au (u4 e v0) s
def JM:Den:=fun _ e s=>bM (V.i (-1)) fun v0=>.au (u4 e v0) s
def KW:Den:=fun _ e s=>lt (g6 e) fun v0=>.au (u13 e v0) s
def Hl:Den:=fun _ e s=>bM (V.i 1) fun v0=>.au (u4 e v0) s
def HS:Den:=fun _ e s=>lt (g0 e) fun v0=>lt (g1 e) fun v1=>bP (aj (bI fN) (cV v0) (cV v1) e) fun v2=>.au (u16 (bJ e fun r=>{r with a14:=v0,a15:=v1}) v2) s
def Gu:Den:=fun _ e s=>bM (V.i (-1)) fun v0=>.au (u4 e v0) s
def K_:Den:=fun _ e s=>lt (g0 e) fun v0=>lt (g1 e) fun v1=>bP (aj (bI rX) (cV v0) (cV v1) e) fun v2=>.au (cN e fun r=>{r with a1:=v0,a2:=v1,a3:=v2}) s
def K6:Den:=fun _ e s=>bM (V.i 1) fun v0=>.au (u4 e v0) s
def J7:Den:=fun _ e s=>bM (V.i 0) fun v0=>.au (u4 e v0) s
def Ba:aB:=af O7 (af UO (af O8 (af (af SH (av g11 (af (af ER (av g12 (af KX aU) ay)) (af JM aU)) ay)) (af (af KW (av g13 (af Hl aU) ay)) (af (af HS (av g16 (af Gu aU) ay)) (af (af K_ (av g19 (af K6 aU) ay)) (af J7 aU))))))) k e s
def Yt : aY := ⟨[u0, u1], Ba, aM [rT g4]⟩
theorem Yv : aJ tt [] fok Try.f30 = some Yt := by kernel_rfl
theorem RZ : aI Try.prog [] 30 Yt := aI.of (az bY bA mixed Try.func30 Yv)
def Pv:Den:=fun _ e s=>bM (V.bool false) fun v0=>.au (u4 e v0) s
def PN:Den:=fun _ e s=>lt (g0 e) fun v0=>bP (aA aP (cV v0) e) fun v1=>lt (g1 e) fun v2=>bP (aA aP (cV v2) e) fun v3=>bP (aj (bI sg) (cV v1) (cV v3) e) fun v4=>.au (bJ e fun r=>{r with a6:=v0,a7:=v1,a8:=v2,a9:=v3,a10:=v4}) s
def Sv:Den:=fun _ e s=>bM (V.bool false) fun v0=>.au (u4 e v0) s
def Jv:Den:=fun _ e s=>bM (V.i 0) fun v0=>.au (u5 e v0) s
def HL:Den:=fun _ e s=>lt (g5 e) fun v0=>lt (g0 e) fun v1=>bP (aA aP (cV v1) e) fun v2=>bP (aj (bI fN) (cV v0) (cV v2) e) fun v3=>.au (bJ e fun r=>{r with a11:=v0,a12:=v1,a13:=v2,a14:=v3}) s
def Gk:aB:=lt (g0 e) fun v0=>lt (g5 e) fun v1=>bP (aj (aQ 3) (cV v0) (cV v1) e) fun v2=>bP (aA (aC 0) (cV v2) e) fun v3=>bP ((aO (cV v3)) e s) fun v4=>lt (g1 e) fun v5=>lt (g5 e) fun v6=>bP (aj (aQ 3) (cV v5) (cV v6) e) fun v7=>bP (aA (aC 0) (cV v7) e) fun v8=>bP ((aO (cV v8)) e s) fun v9=>bP (aj (bI sg) (cV v4) (cV v9) e) fun v10=>bP (aL v10 false (aD g0 e)) fun v11=>bP (aL v10 false (aD g5 e)) fun v12=>bP (aL v10 false (aj (aQ 3) (cV v11) (cV v12) e)) fun v13=>bP (aL v10 false (aA (aC 1) (cV v13) e)) fun v14=>bP (aL v10 false ((aO (cV v14)) e s)) fun v15=>bP (aL v10 false (aD g1 e)) fun v16=>bP (aL v10 false (aD g5 e)) fun v17=>bP (aL v10 false (aj (aQ 3) (cV v16) (cV v17) e)) fun v18=>bP (aL v10 false (aA (aC 1) (cV v18) e)) fun v19=>bP (aL v10 false ((aO (cV v19)) e s)) fun v20=>bP (aL v10 false (aj (bI sg) (cV v15) (cV v20) e)) fun v21=>bP (aN (cV v10) (cV (.bool true)) (cV v21) e) fun v22=>bP (aL v22 false (aD g0 e)) fun v23=>bP (aL v22 false (aD g5 e)) fun v24=>bP (aL v22 false (aj (aQ 3) (cV v23) (cV v24) e)) fun v25=>bP (aL v22 false (aA (aC 2) (cV v25) e)) fun v26=>bP (aL v22 false ((aO (cV v26)) e s)) fun v27=>bP (aL v22 false (aD g1 e)) fun v28=>bP (aL v22 false (aD g5 e)) fun v29=>bP (aL v22 false (aj (aQ 3) (cV v28) (cV v29) e)) fun v30=>bP (aL v22 false (aA (aC 2) (cV v30) e)) fun v31=>bP (aL v22 false ((aO (cV v31)) e s)) fun v32=>bE (iH v22 false s (ak 9 [cV v27,cV v32] k e s)) fun v33 s=>bP (aL v22 false (aA jw (cV v33) e)) fun v34=>bP (aN (cV v22) (cV (.bool true)) (cV v34) e) fun v35=>.au (fW (lU (mP e fun a _ _ _ _ _ _ _ _ _ _ _ _ _ _ _=>⟨a,v0,v1,v2,v3,v4,v5,v6,v7,v8,v9,v10,v10,v11,v12,v13⟩) fun _ _ _ _ _ _ _ _ _ _ _ _ _ _ _ _=>⟨v14,v15,v16,v17,v18,v19,v20,v21,v22,v22,v23,v24,v25,v26,v27,v28⟩) fun r=>{r with a0:=v29,a1:=v30,a2:=v31,a3:=v32,a4:=v33,a5:=v34,a6:=v35}) s
def D7:Den:=fun _ e s=>bM (V.bool false) fun v0=>.au (u4 e v0) s
def HG:Den:=fun _ e s=>lt (g5 e) fun v0=>bP (aj (bI bQ) (cV v0) (cV (.i 1)) e) fun v1=>.au (u16 (bJ e fun r=>{r with a5:=v1,a15:=v0}) v1) s
def Lt:Den:=fun _ e s=>bM (V.bool true) fun v0=>.au (u4 e v0) s
def UY:aB:=af Pv (af (af PN (av g10 (af Sv aU) ay)) (af (af Jv (aG 0 (cB (af (af HL (av g14 ay (bW 0))) (af (aG 1 (af Gk (av g54 (af D7 aU) ay))) HG))))) (af Lt aU))) k e s
def F31 : aY := ⟨[u0, u1], UY, aM [rT g4]⟩
theorem Zi : aJ tt [] fok Try.f31 = some F31 := by kernel_rfl
theorem Tc : aI Try.prog [] 31 F31 := aI.of (az bY bA mixed Try.func31 Zi)
def SV:Den:=fun _ e s=>bM (V.bool false) fun v0=>.au (u4 e v0) s
def Re:Den:=fun _ e s=>lt (g0 e) fun v0=>bP (aA aP (cV v0) e) fun v1=>lt (g1 e) fun v2=>bP (aA aP (cV v2) e) fun v3=>bP (aj (bI sg) (cV v1) (cV v3) e) fun v4=>.au (bJ e fun r=>{r with a6:=v0,a7:=v1,a8:=v2,a9:=v3,a10:=v4}) s
def PJ:Den:=fun _ e s=>bM (V.bool false) fun v0=>.au (u4 e v0) s
def zG:Den:=fun _ e s=>bM (V.i 0) fun v0=>.au (u5 e v0) s
def Hp:Den:=fun _ e s=>lt (g5 e) fun v0=>lt (g0 e) fun v1=>bP (aA aP (cV v1) e) fun v2=>bP (aj (bI fN) (cV v0) (cV v2) e) fun v3=>.au (bJ e fun r=>{r with a11:=v0,a12:=v1,a13:=v2,a14:=v3}) s
def CD:Den:=fun _ e s=>lt (g0 e) fun v0=>lt (g5 e) fun v1=>bP (aj (aQ 1) (cV v0) (cV v1) e) fun v2=>bP ((aO (cV v2)) e s) fun v3=>lt (g1 e) fun v4=>lt (g5 e) fun v5=>bP (aj (aQ 1) (cV v4) (cV v5) e) fun v6=>bP ((aO (cV v6)) e s) fun v7=>bP (aj (qS true) (cV v3) (cV v7) e) fun v8=>.au (cN e fun r=>{r with a1:=v0,a2:=v1,a3:=v2,a4:=v3,a5:=v4,a6:=v5,a7:=v6,a8:=v7,a9:=v8}) s
def zX:Den:=fun _ e s=>bM (V.bool false) fun v0=>.au (u4 e v0) s
def Eo:Den:=fun _ e s=>lt (g5 e) fun v0=>bP (aj (bI bQ) (cV v0) (cV (.i 1)) e) fun v1=>.au (u16 (bJ e fun r=>{r with a5:=v1,a15:=v0}) v1) s
def Ho:Den:=fun _ e s=>bM (V.bool true) fun v0=>.au (u4 e v0) s
def Ts:aB:=af SV (af (af Re (av g10 (af PJ aU) ay)) (af (af zG (aG 0 (cB (af (af Hp (av g14 ay (bW 0))) (af (aG 1 (af CD (av g25 (af zX aU) ay))) Eo))))) (af Ho aU))) k e s
def Ze : aY := ⟨[u0, u1], Ts, aM [rT g4]⟩
theorem YJ : aJ tt [] fok Try.f32 = some Ze := by kernel_rfl
theorem QM : aI Try.prog [] 32 Ze := aI.of (az bY bA mixed Try.func32 YJ)
def U2:Den:=fun _ e s=>bM (V.ax) fun v0=>bM (V.i 0) fun v1=>bM (V.i 0) fun v2=>.au (bJ e fun r=>{r with a2:=v0,a3:=v1,a4:=v2}) s
def TP:Den:=fun _ e s=>lt (g0 e) fun v0=>bP (aA aP (cV v0) e) fun v1=>bP (aj (bI rX) (cV v1) (cV (.i 1024)) e) fun v2=>.au (bJ e fun r=>{r with a9:=v0,a10:=v1,a11:=v2}) s
def T_:Den:=fun _ e s=>bM (V.ax) fun v0=>bM (V.i 3) fun v1=>bM (V.i 0) fun v2=>.au (bJ e fun r=>{r with a2:=v0,a3:=v1,a4:=v2}) s
def T9:Den:=fun _ e s=>bM (V.ax) fun v0=>.au (u5 e v0) s
def BM:Den:=fun _ e s=>bM (V.i 0) fun v0=>.au (u6 e v0) s
def Eh:Den:=fun _ e s=>lt (g6 e) fun v0=>lt (g0 e) fun v1=>bP (aA aP (cV v1) e) fun v2=>bP (aj (bI fN) (cV v0) (cV v2) e) fun v3=>.au (bJ e fun r=>{r with a12:=v0,a13:=v1,a14:=v2,a15:=v3}) s
def FL:aB:=lt (g6 e) fun v0=>lt (g0 e) fun v1=>lt (g6 e) fun v2=>bP (aj (aQ 1) (cV v1) (cV v2) e) fun v3=>bP ((aO (cV v3)) e s) fun v4=>bP (aA (cQ .i64) (cV v4) e) fun v5=>bP (bF [(.i 0), (.i 0), (.i 0), (.i 0)] [(0, 1, (cV v0)), (1, 1, (cV v5))] e) fun v6=>bE (dm (lT 4 (cL [(.i 0), (.i 0), (.i 0), (.i 0)]) e s.next) s) fun v7 s=>bE (dW 4 (cV v7) (cV v6) k e s) fun v8 s=>.au (cN (u7 e v7) fun r=>{r with a0:=v0,a1:=v1,a2:=v2,a3:=v3,a4:=v4,a5:=v5,a6:=v6}) s
def Ir:aB:=bP (aA (aC 1) g7 e) fun v0=>bP ((aO (cV v0)) e s) fun v1=>bE (ak 46 [cV v1] k e s) fun v2 s=>.au (cN (u8 e v2) fun r=>{r with a7:=v0,a8:=v1,a9:=v2}) s
def Fh:Den:=fun _ e s=>lt (g8 e) fun v0=>bP (aj (bI bh) (cV v0) (cV (.i 0)) e) fun v1=>.au (cN e fun r=>{r with a10:=v0,a11:=v1}) s
def Bc:Den:=fun _ e s=>lt (g6 e) fun v0=>bM (V.ax) fun v1=>bM (V.i 15) fun v2=>.au (u28 (bJ e fun r=>{r with a2:=v1,a3:=v2,a4:=v0}) v0) s
def DN:Den:=fun _ e s=>lt (g6 e) fun v0=>lt (g8 e) fun v1=>bP (aj (bI bQ) (cV v0) (cV v1) e) fun v2=>lt (g0 e) fun v3=>bP (aA aP (cV v3) e) fun v4=>bP (aj (bI rX) (cV v2) (cV v4) e) fun v5=>.au (dh (cN e fun r=>{r with a13:=v0,a14:=v1,a15:=v2}) fun r=>{r with a0:=v3,a1:=v4,a2:=v5}) s
def HV:Den:=fun _ e s=>lt (g6 e) fun v0=>bM (V.ax) fun v1=>bM (V.i 10) fun v2=>.au (u35 (bJ e fun r=>{r with a2:=v1,a3:=v2,a4:=v0}) v0) s
def Dh:Den:=fun _ e s=>bP (aA (aC 1) g7 e) fun v0=>bP ((aO (cV v0)) e s) fun v1=>bP (aj (bI bh) (cV v1) (cV (.i 132)) e) fun v2=>.au (dh e fun r=>{r with a4:=v2,a5:=v0,a6:=v1,a7:=v2}) s
def B7:aB:=lt (g0 e) fun v0=>lt (g6 e) fun v1=>bP (aj (bI bQ) (cV v1) (cV (.i 1)) e) fun v2=>bP (aj (aQ 1) (cV v0) (cV v2) e) fun v3=>bP ((aO (cV v3)) e s) fun v4=>bP (aA (cQ .i64) (cV v4) e) fun v5=>bP (aA (aC 2) g7 e) fun v6=>bE (dW 1 (cV v6) (cV v5) k e s) fun v7 s=>.au (dh e fun r=>{r with a8:=v0,a9:=v1,a10:=v2,a11:=v3,a12:=v4,a13:=v5,a14:=v6}) s
def I8:aB:=lt (g0 e) fun v0=>lt (g6 e) fun v1=>bP (aj (bI bQ) (cV v1) (cV (.i 2)) e) fun v2=>bP (aj (aQ 1) (cV v0) (cV v2) e) fun v3=>bP ((aO (cV v3)) e s) fun v4=>bP (aA (cQ .i8) (cV v4) e) fun v5=>bP (aA (cQ .i64) (cV v5) e) fun v6=>bP (aA (aC 3) g7 e) fun v7=>bE (dW 1 (cV v7) (cV v6) k e s) fun v8 s=>.au (fW (u47 e v0) fun r=>{r with a0:=v1,a1:=v2,a2:=v3,a3:=v4,a4:=v5,a5:=v6,a6:=v7}) s
def Ca:aB:=lt (g8 e) fun v0=>bP (aj (bI bh) (cV v0) (cV (.i 2)) e) fun v1=>bP (aL v1 true (aA (aC 1) g7 e)) fun v2=>bP (aL v1 true ((aO (cV v2)) e s)) fun v3=>bE (iH v1 true s (ak 47 [cV v3] k e s)) fun v4 s=>bP (aN (cV v1) (cV v4) (cV (.bool false)) e) fun v5=>.au (fW e fun r=>{r with a7:=v5,a8:=v0,a9:=v1,a10:=v1,a11:=v2,a12:=v3,a13:=v4,a14:=v5}) s
def Mc:aB:=lt (g0 e) fun v0=>lt (g6 e) fun v1=>bP (aj (bI bQ) (cV v1) (cV (.i 1)) e) fun v2=>bP (aj (aQ 1) (cV v0) (cV v2) e) fun v3=>bP ((aO (cV v3)) e s) fun v4=>bP (aA (cQ .i8) (cV v4) e) fun v5=>bP (aA (cQ .i64) (cV v5) e) fun v6=>bP (aA (aC 2) g7 e) fun v7=>bE (dW 1 (cV v7) (cV v6) k e s) fun v8 s=>.au (jj (u63 e v0) fun r=>{r with a0:=v1,a1:=v2,a2:=v3,a3:=v4,a4:=v5,a5:=v6,a6:=v7}) s
def Dt:Den:=fun _ e s=>lt (g8 e) fun v0=>bP (aj (bI bh) (cV v0) (cV (.i 2)) e) fun v1=>.au (jj e fun r=>{r with a7:=v1,a8:=v0,a9:=v1}) s
def EC:aB:=lt (g0 e) fun v0=>lt (g6 e) fun v1=>bP (aj (bI bQ) (cV v1) (cV (.i 1)) e) fun v2=>bP (aj (aQ 1) (cV v0) (cV v2) e) fun v3=>bP ((aO (cV v3)) e s) fun v4=>bP (aA (cQ .i64) (cV v4) e) fun v5=>bP (aA (aC 2) g7 e) fun v6=>bE (dW 1 (cV v6) (cV v5) k e s) fun v7 s=>.au (u80 (jj e fun r=>{r with a10:=v0,a11:=v1,a12:=v2,a13:=v3,a14:=v4,a15:=v5}) v6) s
def Gy:aB:=lt (g8 e) fun v0=>bP (aj (bI bh) (cV v0) (cV (.i 3)) e) fun v1=>bP (aL v1 true (aA (aC 1) g7 e)) fun v2=>bP (aL v1 true ((aO (cV v2)) e s)) fun v3=>bE (iH v1 true s (ak 47 [cV v3] k e s)) fun v4 s=>bP (aN (cV v1) (cV v4) (cV (.bool false)) e) fun v5=>.au (kL e fun r=>{r with a1:=v5,a2:=v0,a3:=v1,a4:=v1,a5:=v2,a6:=v3,a7:=v4,a8:=v5}) s
def Cd:aB:=lt (g0 e) fun v0=>lt (g6 e) fun v1=>bP (aj (bI bQ) (cV v1) (cV (.i 1)) e) fun v2=>bP (aj (aQ 1) (cV v0) (cV v2) e) fun v3=>bP ((aO (cV v3)) e s) fun v4=>bP (aA (cQ .u16) (cV v4) e) fun v5=>bP (aj (xT .shl .u16) (cV v5) (cV (.int .u64 8)) e) fun v6=>lt (g0 e) fun v7=>lt (g6 e) fun v8=>bP (aj (bI bQ) (cV v8) (cV (.i 2)) e) fun v9=>bP (aj (aQ 1) (cV v7) (cV v9) e) fun v10=>bP ((aO (cV v10)) e s) fun v11=>bP (aA (cQ .u16) (cV v11) e) fun v12=>bP (aj (bK .u16 fun a b=>yN .u16 (jc .or .u16 a b)) (cV v6) (cV v12) e) fun v13=>bP (aA (cQ .i16) (cV v13) e) fun v14=>bP (aA (cQ .i64) (cV v14) e) fun v15=>bP (aA (aC 2) g7 e) fun v16=>bE (dW 1 (cV v16) (cV v15) k e s) fun v17 s=>.au (rw6 (kL e fun r=>{r with a9:=v0,a10:=v1,a11:=v2,a12:=v3,a13:=v4,a14:=v5,a15:=v6}) fun _ _ _ _ _ _ _ _ _ _ m n o p q r=>⟨v7,v8,v9,v10,v11,v12,v13,v14,v15,v16,m,n,o,p,q,r⟩) s
def Dq:Den:=fun _ e s=>lt (g8 e) fun v0=>bP (aj (bI bh) (cV v0) (cV (.i 3)) e) fun v1=>.au (mN e fun r=>{r with a10:=v1,a11:=v0,a12:=v1}) s
def Jw:aB:=lt (g0 e) fun v0=>lt (g6 e) fun v1=>bP (aj (bI bQ) (cV v1) (cV (.i 1)) e) fun v2=>bP (aj (aQ 1) (cV v0) (cV v2) e) fun v3=>bP ((aO (cV v3)) e s) fun v4=>bP (aA (cQ .i64) (cV v4) e) fun v5=>bP (aj (xT .shl .i64) (cV v5) (cV (.int .u64 8)) e) fun v6=>lt (g0 e) fun v7=>lt (g6 e) fun v8=>bP (aj (bI bQ) (cV v8) (cV (.i 2)) e) fun v9=>bP (aj (aQ 1) (cV v7) (cV v9) e) fun v10=>bP ((aO (cV v10)) e s) fun v11=>bP (aA (cQ .i64) (cV v11) e) fun v12=>bP (aj (bI fun a b=>yN .i64 (jc .or .i64 a b)) (cV v6) (cV v12) e) fun v13=>bP (aA (aC 2) g7 e) fun v14=>bE (dW 1 (cV v14) (cV v13) k e s) fun v15 s=>.au (rw7 (mN e fun r=>{r with a13:=v0,a14:=v1,a15:=v2}) fun _ _ _ _ _ _ _ _ _ _ _ _ o p q r=>⟨v3,v4,v5,v6,v7,v8,v9,v10,v11,v12,v13,v14,o,p,q,r⟩) s
def KJ:aB:=bP (aA (aC 1) g7 e) fun v0=>bP ((aO (cV v0)) e s) fun v1=>bE (ak 18 [cV v1] k e s) fun v2 s=>.au (pR e fun r=>{r with a12:=v0,a13:=v1,a14:=v2}) s
def GO:aB:=bP (aA (aC 2) g7 e) fun v0=>bP ((aO (cV v0)) e s) fun v1=>lt (g6 e) fun v2=>bP (aj (bI bQ) (cV v1) (cV v2) e) fun v3=>bP (aA (aC 2) g7 e) fun v4=>bE (dW 1 (cV v4) (cV v3) k e s) fun v5 s=>.au (qs (u127 e v0) fun r=>{r with a0:=v1,a1:=v2,a2:=v3,a3:=v4}) s
def Iw:aB:=lt (g5 e) fun v0=>bP ((di 4 g7) e s) fun v1=>bE (dm (cG 1 4 [(.i 0), (.i 0), (.i 0), (.i 0)] [(0, 4, (cV v1))] e s.next) s) fun v2 s=>bE (jR 4 (cV v0) (cV v2) k e s) fun v3 s=>.au (qs (u5 e v3) fun r=>{r with a4:=v0,a5:=v1,a6:=v2,a7:=v3}) s
def Du:Den:=fun _ e s=>lt (g6 e) fun v0=>lt (g8 e) fun v1=>bP (aj (bI bQ) (cV v0) (cV v1) e) fun v2=>.au (qs (u6 e v2) fun r=>{r with a8:=v0,a9:=v1,a10:=v2}) s
def Jl:Den:=fun _ e s=>lt (g5 e) fun v0=>bM (V.i 0) fun v1=>bM (V.i 0) fun v2=>.au (u139 (bJ e fun r=>{r with a2:=v0,a3:=v1,a4:=v2}) v0) s
def Jy:aB:=af U2 (af (af TP (av g11 (af T_ aU) ay)) (af T9 (af (af BM (aG 0 (cB (af (af Eh (av g15 ay (bW 0))) (aG 1 (af FL (af Ir (af (af Fh (av g27 (af Bc aU) ay)) (af (af DN (av g34 (af HV aU) ay)) (af (aG 2 (af Dh (av g36 (af B7 I8) (af Ca (av g55 Mc (af Dt (av g71 EC (af Gy (av g81 Cd (af Dq (av g106 Jw ay))))))))))) (af (af KJ (av g126 GO ay)) (af Iw Du)))))))))))) (af Jl aU)))) k e s
def Zd : aY := ⟨[u0], Jy, aM [rT g2, rT g3, rT g4]⟩
theorem YR : aJ tt [] fok Try.f33 = some Zd := by kernel_rfl
theorem Q6 : aI Try.prog [] 33 Zd := aI.of (az bY bA mixed Try.func33 YR)
def RP:Den:=fun _ e s=>bM (V.ax) fun v0=>.au (u2 e v0) s
def SF:Den:=fun _ e s=>lt (g0 e) fun v0=>bP (bF [.ax, (.i 0)] [(0, 1, (cV v0))] e) fun v1=>bE (dm (jZ (cV v1) e s.next) s) fun v2 s=>.au (bJ e fun r=>{r with a3:=v2,a11:=v0,a12:=v1,a13:=v2}) s
def SE:aB:=bP (bF [(.str []), (.str []), (.bool false)] [(0, 1, (cV (.str [120]))), (1, 1, (cV (.str [73])))] e) fun v0=>bP (bF [(.str []), (.str []), (.bool false)] [(0, 1, (cV (.str [110, 101, 120, 116]))), (1, 1, (cV (.str [76, 65, 59])))] e) fun v1=>bP (bF [(.str []), (.str []), (.bool false)] [(0, 1, (cV (.str [115]))), (1, 1, (cV (.str [73]))), (2, 1, (cV (.bool true)))] e) fun v2=>bP (bF [(.str []), (.str []), (.bool false)] [(0, 1, (cV (.str [114]))), (1, 1, (cV (.str [76, 65, 59]))), (2, 1, (cV (.bool true)))] e) fun v3=>bE (dm (cG 4 3 [(.str []), (.str []), (.bool false), (.str []), (.str []), (.bool false), (.str []), (.str []), (.bool false), (.str []), (.str []), (.bool false)] [(0, 3, (cV v0)), (3, 3, (cV v1)), (6, 3, (cV v2)), (9, 3, (cV v3))] e s.next) s) fun v4 s=>bP (bF [(.str []), (.str []), .ax, .ax, .ax] [(0, 1, (cV (.str [65]))), (1, 1, (cV (.str [79, 98, 106, 101, 99, 116]))), (3, 1, (cV v4))] e) fun v5=>bE (dm (lT 5 (cL [(.str []), (.str []), .ax, .ax, .ax]) e s.next) s) fun v6 s=>bE (dW 5 (cV v6) (cV v5) k e s) fun v7 s=>.au (cN (bJ e fun r=>{r with a4:=v6,a14:=v0,a15:=v1}) fun r=>{r with a0:=v2,a1:=v3,a2:=v4,a3:=v5}) s
def Rk:aB:=lt (g3 e) fun v0=>bP (aA (aC 2) g4 e) fun v1=>bP ((aO (cV v1)) e s) fun v2=>bE (ak 48 [(cV v0), (cV v2), (cV (.str [103, 111])), (cV (.str [40, 73, 41, 73])), (cV (.bool false)), (cV (.bool false)), (cV (.bool true)), (cV (.i 2))] k e s) fun v3 s=>bP (aA (dL 0) (cV v3) e) fun v4=>bP (aA (dL 1) (cV v3) e) fun v5=>bE (dm (lT 9 (cL [(.str []), (.str []), (.bool false), (.bool false), (.i 0), (.i 0), .ax, .ax, .ax]) e s.next) s) fun v6 s=>bE (dW 9 (cV v6) (cV v4) k e s) fun v7 s=>.au (cN (bJ e fun r=>{r with a5:=v6,a6:=v5}) fun r=>{r with a4:=v3,a5:=v0,a6:=v1,a7:=v2,a8:=v3,a9:=v4,a10:=v5}) s
def S_:aB:=lt (g6 e) fun v0=>bP (aA (aC 2) g4 e) fun v1=>bE (dW 1 (cV v1) (cV v0) k e s) fun v2 s=>.au (cN e fun r=>{r with a11:=v0,a12:=v1}) s
def JV:aB:=bP (aA (aC 4) g4 e) fun v0=>bP ((aO (cV v0)) e s) fun v1=>bP ((di 9 g5) e s) fun v2=>bE (dm (cG 1 9 [(.str []), (.str []), (.bool false), (.bool false), (.i 0), (.i 0), .ax, .ax, .ax] [(0, 9, (cV v2))] e s.next) s) fun v3 s=>bE (jR 9 (cV v1) (cV v3) k e s) fun v4 s=>bP (aA (aC 4) g4 e) fun v5=>bE (dW 1 (cV v5) (cV v4) k e s) fun v6 s=>.au (dh (cN e fun r=>{r with a13:=v0,a14:=v1,a15:=v2}) fun r=>{r with a0:=v3,a1:=v4,a2:=v5}) s
def IJ:aB:=bP (bF [(.str []), (.str []), (.bool false)] [(0, 1, (cV (.str [121]))), (1, 1, (cV (.str [73])))] e) fun v0=>bP (bF [(.str []), (.str []), (.bool false)] [(0, 1, (cV (.str [111, 116, 104, 101, 114]))), (1, 1, (cV (.str [76, 65, 59])))] e) fun v1=>bE (dm (cG 2 3 [(.str []), (.str []), (.bool false), (.str []), (.str []), (.bool false)] [(0, 3, (cV v0)), (3, 3, (cV v1))] e s.next) s) fun v2 s=>bP (bF [(.str []), (.str []), .ax, .ax, .ax] [(0, 1, (cV (.str [66]))), (1, 1, (cV (.str [65]))), (3, 1, (cV v2))] e) fun v3=>bE (dm (lT 5 (cL [(.str []), (.str []), .ax, .ax, .ax]) e s.next) s) fun v4 s=>bE (dW 5 (cV v4) (cV v3) k e s) fun v5 s=>.au (dh (u7 e v4) fun r=>{r with a3:=v0,a4:=v1,a5:=v2,a6:=v3}) s
def CB:aB:=lt (g3 e) fun v0=>bE (ak 49 [(cV v0), (cV (.i 2))] k e s) fun v1 s=>bP (aj (bI bh) (cV v1) (cV (.i 0)) e) fun v2=>.au (dh e fun r=>{r with a7:=v0,a8:=v1,a9:=v2}) s
def IL:aB:=lt (g3 e) fun v0=>bP (aA (aC 2) g7 e) fun v1=>bP ((aO (cV v1)) e s) fun v2=>bE (ak 48 [(cV v0), (cV v2), (cV (.str [103, 111])), (cV (.str [40, 73, 41, 73])), (cV (.bool false)), (cV (.bool false)), (cV (.bool true)), (cV (.i 2))] k e s) fun v3 s=>bP (aA (dL 0) (cV v3) e) fun v4=>bP (aA (dL 1) (cV v3) e) fun v5=>bE (dW 9 g5 (cV v4) k e s) fun v6 s=>.au (u48 (dh (u6 e v5) fun r=>{r with a10:=v3,a11:=v0,a12:=v1,a13:=v2,a14:=v3,a15:=v4}) v5) s
def GK:aB:=lt (g6 e) fun v0=>bP (aA (aC 2) g7 e) fun v1=>bE (dW 1 (cV v1) (cV v0) k e s) fun v2 s=>.au (fW e fun r=>{r with a1:=v0,a2:=v1}) s
def zO:aB:=bP (aA (aC 4) g7 e) fun v0=>bP ((aO (cV v0)) e s) fun v1=>bP ((di 9 g5) e s) fun v2=>bE (dm (cG 1 9 [(.str []), (.str []), (.bool false), (.bool false), (.i 0), (.i 0), .ax, .ax, .ax] [(0, 9, (cV v2))] e s.next) s) fun v3 s=>bE (jR 9 (cV v1) (cV v3) k e s) fun v4 s=>bP (aA (aC 4) g7 e) fun v5=>bE (dW 1 (cV v5) (cV v4) k e s) fun v6 s=>.au (fW e fun r=>{r with a3:=v0,a4:=v1,a5:=v2,a6:=v3,a7:=v4,a8:=v5}) s
def FX:aB:=bP (bF [(.str []), (.str []), .ax, .ax, .ax] [(0, 1, (cV (.str [84]))), (1, 1, (cV (.str [84, 104, 114, 101, 97, 100])))] e) fun v0=>bE (dm (lT 5 (cL [(.str []), (.str []), .ax, .ax, .ax]) e s.next) s) fun v1 s=>bE (dW 5 (cV v1) (cV v0) k e s) fun v2 s=>.au (u57 (u8 e v1) v0) s
def BB:aB:=lt (g3 e) fun v0=>bP (aA (aC 2) g8 e) fun v1=>bP ((aO (cV v1)) e s) fun v2=>bE (ak 48 [(cV v0), (cV v2), (cV (.str [114, 117, 110])), (cV (.str [40, 41, 86])), (cV (.bool false)), (cV (.bool false)), (cV (.bool false)), (cV (.i 1))] k e s) fun v3 s=>bP (aA (dL 0) (cV v3) e) fun v4=>bP (aA (dL 1) (cV v3) e) fun v5=>bE (dW 9 g5 (cV v4) k e s) fun v6 s=>.au (u64 (fW (u6 e v5) fun r=>{r with a10:=v3,a11:=v0,a12:=v1,a13:=v2,a14:=v3,a15:=v4}) v5) s
def Kc:aB:=lt (g6 e) fun v0=>bP (aA (aC 2) g8 e) fun v1=>bE (dW 1 (cV v1) (cV v0) k e s) fun v2 s=>.au (jj e fun r=>{r with a1:=v0,a2:=v1}) s
def K4:aB:=bP (aA (aC 4) g8 e) fun v0=>bP ((aO (cV v0)) e s) fun v1=>bP ((di 9 g5) e s) fun v2=>bE (dm (cG 1 9 [(.str []), (.str []), (.bool false), (.bool false), (.i 0), (.i 0), .ax, .ax, .ax] [(0, 9, (cV v2))] e s.next) s) fun v3 s=>bE (jR 9 (cV v1) (cV v3) k e s) fun v4 s=>bP (aA (aC 4) g8 e) fun v5=>bE (dW 1 (cV v5) (cV v4) k e s) fun v6 s=>.au (jj e fun r=>{r with a3:=v0,a4:=v1,a5:=v2,a6:=v3,a7:=v4,a8:=v5}) s
def CE:aB:=bP (bF [(.str []), (.str []), .ax, .ax, .ax] [(0, 1, (cV (.str [77, 97, 105, 110]))), (1, 1, (cV (.str [79, 98, 106, 101, 99, 116])))] e) fun v0=>bE (dm (lT 5 (cL [(.str []), (.str []), .ax, .ax, .ax]) e s.next) s) fun v1 s=>bE (dW 5 (cV v1) (cV v0) k e s) fun v2 s=>.au (u73 (u9 e v1) v0) s
def zA:aB:=lt (g3 e) fun v0=>bP (aA (aC 2) g9 e) fun v1=>bP ((aO (cV v1)) e s) fun v2=>bE (ak 48 [(cV v0), (cV v2), (cV (.str [109, 97, 105, 110])), (cV (.str [40, 41, 86])), (cV (.bool true)), (cV (.bool false)), (cV (.bool false)), (cV (.i 0))] k e s) fun v3 s=>bP (aA (dL 0) (cV v3) e) fun v4=>bP (aA (dL 1) (cV v3) e) fun v5=>bE (dW 9 g5 (cV v4) k e s) fun v6 s=>.au (u80 (jj (u6 e v5) fun r=>{r with a10:=v3,a11:=v0,a12:=v1,a13:=v2,a14:=v3,a15:=v4}) v5) s
def DH:aB:=lt (g3 e) fun v0=>lt (g6 e) fun v1=>bE (ak 48 [(cV v0), (cV v1), (cV (.str [99, 97, 108, 99])), (cV (.str [40, 73, 73, 41, 73])), (cV (.bool true)), (cV (.bool true)), (cV (.bool true)), (cV (.i 2))] k e s) fun v2 s=>bP (aA (dL 0) (cV v2) e) fun v3=>bP (aA (dL 1) (cV v2) e) fun v4=>bE (dm (lT 9 (cL [(.str []), (.str []), (.bool false), (.bool false), (.i 0), (.i 0), .ax, .ax, .ax]) e s.next) s) fun v5 s=>bE (dW 9 (cV v5) (cV v3) k e s) fun v6 s=>.au (kL (bJ e fun r=>{r with a6:=v4,a10:=v5}) fun r=>{r with a1:=v2,a2:=v0,a3:=v1,a4:=v2,a5:=v3,a6:=v4}) s
def Jb:aB:=lt (g6 e) fun v0=>bP (aA (aC 2) g9 e) fun v1=>bE (dW 1 (cV v1) (cV v0) k e s) fun v2 s=>.au (kL e fun r=>{r with a7:=v0,a8:=v1}) s
def Mr:aB:=bP (aA (aC 4) g9 e) fun v0=>bP ((aO (cV v0)) e s) fun v1=>bP ((di 9 g5) e s) fun v2=>bP ((di 9 g10) e s) fun v3=>bE (dm (cG 2 9 [(.str []), (.str []), (.bool false), (.bool false), (.i 0), (.i 0), .ax, .ax, .ax, (.str []), (.str []), (.bool false), (.bool false), (.i 0), (.i 0), .ax, .ax, .ax] [(0, 9, (cV v2)), (9, 9, (cV v3))] e s.next) s) fun v4 s=>bE (jR 9 (cV v1) (cV v4) k e s) fun v5 s=>bP (aA (aC 4) g9 e) fun v6=>bE (dW 1 (cV v6) (cV v5) k e s) fun v7 s=>.au (kL e fun r=>{r with a9:=v0,a10:=v1,a11:=v2,a12:=v3,a13:=v4,a14:=v5,a15:=v6}) s
def KF:Den:=fun _ e s=>bP ((di 5 g4) e s) fun v0=>bP ((di 5 g7) e s) fun v1=>bP ((di 5 g8) e s) fun v2=>bP ((di 5 g9) e s) fun v3=>bE (dm (cG 4 5 [(.str []), (.str []), .ax, .ax, .ax, (.str []), (.str []), .ax, .ax, .ax, (.str []), (.str []), .ax, .ax, .ax, (.str []), (.str []), .ax, .ax, .ax] [(0, 5, (cV v0)), (5, 5, (cV v1)), (10, 5, (cV v2)), (15, 5, (cV v3))] e s.next) s) fun v4 s=>.au (mN (u2 e v4) fun r=>{r with a0:=v0,a1:=v1,a2:=v2,a3:=v3,a4:=v4}) s
def vR:aB:=af FX (af BB (af Kc (af K4 (af CE (af zA (af DH (af Jb (af Mr (af KF aU))))))))) k e s
def Cj:aB:=af RP (af SF (af SE (af Rk (af S_ (af JV (af IJ (af (af CB (av g41 (af IL (af GK zO)) ay)) vR))))))) k e s
def KH : aY := ⟨[u0], Cj, aM [rT g2]⟩
theorem XW : aJ tt [] fok Try.f34 = some KH := by kernel_rfl
theorem QZ : aI Try.prog [] 34 KH := aI.of (az bY bA mixed Try.func34 XW)
def U9:Den:=fun _ e s=>bM (V.ax) fun v0=>.au (u4 e v0) s
def SZ:aB:=lt (g0 e) fun v0=>lt (g1 e) fun v1=>bE (ak 50 [cV v0,cV v1] k e s) fun v2 s=>.au (bJ e fun r=>{r with a5:=v2,a8:=v0,a9:=v1,a10:=v2}) s
def PB:Den:=fun _ e s=>lt (g5 e) fun v0=>bP (aj (bI bh) (cV v0) (cV (.i (-1))) e) fun v1=>.au (bJ e fun r=>{r with a11:=v0,a12:=v1}) s
def Uf:Den:=fun _ e s=>lt (g0 e) fun v0=>.au (bJ e fun r=>{r with a4:=v0,a13:=v0}) s
def GS:Den:=fun _ e s=>lt (g5 e) fun v0=>bP (aj (bI bQ) (cV v0) (cV (.i 1)) e) fun v1=>.au (bJ e fun r=>{r with a6:=v1,a14:=v0,a15:=v1}) s
def Gn:Den:=fun _ e s=>lt (g6 e) fun v0=>lt (g0 e) fun v1=>bP (aA aP (cV v1) e) fun v2=>bP (aj (bI fN) (cV v0) (cV v2) e) fun v3=>.au (cN e fun r=>{r with a0:=v0,a1:=v1,a2:=v2,a3:=v3}) s
def LF:Den:=fun _ e s=>lt (g0 e) fun v0=>lt (g6 e) fun v1=>bP (aj (aQ 1) (cV v0) (cV v1) e) fun v2=>bP ((aO (cV v2)) e s) fun v3=>.au (cN (u7 e v3) fun r=>{r with a6:=v0,a7:=v1,a8:=v2,a9:=v3}) s
def Lo:aB:=lt (g1 e) fun v0=>lt (g7 e) fun v1=>bE (fQ fok (cV v0) [cV v1] k e s) fun v2 s=>bP (aA jw (cV v2) e) fun v3=>.au (cN e fun r=>{r with a10:=v0,a11:=v1,a12:=v2,a13:=v3}) s
def G_:aB:=lt (g0 e) fun v0=>lt (g5 e) fun v1=>lt (g7 e) fun v2=>bP (aj (aQ 1) (cV v0) (cV v1) e) fun v3=>bE (dW 1 (cV v3) (cV v2) k e s) fun v4 s=>.au (dh (cN e fun r=>{r with a14:=v0,a15:=v1}) fun r=>{r with a0:=v2,a1:=v3}) s
def Lm:Den:=fun _ e s=>lt (g5 e) fun v0=>bP (aj (bI bQ) (cV v0) (cV (.i 1)) e) fun v1=>.au (dh (u5 e v1) fun r=>{r with a2:=v0,a3:=v1}) s
def JG:Den:=fun _ e s=>lt (g6 e) fun v0=>bP (aj (bI bQ) (cV v0) (cV (.i 1)) e) fun v1=>.au (cN (u6 e v1) fun r=>{r with a4:=v0,a5:=v1}) s
def Lz:aB:=lt (g0 e) fun v0=>lt (g5 e) fun v1=>bP (yC 1 (cV v0) (some (cV v1)) none none e) fun v2=>bE (rW [(.i 0)] (cV v2) k e s) fun v3 s=>.au (dh e fun r=>{r with a4:=v0,a5:=v1,a6:=v2}) s
def Gg:Den:=fun _ e s=>lt (g0 e) fun v0=>lt (g5 e) fun v1=>bP (yC 1 (cV v0) none (some (cV v1)) none e) fun v2=>.au (dh (u4 e v2) fun r=>{r with a7:=v0,a8:=v1,a9:=v2}) s
def KM:aB:=af U9 (af SZ (af (af PB (av g12 (af Uf aU) ay)) (af (af GS (aG 0 (cB (af (af Gn (av g19 ay (bW 0))) (af (aG 1 (af LF (af Lo (av g29 (af G_ Lm) ay)))) JG))))) (af Lz (af Gg aU))))) k e s
def X7 : aY := ⟨[u0, u1], KM, aM [rT g4]⟩
theorem ZR : aJ tt [] fok Try.f37 = some X7 := by kernel_rfl
theorem Pn : aI Try.prog [] 37 X7 := aI.of (az bY bA mixed Try.func37 ZR)
def T2:Den:=fun _ e s=>bM (V.bool false) fun v0=>.au (u3 e v0) s
def PV:Den:=fun _ e s=>lt (g0 e) fun v0=>bP (aj (bI fN) (cV v0) (cV (.i 0)) e) fun v1=>bP (aL v1 false (aD g0 e)) fun v2=>bP (aL v1 false ((aO g1) e s)) fun v3=>bP (aL v1 false (aA aP (cV v3) e)) fun v4=>bP (aL v1 false (aj (bI qD) (cV v2) (cV v4) e)) fun v5=>bP (aN (cV v1) (cV (.bool true)) (cV v5) e) fun v6=>.au (bJ e fun r=>{r with a3:=v6,a4:=v0,a5:=v1,a6:=v1,a7:=v2,a8:=v3,a9:=v4,a10:=v5,a11:=v6}) s
def BO:aB:=af T2 (af PV aU) k e s
def F38 : aY := ⟨[u0, u1], BO, aM [rT g3]⟩
theorem X6 : aJ tt [] fok Try.f38 = some F38 := by kernel_rfl
theorem Ri : aI Try.prog [] 38 F38 := aI.of (az bY bA mixed Try.func38 X6)
def Tq:Den:=fun _ e s=>bM (V.i 0) fun v0=>bM (V.bool false) fun v1=>.au (bJ e fun r=>{r with a4:=v0,a5:=v1}) s
def Qt:Den:=fun _ e s=>lt (g0 e) fun v0=>bP (aA aP (cV v0) e) fun v1=>.au (bJ e fun r=>{r with a6:=v1,a10:=v0,a11:=v1}) s
def RO:Den:=fun _ e s=>lt (g6 e) fun v0=>bM (V.i 0) fun v1=>.au (bJ e fun r=>{r with a7:=v1,a8:=v0,a12:=v0}) s
def Cb:Den:=fun _ e s=>lt (g7 e) fun v0=>lt (g8 e) fun v1=>bP (aj (bI fN) (cV v0) (cV v1) e) fun v2=>.au (bJ e fun r=>{r with a13:=v0,a14:=v1,a15:=v2}) s
def ID:Den:=fun _ e s=>lt (g7 e) fun v0=>lt (g8 e) fun v1=>bP (aj (bI bQ) (cV v0) (cV v1) e) fun v2=>bP (aA (cQ .u64) (cV v2) e) fun v3=>bP (aj (xT .shr .u64) (cV v3) (cV (.int .u64 1)) e) fun v4=>bP (aA (cQ .i64) (cV v4) e) fun v5=>.au (cN (u9 e v5) fun r=>{r with a0:=v0,a1:=v1,a2:=v2,a3:=v3,a4:=v4,a5:=v5}) s
def FM:aB:=lt (g0 e) fun v0=>lt (g9 e) fun v1=>bP (aj (aQ 1) (cV v0) (cV v1) e) fun v2=>bP ((aO (cV v2)) e s) fun v3=>lt (g1 e) fun v4=>bE (ak 51 [cV v3,cV v4] k e s) fun v5 s=>.au (cN e fun r=>{r with a6:=v0,a7:=v1,a8:=v2,a9:=v3,a10:=v4,a11:=v5}) s
def DO:Den:=fun _ e s=>lt (g9 e) fun v0=>bP (aj (bI bQ) (cV v0) (cV (.i 1)) e) fun v1=>.au (cN (u7 e v1) fun r=>{r with a12:=v0,a13:=v1}) s
def FP:Den:=fun _ e s=>lt (g9 e) fun v0=>.au (u30 (u8 e v0) v0) s
def Ie:aB:=lt (g7 e) fun v0=>lt (g7 e) fun v1=>lt (g6 e) fun v2=>bP (aj (bI fN) (cV v1) (cV v2) e) fun v3=>bP (aL v3 true (aD g0 e)) fun v4=>bP (aL v3 true (aD g7 e)) fun v5=>bP (aL v3 true (aj (aQ 1) (cV v4) (cV v5) e)) fun v6=>bP (aL v3 true ((aO (cV v6)) e s)) fun v7=>bP (aL v3 true (aD g1 e)) fun v8=>bP (aL v3 true (aj (bI bh) (cV v7) (cV v8) e)) fun v9=>bP (aL v3 true (aD (cV v9) e)) fun v10=>bP (aL v10 false (aD g0 e)) fun v11=>bP (aL v10 false (aD g7 e)) fun v12=>bP (aL v10 false (aj (aQ 1) (cV v11) (cV v12) e)) fun v13=>bP (aL v10 false ((aO (cV v13)) e s)) fun v14=>bE (iH v10 false s (ak 52 [cV v14] k e s)) fun v15 s=>bP (aL v10 false (aD (cV v15) e)) fun v16=>bP (aL v16 true (aD g1 e)) fun v17=>bE (iH v16 true s (ak 52 [cV v17] k e s)) fun v18 s=>bP (aL v10 false (aN (cV v16) (cV v18) (cV (.bool false)) e)) fun v19=>bP (aL v3 true (aN (cV v10) (cV (.bool true)) (cV v19) e)) fun v20=>bP (aN (cV v3) (cV v20) (cV (.bool false)) e) fun v21=>.au (fW (lU (u31 (bJ e fun r=>{r with a4:=v0,a5:=v21}) v0) fun _ _ _ _ _ _ _ _ _ _ _ _ _ _ _ _=>⟨v1,v2,v3,v3,v4,v5,v6,v7,v8,v9,v10,v11,v12,v13,v14,v15⟩) fun r=>{r with a0:=v16,a1:=v17,a2:=v18,a3:=v19,a4:=v20,a5:=v21}) s
def Bz:aB:=af Tq (af Qt (af RO (af (aG 0 (cB (af (af Cb (av g15 ay (bW 0))) (aG 1 (af ID (af FM (av g27 DO FP))))))) (af Ie aU)))) k e s
def ZQ : aY := ⟨[u0, u1], Bz, aM [rT g4, rT g5]⟩
theorem Y3 : aJ tt [] fok Try.f39 = some ZQ := by kernel_rfl
theorem T4 : aI Try.prog [] 39 ZQ := aI.of (az bY bA mixed Try.func39 Y3)
def PZ:Den:=fun _ e s=>lt (g0 e) fun v0=>bP (aj (bI qD) (cV v0) (cV (.i 0)) e) fun v1=>bP (aL v1 true (aD g0 e)) fun v2=>bP (aL v1 true ((aO g1) e s)) fun v3=>bP (aL v1 true (aA aP (cV v3) e)) fun v4=>bP (aL v1 true (aj (bI fN) (cV v2) (cV v4) e)) fun v5=>bP (aN (cV v1) (cV v5) (cV (.bool false)) e) fun v6=>bP (aL v6 true ((aO g2) e s)) fun v7=>bP (aL v6 true (aD g0 e)) fun v8=>bP (aL v6 true (aj (aQ 1) (cV v7) (cV v8) e)) fun v9=>bP (aL v6 true ((aO (cV v9)) e s)) fun v10=>bP (aL v6 true (aA jw (cV v10) e)) fun v11=>bP (aN (cV v6) (cV v11) (cV (.bool false)) e) fun v12=>.au (cN (gC e fun a b c d f _ _ _ _ _ _ _ _ _ _ _=>⟨a,b,c,d,f,v0,v1,v1,v2,v3,v4,v5,v6,v6,v7,v8⟩) fun r=>{r with a0:=v9,a1:=v10,a2:=v11,a3:=v12}) s
def Rh:aB:=bP ((aO g2) e s) fun v0=>lt (g0 e) fun v1=>bP (aj (aQ 1) (cV v0) (cV v1) e) fun v2=>bE (dW 1 (cV v2) (cV (.bool true)) k e s) fun v3 s=>.au (cN e fun r=>{r with a4:=v0,a5:=v1,a6:=v2}) s
def U1:aB:=bP ((aO g3) e s) fun v0=>lt (g0 e) fun v1=>bE (dm (cG 1 1 [(.i 0)] [(0, 1, (cV v1))] e s.next) s) fun v2 s=>bE (oB 1 (cV v0) (cV v2) k e s) fun v3 s=>bE (dW 1 g3 (cV v3) k e s) fun v4 s=>.au (cN e fun r=>{r with a7:=v0,a8:=v1,a9:=v2,a10:=v3}) s
def Da:aB:=af PZ (av g19 (af Rh U1) ay) k e s
def Yp : aY := ⟨[u0, u1, u2, u3], Da, aM []⟩
theorem Yb : aJ tt [] fok Try.f40 = some Yp := by kernel_rfl
theorem T8 : aI Try.prog [] 40 Yp := aI.of (az bY bA mixed Try.func40 Yb)
noncomputable def WL : aY := iF (fO 0 256 fun i => .i (a_ i))
def Q1:Den:=fun _ e s=>bM (V.i 0) fun v0=>.au (u4 e v0) s
def U3:Den:=fun _ e s=>lt (g0 e) fun v0=>bP (aA aP (cV v0) e) fun v1=>bM (V.i 0) fun v2=>.au (bJ e fun r=>{r with a6:=v0,a7:=v1,a8:=v2}) s
def Ui:Den:=fun _ e s=>bP (aj (bI fN) g8 g7 e) fun v0=>.au (u9 e v0) s
def zU:Den:=fun _ e s=>lt (g8 e) fun v0=>.au (bJ e fun r=>{r with a5:=v0,a10:=v0}) s
def GZ:aB:=lt (g1 e) fun v0=>lt (g0 e) fun v1=>lt (g5 e) fun v2=>bP (aj (aQ 3) (cV v1) (cV v2) e) fun v3=>bP ((di 3 (cV v3)) e s) fun v4=>bE (fQ fok (cV v0) [cV v4] k e s) fun v5 s=>.au (u16 (bJ e fun r=>{r with a11:=v0,a12:=v1,a13:=v2,a14:=v3,a15:=v4}) v5) s
def CJ:Den:=fun _ e s=>lt (g5 e) fun v0=>.au (u17 (u4 e v0) v0) s
def DA:Den:=fun _ e s=>bP (aj (bI bQ) g8 (cV (.i 1)) e) fun v0=>.au (u18 (u8 e v0) v0) s
def Al:Den:=fun _ e s=>bM (V.i (-1)) fun v0=>.au (u4 e v0) s
def DB:aB:=af Q1 (af (af U3 (aG 0 (cB (af Ui (af (av g9 ay (bW 0)) (af (aG 1 (af zU (af GZ (av g16 (af CJ aU) ay)))) DA)))))) (af Al aU)) k e s
def X2 : aY := ⟨[u0, u1], DB, aM [rT g4]⟩
theorem YY : aJ tt [] fok Try.f42 = some X2 := by kernel_rfl
theorem Sk : aI Try.prog [] 42 X2 := aI.of (az bY bA mixed Try.func42 YY)
def RU:Den:=fun _ e s=>bM (V.bool false) fun v0=>.au (u2 e v0) s
def O0:Den:=fun _ e s=>lt (g0 e) fun v0=>lt (g0 e) fun v1=>bP (aj (bI sg) (cV v0) (cV v1) e) fun v2=>.au (bJ e fun r=>{r with a2:=v2,a3:=v0,a4:=v1,a5:=v2}) s
def FO:aB:=af RU (af O0 aU) k e s
def NZ : aY := ⟨[u0], FO, aM [rT g2]⟩
theorem aat : aJ tt [] fok Try.f45 = some NZ := by kernel_rfl
theorem Ub : aI Try.prog [] 45 NZ := aI.of (az bY bA mixed Try.func45 aat)
noncomputable def V1 : aY := iF (fO 0 256 fun i => .i (a_ i))
noncomputable def Wh : aY := iF (fO 0 256 fun i => .bool (gJ i))
def Qx:Den:=fun _ e s=>bE (dm (lT 9 (cL [(.str []), (.str []), (.bool false), (.bool false), (.i 0), (.i 0), .ax, .ax, .ax]) e s.next) s) fun v0 s=>bM (V.ax) fun v1=>.au (cN e fun r=>{r with a0:=v0,a1:=v1}) s
def UH:Den:=fun _ e s=>lt (g0 e) fun v0=>lt (g1 e) fun v1=>lt (g5 e) fun v2=>bP (bF [.jB, .ax, .ax, (.i 0), (.bool false), (.i 0), (.i 0), .ax, .ax, .ax] [(0, 1, (cV v0)), (1, 1, (cV v1)), (4, 1, (cV v2)), (5, 1, (cV (.i 110)))] e) fun v3=>bE (dm (jZ (cV v3) e s.next) s) fun v4 s=>.au (cN e fun r=>{r with a2:=v4,a4:=v0,a5:=v1,a6:=v2,a7:=v3,a8:=v4}) s
def Pj:Den:=fun _ e s=>lt (g4 e) fun v0=>bP (aA jw (cV v0) e) fun v1=>.au (cN e fun r=>{r with a9:=v0,a10:=v1}) s
def Qj:aB:=lt (g18 e) fun v0=>bE (ak 64 [(cV v0), (cV (.i 25)), (cV (.i 0)), (cV (.i 0))] k e s) fun v1 s=>.au (cN e fun r=>{r with a11:=v0,a12:=v1}) s
def Lk:Den:=fun _ e s=>lt (g2 e) fun v0=>bP (aj (bS fun a b=>some (.bool (iK a b))) (cV v0) (cV (.str [103, 111])) e) fun v1=>.au (cN e fun r=>{r with a13:=v0,a14:=v1}) s
def Jn:aB:=lt (g18 e) fun v0=>bE (ak 64 [(cV v0), (cV (.i 58)), (cV (.i 4)), (cV (.i 0))] k e s) fun v1 s=>.au (u32 (u31 e v0) v1) s
def JA:aB:=lt (g18 e) fun v0=>bE (ak 64 [(cV v0), (cV (.i 21)), (cV (.i 1)), (cV (.i 0))] k e s) fun v1 s=>.au (dh e fun r=>{r with a1:=v0,a2:=v1}) s
def AU:aB:=lt (g18 e) fun v0=>bE (ak 64 [(cV v0), (cV (.i 54)), (cV (.i 2)), (cV (.i 0))] k e s) fun v1 s=>.au (dh e fun r=>{r with a3:=v0,a4:=v1}) s
def E0:aB:=lt (g18 e) fun v0=>bE (ak 64 [(cV v0), (cV (.i 3)), (cV (.i 0)), (cV (.i 0))] k e s) fun v1 s=>.au (dh e fun r=>{r with a5:=v0,a6:=v1}) s
def Lp:aB:=lt (g18 e) fun v0=>bE (ak 64 [(cV v0), (cV (.i 54)), (cV (.i 0)), (cV (.i 0))] k e s) fun v1 s=>.au (dh e fun r=>{r with a7:=v0,a8:=v1}) s
def Hs:aB:=lt (g18 e) fun v0=>bE (ak 64 [(cV v0), (cV (.i 58)), (cV (.i 8)), (cV (.i 0))] k e s) fun v1 s=>.au (dh e fun r=>{r with a9:=v0,a10:=v1}) s
def Iu:aB:=lt (g18 e) fun v0=>bE (ak 64 [(cV v0), (cV (.i 3)), (cV (.i 0)), (cV (.i 0))] k e s) fun v1 s=>.au (dh e fun r=>{r with a11:=v0,a12:=v1}) s
def Iz:aB:=lt (g18 e) fun v0=>bE (ak 64 [(cV v0), (cV (.i 54)), (cV (.i 0)), (cV (.i 0))] k e s) fun v1 s=>.au (dh e fun r=>{r with a13:=v0,a14:=v1}) s
def IW:aB:=lt (g18 e) fun v0=>bE (ak 64 [(cV v0), (cV (.i 3)), (cV (.i 0)), (cV (.i 0))] k e s) fun v1 s=>.au (u48 (u47 e v0) v1) s
def BA:aB:=lt (g18 e) fun v0=>bE (ak 64 [(cV v0), (cV (.i 54)), (cV (.i 1)), (cV (.i 0))] k e s) fun v1 s=>.au (fW e fun r=>{r with a1:=v0,a2:=v1}) s
def FD:aB:=lt (g18 e) fun v0=>lt (g4 e) fun v1=>lt (g2 e) fun v2=>lt (g7 e) fun v3=>bE (ak 65 [cV v0,cV v1,cV v2,cV v3] k e s) fun v4 s=>.au (fW e fun r=>{r with a3:=v0,a4:=v1,a5:=v2,a6:=v3,a7:=v4}) s
def yZ:aB:=lt (g18 e) fun v0=>bE (ak 66 [(cV v0), (cV (.i 6))] k e s) fun v1 s=>.au (fW e fun r=>{r with a8:=v0,a9:=v1}) s
def Gp:Den:=fun _ e s=>lt (g6 e) fun v0=>.au (u58 e v0) s
def LW:aB:=lt (g18 e) fun v0=>bE (ak 67 [(cV v0), (cV (.i 2))] k e s) fun v1 s=>.au (fW e fun r=>{r with a11:=v0,a12:=v1}) s
def Mf:aB:=lt (g18 e) fun v0=>bE (ak 64 [(cV v0), (cV (.i 172)), (cV (.i 0)), (cV (.i 0))] k e s) fun v1 s=>.au (fW e fun r=>{r with a13:=v0,a14:=v1}) s
def Ih:aB:=lt (g18 e) fun v0=>bE (ak 64 [(cV v0), (cV (.i 177)), (cV (.i 0)), (cV (.i 0))] k e s) fun v1 s=>.au (u64 (u63 e v0) v1) s
def I2:aB:=lt (g18 e) fun v0=>lt (g2 e) fun v1=>lt (g3 e) fun v2=>lt (g4 e) fun v3=>bE (ak 68 [cV v0,cV v1,cV v2,cV v3] k e s) fun v4 s=>bE (dm (lT 9 (cL [(.str []), (.str []), (.bool false), (.bool false), (.i 0), (.i 0), .ax, .ax, .ax]) e s.next) s) fun v5 s=>bE (dW 9 (cV v5) (cV v4) k e s) fun v6 s=>.au (jj (u19 e v5) fun r=>{r with a1:=v0,a2:=v1,a3:=v2,a4:=v3,a5:=v4}) s
def J':aB:=gT [⟨none, (.d 1 0 (di 9 g19)), u70⟩, ⟨none, (.p (aD g18)), u71⟩, ⟨none, (.p (aA bx g71)), u72⟩, ⟨none, (.p (aA (aC 1) g72)), u73⟩, ⟨none, (.d 0 1 (aO g73)), u74⟩, ⟨none, (.e (dW 9 g16 g70)), nH⟩, ⟨none, (.p (aD g74)), u17⟩] k e s
def mX:aB:=af I2 (af J' aU) k e s
def qi:aB:=af FD (af yZ (af (af Gp (av g58 (af LW Mf) Ih)) mX)) k e s
def EV:aB:=af Qx (af UH (af (af Pj (av g26 (af Qj (af Lk (av g30 (af Jn (af JA (af AU (af E0 Lp)))) (af Hs (af Iu (af Iz (af IW BA))))))) ay)) qi)) k e s
def Z_ : aY := ⟨[u0, u1, u2, u3, u4, u5, u6, u7], EV, aM [rC true (nat_lit 9) g16, rT g17]⟩
theorem ZG : aJ tt [] fok Try.f48 = some Z_ := by kernel_rfl
theorem SU : aI Try.prog [] 48 Z_ := aI.of (az bY bA mixed Try.func48 ZG)
def Sa:Den:=fun _ e s=>bM (V.i 0) fun v0=>.au (u4 e v0) s
def Tz:Den:=fun _ e s=>bM (V.i 0) fun v0=>.au (u5 e v0) s
def Qa:Den:=fun _ e s=>lt (g0 e) fun v0=>bP (aA bx (cV v0) e) fun v1=>bP (aA (aC 1) (cV v1) e) fun v2=>bP ((aO (cV v2)) e s) fun v3=>lt (g0 e) fun v4=>bP (aA bx (cV v4) e) fun v5=>bP (aA (aC 0) (cV v5) e) fun v6=>bP ((aO (cV v6)) e s) fun v7=>bP (aA aP (cV v7) e) fun v8=>bP (aj (bI fN) (cV v3) (cV v8) e) fun v9=>.au (gC e fun a b c d f g _ _ _ _ _ _ _ _ _ _=>⟨a,b,c,d,f,g,v0,v1,v2,v3,v4,v5,v6,v7,v8,v9⟩) s
def Sh:Den:=fun _ e s=>lt (g0 e) fun v0=>bP (aA bx (cV v0) e) fun v1=>bP (aA (aC 0) (cV v1) e) fun v2=>bP ((aO (cV v2)) e s) fun v3=>lt (g0 e) fun v4=>bP (aA bx (cV v4) e) fun v5=>bP (aA (aC 1) (cV v5) e) fun v6=>bP ((aO (cV v6)) e s) fun v7=>bP (aj (aQ 1) (cV v3) (cV v7) e) fun v8=>bP ((aO (cV v8)) e s) fun v9=>.au (mP (u5 e v9) fun _ _ _ _ _ _ _ _ _ _ m n o p q r=>⟨v0,v1,v2,v3,v4,v5,v6,v7,v8,v9,m,n,o,p,q,r⟩) s
def HI:aB:=lt (g0 e) fun v0=>bP (aA bx (cV v0) e) fun v1=>bP (aA (aC 1) (cV v1) e) fun v2=>bP ((aO (cV v2)) e s) fun v3=>bP (aj (bI bQ) (cV v3) (cV (.i 1)) e) fun v4=>bP (aA bx (cV v0) e) fun v5=>bP (aA (aC 1) (cV v5) e) fun v6=>bE (dW 1 (cV v6) (cV v4) k e s) fun v7 s=>.au (u32 (cN e fun r=>{r with a10:=v0,a11:=v1,a12:=v2,a13:=v3,a14:=v4,a15:=v5}) v6) s
def CX:Den:=fun _ e s=>lt (g5 e) fun v0=>bP (aj (bI fN) (cV v0) (cV (.i 0)) e) fun v1=>.au (dh e fun r=>{r with a1:=v0,a2:=v1}) s
def J1:Den:=fun _ e s=>lt (g5 e) fun v0=>bP (aj (bI bQ) (cV v0) (cV (.i 1)) e) fun v1=>bP (aA GX (cV v1) e) fun v2=>.au (dh (u5 e v2) fun r=>{r with a3:=v0,a4:=v1,a5:=v2}) s
def Dx:Den:=fun _ e s=>lt (g5 e) fun v0=>lt (g1 e) fun v1=>bP (aj oL (cV v0) (cV v1) e) fun v2=>.au (dh (u4 e v2) fun r=>{r with a6:=v0,a7:=v1,a8:=v2}) s
def DK:aB:=af Sa (af Tz (af (af Qa (av g15 (af Sh HI) ay)) (af (af CX (av g34 J1 ay)) (af Dx aU)))) k e s
def Yh : aY := ⟨[u0, u1], DK, aM [rT g4]⟩
theorem Yo : aJ tt [] fok Try.f49 = some Yh := by kernel_rfl
theorem T7 : aI Try.prog [] 49 Yh := aI.of (az bY bA mixed Try.func49 Yo)
def RW:Den:=fun _ e s=>bM (V.i 0) fun v0=>.au (u4 e v0) s
def UA:Den:=fun _ e s=>lt (g0 e) fun v0=>bP (aA aP (cV v0) e) fun v1=>bM (V.i 0) fun v2=>.au (bJ e fun r=>{r with a6:=v0,a7:=v1,a8:=v2}) s
def Q2:Den:=fun _ e s=>bP (aj (bI fN) g8 g7 e) fun v0=>.au (u9 e v0) s
def Gx:Den:=fun _ e s=>lt (g8 e) fun v0=>.au (bJ e fun r=>{r with a5:=v0,a10:=v0}) s
def BJ:aB:=lt (g1 e) fun v0=>lt (g0 e) fun v1=>lt (g5 e) fun v2=>bP (aj (aQ 1) (cV v1) (cV v2) e) fun v3=>bP ((aO (cV v3)) e s) fun v4=>bE (fQ fok (cV v0) [cV v4] k e s) fun v5 s=>.au (u16 (bJ e fun r=>{r with a11:=v0,a12:=v1,a13:=v2,a14:=v3,a15:=v4}) v5) s
def GM:Den:=fun _ e s=>lt (g5 e) fun v0=>.au (u17 (u4 e v0) v0) s
def AW:Den:=fun _ e s=>bP (aj (bI bQ) g8 (cV (.i 1)) e) fun v0=>.au (u18 (u8 e v0) v0) s
def Mn:Den:=fun _ e s=>bM (V.i (-1)) fun v0=>.au (u4 e v0) s
def Gl:aB:=af RW (af (af UA (aG 0 (cB (af Q2 (af (av g9 ay (bW 0)) (af (aG 1 (af Gx (af BJ (av g16 (af GM aU) ay)))) AW)))))) (af Mn aU)) k e s
def XY : aY := ⟨[u0, u1], Gl, aM [rT g4]⟩
theorem aaZ : aJ tt [] fok Try.f50 = some XY := by kernel_rfl
theorem Sf : aI Try.prog [] 50 XY := aI.of (az bY bA mixed Try.func50 aaZ)
def UG:Den:=fun _ e s=>bM (V.bool false) fun v0=>.au (u4 e v0) s
def Ru:aB:=lt (g0 e) fun v0=>bE (ak 45 [cV v0] k e s) fun v1 s=>bP (aL v1 true (aD g1 e)) fun v2=>bE (iH v1 true s (ak 45 [cV v2] k e s)) fun v3 s=>bP (aL v1 true (aA jw (cV v3) e)) fun v4=>bP (aN (cV v1) (cV v4) (cV (.bool false)) e) fun v5=>bP (aL v5 false (aD g0 e)) fun v6=>bP (aL v5 false (aD g1 e)) fun v7=>bP (aL v5 false (aj (bI fN) (cV v6) (cV v7) e)) fun v8=>bP (aN (cV v5) (cV (.bool true)) (cV v8) e) fun v9=>.au (u16 (gC e fun a b c d _ _ _ _ _ _ _ _ _ _ _ _=>⟨a,b,c,d,v9,v0,v1,v1,v2,v3,v4,v5,v5,v6,v7,v8⟩) v9) s
def JB:aB:=af UG (af Ru aU) k e s
def F51 : aY := ⟨[u0, u1], JB, aM [rT g4]⟩
theorem aap : aJ tt [] fok Try.f51 = some F51 := by kernel_rfl
theorem R5 : aI Try.prog [] 51 F51 := aI.of (az bY bA mixed Try.func51 aap)
def Ux:Den:=fun _ e s=>bM (V.bool false) fun v0=>.au (u2 e v0) s
def TK:Den:=fun _ e s=>lt (g0 e) fun v0=>lt (g0 e) fun v1=>bP (aj (bI sg) (cV v0) (cV v1) e) fun v2=>.au (bJ e fun r=>{r with a2:=v2,a3:=v0,a4:=v1,a5:=v2}) s
def Fj:aB:=af Ux (af TK aU) k e s
def F52 : aY := ⟨[u0], Fj, aM [rT g2]⟩
theorem YH : aJ tt [] fok Try.f52 = some F52 := by kernel_rfl
theorem U' : aI Try.prog [] 52 F52 := aI.of (az bY bA mixed Try.func52 YH)
def T5:aB:=lt (g0 e) fun v0=>lt (g0 e) fun v1=>bP (aA bx (cV v1) e) fun v2=>bP (aA (aC 2) (cV v2) e) fun v3=>bP ((aO (cV v3)) e s) fun v4=>lt (g1 e) fun v5=>lt (g2 e) fun v6=>lt (g3 e) fun v7=>bP (bF [(.i 0), (.i 0), (.i 0), (.i 0)] [(1, 1, (cV v5)), (2, 1, (cV v6)), (3, 1, (cV v7))] e) fun v8=>bP (bF [(.i 0), (.i 0), (.i 0), (.i 0), (.i 0), (.i 0)] [(0, 4, (cV v8)), (4, 1, (cV (.i (-1)))), (5, 1, (cV (.i (-1))))] e) fun v9=>bE (dm (cG 1 6 [(.i 0), (.i 0), (.i 0), (.i 0), (.i 0), (.i 0)] [(0, 6, (cV v9))] e s.next) s) fun v10 s=>bE (jR 6 (cV v4) (cV v10) k e s) fun v11 s=>bP (aA bx (cV v0) e) fun v12=>bP (aA (aC 2) (cV v12) e) fun v13=>bE (dW 1 (cV v13) (cV v11) k e s) fun v14 s=>.au (cN (bJ e fun r=>{r with a8:=v0,a9:=v1,a10:=v2,a11:=v3,a12:=v4,a13:=v5,a14:=v6,a15:=v7}) fun r=>{r with a0:=v8,a1:=v9,a2:=v10,a3:=v11,a4:=v12,a5:=v13}) s
def Rb:aB:=lt (g0 e) fun v0=>bP (aA bx (cV v0) e) fun v1=>bP (aA (aC 5) (cV v1) e) fun v2=>bP ((aO (cV v2)) e s) fun v3=>bP (aj (bI ep) (cV v3) (cV (.i 1)) e) fun v4=>bP (aA bx (cV v0) e) fun v5=>bP (aA (aC 5) (cV v5) e) fun v6=>bE (dW 1 (cV v6) (cV v4) k e s) fun v7 s=>.au (cN e fun r=>{r with a6:=v0,a7:=v1,a8:=v2,a9:=v3,a10:=v4,a11:=v5,a12:=v6}) s
def Ck:aB:=af T5 Rb k e s
def YB : aY := ⟨[u0, u1, u2, u3], Ck, aM []⟩
theorem aas : aJ tt [] fok Try.f64 = some YB := by kernel_rfl
theorem U5 : aI Try.prog [] 64 YB := aI.of (az bY bA mixed Try.func64 aas)
def O5:Den:=fun _ e s=>lt (g1 e) fun v0=>.au (u10 e v0) s
def Te:aB:=lt (g0 e) fun v0=>lt (g3 e) fun v1=>bE (ak 74 [cV v0,cV v1] k e s) fun v2 s=>.au (bJ e fun r=>{r with a11:=v0,a12:=v1,a13:=v2}) s
def PL:aB:=lt (g0 e) fun v0=>bE (ak 75 [cV v0] k e s) fun v1 s=>.au (bJ e fun r=>{r with a8:=v1,a14:=v0,a15:=v1}) s
def TL:Den:=fun _ e s=>bM (V.i 1) fun v0=>.au (u9 e v0) s
def CL:Den:=fun _ e s=>lt (g9 e) fun v0=>lt (g8 e) fun v1=>bP (aA aP (cV v1) e) fun v2=>bP (aj (bI fN) (cV v0) (cV v2) e) fun v3=>.au (cN e fun r=>{r with a0:=v0,a1:=v1,a2:=v2,a3:=v3}) s
def oC:Den:=fun _ e s=>lt (g2 e) fun v0=>bP (aj (bS fun a b=>some (.bool (iK a b))) (cV v0) (cV (.str [103, 111])) e) fun v1=>bP (aL v1 true (aD g9 e)) fun v2=>bP (aL v1 true (aj (bI bh) (cV v2) (cV (.i 1)) e)) fun v3=>bP (aL v1 true (aD (cV v3) e)) fun v4=>bP (aL v4 false (aD g9 e)) fun v5=>bP (aL v4 false (aj (bI bh) (cV v5) (cV (.i 2)) e)) fun v6=>bP (aL v1 true (aN (cV v4) (cV (.bool true)) (cV v6) e)) fun v7=>bP (aL v1 true (aD (cV v7) e)) fun v8=>bP (aL v8 false (aD g9 e)) fun v9=>bP (aL v8 false (aj (bI bh) (cV v9) (cV (.i 4)) e)) fun v10=>bP (aL v1 true (aN (cV v8) (cV (.bool true)) (cV v10) e)) fun v11=>bP (aN (cV v1) (cV v11) (cV (.bool false)) e) fun v12=>bP (aL v12 false (aD g2 e)) fun v13=>bP (aL v12 false (aj (bS fun a b=>some (.bool (iK a b))) (cV v13) (cV (.str [114, 117, 110])) e)) fun v14=>bP (aL v12 false (aD (cV v14) e)) fun v15=>bP (aL v15 true (aD g9 e)) fun v16=>bP (aL v15 true (aj (bI bh) (cV v16) (cV (.i 1)) e)) fun v17=>bP (aL v15 true (aD (cV v17) e)) fun v18=>bP (aL v18 false (aD g9 e)) fun v19=>bP (aL v18 false (aj (bI bh) (cV v19) (cV (.i 8)) e)) fun v20=>bP (aL v15 true (aN (cV v18) (cV (.bool true)) (cV v20) e)) fun v21=>bP (aL v12 false (aN (cV v15) (cV v21) (cV (.bool false)) e)) fun v22=>bP (aN (cV v12) (cV (.bool true)) (cV v22) e) fun v23=>.au (lU (mP e fun a b c d f g _ _ _ _ _ _ _ _ _ _=>⟨a,b,c,d,f,g,v0,v1,v1,v2,v3,v4,v5,v6,v7,v8⟩) fun _ _ _ _ _ _ _ _ _ _ _ _ _ _ _ _=>⟨v9,v10,v11,v12,v12,v13,v14,v15,v16,v17,v18,v19,v20,v21,v22,v23⟩) s
def Et:Den:=fun _ e s=>lt (g8 e) fun v0=>lt (g9 e) fun v1=>bP (aj (aQ 1) (cV v0) (cV v1) e) fun v2=>bP ((aO (cV v2)) e s) fun v3=>bP (aj (bS fun a b=>some (.bool (iK a b))) (cV v3) (cV (.str [73])) e) fun v4=>.au (fW e fun r=>{r with a0:=v0,a1:=v1,a2:=v2,a3:=v3,a4:=v4}) s
def Dl:aB:=lt (g0 e) fun v0=>bE (ak 64 [(cV v0), (cV (.i 3)), (cV (.i 0)), (cV (.i 0))] k e s) fun v1 s=>.au (fW e fun r=>{r with a5:=v0,a6:=v1}) s
def KI:aB:=lt (g0 e) fun v0=>lt (g9 e) fun v1=>bE (ak 64 [(cV v0), (cV (.i 54)), (cV v1), (cV (.i 0))] k e s) fun v2 s=>.au (fW e fun r=>{r with a7:=v0,a8:=v1,a9:=v2}) s
def KD:aB:=lt (g0 e) fun v0=>bE (ak 64 [(cV v0), (cV (.i 1)), (cV (.i 0)), (cV (.i 0))] k e s) fun v1 s=>.au (fW e fun r=>{r with a10:=v0,a11:=v1}) s
def GC:aB:=lt (g0 e) fun v0=>lt (g9 e) fun v1=>bE (ak 64 [(cV v0), (cV (.i 58)), (cV v1), (cV (.i 0))] k e s) fun v2 s=>.au (fW e fun r=>{r with a12:=v0,a13:=v1,a14:=v2}) s
def Aa:Den:=fun _ e s=>lt (g9 e) fun v0=>bP (aj (bI bQ) (cV v0) (cV (.i 1)) e) fun v1=>.au (cN (u9 e v1) fun r=>{r with a4:=v0,a5:=v1}) s
def m7:aB:=af (aG 1 (af (af oC (av g47 (bW 1) ay)) (af Et (av g52 (af Dl KI) (af KD GC))))) Aa k e s
def Cn:aB:=af (af O5 (av g10 (af Te aU) ay)) (af PL (af TL (aG 0 (cB (af (af CL (av g19 ay (bW 0))) m7))))) k e s
def F65 : aY := ⟨[u0, u1, u2, u3], Cn, aM []⟩
theorem Zr : aJ tt [] fok Try.f65 = some F65 := by kernel_rfl
theorem TC : aI Try.prog [] 65 F65 := aI.of (az bY bA mixed Try.func65 Zr)
def Ug:aB:=lt (g0 e) fun v0=>bP (aA bx (cV v0) e) fun v1=>bP (aA (aC 0) (cV v1) e) fun v2=>bP ((aO (cV v2)) e s) fun v3=>lt (g1 e) fun v4=>bE (ak 49 [cV v3,cV v4] k e s) fun v5 s=>bP (aj (bI bQ) (cV (.i 1)) (cV v5) e) fun v6=>.au (bJ e fun r=>{r with a4:=v6,a5:=v0,a6:=v1,a7:=v2,a8:=v3,a9:=v4,a10:=v5,a11:=v6}) s
def RA:Den:=fun _ e s=>lt (g4 e) fun v0=>bP (aj (bI rX) (cV v0) (cV (.i 0)) e) fun v1=>bP (aL v1 true (aD g0 e)) fun v2=>bP (aL v1 true (aA bx (cV v2) e)) fun v3=>bP (aL v1 true (aA (aC 5) (cV v3) e)) fun v4=>bP (aL v1 true ((aO (cV v4)) e s)) fun v5=>bP (aL v1 true (aj (bI rX) (cV v5) (cV (.i 25)) e)) fun v6=>bP (aN (cV v1) (cV v6) (cV (.bool false)) e) fun v7=>.au (cN (bJ e fun r=>{r with a12:=v0,a13:=v1,a14:=v1,a15:=v2}) fun r=>{r with a0:=v3,a1:=v4,a2:=v5,a3:=v6,a4:=v7}) s
def Ek:aB:=lt (g0 e) fun v0=>bE (ak 76 [cV v0] k e s) fun v1 s=>.au (cN e fun r=>{r with a7:=v0,a8:=v1}) s
def BK:Den:=fun _ e s=>lt (g4 e) fun v0=>bP (aj (bI ep) (cV v0) (cV (.i 1)) e) fun v1=>.au (cN (u4 e v1) fun r=>{r with a5:=v0,a6:=v1}) s
def CN:aB:=af Ug (aG 0 (cB (af (af RA (av g20 ay (bW 0))) (af (aG 1 Ek) BK)))) k e s
def Yw : aY := ⟨[u0, u1], CN, aM []⟩
theorem ZV : aJ tt [] fok Try.f66 = some Yw := by kernel_rfl
theorem UQ : aI Try.prog [] 66 Yw := aI.of (az bY bA mixed Try.func66 ZV)
def Un:aB:=lt (g0 e) fun v0=>bP (aA bx (cV v0) e) fun v1=>bP (aA (aC 0) (cV v1) e) fun v2=>bP ((aO (cV v2)) e s) fun v3=>bE (ak 49 [(cV v3), (cV (.i 12))] k e s) fun v4 s=>.au (bJ e fun r=>{r with a4:=v4,a5:=v0,a6:=v1,a7:=v2,a8:=v3,a9:=v4}) s
def TI:Den:=fun _ e s=>lt (g1 e) fun v0=>bP (aj (bI xj) (cV v0) (cV (.i 0)) e) fun v1=>bP (aL v1 false (aD g0 e)) fun v2=>bP (aL v1 false (aA bx (cV v2) e)) fun v3=>bP (aL v1 false (aA (aC 5) (cV v3) e)) fun v4=>bP (aL v1 false ((aO (cV v4)) e s)) fun v5=>bP (aL v1 false (aj (bI fN) (cV v5) (cV (.i 20)) e)) fun v6=>bP (aN (cV v1) (cV (.bool true)) (cV v6) e) fun v7=>.au (cN (bJ e fun r=>{r with a10:=v0,a11:=v1,a12:=v1,a13:=v2,a14:=v3,a15:=v4}) fun r=>{r with a0:=v5,a1:=v6,a2:=v7}) s
def RD:Den:=fun _ e s=>lt (g4 e) fun v0=>bP (aj oL (cV v0) (cV (.i 3)) e) fun v1=>.au (cN (u4 e v1) fun r=>{r with a3:=v0,a4:=v1}) s
def T':Den:=fun _ e s=>lt (g0 e) fun v0=>bP (aA bx (cV v0) e) fun v1=>bP (aA (aC 4) (cV v1) e) fun v2=>bP ((aO (cV v2)) e s) fun v3=>bP (aL v3 true (aD g4 e)) fun v4=>bP (aL v3 true (aj (bI rX) (cV v4) (cV (.i 6)) e)) fun v5=>bP (aN (cV v3) (cV v5) (cV (.bool false)) e) fun v6=>.au (cN e fun r=>{r with a5:=v0,a6:=v1,a7:=v2,a8:=v3,a9:=v3,a10:=v4,a11:=v5,a12:=v6}) s
def LI:Den:=fun _ e s=>lt (g4 e) fun v0=>bP (aj oL (cV v0) (cV (.i 7)) e) fun v1=>.au (cN (u4 e v1) fun r=>{r with a13:=v0,a14:=v1}) s
def DP:Den:=fun _ e s=>lt (g4 e) fun v0=>.au (u31 e v0) s
def JD:Den:=fun _ e s=>bP (aj (bI bh) g31 (cV (.i 0)) e) fun v0=>.au (dh e fun r=>{r with a0:=v0,a1:=v0}) s
def Fw:aB:=lt (g0 e) fun v0=>lt (g0 e) fun v1=>bP (aA bx (cV v1) e) fun v2=>bP (aA (aC 0) (cV v2) e) fun v3=>bP ((aO (cV v3)) e s) fun v4=>bE (ak 49 [(cV v4), (cV (.i 6))] k e s) fun v5 s=>bP (aj (bI bQ) (cV (.i 3)) (cV v5) e) fun v6=>bE (ak 64 [(cV v0), (cV v6), (cV (.i 0)), (cV (.i 0))] k e s) fun v7 s=>.au (dh e fun r=>{r with a2:=v0,a3:=v1,a4:=v2,a5:=v3,a6:=v4,a7:=v5,a8:=v6,a9:=v7}) s
def BG:Den:=fun _ e s=>bP (aj (bI bh) g31 (cV (.i 1)) e) fun v0=>.au (dh e fun r=>{r with a10:=v0,a11:=v0}) s
def BY:aB:=lt (g0 e) fun v0=>lt (g0 e) fun v1=>bP (aA bx (cV v1) e) fun v2=>bP (aA (aC 0) (cV v2) e) fun v3=>bP ((aO (cV v3)) e s) fun v4=>bE (ak 49 [(cV v4), (cV (.i 4))] k e s) fun v5 s=>bE (ak 64 [(cV v0), (cV (.i 21)), (cV v5), (cV (.i 0))] k e s) fun v6 s=>.au (fW (dh e fun r=>{r with a12:=v0,a13:=v1,a14:=v2,a15:=v3}) fun r=>{r with a0:=v4,a1:=v5,a2:=v6}) s
def EH:Den:=fun _ e s=>bP (aj (bI bh) g31 (cV (.i 2)) e) fun v0=>.au (fW e fun r=>{r with a3:=v0,a4:=v0}) s
def Bw:aB:=lt (g0 e) fun v0=>lt (g0 e) fun v1=>bP (aA bx (cV v1) e) fun v2=>bP (aA (aC 0) (cV v2) e) fun v3=>bP ((aO (cV v3)) e s) fun v4=>bE (ak 49 [(cV v4), (cV (.i 2000))] k e s) fun v5 s=>bP (aj (bI ep) (cV v5) (cV (.i 1000)) e) fun v6=>bE (ak 64 [(cV v0), (cV (.i 17)), (cV v6), (cV (.i 0))] k e s) fun v7 s=>.au (fW e fun r=>{r with a5:=v0,a6:=v1,a7:=v2,a8:=v3,a9:=v4,a10:=v5,a11:=v6,a12:=v7}) s
def Lg:Den:=fun _ e s=>bP (aj (bI bh) g31 (cV (.i 3)) e) fun v0=>.au (fW e fun r=>{r with a13:=v0,a14:=v0}) s
def Ja:Den:=fun _ e s=>bP (aj (bI bh) g31 (cV (.i 4)) e) fun v0=>.au (fW e fun r=>{r with a13:=v0,a15:=v0}) s
def zP:aB:=lt (g0 e) fun v0=>lt (g1 e) fun v1=>bP (aj (bI ep) (cV v1) (cV (.i 1)) e) fun v2=>bE (ak 67 [cV v0,cV v2] k e s) fun v3 s=>.au (jj e fun r=>{r with a0:=v0,a1:=v1,a2:=v2,a3:=v3}) s
def JQ:aB:=lt (g0 e) fun v0=>lt (g1 e) fun v1=>bP (aj (bI ep) (cV v1) (cV (.i 1)) e) fun v2=>bE (ak 67 [cV v0,cV v2] k e s) fun v3 s=>.au (jj e fun r=>{r with a4:=v0,a5:=v1,a6:=v2,a7:=v3}) s
def DV:aB:=lt (g0 e) fun v0=>bE (dm (cG 11 1 [(.i 0), (.i 0), (.i 0), (.i 0), (.i 0), (.i 0), (.i 0), (.i 0), (.i 0), (.i 0), (.i 0)] [(0, 1, (cV (.i 96))), (1, 1, (cV (.i 100))), (2, 1, (cV (.i 104))), (3, 1, (cV (.i 108))), (4, 1, (cV (.i 112))), (5, 1, (cV (.i 120))), (6, 1, (cV (.i 122))), (7, 1, (cV (.i 124))), (8, 1, (cV (.i 126))), (9, 1, (cV (.i 128))), (10, 1, (cV (.i 130)))] e s.next) s) fun v1 s=>lt (g0 e) fun v2=>bP (aA bx (cV v2) e) fun v3=>bP (aA (aC 0) (cV v3) e) fun v4=>bP ((aO (cV v4)) e s) fun v5=>bE (ak 49 [(cV v5), (cV (.i 11))] k e s) fun v6 s=>bP (aj (aQ 1) (cV v1) (cV v6) e) fun v7=>bP ((aO (cV v7)) e s) fun v8=>bE (ak 64 [(cV v0), (cV v8), (cV (.i 0)), (cV (.i 0))] k e s) fun v9 s=>.au (kL (jj e fun r=>{r with a8:=v0,a9:=v1,a10:=v2,a11:=v3,a12:=v4,a13:=v5,a14:=v6,a15:=v7}) fun r=>{r with a0:=v8,a1:=v9}) s
def AY:Den:=fun _ e s=>bP (aj (bI bh) g31 (cV (.i 5)) e) fun v0=>.au (kL e fun r=>{r with a2:=v0,a3:=v0}) s
def Gq:aB:=lt (g0 e) fun v0=>lt (g1 e) fun v1=>bP (aj (bI ep) (cV v1) (cV (.i 1)) e) fun v2=>bE (ak 67 [cV v0,cV v2] k e s) fun v3 s=>.au (kL e fun r=>{r with a4:=v0,a5:=v1,a6:=v2,a7:=v3}) s
def DM:aB:=lt (g0 e) fun v0=>bE (ak 64 [(cV v0), (cV (.i 116)), (cV (.i 0)), (cV (.i 0))] k e s) fun v1 s=>.au (kL e fun r=>{r with a8:=v0,a9:=v1}) s
def EW:Den:=fun _ e s=>bP (aj (bI bh) g31 (cV (.i 6)) e) fun v0=>.au (kL e fun r=>{r with a10:=v0,a11:=v0}) s
def FU:aB:=lt (g0 e) fun v0=>lt (g0 e) fun v1=>bE (dm (cG 4 1 [(.int .i32 0), (.int .i32 0), (.int .i32 0), (.int .i32 0)] [(0, 1, (cV (.int .i32 1073741824))), (1, 1, (cV (.int .i32 (-2147483648)))), (2, 1, (cV (.int .i32 2147483647))), (3, 1, (cV (.int .i32 77)))] e s.next) s) fun v2 s=>lt (g0 e) fun v3=>bP (aA bx (cV v3) e) fun v4=>bP (aA (aC 0) (cV v4) e) fun v5=>bP ((aO (cV v5)) e s) fun v6=>bE (ak 49 [(cV v6), (cV (.i 4))] k e s) fun v7 s=>bP (aj (aQ 1) (cV v2) (cV v7) e) fun v8=>bP ((aO (cV v8)) e s) fun v9=>bP (bF [(.i 0), (.int .i32 0), (.str []), (.str []), (.str [])] [(0, 1, (cV (.i 3))), (1, 1, (cV v9))] e) fun v10=>bE (ak 77 [cV v1,cV v10] k e s) fun v11 s=>bE (ak 64 [(cV v0), (cV (.i 18)), (cV v11), (cV (.i 0))] k e s) fun v12 s=>.au (mN (kL e fun r=>{r with a12:=v0,a13:=v1,a14:=v2,a15:=v3}) fun r=>{r with a0:=v4,a1:=v5,a2:=v6,a3:=v7,a4:=v8,a5:=v9,a6:=v10,a7:=v11,a8:=v12}) s
def LC:Den:=fun _ e s=>bP (aj (bI bh) g31 (cV (.i 7)) e) fun v0=>.au (mN e fun r=>{r with a9:=v0,a10:=v0}) s
def B8:aB:=lt (g0 e) fun v0=>lt (g1 e) fun v1=>bP (aj (bI ep) (cV v1) (cV (.i 1)) e) fun v2=>bE (ak 78 [cV v0,cV v2] k e s) fun v3 s=>.au (mN e fun r=>{r with a11:=v0,a12:=v1,a13:=v2,a14:=v3}) s
def Js:aB:=lt (g0 e) fun v0=>lt (g0 e) fun v1=>bE (ak 79 [(cV v1), (cV (.str [65])), (cV (.str [120])), (cV (.str [73]))] k e s) fun v2 s=>bE (ak 64 [(cV v0), (cV (.i 180)), (cV v2), (cV (.i 0))] k e s) fun v3 s=>.au (pR (u111 e v0) fun r=>{r with a0:=v1,a1:=v2,a2:=v3}) s
def K0:Den:=fun _ e s=>bP (aj (bI bh) g31 (cV (.i 8)) e) fun v0=>.au (pR e fun r=>{r with a3:=v0,a4:=v0}) s
def Jk:aB:=lt (g0 e) fun v0=>bE (ak 64 [(cV v0), (cV (.i 25)), (cV (.i 6)), (cV (.i 0))] k e s) fun v1 s=>.au (pR e fun r=>{r with a5:=v0,a6:=v1}) s
def HU:aB:=lt (g0 e) fun v0=>lt (g1 e) fun v1=>bP (aj (bI ep) (cV v1) (cV (.i 1)) e) fun v2=>bE (ak 67 [cV v0,cV v2] k e s) fun v3 s=>.au (pR e fun r=>{r with a7:=v0,a8:=v1,a9:=v2,a10:=v3}) s
def KY:aB:=lt (g0 e) fun v0=>bE (ak 64 [(cV v0), (cV (.i 46)), (cV (.i 0)), (cV (.i 0))] k e s) fun v1 s=>.au (pR e fun r=>{r with a11:=v0,a12:=v1}) s
def zo:Den:=fun _ e s=>bP (aj (bI bh) g31 (cV (.i 9)) e) fun v0=>.au (pR e fun r=>{r with a13:=v0,a14:=v0}) s
def CG:aB:=lt (g0 e) fun v0=>lt (g1 e) fun v1=>bP (aj (bI ep) (cV v1) (cV (.i 1)) e) fun v2=>bE (ak 67 [cV v0,cV v2] k e s) fun v3 s=>.au (qs (u127 e v0) fun r=>{r with a0:=v1,a1:=v2,a2:=v3}) s
def Ip:aB:=lt (g0 e) fun v0=>lt (g1 e) fun v1=>bP (aj (bI ep) (cV v1) (cV (.i 1)) e) fun v2=>bE (ak 67 [cV v0,cV v2] k e s) fun v3 s=>.au (qs e fun r=>{r with a3:=v0,a4:=v1,a5:=v2,a6:=v3}) s
def AE:aB:=lt (g0 e) fun v0=>lt (g0 e) fun v1=>bE (ak 80 [(cV v1), (cV (.str [77, 97, 105, 110])), (cV (.str [99, 97, 108, 99])), (cV (.str [40, 73, 73, 41, 73]))] k e s) fun v2 s=>bE (ak 64 [(cV v0), (cV (.i 184)), (cV v2), (cV (.i 0))] k e s) fun v3 s=>.au (qs e fun r=>{r with a7:=v0,a8:=v1,a9:=v2,a10:=v3}) s
def HR:Den:=fun _ e s=>bP (aj (bI bh) g31 (cV (.i 10)) e) fun v0=>.au (qs e fun r=>{r with a11:=v0,a12:=v0}) s
def LA:aB:=lt (g0 e) fun v0=>lt (g1 e) fun v1=>bP (aj (bI ep) (cV v1) (cV (.i 1)) e) fun v2=>bE (ak 78 [cV v0,cV v2] k e s) fun v3 s=>.au (u144 (qs e fun r=>{r with a13:=v0,a14:=v1,a15:=v2}) v3) s
def DC:aB:=lt (g0 e) fun v0=>lt (g1 e) fun v1=>bP (aj (bI ep) (cV v1) (cV (.i 1)) e) fun v2=>bE (ak 67 [cV v0,cV v2] k e s) fun v3 s=>.au (yY e fun r=>{r with a1:=v0,a2:=v1,a3:=v2,a4:=v3}) s
def Jz:aB:=lt (g0 e) fun v0=>lt (g0 e) fun v1=>bE (ak 80 [(cV v1), (cV (.str [65])), (cV (.str [103, 111])), (cV (.str [40, 73, 41, 73]))] k e s) fun v2 s=>bE (ak 64 [(cV v0), (cV (.i 182)), (cV v2), (cV (.i 0))] k e s) fun v3 s=>.au (yY e fun r=>{r with a5:=v0,a6:=v1,a7:=v2,a8:=v3}) s
def Ds:Den:=fun _ e s=>bP (aj (bI bh) g31 (cV (.i 11)) e) fun v0=>.au (yY e fun r=>{r with a9:=v0,a10:=v0}) s
def CW:aB:=lt (g0 e) fun v0=>lt (g1 e) fun v1=>bP (aj (bI ep) (cV v1) (cV (.i 1)) e) fun v2=>bE (ak 78 [cV v0,cV v2] k e s) fun v3 s=>.au (yY e fun r=>{r with a11:=v0,a12:=v1,a13:=v2,a14:=v3}) s
def JS:aB:=lt (g0 e) fun v0=>lt (g0 e) fun v1=>bE (dm (cG 3 1 [(.str []), (.str []), (.str [])] [(0, 1, (cV (.str [65]))), (1, 1, (cV (.str [66]))), (2, 1, (cV (.str [79, 98, 106, 101, 99, 116])))] e s.next) s) fun v2 s=>lt (g0 e) fun v3=>bP (aA bx (cV v3) e) fun v4=>bP (aA (aC 0) (cV v4) e) fun v5=>bP ((aO (cV v5)) e s) fun v6=>bE (ak 49 [(cV v6), (cV (.i 3))] k e s) fun v7 s=>bP (aj (aQ 1) (cV v2) (cV v7) e) fun v8=>bP ((aO (cV v8)) e s) fun v9=>bE (ak 81 [cV v1,cV v9] k e s) fun v10 s=>bE (ak 64 [(cV v0), (cV (.i 193)), (cV v10), (cV (.i 0))] k e s) fun v11 s=>.au (YG (u159 e v0) fun _ _ _ _ _ _ _ _ _ _ _ n o p q r=>⟨v1,v2,v3,v4,v5,v6,v7,v8,v9,v10,v11,n,o,p,q,r⟩) s
def eL:aB:=af DP (aG 0 (af JD (av g32 Fw (af BG (av g42 BY (af EH (av g51 Bw (af (af Lg (av g61 ay Ja)) (av g61 (af zP (af JQ DV)) (af AY (av g82 (af Gq DM) (af EW (av g90 FU (af LC (av g105 (af B8 Js) (af K0 (av g115 (af Jk (af HU KY)) (af zo (av g125 (af CG (af Ip AE)) (af HR (av g139 (af LA (af DC Jz)) (af Ds (av g153 (af CW JS) ay))))))))))))))))))))))) k e s
def gN:aB:=af (af T' (av g28 LI ay)) eL k e s
def J_:aB:=af Un (af (af TI (av g18 RD ay)) gN) k e s
def YQ : aY := ⟨[u0, u1], J_, aM []⟩
theorem abf : aJ tt [] fok Try.f67 = some YQ := by kernel_rfl
theorem TQ : aI Try.prog [] 67 YQ := aI.of (az bY bA mixed Try.func67 abf)
def RX:Den:=fun _ e s=>bE (dm (lT 9 (cL [(.str []), (.str []), (.bool false), (.bool false), (.i 0), (.i 0), .ax, .ax, .ax]) e s.next) s) fun v0 s=>.au (u8 e v0) s
def Ph:Den:=fun _ e s=>lt (g0 e) fun v0=>bP (aA bx (cV v0) e) fun v1=>bP (aA (aC 3) (cV v1) e) fun v2=>bP ((aO (cV v2)) e s) fun v3=>bE (dm (r9 1 8 [(.i 0)] (cV v3) (cV v3) e s.next) s) fun v4 s=>.au (cN (u9 e v4) fun r=>{r with a2:=v0,a3:=v1,a4:=v2,a5:=v3,a6:=v4}) s
def Qz:Den:=fun _ e s=>bM (V.i 0) fun v0=>.au (u10 e v0) s
def Uy:Den:=fun _ e s=>bM (V.i 0) fun v0=>.au (u11 e v0) s
def BF:Den:=fun _ e s=>lt (g11 e) fun v0=>lt (g0 e) fun v1=>bP (aA bx (cV v1) e) fun v2=>bP (aA (aC 2) (cV v2) e) fun v3=>bP ((aO (cV v3)) e s) fun v4=>bP (aA aP (cV v4) e) fun v5=>bP (aj (bI fN) (cV v0) (cV v5) e) fun v6=>.au (cN e fun r=>{r with a7:=v0,a8:=v1,a9:=v2,a10:=v3,a11:=v4,a12:=v5,a13:=v6}) s
def CU:Den:=fun _ e s=>lt (g0 e) fun v0=>bP (aA bx (cV v0) e) fun v1=>bP (aA (aC 2) (cV v1) e) fun v2=>bP ((aO (cV v2)) e s) fun v3=>lt (g11 e) fun v4=>bP (aj (aQ 6) (cV v3) (cV v4) e) fun v5=>bP (aA (aC 5) (cV v5) e) fun v6=>bP ((aO (cV v6)) e s) fun v7=>bP (aj (bI qD) (cV v7) (cV (.i 0)) e) fun v8=>.au (dh e fun r=>{r with a0:=v0,a1:=v1,a2:=v2,a3:=v3,a4:=v4,a5:=v5,a6:=v6,a7:=v7,a8:=v8}) s
def I3:aB:=lt (g9 e) fun v0=>lt (g0 e) fun v1=>bP (aA bx (cV v1) e) fun v2=>bP (aA (aC 2) (cV v2) e) fun v3=>bP ((aO (cV v3)) e s) fun v4=>lt (g11 e) fun v5=>bP (aj (aQ 6) (cV v4) (cV v5) e) fun v6=>bP (aA (aC 5) (cV v6) e) fun v7=>bP ((aO (cV v7)) e s) fun v8=>lt (g10 e) fun v9=>bP (aj (aQ 1) (cV v0) (cV v8) e) fun v10=>bE (dW 1 (cV v10) (cV v9) k e s) fun v11 s=>.au (fW (dh e fun r=>{r with a9:=v0,a10:=v1,a11:=v2,a12:=v3,a13:=v4,a14:=v5,a15:=v6}) fun r=>{r with a0:=v7,a1:=v8,a2:=v9,a3:=v10}) s
def IE:aB:=lt (g10 e) fun v0=>lt (g0 e) fun v1=>bP (aA bx (cV v1) e) fun v2=>bP (aA (aC 2) (cV v2) e) fun v3=>bP ((aO (cV v3)) e s) fun v4=>lt (g11 e) fun v5=>bP (aj (aQ 6) (cV v4) (cV v5) e) fun v6=>bP (aA (aC 0) (cV v6) e) fun v7=>bP (aA (aC 1) (cV v7) e) fun v8=>bP ((aO (cV v8)) e s) fun v9=>bE (ak 46 [cV v9] k e s) fun v10 s=>bP (aj (bI bQ) (cV v0) (cV v10) e) fun v11=>.au (GR (u10 e v11) fun a b c d _ _ _ _ _ _ _ _ _ _ _ _=>⟨a,b,c,d,v0,v1,v2,v3,v4,v5,v6,v7,v8,v9,v10,v11⟩) s
def L0:Den:=fun _ e s=>lt (g11 e) fun v0=>bP (aj (bI bQ) (cV v0) (cV (.i 1)) e) fun v1=>.au (cN (u11 e v1) fun r=>{r with a14:=v0,a15:=v1}) s
def Ei:Den:=fun _ e s=>bM (V.ax) fun v0=>.au (u12 e v0) s
def Ci:Den:=fun _ e s=>bM (V.i 0) fun v0=>.au (u10 e v0) s
def FT:aB:=lt (g1 e) fun v0=>lt (g2 e) fun v1=>lt (g3 e) fun v2=>lt (g0 e) fun v3=>bE (ak 75 [cV v3] k e s) fun v4 s=>bP (aA aP (cV v4) e) fun v5=>bP (bF [(.str []), (.str []), (.bool false), (.bool false), (.i 0), (.i 0), .ax, .ax, .ax] [(0, 1, (cV v0)), (1, 1, (cV v1)), (2, 1, (cV v2)), (4, 1, (cV (.i 16))), (5, 1, (cV v5))] e) fun v6=>bE (dm (lT 9 (cL [(.str []), (.str []), (.bool false), (.bool false), (.i 0), (.i 0), .ax, .ax, .ax]) e s.next) s) fun v7 s=>bE (dW 9 (cV v7) (cV v6) k e s) fun v8 s=>.au (jj (u13 e v7) fun r=>{r with a0:=v0,a1:=v1,a2:=v2,a3:=v3,a4:=v4,a5:=v5,a6:=v6}) s
def LS:Den:=fun _ e s=>bM (V.i 0) fun v0=>.au (u14 e v0) s
def I6:Den:=fun _ e s=>lt (g14 e) fun v0=>lt (g0 e) fun v1=>bP (aA bx (cV v1) e) fun v2=>bP (aA (aC 2) (cV v2) e) fun v3=>bP ((aO (cV v3)) e s) fun v4=>bP (aA aP (cV v4) e) fun v5=>bP (aj (bI fN) (cV v0) (cV v5) e) fun v6=>.au (jj e fun r=>{r with a7:=v0,a8:=v1,a9:=v2,a10:=v3,a11:=v4,a12:=v5,a13:=v6}) s
def Hr:aB:=lt (g0 e) fun v0=>bP (aA bx (cV v0) e) fun v1=>bP (aA (aC 2) (cV v1) e) fun v2=>bP ((aO (cV v2)) e s) fun v3=>lt (g14 e) fun v4=>bP (aj (aQ 6) (cV v3) (cV v4) e) fun v5=>bP ((di 6 (cV v5)) e s) fun v6=>bE (dm (lT 6 (cL [(.i 0), (.i 0), (.i 0), (.i 0), (.i 0), (.i 0)]) e s.next) s) fun v7 s=>bE (dW 6 (cV v7) (cV v6) k e s) fun v8 s=>.au (kL (u15 e v7) fun r=>{r with a0:=v0,a1:=v1,a2:=v2,a3:=v3,a4:=v4,a5:=v5,a6:=v6}) s
def CV:Den:=fun _ e s=>bP (aA (aC 5) g15 e) fun v0=>bP ((aO (cV v0)) e s) fun v1=>bP (aj (bI qD) (cV v1) (cV (.i 0)) e) fun v2=>.au (kL e fun r=>{r with a7:=v0,a8:=v1,a9:=v2}) s
def IQ:aB:=gT [⟨none, (.p (aA (aC 8) g13)), u90⟩, ⟨none, (.d 0 2 (aO g90)), u91⟩, ⟨none, (.p (aD g10)), u92⟩, ⟨none, (.p (aD g0)), u93⟩, ⟨none, (.e (ak 75 [g93])), u94⟩, ⟨none, (.p (aD g0)), u95⟩, ⟨none, (.p (aA (aC 5) g15)), u96⟩, ⟨none, (.d 0 1 (aO g96)), u97⟩, ⟨none, (.e (ak 83 [g95, g97])), u98⟩, ⟨none, (.e (ak 82 [g91, g92, g94, g98])), u99⟩, ⟨none, (.p (aA (aC 8) g13)), u100⟩, ⟨none, (.e (dW 1 g100 g99)), nH⟩] k e s
def AF:aB:=lt (g10 e) fun v0=>bP (aA (aC 0) g15 e) fun v1=>bP (aA (aC 0) (cV v1) e) fun v2=>bE (dW 1 (cV v2) (cV v0) k e s) fun v3 s=>.au (mN e fun r=>{r with a5:=v0,a6:=v1,a7:=v2}) s
def Ki:Den:=fun _ e s=>bP (aA (aC 4) g15 e) fun v0=>bP ((aO (cV v0)) e s) fun v1=>bP (aj (bI qD) (cV v1) (cV (.i 0)) e) fun v2=>.au (mN e fun r=>{r with a8:=v0,a9:=v1,a10:=v2}) s
def Je:aB:=lt (g9 e) fun v0=>bP (aA (aC 4) g15 e) fun v1=>bP ((aO (cV v1)) e s) fun v2=>bP (aj (aQ 1) (cV v0) (cV v2) e) fun v3=>bP ((aO (cV v3)) e s) fun v4=>bP (aA (aC 0) g15 e) fun v5=>bP (aA (aC 2) (cV v5) e) fun v6=>bE (dW 1 (cV v6) (cV v4) k e s) fun v7 s=>.au (pR (mN e fun r=>{r with a11:=v0,a12:=v1,a13:=v2,a14:=v3,a15:=v4}) fun r=>{r with a0:=v5,a1:=v6}) s
def Gi:aB:=lt (g12 e) fun v0=>bP (aA (aC 0) g15 e) fun v1=>bP ((di 4 (cV v1)) e s) fun v2=>bE (dm (cG 1 4 [(.i 0), (.i 0), (.i 0), (.i 0)] [(0, 4, (cV v2))] e s.next) s) fun v3 s=>bE (jR 4 (cV v0) (cV v3) k e s) fun v4 s=>.au (pR (u12 e v4) fun r=>{r with a2:=v0,a3:=v1,a4:=v2,a5:=v3,a6:=v4}) s
def AT:aB:=lt (g10 e) fun v0=>bP (aA (aC 0) g15 e) fun v1=>bP (aA (aC 1) (cV v1) e) fun v2=>bP ((aO (cV v2)) e s) fun v3=>bE (ak 46 [cV v3] k e s) fun v4 s=>bP (aj (bI bQ) (cV v0) (cV v4) e) fun v5=>.au (pR (u10 e v5) fun r=>{r with a7:=v0,a8:=v1,a9:=v2,a10:=v3,a11:=v4,a12:=v5}) s
def AA:Den:=fun _ e s=>lt (g14 e) fun v0=>bP (aj (bI bQ) (cV v0) (cV (.i 1)) e) fun v1=>.au (jj (u14 e v1) fun r=>{r with a14:=v0,a15:=v1}) s
def Jt:aB:=lt (g12 e) fun v0=>bE (ak 84 [cV v0] k e s) fun v1 s=>bP (aA (dL 0) (cV v1) e) fun v2=>bP (aA (dL 1) (cV v1) e) fun v3=>bP (aA (aC 6) g13 e) fun v4=>bE (dW 1 (cV v4) (cV v2) k e s) fun v5 s=>.au (qs (pR e fun r=>{r with a13:=v1,a14:=v0,a15:=v1}) fun r=>{r with a0:=v2,a1:=v3,a2:=v4}) s
def K1:Den:=fun _ e s=>lt (g0 e) fun v0=>bP (aA bx (cV v0) e) fun v1=>bP (aA (aC 7) (cV v1) e) fun v2=>bP ((aO (cV v2)) e s) fun v3=>bP (aA aP (cV v3) e) fun v4=>bP (aj (bI ep) (cV v4) (cV (.i 1)) e) fun v5=>.au (qs (u16 e v5) fun r=>{r with a3:=v0,a4:=v1,a5:=v2,a6:=v3,a7:=v4,a8:=v5}) s
def Hq:Den:=fun _ e s=>lt (g16 e) fun v0=>bP (aj (bI qD) (cV v0) (cV (.i 0)) e) fun v1=>.au (qs e fun r=>{r with a9:=v0,a10:=v1}) s
def K7:aB:=gT [⟨none, (.p (aD g0)), u141⟩, ⟨none, (.p (aA bx g141)), u142⟩, ⟨none, (.p (aA (aC 7) g142)), u143⟩, ⟨none, (.d 0 0 (aO g143)), u144⟩, ⟨none, (.p (aD g0)), u145⟩, ⟨none, (.p (aA bx g145)), u146⟩, ⟨none, (.p (aA (aC 7) g146)), u147⟩, ⟨none, (.d 0 0 (aO g147)), u148⟩, ⟨none, (.p (aA aP g148)), u149⟩, ⟨none, (.p (aj (bI ep) g149 (cV (.i 1)))), u150⟩, ⟨none, (.p (aD g16)), u151⟩, ⟨none, (.p (aj (bI ep) g150 g151)), u152⟩, ⟨none, (.p (aj (aQ 3) g144 g152)), u153⟩, ⟨none, (.d 0 0 (di 3 g153)), u154⟩, ⟨none, (.a (lT 3 (cL [(.i 0), (.i 0), (.i 0)]))), u17⟩, ⟨none, (.e (dW 3 g17 g154)), nH⟩] k e s
def FF:aB:=gT [⟨none, (.p (aA (aC 7) g13)), u155⟩, ⟨none, (.d 0 0 (aO g155)), u156⟩, ⟨none, (.p (aD g9)), u157⟩, ⟨none, (.p (aA (aC 0) g17)), u158⟩, ⟨none, (.d 0 0 (aO g158)), u159⟩, ⟨none, (.p (aj (aQ 1) g157 g159)), u160⟩, ⟨none, (.d 0 0 (aO g160)), u161⟩, ⟨none, (.p (aD g9)), u162⟩, ⟨none, (.p (aA (aC 1) g17)), u163⟩, ⟨none, (.d 0 0 (aO g163)), u164⟩, ⟨none, (.p (aj (aQ 1) g162 g164)), u165⟩, ⟨none, (.d 0 0 (aO g165)), u166⟩, ⟨none, (.p (aD g9)), u167⟩, ⟨none, (.p (aA (aC 2) g17)), u168⟩, ⟨none, (.d 0 0 (aO g168)), u169⟩, ⟨none, (.p (aj (aQ 1) g167 g169)), u170⟩, ⟨none, (.d 0 0 (aO g170)), u171⟩, ⟨none, (.p (bF [(.i 0), (.i 0), (.i 0), (.str [])] [(0, 1, g161), (1, 1, g166), (2, 1, g171), (3, 1, (cV (.str [84, 104, 114, 111, 119, 97, 98, 108, 101])))])), u172⟩, ⟨none, (.a (cG 1 4 [(.i 0), (.i 0), (.i 0), (.str [])] [(0, 4, g172)])), u173⟩, ⟨none, (.e (jR 4 g156 g173)), u174⟩, ⟨none, (.p (aA (aC 7) g13)), u175⟩, ⟨none, (.e (dW 1 g175 g174)), nH⟩] k e s
def zW:Den:=fun _ e s=>lt (g16 e) fun v0=>bP (aj (bI ep) (cV v0) (cV (.i 1)) e) fun v1=>.au (qs (u16 e v1) fun r=>{r with a11:=v0,a12:=v1}) s
def Lv:aB:=bP ((di 9 g13) e s) fun v0=>bE (dW 9 g8 (cV v0) k e s) fun v1 s=>.au (u176 e v0) s
def fZ:aB:=af Lv aU k e s
def iw:aB:=af Jt (af (af K1 (aG 4 (cB (af (af Hq (av g138 ay (bW 4))) (af (aG 5 (af K7 FF)) zW))))) fZ) k e s
def iq:aB:=af Ei (af Ci (af FT (af (af LS (aG 2 (cB (af (af I6 (av g77 ay (bW 2))) (af (aG 3 (af Hr (af (af CV (av g89 (af IQ (bW 3)) ay)) (af AF (af (af Ki (av g106 Je ay)) (af Gi AT)))))) AA))))) iw))) k e s
def IK:aB:=af RX (af Ph (af Qz (af (af Uy (aG 0 (cB (af (af BF (av g29 ay (bW 0))) (af (aG 1 (af (af CU (av g40 (af I3 (bW 1)) ay)) IE)) L0))))) iq))) k e s
def ZP : aY := ⟨[u0, u1, u2, u3], IK, aM [rC true (nat_lit 9) g8]⟩
theorem aaA : aJ tt [] fok Try.f68 = some ZP := by kernel_rfl
theorem Uv : aI Try.prog [] 68 ZP := aI.of (az bY bA mixed Try.func68 aaA)
def OZ:aB:=lt (g0 e) fun v0=>bE (ak 75 [cV v0] k e s) fun v1 s=>.au (bJ e fun r=>{r with a4:=v1,a6:=v0,a7:=v1}) s
def Th:Den:=fun _ e s=>lt (g1 e) fun v0=>.au (bJ e fun r=>{r with a5:=v0,a8:=v0}) s
def T1:Den:=fun _ e s=>lt (g5 e) fun v0=>lt (g4 e) fun v1=>bP (aA aP (cV v1) e) fun v2=>bP (aj (bI fN) (cV v0) (cV v2) e) fun v3=>.au (bJ e fun r=>{r with a9:=v0,a10:=v1,a11:=v2,a12:=v3}) s
def HX:Den:=fun _ e s=>lt (g4 e) fun v0=>lt (g5 e) fun v1=>bP (aj (aQ 1) (cV v0) (cV v1) e) fun v2=>bP ((aO (cV v2)) e s) fun v3=>bP (aj (bS fun a b=>some (.bool (iK a b))) (cV v3) (cV (.str [73])) e) fun v4=>.au (cN (u15 e v0) fun r=>{r with a0:=v1,a1:=v2,a2:=v3,a3:=v4}) s
def IM:aB:=lt (g0 e) fun v0=>bE (ak 64 [(cV v0), (cV (.i 3)), (cV (.i 0)), (cV (.i 0))] k e s) fun v1 s=>.au (cN e fun r=>{r with a4:=v0,a5:=v1}) s
def AO:aB:=lt (g0 e) fun v0=>lt (g5 e) fun v1=>bE (ak 64 [(cV v0), (cV (.i 54)), (cV v1), (cV (.i 0))] k e s) fun v2 s=>.au (cN e fun r=>{r with a6:=v0,a7:=v1,a8:=v2}) s
def BH:aB:=lt (g0 e) fun v0=>bE (ak 64 [(cV v0), (cV (.i 1)), (cV (.i 0)), (cV (.i 0))] k e s) fun v1 s=>.au (cN e fun r=>{r with a9:=v0,a10:=v1}) s
def Kf:aB:=lt (g0 e) fun v0=>lt (g5 e) fun v1=>bE (ak 64 [(cV v0), (cV (.i 58)), (cV v1), (cV (.i 0))] k e s) fun v2 s=>.au (cN e fun r=>{r with a11:=v0,a12:=v1,a13:=v2}) s
def Fq:Den:=fun _ e s=>lt (g5 e) fun v0=>bP (aj (bI bQ) (cV v0) (cV (.i 1)) e) fun v1=>.au (bJ e fun r=>{r with a5:=v1,a13:=v0,a14:=v1}) s
def zF:aB:=af OZ (af Th (aG 0 (cB (af (af T1 (av g12 ay (bW 0))) (af (aG 1 (af HX (av g19 (af IM AO) (af BH Kf)))) Fq))))) k e s
def Yx : aY := ⟨[u0, u1], zF, aM []⟩
theorem Yu : aJ tt [] fok Try.f74 = some Yx := by kernel_rfl
theorem O9 : aI Try.prog [] 74 Yx := aI.of (az bY bA mixed Try.func74 Yu)
def SC:Den:=fun _ e s=>bM (V.ax) fun v0=>.au (u2 e v0) s
def PR:Den:=fun _ e s=>lt (g0 e) fun v0=>bP (aA bx (cV v0) e) fun v1=>bP (aA (aC 9) (cV v1) e) fun v2=>bP ((aO (cV v2)) e s) fun v3=>bP (aj (pE true Ii) (cV v3) (cV .ax) e) fun v4=>.au (bJ e fun r=>{r with a3:=v0,a4:=v1,a5:=v2,a6:=v3,a7:=v4}) s
def Tn:Den:=fun _ e s=>lt (g0 e) fun v0=>bP (aA bx (cV v0) e) fun v1=>bP (aA (aC 9) (cV v1) e) fun v2=>bP ((aO (cV v2)) e s) fun v3=>.au (bJ e fun r=>{r with a2:=v3,a8:=v0,a9:=v1,a10:=v2,a11:=v3}) s
def HD:Den:=fun _ e s=>lt (g0 e) fun v0=>bP (aA bx (cV v0) e) fun v1=>bP (aA (aC 4) (cV v1) e) fun v2=>bP ((aO (cV v2)) e s) fun v3=>.au (bJ e fun r=>{r with a12:=v0,a13:=v1,a14:=v2,a15:=v3}) s
def Ab:Den:=fun _ e s=>bE (dm (cG 4 1 [(.str []), (.str []), (.str []), (.str [])] [(0, 1, (cV (.str [73]))), (1, 1, (cV (.str [73]))), (2, 1, (cV (.str [73]))), (3, 1, (cV (.str [73])))] e s.next) s) fun v0 s=>.au (u16 (u2 e v0) v0) s
def An:Den:=fun _ e s=>bE (dm (cG 10 1 [(.str []), (.str []), (.str []), (.str []), (.str []), (.str []), (.str []), (.str []), (.str []), (.str [])] [(0, 1, (cV (.str [73]))), (1, 1, (cV (.str [73]))), (2, 1, (cV (.str [73]))), (3, 1, (cV (.str [73]))), (4, 1, (cV (.str [76, 65, 59]))), (5, 1, (cV (.str [76, 65, 59]))), (6, 1, (cV (.str [91, 73]))), (7, 1, (cV (.str [76, 84, 104, 114, 111, 119, 97, 98, 108, 101, 59]))), (8, 1, (cV (.str [76, 84, 59]))), (9, 1, (cV (.str [91, 76, 65, 59])))] e s.next) s) fun v0 s=>.au (u17 (u2 e v0) v0) s
def Bx:aB:=af SC (af (af PR (av g7 (af Tn aU) ay)) (af (af HD (av g15 (af Ab aU) ay)) (af An aU))) k e s
def YI : aY := ⟨[u0], Bx, aM [rT g2]⟩
theorem Za : aJ tt [] fok Try.f75 = some YI := by kernel_rfl
theorem RG : aI Try.prog [] 75 YI := aI.of (az bY bA mixed Try.func75 Za)
def Ry:aB:=lt (g0 e) fun v0=>bP (aA bx (cV v0) e) fun v1=>bP (aA (aC 0) (cV v1) e) fun v2=>bP ((aO (cV v2)) e s) fun v3=>bE (ak 49 [(cV v3), (cV (.i 16))] k e s) fun v4 s=>.au (bJ e fun r=>{r with a2:=v4,a3:=v0,a4:=v1,a5:=v2,a6:=v3,a7:=v4}) s
def Vb:Den:=fun _ e s=>lt (g0 e) fun v0=>bP (aA bx (cV v0) e) fun v1=>bP (aA (aC 4) (cV v1) e) fun v2=>bP ((aO (cV v2)) e s) fun v3=>.au (bJ e fun r=>{r with a8:=v0,a9:=v1,a10:=v2,a11:=v3}) s
def TJ:Den:=fun _ e s=>lt (g2 e) fun v0=>bP (aj oL (cV v0) (cV (.i 5)) e) fun v1=>.au (bJ e fun r=>{r with a2:=v1,a12:=v0,a13:=v1}) s
def TU:aB:=lt (g0 e) fun v0=>bP (aA bx (cV v0) e) fun v1=>bP (aA (aC 6) (cV v1) e) fun v2=>bP ((aO (cV v2)) e s) fun v3=>bP (aj (bI bQ) (cV v3) (cV (.i 1)) e) fun v4=>bP (aA bx (cV v0) e) fun v5=>bP (aA (aC 6) (cV v5) e) fun v6=>bE (dW 1 (cV v6) (cV v4) k e s) fun v7 s=>.au (cN (bJ e fun r=>{r with a14:=v0,a15:=v1}) fun r=>{r with a0:=v2,a1:=v3,a2:=v4,a3:=v5,a4:=v6}) s
def KT:Den:=fun _ e s=>lt (g0 e) fun v0=>bP (aA bx (cV v0) e) fun v1=>bP (aA (aC 6) (cV v1) e) fun v2=>bP ((aO (cV v2)) e s) fun v3=>bP (aj (bI rX) (cV v3) (cV (.i 4)) e) fun v4=>bP (aL v4 false (aD g0 e)) fun v5=>bP (aL v4 false (aA bx (cV v5) e)) fun v6=>bP (aL v4 false (aA (aC 3) (cV v6) e)) fun v7=>bP (aL v4 false ((aO (cV v7)) e s)) fun v8=>bP (aL v4 false (aj (bI rX) (cV v8) (cV (.i 50)) e)) fun v9=>bP (aN (cV v4) (cV (.bool true)) (cV v9) e) fun v10=>.au (u32 (mP e fun a b c d f _ _ _ _ _ _ _ _ _ _ _=>⟨a,b,c,d,f,v0,v1,v2,v3,v4,v4,v5,v6,v7,v8,v9⟩) v10) s
def Cv:Den:=fun _ e s=>lt (g2 e) fun v0=>bP (aj oL (cV v0) (cV (.i 2)) e) fun v1=>.au (dh (u2 e v1) fun r=>{r with a1:=v0,a2:=v1}) s
def Ks:Den:=fun _ e s=>lt (g2 e) fun v0=>.au (u35 e v0) s
def LQ:Den:=fun _ e s=>bP (aj (bI bh) g35 (cV (.i 0)) e) fun v0=>.au (dh e fun r=>{r with a4:=v0,a5:=v0}) s
def Mm:aB:=lt (g0 e) fun v0=>bE (ak 67 [(cV v0), (cV (.i 3))] k e s) fun v1 s=>.au (dh e fun r=>{r with a6:=v0,a7:=v1}) s
def Be:aB:=lt (g0 e) fun v0=>lt (g0 e) fun v1=>bP (aA bx (cV v1) e) fun v2=>bP (aA (aC 0) (cV v2) e) fun v3=>bP ((aO (cV v3)) e s) fun v4=>bE (ak 49 [(cV v4), (cV (.i 4))] k e s) fun v5 s=>bE (ak 64 [(cV v0), (cV (.i 54)), (cV v5), (cV (.i 0))] k e s) fun v6 s=>.au (dh e fun r=>{r with a8:=v0,a9:=v1,a10:=v2,a11:=v3,a12:=v4,a13:=v5,a14:=v6}) s
def Ku:Den:=fun _ e s=>bP (aj (bI bh) g35 (cV (.i 1)) e) fun v0=>.au (u48 (u47 e v0) v0) s
def Jx:aB:=gT [⟨none, (.p (aD g0)), u49⟩, ⟨none, (.p (aD g0)), u50⟩, ⟨none, (.p (aA bx g50)), u51⟩, ⟨none, (.p (aA (aC 0) g51)), u52⟩, ⟨none, (.d 1 0 (aO g52)), u53⟩, ⟨none, (.e (ak 49 [g53, (cV (.i 4))])), u54⟩, ⟨none, (.p (aD g0)), u55⟩, ⟨none, (.p (aA bx g55)), u56⟩, ⟨none, (.p (aA (aC 0) g56)), u57⟩, ⟨none, (.d 0 1 (aO g57)), u58⟩, ⟨none, (.e (ak 49 [g58, (cV (.i 9))])), u59⟩, ⟨none, (.p (aj (bI ep) g59 (cV (.i 4)))), u60⟩, ⟨none, (.e (ak 64 [g49, (cV (.i 132)), g54, g60])), u61⟩] k e s
def LU:Den:=fun _ e s=>bP (aj (bI bh) g35 (cV (.i 2)) e) fun v0=>.au (fW e fun r=>{r with a14:=v0,a15:=v0}) s
def BQ:aB:=lt (g0 e) fun v0=>bE (ak 86 [cV v0] k e s) fun v1 s=>.au (jj e fun r=>{r with a0:=v0,a1:=v1}) s
def Bh:Den:=fun _ e s=>bP (aj (bI bh) g35 (cV (.i 3)) e) fun v0=>.au (jj e fun r=>{r with a2:=v0,a3:=v0}) s
def EY:aB:=lt (g0 e) fun v0=>bE (ak 87 [cV v0] k e s) fun v1 s=>.au (jj e fun r=>{r with a4:=v0,a5:=v1}) s
def EI:Den:=fun _ e s=>bP (aj (bI bh) g35 (cV (.i 4)) e) fun v0=>.au (jj e fun r=>{r with a6:=v0,a7:=v0}) s
def DW:aB:=lt (g0 e) fun v0=>bE (ak 67 [(cV v0), (cV (.i 2))] k e s) fun v1 s=>.au (jj e fun r=>{r with a8:=v0,a9:=v1}) s
def EB:aB:=lt (g0 e) fun v0=>bE (ak 64 [(cV v0), (cV (.i 89)), (cV (.i 0)), (cV (.i 0))] k e s) fun v1 s=>.au (jj e fun r=>{r with a10:=v0,a11:=v1}) s
def Dj:aB:=lt (g0 e) fun v0=>bE (ak 64 [(cV v0), (cV (.i 95)), (cV (.i 0)), (cV (.i 0))] k e s) fun v1 s=>.au (jj e fun r=>{r with a12:=v0,a13:=v1}) s
def Cw:aB:=lt (g0 e) fun v0=>bE (ak 64 [(cV v0), (cV (.i 87)), (cV (.i 0)), (cV (.i 0))] k e s) fun v1 s=>.au (jj e fun r=>{r with a14:=v0,a15:=v1}) s
def Es:aB:=lt (g0 e) fun v0=>lt (g0 e) fun v1=>bP (aA bx (cV v1) e) fun v2=>bP (aA (aC 0) (cV v2) e) fun v3=>bP ((aO (cV v3)) e s) fun v4=>bE (ak 49 [(cV v4), (cV (.i 4))] k e s) fun v5 s=>bE (ak 64 [(cV v0), (cV (.i 54)), (cV v5), (cV (.i 0))] k e s) fun v6 s=>.au (kL e fun r=>{r with a0:=v0,a1:=v1,a2:=v2,a3:=v3,a4:=v4,a5:=v5,a6:=v6}) s
def JT:Den:=fun _ e s=>bP (aj (bI bh) g35 (cV (.i 5)) e) fun v0=>.au (kL e fun r=>{r with a7:=v0,a8:=v0}) s
def zC:Den:=fun _ e s=>bP (aj (bI bh) g35 (cV (.i 6)) e) fun v0=>.au (kL e fun r=>{r with a7:=v0,a9:=v0}) s
def IZ:aB:=lt (g0 e) fun v0=>bE (ak 67 [(cV v0), (cV (.i 3))] k e s) fun v1 s=>.au (kL e fun r=>{r with a10:=v0,a11:=v1}) s
def KQ:aB:=lt (g0 e) fun v0=>lt (g0 e) fun v1=>bE (ak 80 [(cV v1), (cV (.str [83, 121, 115, 116, 101, 109])), (cV (.str [112, 114, 105, 110, 116])), (cV (.str [40, 73, 41, 86]))] k e s) fun v2 s=>bE (ak 64 [(cV v0), (cV (.i 184)), (cV v2), (cV (.i 0))] k e s) fun v3 s=>.au (kL e fun r=>{r with a12:=v0,a13:=v1,a14:=v2,a15:=v3}) s
def B4:Den:=fun _ e s=>bP (aj (bI bh) g35 (cV (.i 7)) e) fun v0=>.au (mN e fun r=>{r with a0:=v0,a1:=v0}) s
def KA:aB:=lt (g0 e) fun v0=>bE (ak 78 [(cV v0), (cV (.i 3))] k e s) fun v1 s=>.au (mN e fun r=>{r with a2:=v0,a3:=v1}) s
def CS:aB:=lt (g0 e) fun v0=>lt (g0 e) fun v1=>bP (aA bx (cV v1) e) fun v2=>bP (aA (aC 0) (cV v2) e) fun v3=>bP ((aO (cV v3)) e s) fun v4=>bE (ak 49 [(cV v4), (cV (.i 2))] k e s) fun v5 s=>bP (aj (bI bQ) (cV (.i 4)) (cV v5) e) fun v6=>bE (ak 64 [(cV v0), (cV (.i 58)), (cV v6), (cV (.i 0))] k e s) fun v7 s=>.au (mN e fun r=>{r with a4:=v0,a5:=v1,a6:=v2,a7:=v3,a8:=v4,a9:=v5,a10:=v6,a11:=v7}) s
def Ln:Den:=fun _ e s=>bP (aj (bI bh) g35 (cV (.i 8)) e) fun v0=>.au (mN e fun r=>{r with a12:=v0,a13:=v0}) s
def EA:aB:=lt (g0 e) fun v0=>bE (ak 78 [(cV v0), (cV (.i 2))] k e s) fun v1 s=>.au (mN e fun r=>{r with a14:=v0,a15:=v1}) s
def Jp:aB:=lt (g0 e) fun v0=>bE (ak 67 [(cV v0), (cV (.i 2))] k e s) fun v1 s=>.au (pR e fun r=>{r with a0:=v0,a1:=v1}) s
def HW:aB:=lt (g0 e) fun v0=>lt (g0 e) fun v1=>bE (ak 79 [(cV v1), (cV (.str [65])), (cV (.str [120])), (cV (.str [73]))] k e s) fun v2 s=>bE (ak 64 [(cV v0), (cV (.i 181)), (cV v2), (cV (.i 0))] k e s) fun v3 s=>.au (pR e fun r=>{r with a2:=v0,a3:=v1,a4:=v2,a5:=v3}) s
def JF:Den:=fun _ e s=>bP (aj (bI bh) g35 (cV (.i 9)) e) fun v0=>.au (pR e fun r=>{r with a6:=v0,a7:=v0}) s
def CP:aB:=lt (g0 e) fun v0=>bE (ak 78 [(cV v0), (cV (.i 1))] k e s) fun v1 s=>.au (pR e fun r=>{r with a8:=v0,a9:=v1}) s
def Ic:aB:=lt (g0 e) fun v0=>bE (ak 78 [(cV v0), (cV (.i 2))] k e s) fun v1 s=>.au (pR e fun r=>{r with a10:=v0,a11:=v1}) s
def Ae:aB:=lt (g0 e) fun v0=>lt (g0 e) fun v1=>bE (ak 79 [(cV v1), (cV (.str [65])), (cV (.str [110, 101, 120, 116])), (cV (.str [76, 65, 59]))] k e s) fun v2 s=>bE (ak 64 [(cV v0), (cV (.i 181)), (cV v2), (cV (.i 0))] k e s) fun v3 s=>.au (pR e fun r=>{r with a12:=v0,a13:=v1,a14:=v2,a15:=v3}) s
def Fp:Den:=fun _ e s=>bP (aj (bI bh) g35 (cV (.i 10)) e) fun v0=>.au (qs e fun r=>{r with a0:=v0,a1:=v0}) s
def BV:aB:=lt (g0 e) fun v0=>bE (ak 78 [(cV v0), (cV (.i 2))] k e s) fun v1 s=>.au (qs e fun r=>{r with a2:=v0,a3:=v1}) s
def Df:aB:=lt (g0 e) fun v0=>lt (g0 e) fun v1=>bE (ak 79 [(cV v1), (cV (.str [65])), (cV (.str [114])), (cV (.str [76, 65, 59]))] k e s) fun v2 s=>bE (ak 64 [(cV v0), (cV (.i 179)), (cV v2), (cV (.i 0))] k e s) fun v3 s=>.au (qs e fun r=>{r with a4:=v0,a5:=v1,a6:=v2,a7:=v3}) s
def HZ:Den:=fun _ e s=>bP (aj (bI bh) g35 (cV (.i 11)) e) fun v0=>.au (qs e fun r=>{r with a8:=v0,a9:=v0}) s
def Kk:aB:=lt (g0 e) fun v0=>bE (ak 88 [cV v0] k e s) fun v1 s=>.au (qs e fun r=>{r with a10:=v0,a11:=v1}) s
def IF:Den:=fun _ e s=>bP (aj (bI bh) g35 (cV (.i 12)) e) fun v0=>.au (qs e fun r=>{r with a12:=v0,a13:=v0}) s
def Bf:aB:=lt (g0 e) fun v0=>bE (ak 89 [cV v0] k e s) fun v1 s=>.au (qs e fun r=>{r with a14:=v0,a15:=v1}) s
def Li:Den:=fun _ e s=>bP (aj (bI bh) g35 (cV (.i 13)) e) fun v0=>.au (yY e fun r=>{r with a0:=v0,a1:=v0}) s
def FY:aB:=lt (g0 e) fun v0=>bE (ak 90 [cV v0] k e s) fun v1 s=>.au (yY e fun r=>{r with a2:=v0,a3:=v1}) s
def Hx:Den:=fun _ e s=>bP (aj (bI bh) g35 (cV (.i 14)) e) fun v0=>.au (yY e fun r=>{r with a4:=v0,a5:=v0}) s
def wU:aB:=lt (g0 e) fun v0=>bE (ak 91 [cV v0] k e s) fun v1 s=>.au (yY e fun r=>{r with a6:=v0,a7:=v1}) s
def xK:Den:=fun _ e s=>bP (aj (bI bh) g35 (cV (.i 15)) e) fun v0=>.au (yY e fun r=>{r with a8:=v0,a9:=v0}) s
def wL:aB:=lt (g0 e) fun v0=>lt (g0 e) fun v1=>bE (dm (cG 3 1 [(.str []), (.str []), (.str [])] [(0, 1, (cV (.str [73, 110, 100, 101, 120]))), (1, 1, (cV (.str [84, 104, 114, 111, 119, 97, 98, 108, 101]))), (2, 1, (cV (.str [67, 97, 115, 116])))] e s.next) s) fun v2 s=>lt (g0 e) fun v3=>bP (aA bx (cV v3) e) fun v4=>bP (aA (aC 0) (cV v4) e) fun v5=>bP ((aO (cV v5)) e s) fun v6=>bE (ak 49 [(cV v6), (cV (.i 3))] k e s) fun v7 s=>bP (aj (aQ 1) (cV v2) (cV v7) e) fun v8=>bP ((aO (cV v8)) e s) fun v9=>bE (ak 81 [cV v1,cV v9] k e s) fun v10 s=>bE (ak 64 [(cV v0), (cV (.i 187)), (cV v10), (cV (.i 0))] k e s) fun v11 s=>.au (Bv (yY e fun r=>{r with a10:=v0,a11:=v1,a12:=v2,a13:=v3,a14:=v4,a15:=v5}) fun r=>{r with a0:=v6,a1:=v7,a2:=v8,a3:=v9,a4:=v10,a5:=v11}) s
def xA:aB:=lt (g0 e) fun v0=>bE (ak 64 [(cV v0), (cV (.i 58)), (cV (.i 7)), (cV (.i 0))] k e s) fun v1 s=>.au (Bv e fun r=>{r with a6:=v0,a7:=v1}) s
def xG:aB:=lt (g0 e) fun v0=>bP (aA bx (cV v0) e) fun v1=>bP (aA (aC 6) (cV v1) e) fun v2=>bP ((aO (cV v2)) e s) fun v3=>bP (aj (bI ep) (cV v3) (cV (.i 1)) e) fun v4=>bP (aA bx (cV v0) e) fun v5=>bP (aA (aC 6) (cV v5) e) fun v6=>bE (dW 1 (cV v6) (cV v4) k e s) fun v7 s=>.au (Bv e fun r=>{r with a8:=v0,a9:=v1,a10:=v2,a11:=v3,a12:=v4,a13:=v5,a14:=v6}) s
def dF:aB:=af (af Ks (aG 0 (af LQ (av g36 (af Mm Be) (af Ku (av g47 Jx (af LU (av g62 BQ (af Bh (av g66 EY (af EI (av g70 (af DW (af EB (af Dj (af Cw Es)))) (af (af JT (av g87 ay zC)) (av g87 (af IZ KQ) (af B4 (av g96 (af KA CS) (af Ln (av g108 (af EA (af Jp HW)) (af JF (av g118 (af CP (af Ic Ae)) (af Fp (av g128 (af BV Df) (af HZ (av g136 Kk (af IF (av g140 Bf (af Li (av g144 FY (af Hx (av g148 wU (af xK (av g152 (af wL xA) ay)))))))))))))))))))))))))))))))) xG k e s
def fe:aB:=af (af KT (av g32 Cv ay)) dF k e s
def I_:aB:=af Ry (af (af Vb (av g11 TJ ay)) (af TU fe)) k e s
def F76 : aY := ⟨[u0], I_, aM []⟩
theorem aaV : aJ tt [] fok Try.f76 = some F76 := by kernel_rfl
theorem SY : aI Try.prog [] 76 F76 := aI.of (az bY bA mixed Try.func76 aaV)
def SI:Den:=fun _ e s=>bE (dm (jZ g1 e s.next) s) fun v0 s=>bM (V.i 0) fun v1=>.au (bJ e fun r=>{r with a3:=v0,a4:=v1}) s
def Sj:aB:=lt (g0 e) fun v0=>bP (aA bx (cV v0) e) fun v1=>bP (aA (aC 1) (cV v1) e) fun v2=>bP ((aO (cV v2)) e s) fun v3=>bP ((di 5 g3) e s) fun v4=>bE (ak 92 [cV v3,cV v4] k e s) fun v5 s=>bP (aA (dL 0) (cV v5) e) fun v6=>bP (aA (dL 1) (cV v5) e) fun v7=>bP (aA (dL 2) (cV v5) e) fun v8=>.au (cN (gC e fun a b c d f _ _ _ _ _ _ _ _ _ _ _=>⟨a,b,c,d,f,v6,v7,v8,v5,v0,v1,v2,v3,v4,v5,v6⟩) fun r=>{r with a0:=v7,a1:=v8}) s
def Qf:aB:=lt (g0 e) fun v0=>lt (g5 e) fun v1=>bP (aA bx (cV v0) e) fun v2=>bP (aA (aC 1) (cV v2) e) fun v3=>bE (dW 1 (cV v3) (cV v1) k e s) fun v4 s=>.au (cN e fun r=>{r with a2:=v0,a3:=v1,a4:=v2,a5:=v3}) s
def Ty:Den:=fun _ e s=>lt (g6 e) fun v0=>.au (u22 (u4 e v0) v0) s
def GF:aB:=af SI (af Sj (af Qf (af Ty aU))) k e s
def YK : aY := ⟨[u0, u1], GF, aM [rT g4]⟩
theorem aaQ : aJ tt [] fok Try.f77 = some YK := by kernel_rfl
theorem U_ : aI Try.prog [] 77 YK := aI.of (az bY bA mixed Try.func77 aaQ)
def Q9:aB:=lt (g0 e) fun v0=>bP (aA bx (cV v0) e) fun v1=>bP (aA (aC 0) (cV v1) e) fun v2=>bP ((aO (cV v2)) e s) fun v3=>bE (ak 49 [(cV v3), (cV (.i 8))] k e s) fun v4 s=>.au (bJ e fun r=>{r with a4:=v4,a5:=v0,a6:=v1,a7:=v2,a8:=v3,a9:=v4}) s
def Rv:Den:=fun _ e s=>lt (g1 e) fun v0=>bP (aj (bI xj) (cV v0) (cV (.i 0)) e) fun v1=>bP (aL v1 false (aD g0 e)) fun v2=>bP (aL v1 false (aA bx (cV v2) e)) fun v3=>bP (aL v1 false (aA (aC 5) (cV v3) e)) fun v4=>bP (aL v1 false ((aO (cV v4)) e s)) fun v5=>bP (aL v1 false (aj (bI fN) (cV v5) (cV (.i 20)) e)) fun v6=>bP (aN (cV v1) (cV (.bool true)) (cV v6) e) fun v7=>.au (cN (bJ e fun r=>{r with a10:=v0,a11:=v1,a12:=v1,a13:=v2,a14:=v3,a15:=v4}) fun r=>{r with a0:=v5,a1:=v6,a2:=v7}) s
def PE:Den:=fun _ e s=>lt (g4 e) fun v0=>bP (aj oL (cV v0) (cV (.i 4)) e) fun v1=>.au (cN (u4 e v1) fun r=>{r with a3:=v0,a4:=v1}) s
def QO:Den:=fun _ e s=>lt (g4 e) fun v0=>.au (u21 e v0) s
def EM:Den:=fun _ e s=>bP (aj (bI bh) g21 (cV (.i 0)) e) fun v0=>.au (cN e fun r=>{r with a6:=v0,a7:=v0}) s
def HT:Den:=fun _ e s=>bP (aj (bI bh) g21 (cV (.i 1)) e) fun v0=>.au (cN e fun r=>{r with a6:=v0,a8:=v0}) s
def AZ:aB:=lt (g0 e) fun v0=>lt (g0 e) fun v1=>bP (aA bx (cV v1) e) fun v2=>bP (aA (aC 0) (cV v2) e) fun v3=>bP ((aO (cV v3)) e s) fun v4=>bE (ak 49 [(cV v4), (cV (.i 2))] k e s) fun v5 s=>bP (aj (bI bQ) (cV (.i 4)) (cV v5) e) fun v6=>bE (ak 64 [(cV v0), (cV (.i 25)), (cV v6), (cV (.i 0))] k e s) fun v7 s=>.au (u32 (cN e fun r=>{r with a9:=v0,a10:=v1,a11:=v2,a12:=v3,a13:=v4,a14:=v5,a15:=v6}) v7) s
def Dp:Den:=fun _ e s=>bP (aj (bI bh) g21 (cV (.i 2)) e) fun v0=>.au (dh e fun r=>{r with a1:=v0,a2:=v0}) s
def EZ:aB:=lt (g0 e) fun v0=>lt (g0 e) fun v1=>bE (ak 81 [(cV v1), (cV (.str [65]))] k e s) fun v2 s=>bE (ak 64 [(cV v0), (cV (.i 187)), (cV v2), (cV (.i 0))] k e s) fun v3 s=>.au (dh e fun r=>{r with a3:=v0,a4:=v1,a5:=v2,a6:=v3}) s
def FG:Den:=fun _ e s=>bP (aj (bI bh) g21 (cV (.i 3)) e) fun v0=>.au (dh e fun r=>{r with a7:=v0,a8:=v0}) s
def JP:aB:=lt (g0 e) fun v0=>lt (g0 e) fun v1=>bE (ak 81 [(cV v1), (cV (.str [66]))] k e s) fun v2 s=>bE (ak 64 [(cV v0), (cV (.i 187)), (cV v2), (cV (.i 0))] k e s) fun v3 s=>.au (dh e fun r=>{r with a9:=v0,a10:=v1,a11:=v2,a12:=v3}) s
def B0:Den:=fun _ e s=>bP (aj (bI bh) g21 (cV (.i 4)) e) fun v0=>.au (dh e fun r=>{r with a13:=v0,a14:=v0}) s
def D8:aB:=lt (g0 e) fun v0=>lt (g1 e) fun v1=>bP (aj (bI ep) (cV v1) (cV (.i 1)) e) fun v2=>bE (ak 78 [cV v0,cV v2] k e s) fun v3 s=>.au (fW (u47 e v0) fun r=>{r with a0:=v1,a1:=v2,a2:=v3}) s
def B1:aB:=lt (g0 e) fun v0=>lt (g0 e) fun v1=>bE (ak 79 [(cV v1), (cV (.str [65])), (cV (.str [110, 101, 120, 116])), (cV (.str [76, 65, 59]))] k e s) fun v2 s=>bE (ak 64 [(cV v0), (cV (.i 180)), (cV v2), (cV (.i 0))] k e s) fun v3 s=>.au (fW e fun r=>{r with a3:=v0,a4:=v1,a5:=v2,a6:=v3}) s
def Jr:Den:=fun _ e s=>bP (aj (bI bh) g21 (cV (.i 5)) e) fun v0=>.au (fW e fun r=>{r with a7:=v0,a8:=v0}) s
def DR:aB:=lt (g0 e) fun v0=>lt (g0 e) fun v1=>bE (ak 79 [(cV v1), (cV (.str [65])), (cV (.str [114])), (cV (.str [76, 65, 59]))] k e s) fun v2 s=>bE (ak 64 [(cV v0), (cV (.i 178)), (cV v2), (cV (.i 0))] k e s) fun v3 s=>.au (fW e fun r=>{r with a9:=v0,a10:=v1,a11:=v2,a12:=v3}) s
def KZ:Den:=fun _ e s=>bP (aj (bI bh) g21 (cV (.i 6)) e) fun v0=>.au (fW e fun r=>{r with a13:=v0,a14:=v0}) s
def HM:aB:=lt (g0 e) fun v0=>bE (ak 64 [(cV v0), (cV (.i 25)), (cV (.i 9)), (cV (.i 0))] k e s) fun v1 s=>.au (u64 (u63 e v0) v1) s
def BE:aB:=lt (g0 e) fun v0=>lt (g1 e) fun v1=>bP (aj (bI ep) (cV v1) (cV (.i 1)) e) fun v2=>bE (ak 67 [cV v0,cV v2] k e s) fun v3 s=>.au (jj e fun r=>{r with a1:=v0,a2:=v1,a3:=v2,a4:=v3}) s
def A_:aB:=lt (g0 e) fun v0=>bE (ak 64 [(cV v0), (cV (.i 50)), (cV (.i 0)), (cV (.i 0))] k e s) fun v1 s=>.au (jj e fun r=>{r with a5:=v0,a6:=v1}) s
def J2:Den:=fun _ e s=>bP (aj (bI bh) g21 (cV (.i 7)) e) fun v0=>.au (jj e fun r=>{r with a7:=v0,a8:=v0}) s
def Kl:aB:=lt (g0 e) fun v0=>lt (g1 e) fun v1=>bP (aj (bI ep) (cV v1) (cV (.i 1)) e) fun v2=>bE (ak 78 [cV v0,cV v2] k e s) fun v3 s=>.au (jj e fun r=>{r with a9:=v0,a10:=v1,a11:=v2,a12:=v3}) s
def EX:aB:=lt (g0 e) fun v0=>lt (g0 e) fun v1=>bE (dm (cG 2 1 [(.str []), (.str [])] [(0, 1, (cV (.str [65]))), (1, 1, (cV (.str [66])))] e s.next) s) fun v2 s=>lt (g0 e) fun v3=>bP (aA bx (cV v3) e) fun v4=>bP (aA (aC 0) (cV v4) e) fun v5=>bP ((aO (cV v5)) e s) fun v6=>bE (ak 49 [(cV v6), (cV (.i 2))] k e s) fun v7 s=>bP (aj (aQ 1) (cV v2) (cV v7) e) fun v8=>bP ((aO (cV v8)) e s) fun v9=>bE (ak 81 [cV v1,cV v9] k e s) fun v10 s=>bE (ak 64 [(cV v0), (cV (.i 192)), (cV v10), (cV (.i 0))] k e s) fun v11 s=>.au (kL (jj e fun r=>{r with a13:=v0,a14:=v1,a15:=v2}) fun r=>{r with a0:=v3,a1:=v4,a2:=v5,a3:=v6,a4:=v7,a5:=v8,a6:=v9,a7:=v10,a8:=v11}) s
def kN:aB:=af QO (aG 0 (af (af EM (av g22 ay HT)) (av g22 AZ (af Dp (av g33 EZ (af FG (av g39 JP (af B0 (av g45 (af D8 B1) (af Jr (av g55 DR (af KZ (av g61 (af HM (af BE A_)) (af J2 (av g71 (af Kl EX) ay))))))))))))))) k e s
def Ik:aB:=af Q9 (af (af Rv (av g18 PE ay)) kN) k e s
def Y9 : aY := ⟨[u0, u1], Ik, aM []⟩
theorem aa9 : aJ tt [] fok Try.f78 = some Y9 := by kernel_rfl
theorem Rg : aI Try.prog [] 78 Y9 := aI.of (az bY bA mixed Try.func78 aa9)
def QF:Den:=fun _ e s=>bM (V.i 0) fun v0=>.au (u8 e v0) s
def Sq:aB:=lt (g0 e) fun v0=>lt (g1 e) fun v1=>lt (g2 e) fun v2=>lt (g3 e) fun v3=>bP (bF [(.i 0), (.int .i32 0), (.str []), (.str []), (.str [])] [(0, 1, (cV (.i 9))), (2, 1, (cV v1)), (3, 1, (cV v2)), (4, 1, (cV v3))] e) fun v4=>bE (ak 77 [cV v0,cV v4] k e s) fun v5 s=>.au (bJ e fun r=>{r with a8:=v5,a9:=v0,a10:=v1,a11:=v2,a12:=v3,a13:=v4,a14:=v5}) s
def Fz:aB:=af QF (af Sq aU) k e s
def ZW : aY := ⟨[u0, u1, u2, u3], Fz, aM [rT g8]⟩
theorem aaY : aJ tt [] fok Try.f79 = some ZW := by kernel_rfl
theorem TO : aI Try.prog [] 79 ZW := aI.of (az bY bA mixed Try.func79 aaY)
def Ua:Den:=fun _ e s=>bM (V.i 0) fun v0=>.au (u8 e v0) s
def Qo:aB:=lt (g0 e) fun v0=>lt (g1 e) fun v1=>lt (g2 e) fun v2=>lt (g3 e) fun v3=>bP (bF [(.i 0), (.int .i32 0), (.str []), (.str []), (.str [])] [(0, 1, (cV (.i 10))), (2, 1, (cV v1)), (3, 1, (cV v2)), (4, 1, (cV v3))] e) fun v4=>bE (ak 77 [cV v0,cV v4] k e s) fun v5 s=>.au (bJ e fun r=>{r with a8:=v5,a9:=v0,a10:=v1,a11:=v2,a12:=v3,a13:=v4,a14:=v5}) s
def zB:aB:=af Ua (af Qo aU) k e s
def Z8 : aY := ⟨[u0, u1, u2, u3], zB, aM [rT g8]⟩
theorem aaP : aJ tt [] fok Try.f80 = some Z8 := by kernel_rfl
theorem PW : aI Try.prog [] 80 Z8 := aI.of (az bY bA mixed Try.func80 aaP)
def Um:Den:=fun _ e s=>bM (V.i 0) fun v0=>.au (u4 e v0) s
def Pe:aB:=lt (g0 e) fun v0=>lt (g1 e) fun v1=>bP (bF [(.i 0), (.int .i32 0), (.str []), (.str []), (.str [])] [(0, 1, (cV (.i 7))), (2, 1, (cV v1))] e) fun v2=>bE (ak 77 [cV v0,cV v2] k e s) fun v3 s=>.au (bJ e fun r=>{r with a4:=v3,a5:=v0,a6:=v1,a7:=v2,a8:=v3}) s
def Bb:aB:=af Um (af Pe aU) k e s
def YD : aY := ⟨[u0, u1], Bb, aM [rT g4]⟩
theorem ZS : aJ tt [] fok Try.f81 = some YD := by kernel_rfl
theorem RF : aI Try.prog [] 81 YD := aI.of (az bY bA mixed Try.func81 ZS)
def UN:Den:=fun _ e s=>bM (V.ax) fun v0=>.au (u8 e v0) s
def UM:aB:=lt (g1 e) fun v0=>lt (g2 e) fun v1=>bP (bF [(.i 0), .ax, .ax] [(0, 1, (cV v0)), (1, 1, (cV v1))] e) fun v2=>bE (dm (lT 3 (cL [(.i 0), .ax, .ax]) e s.next) s) fun v3 s=>bE (dW 3 (cV v3) (cV v2) k e s) fun v4 s=>.au (bJ e fun r=>{r with a9:=v3,a10:=v0,a11:=v1,a12:=v2}) s
def Rj:Den:=fun _ e s=>lt (g3 e) fun v0=>.au (u13 e v0) s
def Pp:aB:=bE (dm (cG 1 1 [(.str [])] [(0, 1, (cV (.str [76, 84, 104, 114, 111, 119, 97, 98, 108, 101, 59])))] e s.next) s) fun v0 s=>bP (aA (aC 2) g9 e) fun v1=>bE (dW 1 (cV v1) (cV v0) k e s) fun v2 s=>.au (bJ e fun r=>{r with a14:=v0,a15:=v1}) s
def Cq:Den:=fun _ e s=>lt (g0 e) fun v0=>bP (aA aP (cV v0) e) fun v1=>bP (aj (bI rX) (cV v1) (cV (.i 0)) e) fun v2=>bP (aL v2 true (aD g0 e)) fun v3=>bP (aL v2 true (aD g0 e)) fun v4=>bP (aL v2 true (aA aP (cV v4) e)) fun v5=>bP (aL v2 true (aj (bI ep) (cV v5) (cV (.i 1)) e)) fun v6=>bP (aL v2 true (aj (aQ 3) (cV v3) (cV v6) e)) fun v7=>bP (aL v2 true (aA (aC 0) (cV v7) e)) fun v8=>bP (aL v2 true ((aO (cV v8)) e s)) fun v9=>bP (aL v2 true (aD g1 e)) fun v10=>bP (aL v2 true (aj (bI bh) (cV v9) (cV v10) e)) fun v11=>bP (aN (cV v2) (cV v11) (cV (.bool false)) e) fun v12=>.au (mP e fun _ _ _ _ _ _ _ _ _ _ _ _ _ _ q r=>⟨v0,v1,v2,v2,v3,v4,v5,v6,v7,v8,v9,v10,v11,v12,q,r⟩) s
def IB:Den:=fun _ e s=>lt (g0 e) fun v0=>.au (u30 (u8 e v0) v0) s
def BP:aB:=lt (g0 e) fun v0=>bP ((di 3 g9) e s) fun v1=>bE (dm (cG 1 3 [(.i 0), .ax, .ax] [(0, 3, (cV v1))] e s.next) s) fun v2 s=>bE (jR 3 (cV v0) (cV v2) k e s) fun v3 s=>.au (dh (u31 (u8 e v3) v0) fun r=>{r with a0:=v1,a1:=v2,a2:=v3}) s
def IC:aB:=af UN (af UM (af (af Rj (av g13 Pp ay)) (af (af Cq (av g29 (af IB aU) ay)) (af BP aU)))) k e s
def F82 : aY := ⟨[u0, u1, u2, u3], IC, aM [rT g8]⟩
theorem aa' : aJ tt [] fok Try.f82 = some F82 := by kernel_rfl
theorem Tu : aI Try.prog [] 82 F82 := aI.of (az bY bA mixed Try.func82 aa')
def Q4:Den:=fun _ e s=>bM (V.bool false) fun v0=>.au (u4 e v0) s
def QT:Den:=fun _ e s=>bM (V.i 0) fun v0=>.au (u5 e v0) s
def Qi:Den:=fun _ e s=>lt (g5 e) fun v0=>lt (g0 e) fun v1=>bP (aA bx (cV v1) e) fun v2=>bP (aA (aC 8) (cV v2) e) fun v3=>bP ((aO (cV v3)) e s) fun v4=>bP (aA aP (cV v4) e) fun v5=>bP (aj (bI fN) (cV v0) (cV v5) e) fun v6=>.au (bJ e fun r=>{r with a6:=v0,a7:=v1,a8:=v2,a9:=v3,a10:=v4,a11:=v5,a12:=v6}) s
def AK:Den:=fun _ e s=>lt (g0 e) fun v0=>bP (aA bx (cV v0) e) fun v1=>bP (aA (aC 8) (cV v1) e) fun v2=>bP ((aO (cV v2)) e s) fun v3=>lt (g5 e) fun v4=>bP (aj (aQ 1) (cV v3) (cV v4) e) fun v5=>bP ((aO (cV v5)) e s) fun v6=>lt (g1 e) fun v7=>bP (aj (bI bh) (cV v6) (cV v7) e) fun v8=>.au (cN (u15 e v0) fun r=>{r with a0:=v1,a1:=v2,a2:=v3,a3:=v4,a4:=v5,a5:=v6,a6:=v7,a7:=v8}) s
def HH:Den:=fun _ e s=>bM (V.bool true) fun v0=>.au (u4 e v0) s
def IU:Den:=fun _ e s=>lt (g5 e) fun v0=>bP (aj (bI bQ) (cV v0) (cV (.i 1)) e) fun v1=>.au (bJ e fun r=>{r with a5:=v1,a13:=v0,a14:=v1}) s
def BI:Den:=fun _ e s=>bM (V.bool false) fun v0=>.au (u4 e v0) s
def Iv:aB:=af Q4 (af (af QT (aG 0 (cB (af (af Qi (av g12 ay (bW 0))) (af (aG 1 (af AK (av g23 (af HH aU) ay))) IU))))) (af BI aU)) k e s
def F83 : aY := ⟨[u0, u1], Iv, aM [rT g4]⟩
theorem Zu : aJ tt [] fok Try.f83 = some F83 := by kernel_rfl
theorem QU : aI Try.prog [] 83 F83 := aI.of (az bY bA mixed Try.func83 Zu)
def QB:Den:=fun _ e s=>bM (V.ax) fun v0=>bM (V.i 0) fun v1=>.au (bJ e fun r=>{r with a2:=v0,a3:=v1}) s
def Sp:Den:=fun _ e s=>bM (V.ax) fun v0=>.au (u4 e v0) s
def UJ:Den:=fun _ e s=>bM (V.i 0) fun v0=>.au (u5 e v0) s
def Kw:Den:=fun _ e s=>lt (g5 e) fun v0=>lt (g0 e) fun v1=>bP (aA aP (cV v1) e) fun v2=>bP (aj (bI fN) (cV v0) (cV v2) e) fun v3=>.au (bJ e fun r=>{r with a8:=v0,a9:=v1,a10:=v2,a11:=v3}) s
def Bn:aB:=lt (g0 e) fun v0=>lt (g5 e) fun v1=>bP (aj (aQ 4) (cV v0) (cV v1) e) fun v2=>bP (aA (aC 1) (cV v2) e) fun v3=>bP ((aO (cV v3)) e s) fun v4=>bE (ak 46 [cV v4] k e s) fun v5 s=>bP (aj (bI bh) (cV v5) (cV (.i 0)) e) fun v6=>.au (cN (bJ e fun r=>{r with a14:=v0,a15:=v1}) fun r=>{r with a0:=v2,a1:=v3,a2:=v4,a3:=v5,a4:=v6}) s
def zE:Den:=fun _ e s=>bM (V.ax) fun v0=>bM (V.i 15) fun v1=>.au (bJ e fun r=>{r with a2:=v0,a3:=v1}) s
def Bi:Den:=fun _ e s=>lt (g0 e) fun v0=>lt (g5 e) fun v1=>bP (aj (aQ 4) (cV v0) (cV v1) e) fun v2=>bP (aA (aC 0) (cV v2) e) fun v3=>bP ((aO (cV v3)) e s) fun v4=>lt (g4 e) fun v5=>bP (aA aP (cV v5) e) fun v6=>bP (aj (bI sg) (cV v4) (cV v6) e) fun v7=>.au (cN e fun r=>{r with a5:=v0,a6:=v1,a7:=v2,a8:=v3,a9:=v4,a10:=v5,a11:=v6,a12:=v7}) s
def KO:Den:=fun _ e s=>bM (V.ax) fun v0=>bM (V.i 16) fun v1=>.au (bJ e fun r=>{r with a2:=v0,a3:=v1}) s
def HK:aB:=lt (g0 e) fun v0=>lt (g5 e) fun v1=>bP (aj (aQ 4) (cV v0) (cV v1) e) fun v2=>bP ((di 4 (cV v2)) e s) fun v3=>bE (ak 93 [cV v3] k e s) fun v4 s=>bP (aA (dL 0) (cV v4) e) fun v5=>bP (aA (dL 1) (cV v4) e) fun v6=>.au (dh (cN (bJ e fun r=>{r with a6:=v5,a7:=v6}) fun r=>{r with a13:=v4,a14:=v0,a15:=v1}) fun r=>{r with a0:=v2,a1:=v3,a2:=v4,a3:=v5,a4:=v6}) s
def Hv:Den:=fun _ e s=>lt (g7 e) fun v0=>bP (aA jw (cV v0) e) fun v1=>.au (dh e fun r=>{r with a5:=v0,a6:=v1}) s
def BW:Den:=fun _ e s=>bM (V.ax) fun v0=>bM (V.i 1) fun v1=>.au (bJ e fun r=>{r with a2:=v0,a3:=v1}) s
def ED:aB:=lt (g4 e) fun v0=>lt (g6 e) fun v1=>bE (oB 1 (cV v0) (cV v1) k e s) fun v2 s=>.au (dh (u4 e v2) fun r=>{r with a7:=v0,a8:=v1,a9:=v2}) s
def EJ:Den:=fun _ e s=>lt (g5 e) fun v0=>bP (aj (bI bQ) (cV v0) (cV (.i 1)) e) fun v1=>.au (bJ e fun r=>{r with a5:=v1,a12:=v0,a13:=v1}) s
def Jd:Den:=fun _ e s=>lt (g4 e) fun v0=>bP (aA aP (cV v0) e) fun v1=>bP (aj (bI rX) (cV v1) (cV (.i 1024)) e) fun v2=>.au (dh e fun r=>{r with a10:=v0,a11:=v1,a12:=v2}) s
def Fv:Den:=fun _ e s=>bM (V.ax) fun v0=>bM (V.i 3) fun v1=>.au (bJ e fun r=>{r with a2:=v0,a3:=v1}) s
def Aj:Den:=fun _ e s=>lt (g4 e) fun v0=>bM (V.i 0) fun v1=>.au (u45 (bJ e fun r=>{r with a2:=v0,a3:=v1}) v0) s
def Io:aB:=af QB (af Sp (af (af UJ (aG 0 (cB (af (af Kw (av g11 ay (bW 0))) (af (aG 1 (af (af Bn (av g20 (af zE aU) ay)) (af (af Bi (av g28 (af KO aU) ay)) (af HK (af (af Hv (av g38 (af BW aU) ay)) ED))))) EJ))))) (af (af Jd (av g44 (af Fv aU) ay)) (af Aj aU)))) k e s
def Y5 : aY := ⟨[u0], Io, aM [rT g2, rT g3]⟩
theorem ZT : aJ tt [] fok Try.f84 = some Y5 := by kernel_rfl
theorem Td : aI Try.prog [] 84 Y5 := aI.of (az bY bA mixed Try.func84 ZT)
def US:aB:=lt (g0 e) fun v0=>bE (ak 94 [cV v0] k e s) fun v1 s=>.au (bJ e fun r=>{r with a2:=v1,a5:=v0,a6:=v1}) s
def QJ:aB:=lt (g0 e) fun v0=>bE (ak 94 [cV v0] k e s) fun v1 s=>.au (bJ e fun r=>{r with a3:=v1,a7:=v0,a8:=v1}) s
def QC:aB:=lt (g0 e) fun v0=>bP (aA bx (cV v0) e) fun v1=>bP (aA (aC 0) (cV v1) e) fun v2=>bP ((aO (cV v2)) e s) fun v3=>bE (ak 49 [(cV v3), (cV (.i 4))] k e s) fun v4 s=>.au (bJ e fun r=>{r with a4:=v4,a9:=v0,a10:=v1,a11:=v2,a12:=v3,a13:=v4}) s
def RE:Den:=fun _ e s=>lt (g4 e) fun v0=>bP (aj (bI bh) (cV v0) (cV (.i 0)) e) fun v1=>bP (aL v1 true (aD g0 e)) fun v2=>bP (aL v1 true (aA bx (cV v2) e)) fun v3=>bP (aL v1 true (aA (aC 4) (cV v3) e)) fun v4=>bP (aL v1 true ((aO (cV v4)) e s)) fun v5=>bP (aL v1 true (aA jw (cV v5) e)) fun v6=>bP (aN (cV v1) (cV v6) (cV (.bool false)) e) fun v7=>.au (dh (cN e fun r=>{r with a11:=v7,a12:=v0,a13:=v1,a14:=v1,a15:=v2}) fun r=>{r with a0:=v3,a1:=v4,a2:=v5,a3:=v6,a4:=v7}) s
def zL:aB:=lt (g0 e) fun v0=>bE (ak 78 [(cV v0), (cV (.i 2))] k e s) fun v1 s=>.au (dh e fun r=>{r with a5:=v0,a6:=v1}) s
def Kb:aB:=lt (g0 e) fun v0=>bE (dm (cG 2 1 [(.i 0), (.i 0)] [(0, 1, (cV (.i 198))), (1, 1, (cV (.i 199)))] e s.next) s) fun v1 s=>lt (g0 e) fun v2=>bP (aA bx (cV v2) e) fun v3=>bP (aA (aC 0) (cV v3) e) fun v4=>bP ((aO (cV v4)) e s) fun v5=>bE (ak 49 [(cV v5), (cV (.i 2))] k e s) fun v6 s=>bP (aj (aQ 1) (cV v1) (cV v6) e) fun v7=>bP ((aO (cV v7)) e s) fun v8=>lt (g2 e) fun v9=>bE (ak 95 [cV v0,cV v8,cV v9] k e s) fun v10 s=>.au (fW (lU e fun a b c d f g h _ _ _ _ _ _ _ _ _=>⟨a,b,c,d,f,g,h,v0,v1,v2,v3,v4,v5,v6,v7,v8⟩) fun r=>{r with a0:=v9,a1:=v10}) s
def zY:Den:=fun _ e s=>lt (g4 e) fun v0=>bP (aj (bI bh) (cV v0) (cV (.i 1)) e) fun v1=>bP (aL v1 true (aD g0 e)) fun v2=>bP (aL v1 true (aA bx (cV v2) e)) fun v3=>bP (aL v1 true (aA (aC 4) (cV v3) e)) fun v4=>bP (aL v1 true ((aO (cV v4)) e s)) fun v5=>bP (aL v1 true (aA jw (cV v5) e)) fun v6=>bP (aN (cV v1) (cV v6) (cV (.bool false)) e) fun v7=>.au (GR e fun a b _ _ _ _ _ _ _ _ _ _ o p q r=>⟨a,b,v7,v0,v1,v1,v2,v3,v4,v5,v6,v7,o,p,q,r⟩) s
def L9:aB:=lt (g0 e) fun v0=>bE (ak 78 [(cV v0), (cV (.i 1))] k e s) fun v1 s=>.au (fW e fun r=>{r with a12:=v0,a13:=v1}) s
def BS:aB:=lt (g0 e) fun v0=>bE (ak 78 [(cV v0), (cV (.i 1))] k e s) fun v1 s=>.au (fW e fun r=>{r with a14:=v0,a15:=v1}) s
def HN:aB:=lt (g0 e) fun v0=>bE (dm (cG 2 1 [(.i 0), (.i 0)] [(0, 1, (cV (.i 165))), (1, 1, (cV (.i 166)))] e s.next) s) fun v1 s=>lt (g0 e) fun v2=>bP (aA bx (cV v2) e) fun v3=>bP (aA (aC 0) (cV v3) e) fun v4=>bP ((aO (cV v4)) e s) fun v5=>bE (ak 49 [(cV v5), (cV (.i 2))] k e s) fun v6 s=>bP (aj (aQ 1) (cV v1) (cV v6) e) fun v7=>bP ((aO (cV v7)) e s) fun v8=>lt (g2 e) fun v9=>bE (ak 95 [cV v0,cV v8,cV v9] k e s) fun v10 s=>.au (WC e fun _ _ _ _ _ _ _ _ _ _ _ n o p q r=>⟨v0,v1,v2,v3,v4,v5,v6,v7,v8,v9,v10,n,o,p,q,r⟩) s
def D9:Den:=fun _ e s=>lt (g4 e) fun v0=>bP (aj (bI bh) (cV v0) (cV (.i 2)) e) fun v1=>.au (jj e fun r=>{r with a11:=v1,a12:=v0,a13:=v1}) s
def JH:aB:=lt (g0 e) fun v0=>bE (ak 67 [(cV v0), (cV (.i 2))] k e s) fun v1 s=>.au (jj e fun r=>{r with a14:=v0,a15:=v1}) s
def IV:aB:=lt (g0 e) fun v0=>lt (g0 e) fun v1=>bP (aA bx (cV v1) e) fun v2=>bP (aA (aC 0) (cV v2) e) fun v3=>bP ((aO (cV v3)) e s) fun v4=>bE (ak 49 [(cV v4), (cV (.i 6))] k e s) fun v5 s=>bP (aj (bI bQ) (cV (.i 153)) (cV v5) e) fun v6=>lt (g2 e) fun v7=>bE (ak 95 [cV v0,cV v6,cV v7] k e s) fun v8 s=>.au (kL e fun r=>{r with a0:=v0,a1:=v1,a2:=v2,a3:=v3,a4:=v4,a5:=v5,a6:=v6,a7:=v7,a8:=v8}) s
def KE:aB:=lt (g0 e) fun v0=>bE (ak 67 [(cV v0), (cV (.i 2))] k e s) fun v1 s=>.au (bJ e fun r=>{r with a14:=v0,a15:=v1}) s
def D0:aB:=lt (g0 e) fun v0=>bE (ak 67 [(cV v0), (cV (.i 2))] k e s) fun v1 s=>.au (cN e fun r=>{r with a0:=v0,a1:=v1}) s
def J6:aB:=lt (g0 e) fun v0=>lt (g0 e) fun v1=>bP (aA bx (cV v1) e) fun v2=>bP (aA (aC 0) (cV v2) e) fun v3=>bP ((aO (cV v3)) e s) fun v4=>bE (ak 49 [(cV v4), (cV (.i 6))] k e s) fun v5 s=>bP (aj (bI bQ) (cV (.i 159)) (cV v5) e) fun v6=>lt (g2 e) fun v7=>bE (ak 95 [cV v0,cV v6,cV v7] k e s) fun v8 s=>.au (cN e fun r=>{r with a2:=v0,a3:=v1,a4:=v2,a5:=v3,a6:=v4,a7:=v5,a8:=v6,a9:=v7,a10:=v8}) s
def Bg:aB:=lt (g0 e) fun v0=>bE (ak 66 [(cV v0), (cV (.i 2))] k e s) fun v1 s=>.au (kL e fun r=>{r with a9:=v0,a10:=v1}) s
def Jg:aB:=lt (g0 e) fun v0=>lt (g3 e) fun v1=>bE (ak 95 [(cV v0), (cV (.i 167)), (cV v1)] k e s) fun v2 s=>.au (kL e fun r=>{r with a11:=v0,a12:=v1,a13:=v2}) s
def GV:aB:=lt (g0 e) fun v0=>lt (g2 e) fun v1=>bE (ak 96 [cV v0,cV v1] k e s) fun v2 s=>.au (u96 (kL e fun r=>{r with a14:=v0,a15:=v1}) v2) s
def Ia:aB:=lt (g0 e) fun v0=>bE (ak 66 [(cV v0), (cV (.i 2))] k e s) fun v1 s=>.au (mN e fun r=>{r with a1:=v0,a2:=v1}) s
def Ch:aB:=lt (g0 e) fun v0=>lt (g3 e) fun v1=>bE (ak 96 [cV v0,cV v1] k e s) fun v2 s=>.au (mN e fun r=>{r with a3:=v0,a4:=v1,a5:=v2}) s
def Ao:aB:=lt (g0 e) fun v0=>bE (ak 64 [(cV v0), (cV (.i 0)), (cV (.i 0)), (cV (.i 0))] k e s) fun v1 s=>.au (mN e fun r=>{r with a6:=v0,a7:=v1}) s
def Kx:aB:=af US (af QJ (af QC (af (aG 0 (af RE (av g27 (af zL Kb) (af zY (av g50 (af L9 (af BS HN)) (af D9 (av g75 (af JH IV) (af KE (af D0 J6))))))))) (af Bg (af Jg (af GV (af Ia (af Ch Ao)))))))) k e s
def Zw : aY := ⟨[u0], Kx, aM []⟩
theorem Zh : aJ tt [] fok Try.f86 = some Zw := by kernel_rfl
theorem UP : aI Try.prog [] 86 Zw := aI.of (az bY bA mixed Try.func86 Zh)
def Tg:aB:=lt (g0 e) fun v0=>bE (ak 94 [cV v0] k e s) fun v1 s=>.au (bJ e fun r=>{r with a2:=v1,a5:=v0,a6:=v1}) s
def UU:aB:=lt (g0 e) fun v0=>bE (ak 94 [cV v0] k e s) fun v1 s=>.au (bJ e fun r=>{r with a3:=v1,a7:=v0,a8:=v1}) s
def Q_:aB:=lt (g0 e) fun v0=>bP (aA bx (cV v0) e) fun v1=>bP (aA (aC 0) (cV v1) e) fun v2=>bP ((aO (cV v2)) e s) fun v3=>bE (ak 49 [(cV v3), (cV (.i 4))] k e s) fun v4 s=>.au (bJ e fun r=>{r with a4:=v4,a9:=v0,a10:=v1,a11:=v2,a12:=v3,a13:=v4}) s
def RL:aB:=lt (g0 e) fun v0=>bE (ak 64 [(cV v0), (cV (.i 3)), (cV (.i 0)), (cV (.i 0))] k e s) fun v1 s=>.au (bJ e fun r=>{r with a14:=v0,a15:=v1}) s
def Rx:aB:=lt (g0 e) fun v0=>lt (g4 e) fun v1=>bE (ak 64 [(cV v0), (cV (.i 54)), (cV v1), (cV (.i 0))] k e s) fun v2 s=>.au (cN e fun r=>{r with a0:=v0,a1:=v1,a2:=v2}) s
def Ap:aB:=lt (g0 e) fun v0=>lt (g2 e) fun v1=>bE (ak 96 [cV v0,cV v1] k e s) fun v2 s=>.au (cN e fun r=>{r with a3:=v0,a4:=v1,a5:=v2}) s
def Cr:aB:=lt (g0 e) fun v0=>lt (g4 e) fun v1=>bE (ak 64 [(cV v0), (cV (.i 21)), (cV v1), (cV (.i 0))] k e s) fun v2 s=>.au (cN e fun r=>{r with a6:=v0,a7:=v1,a8:=v2}) s
def Ep:aB:=lt (g0 e) fun v0=>lt (g0 e) fun v1=>bP (aA bx (cV v1) e) fun v2=>bP (aA (aC 0) (cV v2) e) fun v3=>bP ((aO (cV v3)) e s) fun v4=>bE (ak 49 [(cV v4), (cV (.i 6))] k e s) fun v5 s=>bP (aj (bI bQ) (cV (.i 3)) (cV v5) e) fun v6=>bE (ak 64 [(cV v0), (cV v6), (cV (.i 0)), (cV (.i 0))] k e s) fun v7 s=>.au (u32 (cN e fun r=>{r with a9:=v0,a10:=v1,a11:=v2,a12:=v3,a13:=v4,a14:=v5,a15:=v6}) v7) s
def Ez:aB:=lt (g0 e) fun v0=>lt (g3 e) fun v1=>bE (ak 95 [(cV v0), (cV (.i 162)), (cV v1)] k e s) fun v2 s=>.au (dh e fun r=>{r with a1:=v0,a2:=v1,a3:=v2}) s
def GJ:aB:=lt (g0 e) fun v0=>bE (ak 66 [(cV v0), (cV (.i 2))] k e s) fun v1 s=>.au (dh e fun r=>{r with a4:=v0,a5:=v1}) s
def zH:aB:=lt (g0 e) fun v0=>lt (g4 e) fun v1=>bE (ak 64 [(cV v0), (cV (.i 132)), (cV v1), (cV (.i 1))] k e s) fun v2 s=>.au (dh e fun r=>{r with a6:=v0,a7:=v1,a8:=v2}) s
def CO:aB:=lt (g0 e) fun v0=>lt (g2 e) fun v1=>bE (ak 95 [(cV v0), (cV (.i 167)), (cV v1)] k e s) fun v2 s=>.au (dh e fun r=>{r with a9:=v0,a10:=v1,a11:=v2}) s
def Dz:aB:=lt (g0 e) fun v0=>lt (g3 e) fun v1=>bE (ak 96 [cV v0,cV v1] k e s) fun v2 s=>.au (dh e fun r=>{r with a12:=v0,a13:=v1,a14:=v2}) s
def EF:aB:=lt (g0 e) fun v0=>bE (ak 64 [(cV v0), (cV (.i 0)), (cV (.i 0)), (cV (.i 0))] k e s) fun v1 s=>.au (u48 (u47 e v0) v1) s
def J8:aB:=af Tg (af UU (af Q_ (af RL (af Rx (af Ap (af Cr (af Ep (af Ez (af GJ (af zH (af CO (af Dz EF)))))))))))) k e s
def ZD : aY := ⟨[u0], J8, aM []⟩
theorem abc : aJ tt [] fok Try.f87 = some ZD := by kernel_rfl
theorem Pf : aI Try.prog [] 87 ZD := aI.of (az bY bA mixed Try.func87 abc)
def Ql:aB:=lt (g0 e) fun v0=>bP (aA bx (cV v0) e) fun v1=>bP (aA (aC 0) (cV v1) e) fun v2=>bP ((aO (cV v2)) e s) fun v3=>bE (ak 49 [(cV v3), (cV (.i 4))] k e s) fun v4 s=>.au (bJ e fun r=>{r with a2:=v0,a3:=v1,a4:=v2,a5:=v3,a6:=v4}) s
def Ur:Den:=fun _ e s=>bP (aj (bI bh) g6 (cV (.i 0)) e) fun v0=>.au (bJ e fun r=>{r with a7:=v0,a8:=v0}) s
def PT:aB:=lt (g0 e) fun v0=>bE (ak 67 [(cV v0), (cV (.i 1))] k e s) fun v1 s=>.au (bJ e fun r=>{r with a9:=v0,a10:=v1}) s
def RK:aB:=lt (g0 e) fun v0=>bE (ak 64 [(cV v0), (cV (.i 188)), (cV (.i 10)), (cV (.i 0))] k e s) fun v1 s=>.au (bJ e fun r=>{r with a11:=v0,a12:=v1}) s
def Ak:aB:=lt (g0 e) fun v0=>bE (ak 64 [(cV v0), (cV (.i 58)), (cV (.i 6)), (cV (.i 0))] k e s) fun v1 s=>.au (bJ e fun r=>{r with a13:=v0,a14:=v1}) s
def Kp:Den:=fun _ e s=>bP (aj (bI bh) g6 (cV (.i 1)) e) fun v0=>.au (u16 (u15 e v0) v0) s
def LG:aB:=lt (g0 e) fun v0=>lt (g0 e) fun v1=>bP (aA bx (cV v1) e) fun v2=>bP (aA (aC 0) (cV v2) e) fun v3=>bP ((aO (cV v3)) e s) fun v4=>bE (ak 49 [(cV v4), (cV (.i 9))] k e s) fun v5 s=>bE (ak 64 [(cV v0), (cV (.i 16)), (cV v5), (cV (.i 0))] k e s) fun v6 s=>.au (cN e fun r=>{r with a1:=v0,a2:=v1,a3:=v2,a4:=v3,a5:=v4,a6:=v5,a7:=v6}) s
def I4:aB:=lt (g0 e) fun v0=>lt (g0 e) fun v1=>bE (dm (cG 2 1 [(.str []), (.str [])] [(0, 1, (cV (.str [65]))), (1, 1, (cV (.str [66])))] e s.next) s) fun v2 s=>lt (g0 e) fun v3=>bP (aA bx (cV v3) e) fun v4=>bP (aA (aC 0) (cV v4) e) fun v5=>bP ((aO (cV v5)) e s) fun v6=>bE (ak 49 [(cV v6), (cV (.i 2))] k e s) fun v7 s=>bP (aj (aQ 1) (cV v2) (cV v7) e) fun v8=>bP ((aO (cV v8)) e s) fun v9=>bE (ak 81 [cV v1,cV v9] k e s) fun v10 s=>bE (ak 64 [(cV v0), (cV (.i 189)), (cV v10), (cV (.i 0))] k e s) fun v11 s=>.au (dh (cN e fun r=>{r with a8:=v0,a9:=v1,a10:=v2,a11:=v3,a12:=v4,a13:=v5,a14:=v6,a15:=v7}) fun r=>{r with a0:=v8,a1:=v9,a2:=v10,a3:=v11}) s
def Cm:aB:=lt (g0 e) fun v0=>bE (ak 64 [(cV v0), (cV (.i 58)), (cV (.i 9)), (cV (.i 0))] k e s) fun v1 s=>.au (dh e fun r=>{r with a4:=v0,a5:=v1}) s
def Ev:Den:=fun _ e s=>bP (aj (bI bh) g6 (cV (.i 2)) e) fun v0=>.au (dh e fun r=>{r with a6:=v0,a7:=v0}) s
def HY:aB:=lt (g0 e) fun v0=>bE (ak 64 [(cV v0), (cV (.i 25)), (cV (.i 6)), (cV (.i 0))] k e s) fun v1 s=>.au (dh e fun r=>{r with a8:=v0,a9:=v1}) s
def Ji:aB:=lt (g0 e) fun v0=>bE (ak 67 [(cV v0), (cV (.i 1))] k e s) fun v1 s=>.au (dh e fun r=>{r with a10:=v0,a11:=v1}) s
def zS:aB:=lt (g0 e) fun v0=>bE (ak 67 [(cV v0), (cV (.i 2))] k e s) fun v1 s=>.au (dh e fun r=>{r with a12:=v0,a13:=v1}) s
def BC:aB:=lt (g0 e) fun v0=>bE (ak 64 [(cV v0), (cV (.i 79)), (cV (.i 0)), (cV (.i 0))] k e s) fun v1 s=>.au (dh e fun r=>{r with a14:=v0,a15:=v1}) s
def FE:Den:=fun _ e s=>bP (aj (bI bh) g6 (cV (.i 3)) e) fun v0=>.au (fW e fun r=>{r with a0:=v0,a1:=v0}) s
def Kt:aB:=lt (g0 e) fun v0=>bE (ak 64 [(cV v0), (cV (.i 25)), (cV (.i 9)), (cV (.i 0))] k e s) fun v1 s=>.au (fW e fun r=>{r with a2:=v0,a3:=v1}) s
def DX:aB:=lt (g0 e) fun v0=>lt (g0 e) fun v1=>bP (aA bx (cV v1) e) fun v2=>bP (aA (aC 0) (cV v2) e) fun v3=>bP ((aO (cV v3)) e s) fun v4=>bE (ak 49 [(cV v4), (cV (.i 4))] k e s) fun v5 s=>bP (aj (bI bQ) (cV (.i 3)) (cV v5) e) fun v6=>bE (ak 64 [(cV v0), (cV v6), (cV (.i 0)), (cV (.i 0))] k e s) fun v7 s=>.au (fW e fun r=>{r with a4:=v0,a5:=v1,a6:=v2,a7:=v3,a8:=v4,a9:=v5,a10:=v6,a11:=v7}) s
def zZ:aB:=lt (g0 e) fun v0=>bE (ak 78 [(cV v0), (cV (.i 2))] k e s) fun v1 s=>.au (fW e fun r=>{r with a12:=v0,a13:=v1}) s
def IG:aB:=lt (g0 e) fun v0=>bE (ak 64 [(cV v0), (cV (.i 83)), (cV (.i 0)), (cV (.i 0))] k e s) fun v1 s=>.au (fW e fun r=>{r with a14:=v0,a15:=v1}) s
def zu:aB:=af Ql (aG 0 (af Ur (av g7 (af PT (af RK Ak)) (af Kp (av g15 (af LG (af I4 Cm)) (af Ev (av g38 (af HY (af Ji (af zS BC))) (af FE (av g48 (af Kt (af DX (af zZ IG))) ay))))))))) k e s
def ZE : aY := ⟨[u0], zu, aM []⟩
theorem Yg : aJ tt [] fok Try.f88 = some ZE := by kernel_rfl
theorem Us : aI Try.prog [] 88 ZE := aI.of (az bY bA mixed Try.func88 Yg)
def QE:aB:=lt (g0 e) fun v0=>bE (ak 94 [cV v0] k e s) fun v1 s=>.au (bJ e fun r=>{r with a2:=v1,a6:=v0,a7:=v1}) s
def Px:aB:=lt (g0 e) fun v0=>bE (ak 94 [cV v0] k e s) fun v1 s=>.au (bJ e fun r=>{r with a3:=v1,a8:=v0,a9:=v1}) s
def TV:aB:=lt (g0 e) fun v0=>bE (ak 94 [cV v0] k e s) fun v1 s=>.au (bJ e fun r=>{r with a4:=v1,a10:=v0,a11:=v1}) s
def TR:aB:=lt (g0 e) fun v0=>bE (ak 94 [cV v0] k e s) fun v1 s=>.au (bJ e fun r=>{r with a5:=v1,a12:=v0,a13:=v1}) s
def Qe:aB:=lt (g0 e) fun v0=>lt (g2 e) fun v1=>bE (ak 96 [cV v0,cV v1] k e s) fun v2 s=>.au (u16 (bJ e fun r=>{r with a14:=v0,a15:=v1}) v2) s
def I1:aB:=lt (g0 e) fun v0=>bE (ak 64 [(cV v0), (cV (.i 0)), (cV (.i 0)), (cV (.i 0))] k e s) fun v1 s=>.au (cN e fun r=>{r with a1:=v0,a2:=v1}) s
def Is:aB:=lt (g0 e) fun v0=>bE (ak 66 [(cV v0), (cV (.i 2))] k e s) fun v1 s=>.au (cN e fun r=>{r with a3:=v0,a4:=v1}) s
def AG:aB:=lt (g0 e) fun v0=>lt (g3 e) fun v1=>bE (ak 96 [cV v0,cV v1] k e s) fun v2 s=>.au (cN e fun r=>{r with a5:=v0,a6:=v1,a7:=v2}) s
def JW:aB:=lt (g0 e) fun v0=>lt (g5 e) fun v1=>bE (ak 95 [(cV v0), (cV (.i 167)), (cV v1)] k e s) fun v2 s=>.au (cN e fun r=>{r with a8:=v0,a9:=v1,a10:=v2}) s
def J5:aB:=lt (g0 e) fun v0=>lt (g4 e) fun v1=>bE (ak 96 [cV v0,cV v1] k e s) fun v2 s=>.au (cN e fun r=>{r with a11:=v0,a12:=v1,a13:=v2}) s
def Hi:aB:=lt (g0 e) fun v0=>lt (g0 e) fun v1=>bP (aA bx (cV v1) e) fun v2=>bP (aA (aC 8) (cV v2) e) fun v3=>bP ((aO (cV v3)) e s) fun v4=>lt (g4 e) fun v5=>bE (dm (cG 1 1 [(.i 0)] [(0, 1, (cV v5))] e s.next) s) fun v6 s=>bE (oB 1 (cV v4) (cV v6) k e s) fun v7 s=>bP (aA bx (cV v0) e) fun v8=>bP (aA (aC 8) (cV v8) e) fun v9=>bE (dW 1 (cV v9) (cV v7) k e s) fun v10 s=>.au (dh (cN e fun r=>{r with a14:=v0,a15:=v1}) fun r=>{r with a0:=v2,a1:=v3,a2:=v4,a3:=v5,a4:=v6,a5:=v7,a6:=v8,a7:=v9}) s
def Bj:aB:=lt (g0 e) fun v0=>bE (ak 64 [(cV v0), (cV (.i 58)), (cV (.i 7)), (cV (.i 0))] k e s) fun v1 s=>.au (dh e fun r=>{r with a8:=v0,a9:=v1}) s
def GB:aB:=lt (g0 e) fun v0=>lt (g0 e) fun v1=>bP (aA bx (cV v1) e) fun v2=>bP (aA (aC 7) (cV v2) e) fun v3=>bP ((aO (cV v3)) e s) fun v4=>lt (g2 e) fun v5=>lt (g3 e) fun v6=>lt (g4 e) fun v7=>bP (bF [(.i 0), (.i 0), (.i 0)] [(0, 1, (cV v5)), (1, 1, (cV v6)), (2, 1, (cV v7))] e) fun v8=>bE (dm (cG 1 3 [(.i 0), (.i 0), (.i 0)] [(0, 3, (cV v8))] e s.next) s) fun v9 s=>bE (jR 3 (cV v4) (cV v9) k e s) fun v10 s=>bP (aA bx (cV v0) e) fun v11=>bP (aA (aC 7) (cV v11) e) fun v12=>bE (dW 1 (cV v12) (cV v10) k e s) fun v13 s=>.au (fW (dh e fun r=>{r with a10:=v0,a11:=v1,a12:=v2,a13:=v3,a14:=v4,a15:=v5}) fun r=>{r with a0:=v6,a1:=v7,a2:=v8,a3:=v9,a4:=v10,a5:=v11,a6:=v12}) s
def JY:aB:=lt (g0 e) fun v0=>bE (ak 66 [(cV v0), (cV (.i 1))] k e s) fun v1 s=>.au (fW e fun r=>{r with a7:=v0,a8:=v1}) s
def IS:aB:=lt (g0 e) fun v0=>bP (aA bx (cV v0) e) fun v1=>bP (aA (aC 0) (cV v1) e) fun v2=>bP ((aO (cV v2)) e s) fun v3=>bE (ak 49 [(cV v3), (cV (.i 4))] k e s) fun v4 s=>bP (aj (bI bh) (cV v4) (cV (.i 0)) e) fun v5=>.au (fW e fun r=>{r with a9:=v0,a10:=v1,a11:=v2,a12:=v3,a13:=v4,a14:=v5}) s
def KB:aB:=lt (g0 e) fun v0=>bE (ak 64 [(cV v0), (cV (.i 25)), (cV (.i 7)), (cV (.i 0))] k e s) fun v1 s=>.au (u64 (u63 e v0) v1) s
def Bq:aB:=lt (g0 e) fun v0=>bE (ak 64 [(cV v0), (cV (.i 191)), (cV (.i 0)), (cV (.i 0))] k e s) fun v1 s=>.au (jj e fun r=>{r with a1:=v0,a2:=v1}) s
def AM:aB:=lt (g0 e) fun v0=>lt (g5 e) fun v1=>bE (ak 96 [cV v0,cV v1] k e s) fun v2 s=>.au (jj e fun r=>{r with a3:=v0,a4:=v1,a5:=v2}) s
def CQ:aB:=lt (g0 e) fun v0=>bE (ak 64 [(cV v0), (cV (.i 0)), (cV (.i 0)), (cV (.i 0))] k e s) fun v1 s=>.au (jj e fun r=>{r with a6:=v0,a7:=v1}) s
def Kg:aB:=af QE (af Px (af TV (af TR (af Qe (af I1 (af Is (af AG (af JW (af J5 (af Hi (af Bj (af GB (af JY (af (af IS (av g62 (af KB Bq) ay)) (af AM CQ))))))))))))))) k e s
def YM : aY := ⟨[u0], Kg, aM []⟩
theorem Z0 : aJ tt [] fok Try.f89 = some YM := by kernel_rfl
theorem Si : aI Try.prog [] 89 YM := aI.of (az bY bA mixed Try.func89 Z0)
def RR:aB:=lt (g0 e) fun v0=>bP (aA bx (cV v0) e) fun v1=>bP (aA (aC 0) (cV v1) e) fun v2=>bP ((aO (cV v2)) e s) fun v3=>bE (ak 49 [(cV v3), (cV (.i 2))] k e s) fun v4 s=>bP (aj (bI bQ) (cV (.i 4)) (cV v4) e) fun v5=>.au (bJ e fun r=>{r with a2:=v5,a4:=v0,a5:=v1,a6:=v2,a7:=v3,a8:=v4,a9:=v5}) s
def Uk:aB:=lt (g0 e) fun v0=>lt (g2 e) fun v1=>bE (ak 64 [(cV v0), (cV (.i 25)), (cV v1), (cV (.i 0))] k e s) fun v2 s=>.au (bJ e fun r=>{r with a10:=v0,a11:=v1,a12:=v2}) s
def Ue:aB:=lt (g0 e) fun v0=>bE (ak 64 [(cV v0), (cV (.i 194)), (cV (.i 0)), (cV (.i 0))] k e s) fun v1 s=>.au (bJ e fun r=>{r with a13:=v0,a14:=v1}) s
def QX:aB:=lt (g0 e) fun v0=>bE (ak 66 [(cV v0), (cV (.i 1))] k e s) fun v1 s=>.au (u16 (u15 e v0) v1) s
def TG:aB:=lt (g0 e) fun v0=>bP (aA bx (cV v0) e) fun v1=>bP (aA (aC 0) (cV v1) e) fun v2=>bP ((aO (cV v2)) e s) fun v3=>bE (ak 49 [(cV v3), (cV (.i 4))] k e s) fun v4 s=>.au (cN (u3 e v4) fun r=>{r with a1:=v0,a2:=v1,a3:=v2,a4:=v3,a5:=v4}) s
def IA:Den:=fun _ e s=>lt (g3 e) fun v0=>bP (aj (bI fN) (cV v0) (cV (.i 3)) e) fun v1=>.au (cN e fun r=>{r with a6:=v0,a7:=v1}) s
def Av:aB:=lt (g0 e) fun v0=>lt (g2 e) fun v1=>bE (ak 64 [(cV v0), (cV (.i 25)), (cV v1), (cV (.i 0))] k e s) fun v2 s=>.au (cN e fun r=>{r with a8:=v0,a9:=v1,a10:=v2}) s
def Az:aB:=lt (g0 e) fun v0=>lt (g0 e) fun v1=>bE (dm (cG 3 1 [(.str []), (.str []), (.str [])] [(0, 1, (cV (.str [110, 111, 116, 105, 102, 121]))), (1, 1, (cV (.str [110, 111, 116, 105, 102, 121, 65, 108, 108]))), (2, 1, (cV (.str [119, 97, 105, 116])))] e s.next) s) fun v2 s=>lt (g3 e) fun v3=>bP (aj (aQ 1) (cV v2) (cV v3) e) fun v4=>bP ((aO (cV v4)) e s) fun v5=>bE (ak 80 [(cV v1), (cV (.str [79, 98, 106, 101, 99, 116])), (cV v5), (cV (.str [40, 41, 86]))] k e s) fun v6 s=>bE (ak 64 [(cV v0), (cV (.i 182)), (cV v6), (cV (.i 0))] k e s) fun v7 s=>.au (dh (cN e fun r=>{r with a11:=v0,a12:=v1,a13:=v2,a14:=v3,a15:=v4}) fun r=>{r with a0:=v5,a1:=v6,a2:=v7}) s
def Jm:aB:=lt (g0 e) fun v0=>lt (g2 e) fun v1=>bE (ak 64 [(cV v0), (cV (.i 25)), (cV v1), (cV (.i 0))] k e s) fun v2 s=>.au (dh e fun r=>{r with a3:=v0,a4:=v1,a5:=v2}) s
def Gj:aB:=lt (g0 e) fun v0=>bE (ak 64 [(cV v0), (cV (.i 195)), (cV (.i 0)), (cV (.i 0))] k e s) fun v1 s=>.au (dh e fun r=>{r with a6:=v0,a7:=v1}) s
def IX:aB:=af RR (af Uk (af Ue (af QX (af TG (af (af IA (av g23 (af Av Az) ay)) (af Jm Gj)))))) k e s
def ZF : aY := ⟨[u0], IX, aM []⟩
theorem Zm : aJ tt [] fok Try.f90 = some ZF := by kernel_rfl
theorem Tl : aI Try.prog [] 90 ZF := aI.of (az bY bA mixed Try.func90 Zm)
def Pk:aB:=lt (g0 e) fun v0=>bP (aA bx (cV v0) e) fun v1=>bP (aA (aC 0) (cV v1) e) fun v2=>bP ((aO (cV v2)) e s) fun v3=>bE (ak 49 [(cV v3), (cV (.i 4))] k e s) fun v4 s=>.au (bJ e fun r=>{r with a2:=v0,a3:=v1,a4:=v2,a5:=v3,a6:=v4}) s
def SS:Den:=fun _ e s=>bP (aj (bI bh) g6 (cV (.i 0)) e) fun v0=>.au (bJ e fun r=>{r with a7:=v0,a8:=v0}) s
def O6:aB:=lt (g0 e) fun v0=>lt (g0 e) fun v1=>bE (ak 81 [(cV v1), (cV (.str [84]))] k e s) fun v2 s=>bE (ak 64 [(cV v0), (cV (.i 187)), (cV v2), (cV (.i 0))] k e s) fun v3 s=>.au (bJ e fun r=>{r with a9:=v0,a10:=v1,a11:=v2,a12:=v3}) s
def SG:aB:=lt (g0 e) fun v0=>bE (ak 64 [(cV v0), (cV (.i 58)), (cV (.i 8)), (cV (.i 0))] k e s) fun v1 s=>.au (bJ e fun r=>{r with a13:=v0,a14:=v1}) s
def EP:Den:=fun _ e s=>bP (aj (bI bh) g6 (cV (.i 1)) e) fun v0=>.au (u16 (u15 e v0) v0) s
def JN:aB:=lt (g0 e) fun v0=>bE (ak 64 [(cV v0), (cV (.i 25)), (cV (.i 8)), (cV (.i 0))] k e s) fun v1 s=>.au (cN e fun r=>{r with a1:=v0,a2:=v1}) s
def AX:aB:=lt (g0 e) fun v0=>lt (g0 e) fun v1=>bE (ak 80 [(cV v1), (cV (.str [84, 104, 114, 101, 97, 100])), (cV (.str [115, 116, 97, 114, 116])), (cV (.str [40, 41, 86]))] k e s) fun v2 s=>bE (ak 64 [(cV v0), (cV (.i 182)), (cV v2), (cV (.i 0))] k e s) fun v3 s=>.au (cN e fun r=>{r with a3:=v0,a4:=v1,a5:=v2,a6:=v3}) s
def Ky:Den:=fun _ e s=>bP (aj (bI bh) g6 (cV (.i 2)) e) fun v0=>.au (cN e fun r=>{r with a7:=v0,a8:=v0}) s
def AL:aB:=lt (g0 e) fun v0=>bE (ak 64 [(cV v0), (cV (.i 25)), (cV (.i 8)), (cV (.i 0))] k e s) fun v1 s=>.au (cN e fun r=>{r with a9:=v0,a10:=v1}) s
def Bs:aB:=lt (g0 e) fun v0=>lt (g0 e) fun v1=>bE (ak 80 [(cV v1), (cV (.str [84, 104, 114, 101, 97, 100])), (cV (.str [106, 111, 105, 110])), (cV (.str [40, 41, 86]))] k e s) fun v2 s=>bE (ak 64 [(cV v0), (cV (.i 182)), (cV v2), (cV (.i 0))] k e s) fun v3 s=>.au (cN e fun r=>{r with a11:=v0,a12:=v1,a13:=v2,a14:=v3}) s
def Ad:Den:=fun _ e s=>bP (aj (bI bh) g6 (cV (.i 3)) e) fun v0=>.au (u32 (u31 e v0) v0) s
def C9:aB:=lt (g0 e) fun v0=>lt (g0 e) fun v1=>bP (aA bx (cV v1) e) fun v2=>bP (aA (aC 0) (cV v2) e) fun v3=>bP ((aO (cV v3)) e s) fun v4=>bE (ak 49 [(cV v4), (cV (.i 4))] k e s) fun v5 s=>bP (aj (bI bQ) (cV (.i 3)) (cV v5) e) fun v6=>bE (ak 64 [(cV v0), (cV v6), (cV (.i 0)), (cV (.i 0))] k e s) fun v7 s=>.au (dh e fun r=>{r with a1:=v0,a2:=v1,a3:=v2,a4:=v3,a5:=v4,a6:=v5,a7:=v6,a8:=v7}) s
def Dm:aB:=lt (g0 e) fun v0=>lt (g0 e) fun v1=>bE (ak 80 [(cV v1), (cV (.str [83, 121, 115, 116, 101, 109])), (cV (.str [115, 108, 101, 101, 112])), (cV (.str [40, 73, 41, 86]))] k e s) fun v2 s=>bE (ak 64 [(cV v0), (cV (.i 184)), (cV v2), (cV (.i 0))] k e s) fun v3 s=>.au (dh e fun r=>{r with a9:=v0,a10:=v1,a11:=v2,a12:=v3}) s
def Gs:aB:=af Pk (aG 0 (af SS (av g7 (af O6 SG) (af EP (av g15 (af JN AX) (af Ky (av g23 (af AL Bs) (af Ad (av g31 (af C9 Dm) ay))))))))) k e s
def YZ : aY := ⟨[u0], Gs, aM []⟩
theorem aa2 : aJ tt [] fok Try.f91 = some YZ := by kernel_rfl
theorem Uc : aI Try.prog [] 91 YZ := aI.of (az bY bA mixed Try.func91 aa2)
def QH:Den:=fun _ e s=>bE (dm (jZ g1 e s.next) s) fun v0 s=>bM (V.ax) fun v1=>bM (V.i 0) fun v2=>bM (V.i 0) fun v3=>.au (bJ e fun r=>{r with a3:=v0,a4:=v1,a5:=v2,a6:=v3}) s
def Qh:aB:=bP ((di 5 g3) e s) fun v0=>bE (ak 97 [cV v0] k e s) fun v1 s=>bP (aA jw (cV v1) e) fun v2=>.au (bJ e fun r=>{r with a9:=v0,a10:=v1,a11:=v2}) s
def UF:Den:=fun _ e s=>bM (V.ax) fun v0=>bM (V.i 0) fun v1=>bM (V.i 14) fun v2=>.au (bJ e fun r=>{r with a4:=v0,a5:=v1,a6:=v2}) s
def Sc:aB:=bE (dm (cG 0 5 [] [] e s.next) s) fun v0 s=>lt (g0 e) fun v1=>bE (jR 5 (cV v0) (cV v1) k e s) fun v2 s=>.au (bJ e fun r=>{r with a7:=v2,a12:=v0,a13:=v1,a14:=v2}) s
def zw:Den:=fun _ e s=>bM (V.i 0) fun v0=>.au (u8 e v0) s
def Ac:Den:=fun _ e s=>lt (g8 e) fun v0=>lt (g0 e) fun v1=>bP (aA aP (cV v1) e) fun v2=>bP (aj (bI fN) (cV v0) (cV v2) e) fun v3=>.au (cN (u15 e v0) fun r=>{r with a0:=v1,a1:=v2,a2:=v3}) s
def Hj:Den:=fun _ e s=>lt (g0 e) fun v0=>lt (g8 e) fun v1=>bP (aj (aQ 5) (cV v0) (cV v1) e) fun v2=>bP ((di 5 (cV v2)) e s) fun v3=>bP ((di 5 g3) e s) fun v4=>bP (aj (KR false [.i, .i, .s, .s, .s]) (cV v3) (cV v4) e) fun v5=>.au (cN e fun r=>{r with a5:=v0,a6:=v1,a7:=v2,a8:=v3,a9:=v4,a10:=v5}) s
def z_:Den:=fun _ e s=>lt (g7 e) fun v0=>lt (g8 e) fun v1=>bM (V.i 0) fun v2=>.au (cN (bJ e fun r=>{r with a4:=v0,a5:=v1,a6:=v2}) fun r=>{r with a11:=v0,a12:=v1}) s
def K9:Den:=fun _ e s=>lt (g8 e) fun v0=>bP (aj (bI bQ) (cV v0) (cV (.i 1)) e) fun v1=>.au (cN (u8 e v1) fun r=>{r with a3:=v0,a4:=v1}) s
def AB:Den:=fun _ e s=>lt (g0 e) fun v0=>bP (aA aP (cV v0) e) fun v1=>bP (aj (bI qD) (cV v1) (cV (.i 256)) e) fun v2=>.au (cN e fun r=>{r with a13:=v0,a14:=v1,a15:=v2}) s
def IY:Den:=fun _ e s=>bM (V.ax) fun v0=>bM (V.i 0) fun v1=>bM (V.i 4) fun v2=>.au (bJ e fun r=>{r with a4:=v0,a5:=v1,a6:=v2}) s
def F_:aB:=lt (g7 e) fun v0=>bP ((di 5 g3) e s) fun v1=>bE (dm (cG 1 5 [(.i 0), (.int .i32 0), (.str []), (.str []), (.str [])] [(0, 5, (cV v1))] e s.next) s) fun v2 s=>bE (jR 5 (cV v0) (cV v2) k e s) fun v3 s=>lt (g0 e) fun v4=>bP (aA aP (cV v4) e) fun v5=>bM (V.i 0) fun v6=>.au (dh (bJ e fun r=>{r with a4:=v3,a5:=v5,a6:=v6}) fun r=>{r with a0:=v0,a1:=v1,a2:=v2,a3:=v3,a4:=v4,a5:=v5}) s
def Er:aB:=af QH (af (af Qh (av g11 (af UF aU) ay)) (af Sc (af (af zw (aG 0 (cB (af (af Ac (av g18 ay (bW 0))) (af (aG 1 (af Hj (av g26 (af z_ aU) ay))) K9))))) (af (af AB (av g31 (af IY aU) ay)) (af F_ aU))))) k e s
def F92 : aY := ⟨[u0, u1], Er, aM [rT g4, rT g5, rT g6]⟩
theorem aaB : aJ tt [] fok Try.f92 = some F92 := by kernel_rfl
theorem Tf : aI Try.prog [] 92 F92 := aI.of (az bY bA mixed Try.func92 aaB)
def Uo:Den:=fun _ e s=>bE (dm (jZ g0 e s.next) s) fun v0 s=>bM (V.ax) fun v1=>bM (V.bool false) fun v2=>.au (bJ e fun r=>{r with a1:=v0,a2:=v1,a3:=v2}) s
def SA:aB:=bP (aA (aC 1) g1 e) fun v0=>bP ((aO (cV v0)) e s) fun v1=>bE (ak 46 [cV v1] k e s) fun v2 s=>.au (bJ e fun r=>{r with a4:=v2,a6:=v0,a7:=v1,a8:=v2}) s
def RB:Den:=fun _ e s=>bP (aA (aC 1) g1 e) fun v0=>bP ((aO (cV v0)) e s) fun v1=>bP (aj (bI bh) (cV v1) (cV (.i 132)) e) fun v2=>.au (bJ e fun r=>{r with a9:=v0,a10:=v1,a11:=v2}) s
def Q7:aB:=jt 1 [⟨none, (.p (aA (aC 1) g1)), u12⟩, ⟨none, (.d 0 2 (aO g12)), u13⟩, ⟨none, (.p (aA (cQ .u8) g13)), u14⟩, ⟨none, (.p (aA (aC 2) g1)), u15⟩, ⟨none, (.d 0 2 (aO g15)), u16⟩, ⟨none, (.p (aA (cQ .u8) g16)), u17⟩, ⟨none, (.p (aA (aC 3) g1)), u18⟩, ⟨none, (.d 0 2 (aO g18)), u19⟩, ⟨none, (.p (aA (cQ .u8) g19)), u20⟩, ⟨none, (.a (cG 3 1 [(.int .u8 0), (.int .u8 0), (.int .u8 0)] [(0, 1, g14), (1, 1, g17), (2, 1, g20)])), u21⟩, ⟨none, (.p (aA (aC 2) g1)), u22⟩, ⟨none, (.d 1 0 (aO g22)), u23⟩, ⟨none, (.e [] (ak 98 [g23, (cV (.i 0)), (cV (.i 255))])), u24⟩, ⟨none, (.p (aD g24)), u25⟩, ⟨(some (25, true)), (.p (aA (aC 3) g1)), u26⟩, ⟨(some (25, true)), (.d 1 0 (aO g26)), u27⟩, ⟨(some (25, true)), (.e [] (ak 98 [g27, (cV (.i (-128))), (cV (.i 127))])), u28⟩, ⟨none, (.p (aN g25 g28 (cV (.bool false)))), u29⟩, ⟨none, (.p (aD g21)), u2⟩, ⟨none, (.p (aD g29)), u3⟩] k e s
def KL:Den:=fun _ e s=>bP (aA (aC 2) g1 e) fun v0=>bP ((aO (cV v0)) e s) fun v1=>.au (cN (u5 e v1) fun r=>{r with a14:=v0,a15:=v1}) s
def LP:aB:=bP (aA (aC 1) g1 e) fun v0=>bP ((aO (cV v0)) e s) fun v1=>bE (ak 18 [cV v1] k e s) fun v2 s=>.au (dh e fun r=>{r with a0:=v0,a1:=v1,a2:=v2}) s
def Ju:aB:=bP (aA (aC 2) g1 e) fun v0=>bP ((aO (cV v0)) e s) fun v1=>bE (ak 98 [(cV v1), (cV (.i (-1048576))), (cV (.i 1048576))] k e s) fun v2 s=>bP (aA jw (cV v2) e) fun v3=>.au (dh e fun r=>{r with a3:=v0,a4:=v1,a5:=v2,a6:=v3}) s
def I7:Den:=fun _ e s=>bM (V.ax) fun v0=>bM (V.bool false) fun v1=>.au (bJ e fun r=>{r with a2:=v0,a3:=v1}) s
def K8:Den:=fun _ e s=>bP (aA (aC 2) g1 e) fun v0=>bP ((aO (cV v0)) e s) fun v1=>bP (aA (aC 0) g1 e) fun v2=>bP ((aO (cV v2)) e s) fun v3=>bP (aj (bI ep) (cV v1) (cV v3) e) fun v4=>.au (dh (u5 e v4) fun r=>{r with a7:=v0,a8:=v1,a9:=v2,a10:=v3,a11:=v4}) s
def Af:Den:=fun _ e s=>lt (g4 e) fun v0=>bP (aj (bI bh) (cV v0) (cV (.i 1)) e) fun v1=>.au (dh e fun r=>{r with a12:=v1,a13:=v0,a14:=v1}) s
def Gv:aB:=gT [⟨none, (.p (aA (aC 1) g1)), u47⟩, ⟨none, (.d 0 0 (aO g47)), u48⟩, ⟨none, (.p (aA (cQ .u8) g48)), u49⟩, ⟨none, (.a (cG 1 1 [(.int .u8 0)] [(0, 1, g49)])), u50⟩, ⟨none, (.p (aA (aC 2) g1)), u51⟩, ⟨none, (.d 0 0 (aO g51)), u52⟩, ⟨none, (.p (aj (bI bh) g52 (cV (.i 0)))), u53⟩, ⟨none, (.p (aD g53)), u54⟩, ⟨(some (54, true)), (.p (aA (aC 3) g1)), u55⟩, ⟨(some (54, true)), (.d 0 0 (aO g55)), u56⟩, ⟨(some (54, true)), (.p (aj (bI bh) g56 (cV (.i 0)))), u57⟩, ⟨none, (.p (aN g54 g57 (cV (.bool false)))), u58⟩, ⟨none, (.p (aD g50)), u2⟩, ⟨none, (.p (aD g58)), u3⟩] k e s
def AR:aB:=lt (g4 e) fun v0=>bP (aj (bI bh) (cV v0) (cV (.i 2)) e) fun v1=>bP (aL v1 true (aA (aC 1) g1 e)) fun v2=>bP (aL v1 true ((aO (cV v2)) e s)) fun v3=>bE (iH v1 true s (ak 47 [cV v3] k e s)) fun v4 s=>bP (aN (cV v1) (cV v4) (cV (.bool false)) e) fun v5=>.au (jj (fW e fun r=>{r with a11:=v5,a12:=v0,a13:=v1,a14:=v1,a15:=v2}) fun r=>{r with a0:=v3,a1:=v4,a2:=v5}) s
def Gw:aB:=jt 1 [⟨none, (.p (aA (aC 1) g1)), u67⟩, ⟨none, (.d 0 1 (aO g67)), u68⟩, ⟨none, (.p (aA (cQ .u8) g68)), u69⟩, ⟨none, (.p (aD g5)), u70⟩, ⟨none, (.p (aA (cQ .u8) g70)), u71⟩, ⟨none, (.a (cG 2 1 [(.int .u8 0), (.int .u8 0)] [(0, 1, g69), (1, 1, g71)])), u72⟩, ⟨none, (.p (aA (aC 3) g1)), u73⟩, ⟨none, (.d 1 0 (aO g73)), u74⟩, ⟨none, (.p (aj (bI bh) g74 (cV (.i 0)))), u75⟩, ⟨none, (.p (aD g75)), u76⟩, ⟨(some (76, true)), (.p (aD g5)), u77⟩, ⟨(some (76, true)), (.e [] (ak 98 [g77, (cV (.i (-128))), (cV (.i 127))])), u78⟩, ⟨none, (.p (aN g76 g78 (cV (.bool false)))), u79⟩, ⟨none, (.p (aD g72)), u2⟩, ⟨none, (.p (aD g79)), u3⟩] k e s
def zK:Den:=fun _ e s=>lt (g4 e) fun v0=>bP (aj (bI bh) (cV v0) (cV (.i 2)) e) fun v1=>.au (kL e fun r=>{r with a0:=v1,a1:=v0,a2:=v1}) s
def Lu:aB:=jt 1 [⟨none, (.p (aA (aC 1) g1)), u83⟩, ⟨none, (.d 0 1 (aO g83)), u84⟩, ⟨none, (.p (aA (cQ .u8) g84)), u85⟩, ⟨none, (.p (aD g5)), u86⟩, ⟨none, (.p (aA (cQ .u8) g86)), u87⟩, ⟨none, (.a (cG 2 1 [(.int .u8 0), (.int .u8 0)] [(0, 1, g85), (1, 1, g87)])), u88⟩, ⟨none, (.p (aA (aC 3) g1)), u89⟩, ⟨none, (.d 1 0 (aO g89)), u90⟩, ⟨none, (.p (aj (bI bh) g90 (cV (.i 0)))), u91⟩, ⟨none, (.p (aD g91)), u92⟩, ⟨(some (92, true)), (.p (aD g5)), u93⟩, ⟨(some (92, true)), (.e [] (ak 98 [g93, (cV (.i 0)), (cV (.i 255))])), u94⟩, ⟨none, (.p (aN g92 g94 (cV (.bool false)))), u95⟩, ⟨none, (.p (aD g88)), u2⟩, ⟨none, (.p (aD g95)), u3⟩] k e s
def ze:aB:=bP (aA (aC 1) g1 e) fun v0=>bP ((aO (cV v0)) e s) fun v1=>bE (ak 47 [cV v1] k e s) fun v2 s=>.au (mN e fun r=>{r with a0:=v2,a1:=v0,a2:=v1,a3:=v2}) s
def ET:aB:=jt 1 [⟨none, (.p (aA (aC 1) g1)), u100⟩, ⟨none, (.d 0 1 (aO g100)), u101⟩, ⟨none, (.p (aA (cQ .u8) g101)), u102⟩, ⟨none, (.p (aD g5)), u103⟩, ⟨none, (.p (aj (xT .shr .i64) g103 (cV (.int .u64 8)))), u104⟩, ⟨none, (.p (aA (cQ .u8) g104)), u105⟩, ⟨none, (.p (aD g5)), u106⟩, ⟨none, (.p (aA (cQ .u8) g106)), u107⟩, ⟨none, (.a (cG 3 1 [(.int .u8 0), (.int .u8 0), (.int .u8 0)] [(0, 1, g102), (1, 1, g105), (2, 1, g107)])), u108⟩, ⟨none, (.p (aA (aC 3) g1)), u109⟩, ⟨none, (.d 1 0 (aO g109)), u110⟩, ⟨none, (.p (aj (bI bh) g110 (cV (.i 0)))), u111⟩, ⟨none, (.p (aD g111)), u112⟩, ⟨(some (112, true)), (.p (aD g5)), u113⟩, ⟨(some (112, true)), (.e [] (ak 98 [g113, (cV (.i (-32768))), (cV (.i 32767))])), u114⟩, ⟨none, (.p (aN g112 g114 (cV (.bool false)))), u115⟩, ⟨none, (.p (aD g108)), u2⟩, ⟨none, (.p (aD g115)), u3⟩] k e s
def En:aB:=jt 1 [⟨none, (.p (aA (aC 1) g1)), u116⟩, ⟨none, (.d 0 1 (aO g116)), u117⟩, ⟨none, (.p (aA (cQ .u8) g117)), u118⟩, ⟨none, (.p (aD g5)), u119⟩, ⟨none, (.p (aj (xT .shr .i64) g119 (cV (.int .u64 8)))), u120⟩, ⟨none, (.p (aA (cQ .u8) g120)), u121⟩, ⟨none, (.p (aD g5)), u122⟩, ⟨none, (.p (aA (cQ .u8) g122)), u123⟩, ⟨none, (.a (cG 3 1 [(.int .u8 0), (.int .u8 0), (.int .u8 0)] [(0, 1, g118), (1, 1, g121), (2, 1, g123)])), u124⟩, ⟨none, (.p (aA (aC 3) g1)), u125⟩, ⟨none, (.d 1 0 (aO g125)), u126⟩, ⟨none, (.p (aj (bI bh) g126 (cV (.i 0)))), u127⟩, ⟨none, (.p (aD g127)), u128⟩, ⟨(some (128, true)), (.p (aD g5)), u129⟩, ⟨(some (128, true)), (.e [] (ak 98 [g129, (cV (.i 0)), (cV (.i 65535))])), u130⟩, ⟨none, (.p (aN g128 g130 (cV (.bool false)))), u131⟩, ⟨none, (.p (aD g124)), u2⟩, ⟨none, (.p (aD g131)), u3⟩] k e s
def Lr:aB:=af Uo (af SA (af (af RB (av g11 (af Q7 aU) ay)) (af KL (af (af LP (av g34 (af (af Ju (av g38 (af I7 aU) ay)) K8) ay)) (af (aG 0 (af Af (av g44 (af Gv aU) (af AR (av g59 (af Gw aU) (af zK (av g80 (af Lu aU) (af ze (av g96 (af ET aU) ay))))))))) (af En aU)))))) k e s
def Zg : aY := ⟨[u0], Lr, aM [rT g2, rT g3]⟩
theorem aaC : aJ tt [] fok Try.f93 = some Zg := by kernel_rfl
theorem PS : aI Try.prog [] 93 Zg := aI.of (az bY bA mixed Try.func93 aaC)
def Qw:Den:=fun _ e s=>bM (V.i 0) fun v0=>.au (u2 e v0) s
def Rt:aB:=lt (g0 e) fun v0=>bP (aA bx (cV v0) e) fun v1=>bP (aA (aC 3) (cV v1) e) fun v2=>bP ((aO (cV v2)) e s) fun v3=>bP (aj (bI bQ) (cV v3) (cV (.i 1)) e) fun v4=>bP (aA bx (cV v0) e) fun v5=>bP (aA (aC 3) (cV v5) e) fun v6=>bE (dW 1 (cV v6) (cV v4) k e s) fun v7 s=>.au (bJ e fun r=>{r with a3:=v0,a4:=v1,a5:=v2,a6:=v3,a7:=v4,a8:=v5,a9:=v6}) s
def SX:Den:=fun _ e s=>lt (g0 e) fun v0=>bP (aA bx (cV v0) e) fun v1=>bP (aA (aC 3) (cV v1) e) fun v2=>bP ((aO (cV v2)) e s) fun v3=>bP (aj (bI ep) (cV v3) (cV (.i 1)) e) fun v4=>.au (bJ e fun r=>{r with a2:=v4,a10:=v0,a11:=v1,a12:=v2,a13:=v3,a14:=v4}) s
def Ka:aB:=af Qw (af Rt (af SX aU)) k e s
def Zb : aY := ⟨[u0], Ka, aM [rT g2]⟩
theorem YP : aJ tt [] fok Try.f94 = some Zb := by kernel_rfl
theorem SB : aI Try.prog [] 94 Zb := aI.of (az bY bA mixed Try.func94 YP)
def UR:aB:=lt (g0 e) fun v0=>lt (g0 e) fun v1=>bP (aA bx (cV v1) e) fun v2=>bP (aA (aC 2) (cV v2) e) fun v3=>bP ((aO (cV v3)) e s) fun v4=>lt (g1 e) fun v5=>bP (bF [(.i 0), (.i 0), (.i 0), (.i 0)] [(1, 1, (cV v5))] e) fun v6=>lt (g2 e) fun v7=>bP (bF [(.i 0), (.i 0), (.i 0), (.i 0), (.i 0), (.i 0)] [(0, 4, (cV v6)), (4, 1, (cV v7)), (5, 1, (cV (.i (-1))))] e) fun v8=>bE (dm (cG 1 6 [(.i 0), (.i 0), (.i 0), (.i 0), (.i 0), (.i 0)] [(0, 6, (cV v8))] e s.next) s) fun v9 s=>bE (jR 6 (cV v4) (cV v9) k e s) fun v10 s=>bP (aA bx (cV v0) e) fun v11=>bP (aA (aC 2) (cV v11) e) fun v12=>bE (dW 1 (cV v12) (cV v10) k e s) fun v13 s=>.au (cN (gC e fun a b c d f g _ _ _ _ _ _ _ _ _ _=>⟨a,b,c,d,f,g,v0,v1,v2,v3,v4,v5,v6,v7,v8,v9⟩) fun r=>{r with a0:=v10,a1:=v11,a2:=v12}) s
def QI:aB:=lt (g0 e) fun v0=>bP (aA bx (cV v0) e) fun v1=>bP (aA (aC 5) (cV v1) e) fun v2=>bP ((aO (cV v2)) e s) fun v3=>bP (aj (bI ep) (cV v3) (cV (.i 1)) e) fun v4=>bP (aA bx (cV v0) e) fun v5=>bP (aA (aC 5) (cV v5) e) fun v6=>bE (dW 1 (cV v6) (cV v4) k e s) fun v7 s=>.au (cN e fun r=>{r with a3:=v0,a4:=v1,a5:=v2,a6:=v3,a7:=v4,a8:=v5,a9:=v6}) s
def Cu:aB:=af UR QI k e s
def X8 : aY := ⟨[u0, u1, u2], Cu, aM []⟩
theorem ZA : aJ tt [] fok Try.f95 = some X8 := by kernel_rfl
theorem QN : aI Try.prog [] 95 X8 := aI.of (az bY bA mixed Try.func95 ZA)
def zh:aB:=lt (g0 e) fun v0=>lt (g0 e) fun v1=>bP (aA bx (cV v1) e) fun v2=>bP (aA (aC 2) (cV v2) e) fun v3=>bP ((aO (cV v3)) e s) fun v4=>bP (bF [(.i 0), (.i 0), (.i 0), (.i 0)] [(1, 1, (cV (.i (-1))))] e) fun v5=>lt (g1 e) fun v6=>bP (bF [(.i 0), (.i 0), (.i 0), (.i 0), (.i 0), (.i 0)] [(0, 4, (cV v5)), (4, 1, (cV (.i (-1)))), (5, 1, (cV v6))] e) fun v7=>bE (dm (cG 1 6 [(.i 0), (.i 0), (.i 0), (.i 0), (.i 0), (.i 0)] [(0, 6, (cV v7))] e s.next) s) fun v8 s=>bE (jR 6 (cV v4) (cV v8) k e s) fun v9 s=>bP (aA bx (cV v0) e) fun v10=>bP (aA (aC 2) (cV v10) e) fun v11=>bE (dW 1 (cV v11) (cV v9) k e s) fun v12 s=>.au (gC e fun a b c d _ _ _ _ _ _ _ _ _ _ _ _=>⟨a,b,c,d,v0,v1,v2,v3,v4,v5,v6,v7,v8,v9,v10,v11⟩) s
def XX : aY := ⟨[u0, u1], zh, aM []⟩
theorem ZN : aJ tt [] fok Try.f96 = some XX := by kernel_rfl
theorem UT : aI Try.prog [] 96 XX := aI.of (az bY bA mixed Try.func96 ZN)
noncomputable def Wp : aY := iF (uB lF)
def TZ:Den:=fun _ e s=>bM (V.bool false) fun v0=>.au (u6 e v0) s
def Pm:Den:=fun _ e s=>lt (g0 e) fun v0=>lt (g1 e) fun v1=>bP (aj (bI qD) (cV v0) (cV v1) e) fun v2=>bP (aL v2 true (aD g0 e)) fun v3=>bP (aL v2 true (aD g2 e)) fun v4=>bP (aL v2 true (aj (bI xj) (cV v3) (cV v4) e)) fun v5=>bP (aN (cV v2) (cV v5) (cV (.bool false)) e) fun v6=>.au (gC e fun a b c d f g _ _ _ _ _ _ _ _ _ r=>⟨a,b,c,d,f,g,v6,v0,v1,v2,v2,v3,v4,v5,v6,r⟩) s
def FW:aB:=af TZ (af Pm aU) k e s
def ZM : aY := ⟨[u0, u1, u2], FW, aM [rT g6]⟩
theorem Yc : aJ tt [] fok Try.f98 = some ZM := by kernel_rfl
theorem RH : aI Try.prog [] 98 ZM := aI.of (az bY bA mixed Try.func98 Yc)
end
end Go.Proofs.YtcgdlgbomjnnnaaLab
