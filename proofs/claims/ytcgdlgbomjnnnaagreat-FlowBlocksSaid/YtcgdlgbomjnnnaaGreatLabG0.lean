/- The lab: this program's functions, in pieces. Pruned. -/
import Derived.Test.YtcgdlgbomjnnnaaGreatLabT0
import Derived.Test.YtcgdlgbomjnnnaaGreatLabTb
import Derived.Test.YtcgdlgbomjnnnaaGreatLabSo
namespace Go.Proofs.YtcgdlgbomjnnnaaGreatLab
open Go
set_option linter.unusedVariables false
set_option maxRecDepth 100000
noncomputable section
def pd (f : V → Option V) (v : V) (e : E) (k : V → aE) : aE := bP (aD f (cV v) e) k
def pk (f : V → V → Option V) (v w : V) (e : E) (k : V → aE) : aE := bP (ak f (cV v) (cV w) e) k
def pj (v : V) (e : E) (s : St) (k : V → aE) : aE := bP ((aQ (cV v)) e s) k
def pf (v : V) (b : Bool) (x : Option V) (k : V → aE) : aE := bP (aN v b x) k
variable (k:KC)(e:E)(s:St)
def adj:Den:=fun _ e s=>bw (V.bool false) fun v0=>.au (u6 e v0) s
def adF:aE:=lt (g0 e) fun v0=>lt (g1 e) fun v1=>bE (aq 4 [cV v0,cV v1] k e s) fun v2 s=>pd (dF 0) v2 e fun v3=>pd (dF 1) v2 e fun v4=>pd (dF 2) v2 e fun v5=>.au (cw (bG e fun r=>{r with a7:=v3,a8:=v4,a9:=v5,a13:=v2,a14:=v0,a15:=v1}) fun r=>{r with a0:=v2,a1:=v3,a2:=v4,a3:=v5}) s
def abV:Den:=fun _ e s=>lt (g2 e) fun v0=>pd aM v0 e fun v1=>pk (bI su) v1 (.i 6) e fun v2=>.au (cw e fun r=>{r with a4:=v0,a5:=v1,a6:=v2}) s
def acA:Den:=fun _ e s=>lt (g2 e) fun v0=>bP (xg 4 (cV v0) none (some (cV (.i 6))) none e) fun v1=>.au (cw (u2 e v1) fun r=>{r with a7:=v0,a8:=v1}) s
def VC:aE:=bE (cZ (cg 0 4 [] [] e s.next) s) fun v0 s=>lt (g8 e) fun v1=>bE (iX 4 (cV v0) (cV v1) k e s) fun v2 s=>lt (g2 e) fun v3=>bE (iX 4 (cV v2) (cV v3) k e s) fun v4 s=>.au (cw (u10 e v4) fun r=>{r with a9:=v0,a10:=v1,a11:=v2,a12:=v3,a13:=v4}) s
def RU:aE:=lt (g7 e) fun v0=>lt (g10 e) fun v1=>bE (aq 5 [(cV v0), (cV v1), (cV .ay)] k e s) fun v2 s=>pd (dF 0) v2 e fun v3=>pd (dF 1) v2 e fun v4=>.au (cQ (cw (bG e fun r=>{r with a11:=v3,a12:=v4}) fun r=>{r with a14:=v2,a15:=v0}) fun r=>{r with a0:=v1,a1:=v2,a2:=v3,a3:=v4}) s
def VX:Den:=fun _ e s=>lt (g11 e) fun v0=>pk (bI sH) v0 (.i 0) e fun v1=>.au (cQ e fun r=>{r with a4:=v0,a5:=v1}) s
def Rp:Den:=fun _ e s=>lt (g8 e) fun v0=>.au (u38 (u10 e v0) v0) s
def WI:aE:=lt (g7 e) fun v0=>lt (g10 e) fun v1=>bE (aq 5 [(cV v0), (cV v1), (cV .ay)] k e s) fun v2 s=>pd (dF 0) v2 e fun v3=>pd (dF 1) v2 e fun v4=>.au (cQ (u11 e v3) fun r=>{r with a7:=v2,a8:=v0,a9:=v1,a10:=v2,a11:=v3,a12:=v4}) s
def Vy:Den:=fun _ e s=>lt (g11 e) fun v0=>pk (bI sH) v0 (.i 0) e fun v1=>.au (cQ e fun r=>{r with a13:=v0,a14:=v1}) s
def Xr:aE:=bE (aq 6 [] k e s) fun v0 s=>.au (u47 (u6 e v0) v0) s
def WU:aE:=lt (g7 e) fun v0=>lt (g10 e) fun v1=>bE (aq 8 [cV v0,cV v1] k e s) fun v2 s=>lt (g7 e) fun v3=>lt (g10 e) fun v4=>bE (aq 9 [cV v3,cV v4] k e s) fun v5 s=>bE (aq 7 [cV v2,cV v5] k e s) fun v6 s=>pf v6 true (aC g7 e) fun v7=>pf v6 true (aC g10 e) fun v8=>bE (ia v6 true s (aq 11 [cV v7,cV v8] k e s)) fun v9 s=>pf v6 true (aC g7 e) fun v10=>pf v6 true (aC g10 e) fun v11=>bE (ia v6 true s (aq 12 [cV v10,cV v11] k e s)) fun v12 s=>bE (ia v6 true s (aq 10 [cV v9,cV v12] k e s)) fun v13 s=>bP (aO (cV v6) (cV v13) (cV (.bool false)) e) fun v14=>bE (ia v14 true s (aq 6 [] k e s)) fun v15 s=>bP (aO (cV v14) (cV v15) (cV (.bool false)) e) fun v16=>.au (jh (EG (u6 e v16) fun _ _ _ _ _ _ _ _ _ _ _ _ _ _ _ _=>⟨v0,v1,v2,v3,v4,v5,v6,v6,v7,v8,v9,v10,v11,v12,v13,v14⟩) fun r=>{r with a0:=v14,a1:=v15,a2:=v16}) s
def wX:aE:=aa WI (aa (aa Vy (av g46 (aa Xr aS) az)) (aa WU aS)) k e s
def O8:aE:=aa VC (aa RU (aa (aa VX (av g37 Rp az)) wX)) k e s
def aau:aE:=aa adj (aa adF (aa (aa abV (av g22 acA az)) O8)) k e s
def F3 : aX := ⟨[u0, u1, u2], aau, aL [rT g6]⟩
theorem agw : aH tt [] fok Tryz.f3 = some F3 := by kernel_rfl
theorem ad4 : aI Tryz.prog [] 3 F3 := aI.of (aA bR bq mixed Tryz.func3 agw)
def abF:Den:=fun _ e s=>bw (V.ay) fun v0=>bw (V.ay) fun v1=>bw (V.ay) fun v2=>.au (bG e fun r=>{r with a4:=v0,a5:=v1,a6:=v2}) s
def adN:aE:=lt (g0 e) fun v0=>bE (aq 13 [cV v0] k e s) fun v1 s=>pd (dF 0) v1 e fun v2=>pd (dF 1) v1 e fun v3=>pd (dF 2) v1 e fun v4=>.au (cw (bG e fun r=>{r with a7:=v2,a8:=v3,a9:=v4,a12:=v1,a13:=v0,a14:=v1,a15:=v2}) fun r=>{r with a0:=v3,a1:=v4}) s
def aej:Den:=fun _ e s=>lt (g8 e) fun v0=>pk (bI bp) v0 (.i 0) e fun v1=>pf v1 true (aC g7 e) fun v2=>pf v1 true (aD aM (cV v2) e) fun v3=>bP (aN v1 true (ak (bI su) (cV v3) (cV (.i 0)) e)) fun v4=>bP (aO (cV v1) (cV v4) (cV (.bool false)) e) fun v5=>pf v5 true (aC g0 e) fun v6=>pf v5 true (aD aM (cV v6) e) fun v7=>bP (aN v5 true (ak (bI dW) (cV v7) (cV (.i 300)) e)) fun v8=>bP (aO (cV v5) (cV v8) (cV (.bool false)) e) fun v9=>.au (lW e fun a b _ _ _ _ _ _ _ _ _ _ _ _ q r=>⟨a,b,v0,v1,v1,v2,v3,v4,v5,v5,v6,v7,v8,v9,q,r⟩) s
def adX:Den:=fun _ e s=>lt (g7 e) fun v0=>bw (V.ay) fun v1=>bw (V.ay) fun v2=>.au (u30 (bG e fun r=>{r with a4:=v0,a5:=v1,a6:=v2}) v0) s
def Vc:aE:=lt (g1 e) fun v0=>bE (aq 14 [cV v0] k e s) fun v1 s=>.au (u32 (u31 (u10 e v1) v0) v1) s
def Vd:aE:=lt (g10 e) fun v0=>lt (g10 e) fun v1=>pd aM v1 e fun v2=>pk (bI ei) v2 (.i 1) e fun v3=>pk (aP 5) v0 v3 e fun v4=>pd (aF 4) v4 e fun v5=>pj v5 e s fun v6=>pk (aP 9) v6 (.i 0) e fun v7=>bP ((dh 9 (cV v7)) e s) fun v8=>bE (cZ (kO 9 (cK [(.str []), (.str []), (.bool false), (.bool false), (.i 0), (.i 0), .ay, .ay, .ay]) e s.next) s) fun v9 s=>bE (dJ 9 (cV v9) (cV v8) k e s) fun v10 s=>.au (cQ (u11 e v9) fun r=>{r with a1:=v0,a2:=v1,a3:=v2,a4:=v3,a5:=v4,a6:=v5,a7:=v6,a8:=v7,a9:=v8}) s
def VO:aE:=bP (aD (aF 6) g11 e) fun v0=>pj v0 e s fun v1=>bE (aq 13 [cV v1] k e s) fun v2 s=>pd (dF 0) v2 e fun v3=>pd (dF 1) v2 e fun v4=>pd (dF 2) v2 e fun v5=>.au (u48 (cQ (u7 e v3) fun r=>{r with a10:=v2,a11:=v0,a12:=v1,a13:=v2,a14:=v3,a15:=v4}) v5) s
def Sk:Den:=fun _ e s=>lt (g7 e) fun v0=>bP (aD (aF 7) g11 e) fun v1=>pj v1 e s fun v2=>bP (aD (aF 8) g11 e) fun v3=>pj v3 e s fun v4=>.au (eH (bG e fun r=>{r with a4:=v0,a5:=v2,a6:=v4}) fun r=>{r with a1:=v0,a2:=v1,a3:=v2,a4:=v3,a5:=v4}) s
def YZ:aE:=aa abF (aa adN (aa (aa aej (av g29 (aa adX aS) az)) (aa Vc (aa Vd (aa VO (aa Sk aS)))))) k e s
def F4 : aX := ⟨[u0, u1], YZ, aL [rT g4, rT g5, rT g6]⟩
theorem agc : aH tt [] fok Tryz.f4 = some F4 := by kernel_rfl
theorem abK : aI Tryz.prog [] 4 F4 := aI.of (aA bR bq mixed Tryz.func4 agc)
def aed:Den:=fun _ e s=>bw (V.i 0) fun v0=>bw (V.i 0) fun v1=>.au (bG e fun r=>{r with a6:=v0,a7:=v1}) s
def adl:Den:=fun _ e s=>lt (g0 e) fun v0=>pd aM v0 e fun v1=>pk (bI bp) v1 (.i 0) e fun v2=>.au (u16 (bG e fun r=>{r with a14:=v0,a15:=v1}) v2) s
def aco:Den:=fun _ e s=>bw (V.i 17) fun v0=>bw (V.i 0) fun v1=>.au (bG e fun r=>{r with a6:=v0,a7:=v1}) s
def V6:Den:=fun _ e s=>bw (V.i 0) fun v0=>.au (u8 e v0) s
def UH:Den:=fun _ e s=>lt (g8 e) fun v0=>lt (g0 e) fun v1=>pd aM v1 e fun v2=>pk (bI dW) v0 v2 e fun v3=>.au (cw e fun r=>{r with a1:=v0,a2:=v1,a3:=v2,a4:=v3}) s
def Wg:aE:=lt (g0 e) fun v0=>lt (g8 e) fun v1=>pk (aP 4) v0 v1 e fun v2=>pd (aF 1) v2 e fun v3=>pj v3 e s fun v4=>bE (aq 15 [cV v4] k e s) fun v5 s=>pf v5 true (aC g0 e) fun v6=>pf v5 true (aC g0 e) fun v7=>pf v5 true (aC g8 e) fun v8=>pf v5 true (ak (aP 4) (cV v7) (cV v8) e) fun v9=>pf v5 true (aD (aF 2) (cV v9) e) fun v10=>bP (aN v5 true ((aQ (cV v10)) e s)) fun v11=>bE (ia v5 true s (aq 16 [cV v6,cV v11] k e s)) fun v12 s=>bP (aN v5 true (ak (bI dW) (cV v12) (cV (.i 0)) e)) fun v13=>bP (aO (cV v5) (cV v13) (cV (.bool false)) e) fun v14=>.au (cQ (lW e fun a b c d f g h _ _ _ _ _ _ _ _ _=>⟨a,b,c,d,f,g,h,v0,v1,v2,v3,v4,v5,v5,v6,v7⟩) fun r=>{r with a0:=v8,a1:=v9,a2:=v10,a3:=v11,a4:=v12,a5:=v13,a6:=v14}) s
def XS:Den:=fun _ e s=>lt (g0 e) fun v0=>lt (g8 e) fun v1=>pk (aP 4) v0 v1 e fun v2=>pd (aF 0) v2 e fun v3=>pj v3 e s fun v4=>bw (V.i 16) fun v5=>.au (cQ (bG e fun r=>{r with a6:=v5,a7:=v4}) fun r=>{r with a7:=v0,a8:=v1,a9:=v2,a10:=v3,a11:=v4}) s
def U_:Den:=fun _ e s=>lt (g8 e) fun v0=>pk (bI bD) v0 (.i 1) e fun v1=>.au (cw (u8 e v1) fun r=>{r with a5:=v0,a6:=v1}) s
def Yo:aE:=lt (g0 e) fun v0=>lt (g0 e) fun v1=>pd aM v1 e fun v2=>pk (bI ei) v2 (.i 1) e fun v3=>pk (aP 4) v0 v3 e fun v4=>bP ((dh 4 (cV v4)) e s) fun v5=>bE (cZ (kO 4 (cK [(.i 0), (.i 0), (.i 0), (.i 0)]) e s.next) s) fun v6 s=>bE (dJ 4 (cV v6) (cV v5) k e s) fun v7 s=>.au (eH (cQ (u9 e v6) fun r=>{r with a12:=v0,a13:=v1,a14:=v2,a15:=v3}) fun r=>{r with a0:=v4,a1:=v5}) s
def V9:aE:=bP (aD (aF 1) g9 e) fun v0=>pj v0 e s fun v1=>bE (aq 17 [cV v1] k e s) fun v2 s=>pd gR v2 e fun v3=>.au (eH e fun r=>{r with a2:=v0,a3:=v1,a4:=v2,a5:=v3}) s
def Up:Den:=fun _ e s=>bP (aD (aF 0) g9 e) fun v0=>pj v0 e s fun v1=>bw (V.i 17) fun v2=>.au (eH (bG e fun r=>{r with a6:=v2,a7:=v1}) fun r=>{r with a6:=v0,a7:=v1}) s
def RY:Den:=fun _ e s=>bw (V.i 0) fun v0=>.au (u10 e v0) s
def Wq:Den:=fun _ e s=>lt (g10 e) fun v0=>lt (g1 e) fun v1=>pd aM v1 e fun v2=>pk (bI dW) v0 v2 e fun v3=>.au (eH e fun r=>{r with a8:=v0,a9:=v1,a10:=v2,a11:=v3}) s
def Ue:aE:=lt (g1 e) fun v0=>lt (g10 e) fun v1=>pk (aP 4) v0 v1 e fun v2=>bP ((dh 4 (cV v2)) e s) fun v3=>bE (cZ (kO 4 (cK [(.i 0), (.i 0), (.i 0), (.str [])]) e s.next) s) fun v4 s=>bE (dJ 4 (cV v4) (cV v3) k e s) fun v5 s=>.au (jh (eH (u11 e v4) fun r=>{r with a14:=v0,a15:=v1}) fun r=>{r with a0:=v2,a1:=v3}) s
def Xc:aE:=fK [⟨none, (.p (aC g0)), u66⟩, ⟨none, (.p (aD (aF 0) g11)), u67⟩, ⟨none, (.d 1 0 (aQ g67)), u68⟩, ⟨none, (.e (aq 16 [g66, g68])), u69⟩, ⟨none, (.p (ak (bI dW) g69 (cV (.i 0)))), u70⟩, ⟨none, (.p (aC g70)), u71⟩, ⟨(some (71, false)), (.p (aC g0)), u72⟩, ⟨(some (71, false)), (.p (aD (aF 2) g11)), u73⟩, ⟨(some (71, false)), (.d 1 0 (aQ g73)), u74⟩, ⟨(some (71, false)), (.e (aq 16 [g72, g74])), u75⟩, ⟨(some (71, false)), (.p (ak (bI dW) g75 (cV (.i 0)))), u76⟩, ⟨none, (.p (aO g71 (cV (.bool true)) g76)), u77⟩, ⟨none, (.p (aC g77)), u78⟩, ⟨(some (78, false)), (.p (aC g0)), u79⟩, ⟨(some (78, false)), (.p (aD (aF 1) g11)), u80⟩, ⟨(some (78, false)), (.d 1 0 (aQ g80)), u81⟩, ⟨(some (78, false)), (.e (aq 16 [g79, g81])), u82⟩, ⟨(some (78, false)), (.p (ak (bI dW) g82 (cV (.i 0)))), u83⟩, ⟨(some (78, false)), (.p (aC g83)), u84⟩, ⟨(some (84, true)), (.p (aD (aF 1) g11)), u85⟩, ⟨(some (84, true)), (.d 3 4 (aQ g85)), u86⟩, ⟨(some (84, true)), (.p (aC g0)), u87⟩, ⟨(some (84, true)), (.e (aq 18 [g87])), u88⟩, ⟨(some (84, true)), (.p (ak (bI sH) g86 g88)), u89⟩, ⟨(some (78, false)), (.p (aO g84 g89 (cV (.bool false)))), u90⟩, ⟨none, (.p (aO g78 (cV (.bool true)) g90)), u91⟩, ⟨none, (.p (aC g91)), u92⟩, ⟨(some (92, false)), (.p (aD (aF 0) g11)), u93⟩, ⟨(some (92, false)), (.d 1 0 (aQ g93)), u94⟩, ⟨(some (92, false)), (.p (aD (aF 1) g11)), u95⟩, ⟨(some (92, false)), (.d 1 0 (aQ g95)), u96⟩, ⟨(some (92, false)), (.p (ak (bI m6) g94 g96)), u97⟩, ⟨none, (.p (aO g92 (cV (.bool true)) g97)), u98⟩] k e s
def RL:Den:=fun _ e s=>bP (aD (aF 0) g11 e) fun v0=>pj v0 e s fun v1=>bw (V.i 16) fun v2=>.au (kU (bG e fun r=>{r with a6:=v2,a7:=v1}) fun r=>{r with a3:=v0,a4:=v1}) s
def Xy:Den:=fun _ e s=>lt (g10 e) fun v0=>pk (bI bD) v0 (.i 1) e fun v1=>.au (eH (u10 e v1) fun r=>{r with a12:=v0,a13:=v1}) s
def Us:Den:=fun _ e s=>bw (V.i 0) fun v0=>.au (u12 e v0) s
def SI:Den:=fun _ e s=>lt (g12 e) fun v0=>lt (g2 e) fun v1=>pd aM v1 e fun v2=>pk (bI dW) v0 v2 e fun v3=>.au (kU e fun r=>{r with a5:=v0,a6:=v1,a7:=v2,a8:=v3}) s
def TE:Den:=fun _ e s=>lt (g2 e) fun v0=>lt (g12 e) fun v1=>pk (aP 3) v0 v1 e fun v2=>pd (aF 0) v2 e fun v3=>pj v3 e s fun v4=>.au (kU (u13 e v4) fun r=>{r with a11:=v0,a12:=v1,a13:=v2,a14:=v3,a15:=v4}) s
def XJ:aE:=lt (g0 e) fun v0=>lt (g13 e) fun v1=>bE (aq 16 [cV v0,cV v1] k e s) fun v2 s=>pk (bI dW) v2 (.i 0) e fun v3=>.au (nC e fun r=>{r with a0:=v0,a1:=v1,a2:=v2,a3:=v3}) s
def Vi:Den:=fun _ e s=>lt (g13 e) fun v0=>bw (V.i 16) fun v1=>.au (u116 (bG e fun r=>{r with a6:=v1,a7:=v0}) v0) s
def Ro:Den:=fun _ e s=>lt (g12 e) fun v0=>pk (bI su) v0 (.i 0) e fun v1=>pf v1 true (aC g2 e) fun v2=>pf v1 true (aC g12 e) fun v3=>bP (aN v1 true (ak (bI ei) (cV v3) (cV (.i 1)) e)) fun v4=>pf v1 true (ak (aP 3) (cV v2) (cV v4) e) fun v5=>pf v1 true (aD (aF 0) (cV v5) e) fun v6=>bP (aN v1 true ((aQ (cV v6)) e s)) fun v7=>pf v1 true (aC g13 e) fun v8=>pf v1 true (ak (bI m6) (cV v7) (cV v8) e) fun v9=>bP (aO (cV v1) (cV v9) (cV (.bool false)) e) fun v10=>.au (u128 (rw7 e fun a b c d f _ _ _ _ _ _ _ _ _ _ _=>⟨a,b,c,d,f,v0,v1,v1,v2,v3,v4,v5,v6,v7,v8,v9⟩) v10) s
def Tn:Den:=fun _ e s=>lt (g13 e) fun v0=>bw (V.i 21) fun v1=>.au (u129 (bG e fun r=>{r with a6:=v1,a7:=v0}) v0) s
def Rq:Den:=fun _ e s=>lt (g12 e) fun v0=>pk (bI bD) v0 (.i 1) e fun v1=>.au (kU (u12 e v1) fun r=>{r with a9:=v0,a10:=v1}) s
def TQ:Den:=fun _ e s=>bw (V.i 0) fun v0=>bw (V.i 0) fun v1=>.au (bG e fun r=>{r with a6:=v0,a7:=v1}) s
def Cw:aE:=aa (aa Us (aG 4 (bT (aa (aa SI (av g104 az (bB 4))) (aa (aG 5 (aa TE (aa (aa XJ (av g115 (aa Vi aS) az)) (aa Ro (av g128 (aa Tn aS) az))))) Rq))))) (aa TQ aS) k e s
def KR:aE:=aa (aa RY (aG 2 (bT (aa (aa Wq (av g59 az (bB 2))) (aa (aG 3 (aa Ue (aa Xc (av g98 (aa RL aS) az)))) Xy))))) Cw k e s
def xC:aE:=aa Yo (aa (aa V9 (av g53 (aa Up aS) az)) KR) k e s
def aag:aE:=aa aed (aa (aa adl (av g16 (aa aco aS) az)) (aa (aa V6 (aG 0 (bT (aa (aa UH (av g20 az (bB 0))) (aa (aG 1 (aa Wg (av g38 (aa XS aS) az))) U_))))) xC)) k e s
def F5 : aX := ⟨[u0, u1, u2], aag, aL [rT g6, rT g7]⟩
theorem agX : aH tt [] fok Tryz.f5 = some F5 := by kernel_rfl
theorem afb : aI Tryz.prog [] 5 F5 := aI.of (aA bR bq mixed Tryz.func5 agX)
def ad9:Den:=fun _ e s=>bw (V.bool false) fun v0=>.au (u0 e v0) s
def ach:aE:=bE (aq 20 [(cV (.i 0)), (cV (.i 0)), (cV (.i 0))] k e s) fun v0 s=>bE (cZ (cg 1 4 [(.i 0), (.i 0), (.i 0), (.i 0)] [(0, 4, (cV v0))] e s.next) s) fun v1 s=>bE (aq 19 [(cV v1), (cV .ay), (cV .ay)] k e s) fun v2 s=>pd (dF 0) v2 e fun v3=>pd (dF 1) v2 e fun v4=>.au (bG e fun r=>{r with a1:=v3,a2:=v4,a4:=v2,a5:=v0,a6:=v1,a7:=v2,a8:=v3,a9:=v4}) s
def adC:aE:=bE (aq 20 [(cV (.i 0)), (cV (.i 167)), (cV (.i 3))] k e s) fun v0 s=>bE (aq 20 [(cV (.i 3)), (cV (.i 167)), (cV (.i 0))] k e s) fun v1 s=>bE (cZ (cg 2 4 [(.i 0), (.i 0), (.i 0), (.i 0), (.i 0), (.i 0), (.i 0), (.i 0)] [(0, 4, (cV v0)), (4, 4, (cV v1))] e s.next) s) fun v2 s=>bE (aq 8 [(cV v2), (cV .ay)] k e s) fun v3 s=>.au (bG e fun r=>{r with a3:=v3,a10:=v0,a11:=v1,a12:=v2,a13:=v3}) s
def adQ:aE:=lt (g1 e) fun v0=>pk (bI bp) v0 (.i 17) e fun v1=>pf v1 true (aC g2 e) fun v2=>bP (aN v1 true (ak (bI bp) (cV v2) (cV (.i 0)) e)) fun v3=>bP (aO (cV v1) (cV v3) (cV (.bool false)) e) fun v4=>pf v4 true (aC g3 e) fun v5=>bE (ia v4 true s (cZ (cg 1 1 [(.i 0)] [(0, 1, (cV (.i 1)))] e s.next) s)) fun v6 s=>bP (aN v4 true (bM [(.i 0), (.i 0), .ay] [(0, 1, (cV (.i 0))), (1, 1, (cV (.i 1))), (2, 1, (cV v6))] e)) fun v7=>bE (ia v4 true s (cZ (cg 1 1 [(.i 0)] [(0, 1, (cV (.i 0)))] e s.next) s)) fun v8 s=>bP (aN v4 true (bM [(.i 0), (.i 0), .ay] [(0, 1, (cV (.i 1))), (1, 1, (cV (.i 2))), (2, 1, (cV v8))] e)) fun v9=>bE (ia v4 true s (cZ (cg 2 3 [(.i 0), (.i 0), .ay, (.i 0), (.i 0), .ay] [(0, 3, (cV v7)), (3, 3, (cV v9))] e s.next) s)) fun v10 s=>bE (ia v4 true s (aq 7 [cV v5,cV v10] k e s)) fun v11 s=>bP (aO (cV v4) (cV v11) (cV (.bool false)) e) fun v12=>bE (ia v12 true s (aq 20 [(cV (.i 0)), (cV (.i 177)), (cV (.i 0))] k e s)) fun v13 s=>bE (ia v12 true s (aq 20 [(cV (.i 1)), (cV (.i 177)), (cV (.i 0))] k e s)) fun v14 s=>bE (ia v12 true s (cZ (cg 2 4 [(.i 0), (.i 0), (.i 0), (.i 0), (.i 0), (.i 0), (.i 0), (.i 0)] [(0, 4, (cV v13)), (4, 4, (cV v14))] e s.next) s)) fun v15 s=>bE (ia v12 true s (aq 11 [(cV v15), (cV .ay)] k e s)) fun v16 s=>bE (ia v12 true s (cZ (cg 2 1 [(.bool false), (.bool false)] [(0, 1, (cV (.bool true))), (1, 1, (cV (.bool false)))] e s.next) s)) fun v17 s=>bE (ia v12 true s (aq 10 [cV v16,cV v17] k e s)) fun v18 s=>bP (aO (cV v12) (cV v18) (cV (.bool false)) e) fun v19=>.au (cQ (lW (bG e fun r=>{r with a0:=v19,a14:=v0,a15:=v1}) fun _ _ _ _ _ _ _ _ _ _ _ _ _ _ _ _=>⟨v1,v2,v3,v4,v4,v5,v6,v7,v8,v9,v10,v11,v12,v12,v13,v14⟩) fun r=>{r with a0:=v15,a1:=v16,a2:=v17,a3:=v18,a4:=v19}) s
def ae':aE:=aa ad9 (aa ach (aa adC (aa adQ aS))) k e s
def F6 : aX := ⟨[], ae', aL [rT g0]⟩
theorem afJ : aH tt [] fok Tryz.f6 = some F6 := by kernel_rfl
theorem agA : aI Tryz.prog [] 6 F6 := aI.of (aA bR bq mixed Tryz.func6 afJ)
def abi:Den:=fun _ e s=>bw (V.bool false) fun v0=>.au (u4 e v0) s
def abv:Den:=fun _ e s=>lt (g0 e) fun v0=>pd aM v0 e fun v1=>lt (g1 e) fun v2=>pd aM v2 e fun v3=>pk (bI sH) v1 v3 e fun v4=>.au (bG e fun r=>{r with a6:=v0,a7:=v1,a8:=v2,a9:=v3,a10:=v4}) s
def adJ:Den:=fun _ e s=>bw (V.bool false) fun v0=>.au (u4 e v0) s
def XC:Den:=fun _ e s=>bw (V.i 0) fun v0=>.au (u5 e v0) s
def Ra:Den:=fun _ e s=>lt (g5 e) fun v0=>lt (g0 e) fun v1=>pd aM v1 e fun v2=>pk (bI dW) v0 v2 e fun v3=>.au (bG e fun r=>{r with a11:=v0,a12:=v1,a13:=v2,a14:=v3}) s
def S_:aE:=lt (g0 e) fun v0=>lt (g5 e) fun v1=>pk (aP 3) v0 v1 e fun v2=>pd (aF 0) v2 e fun v3=>pj v3 e s fun v4=>lt (g1 e) fun v5=>lt (g5 e) fun v6=>pk (aP 3) v5 v6 e fun v7=>pd (aF 0) v7 e fun v8=>pj v8 e s fun v9=>pk (bI sH) v4 v9 e fun v10=>pf v10 false (aC g0 e) fun v11=>pf v10 false (aC g5 e) fun v12=>pf v10 false (ak (aP 3) (cV v11) (cV v12) e) fun v13=>pf v10 false (aD (aF 1) (cV v13) e) fun v14=>bP (aN v10 false ((aQ (cV v14)) e s)) fun v15=>pf v10 false (aC g1 e) fun v16=>pf v10 false (aC g5 e) fun v17=>pf v10 false (ak (aP 3) (cV v16) (cV v17) e) fun v18=>pf v10 false (aD (aF 1) (cV v18) e) fun v19=>bP (aN v10 false ((aQ (cV v19)) e s)) fun v20=>pf v10 false (ak (bI sH) (cV v15) (cV v20) e) fun v21=>bP (aO (cV v10) (cV (.bool true)) (cV v21) e) fun v22=>pf v22 false (aC g0 e) fun v23=>pf v22 false (aC g5 e) fun v24=>pf v22 false (ak (aP 3) (cV v23) (cV v24) e) fun v25=>pf v22 false (aD (aF 2) (cV v25) e) fun v26=>bP (aN v22 false ((aQ (cV v26)) e s)) fun v27=>pf v22 false (aC g1 e) fun v28=>pf v22 false (aC g5 e) fun v29=>pf v22 false (ak (aP 3) (cV v28) (cV v29) e) fun v30=>pf v22 false (aD (aF 2) (cV v30) e) fun v31=>bP (aN v22 false ((aQ (cV v31)) e s)) fun v32=>bE (ia v22 false s (aq 21 [cV v27,cV v32] k e s)) fun v33 s=>pf v22 false (aD gR (cV v33) e) fun v34=>bP (aO (cV v22) (cV (.bool true)) (cV v34) e) fun v35=>.au (eH (mu (lW e fun a _ _ _ _ _ _ _ _ _ _ _ _ _ _ _=>⟨a,v0,v1,v2,v3,v4,v5,v6,v7,v8,v9,v10,v10,v11,v12,v13⟩) fun _ _ _ _ _ _ _ _ _ _ _ _ _ _ _ _=>⟨v14,v15,v16,v17,v18,v19,v20,v21,v22,v22,v23,v24,v25,v26,v27,v28⟩) fun r=>{r with a0:=v29,a1:=v30,a2:=v31,a3:=v32,a4:=v33,a5:=v34,a6:=v35}) s
def Tv:Den:=fun _ e s=>bw (V.bool false) fun v0=>.au (u4 e v0) s
def VV:Den:=fun _ e s=>lt (g5 e) fun v0=>pk (bI bD) v0 (.i 1) e fun v1=>.au (u16 (bG e fun r=>{r with a5:=v1,a15:=v0}) v1) s
def Ve:Den:=fun _ e s=>bw (V.bool true) fun v0=>.au (u4 e v0) s
def abb:aE:=aa abi (aa (aa abv (av g10 (aa adJ aS) az)) (aa (aa XC (aG 0 (bT (aa (aa Ra (av g14 az (bB 0))) (aa (aG 1 (aa S_ (av g54 (aa Tv aS) az))) VV))))) (aa Ve aS))) k e s
def F7 : aX := ⟨[u0, u1], abb, aL [rT g4]⟩
theorem agG : aH tt [] fok Tryz.f7 = some F7 := by kernel_rfl
theorem ae0 : aI Tryz.prog [] 7 F7 := aI.of (aA bR bq mixed Tryz.func7 agG)
def aer:Den:=fun _ e s=>bE (cZ (kH g0 e s.next) s) fun v0 s=>bw (V.ay) fun v1=>.au (bG e fun r=>{r with a2:=v0,a4:=v1}) s
def aeZ:Den:=fun _ e s=>bP ((aQ g2) e s) fun v0=>pd aM v0 e fun v1=>pk (bI bp) v1 (.i 0) e fun v2=>.au (cw e fun r=>{r with a2:=v0,a3:=v1,a4:=v2}) s
def abC:Den:=fun _ e s=>bw (V.ay) fun v0=>.au (u4 e v0) s
def abS:Den:=fun _ e s=>bE (cZ (cg 1 1 [(.i 0)] [(0, 1, (cV (.i 0)))] e s.next) s) fun v0 s=>.au (u21 (u5 e v0) v0) s
def Xf:Den:=fun _ e s=>bP ((aQ g2) e s) fun v0=>pd aM v0 e fun v1=>bw (V.i 0) fun v2=>.au (cw e fun r=>{r with a6:=v0,a7:=v1,a8:=v2}) s
def VA:Den:=fun _ e s=>bP (ak (bI dW) g24 g23 e) fun v0=>.au (u25 e v0) s
def Vr:aE:=lt (g24 e) fun v0=>bP (ak (aP 4) g22 g24 e) fun v1=>bP ((dh 4 (cV v1)) e s) fun v2=>bE (cZ (kO 4 (cK [(.i 0), (.i 0), (.i 0), (.i 0)]) e s.next) s) fun v3 s=>bE (dJ 4 (cV v3) (cV v2) k e s) fun v4 s=>.au (cw (bG e fun r=>{r with a6:=v0,a7:=v3}) fun r=>{r with a10:=v0,a11:=v1,a12:=v2}) s
def WL:aE:=bP (aD (aF 1) g7 e) fun v0=>pj v0 e s fun v1=>bE (aq 22 [cV v1] k e s) fun v2 s=>.au (cw e fun r=>{r with a13:=v0,a14:=v1,a15:=v2}) s
def Ug:aE:=lt (g5 e) fun v0=>bP ((aQ g2) e s) fun v1=>bP (aD (aF 2) g7 e) fun v2=>pj v2 e s fun v3=>bE (aq 23 [cV v1,cV v3] k e s) fun v4 s=>bE (cZ (cg 1 1 [(.i 0)] [(0, 1, (cV v4))] e s.next) s) fun v5 s=>bE (kF 1 (cV v0) (cV v5) k e s) fun v6 s=>.au (cQ (u5 e v6) fun r=>{r with a0:=v0,a1:=v1,a2:=v2,a3:=v3,a4:=v4,a5:=v5,a6:=v6}) s
def TR:aE:=bP (aD (aF 1) g7 e) fun v0=>pj v0 e s fun v1=>bE (aq 22 [cV v1] k e s) fun v2 s=>pf v2 false (aD (aF 1) g7 e) fun v3=>bP (aN v2 false ((aQ (cV v3)) e s)) fun v4=>bE (ia v2 false s (aq 24 [cV v4] k e s)) fun v5 s=>bP (aO (cV v2) (cV (.bool true)) (cV v5) e) fun v6=>.au (cQ e fun r=>{r with a7:=v0,a8:=v1,a9:=v2,a10:=v2,a11:=v3,a12:=v4,a13:=v5,a14:=v6}) s
def Yi:aE:=lt (g5 e) fun v0=>lt (g6 e) fun v1=>pk (bI bD) v1 (.i 1) e fun v2=>bE (cZ (cg 1 1 [(.i 0)] [(0, 1, (cV v2))] e s.next) s) fun v3 s=>bE (kF 1 (cV v0) (cV v3) k e s) fun v4 s=>.au (eH (u47 (u5 e v4) v0) fun r=>{r with a0:=v1,a1:=v2,a2:=v3,a3:=v4}) s
def Wa:Den:=fun _ e s=>bP (ak (bI bD) g24 (cV (.i 1)) e) fun v0=>.au (u52 (u24 e v0) v0) s
def XX:Den:=fun _ e s=>lt (g1 e) fun v0=>pd aM v0 e fun v1=>bw (V.i 0) fun v2=>.au (eH e fun r=>{r with a5:=v0,a6:=v1,a7:=v2}) s
def Xb:Den:=fun _ e s=>bP (ak (bI dW) g55 g54 e) fun v0=>.au (u56 e v0) s
def Rk:aE:=bP (ak (aP 4) g53 g55 e) fun v0=>bP ((dh 4 (cV v0)) e s) fun v1=>bE (cZ (kO 4 (cK [(.i 0), (.i 0), (.i 0), (.str [])]) e s.next) s) fun v2 s=>bE (dJ 4 (cV v2) (cV v1) k e s) fun v3 s=>.au (eH (u9 e v2) fun r=>{r with a9:=v0,a10:=v1}) s
def TG:aE:=fK [⟨none, (.p (aC g5)), u59⟩, ⟨none, (.d 0 0 (aQ g2)), u60⟩, ⟨none, (.p (aD (aF 2) g9)), u61⟩, ⟨none, (.d 0 0 (aQ g61)), u62⟩, ⟨none, (.e (aq 23 [g60, g62])), u63⟩, ⟨none, (.d 0 1 (aQ g2)), u64⟩, ⟨none, (.p (aD (aF 0) g9)), u65⟩, ⟨none, (.d 0 1 (aQ g65)), u66⟩, ⟨none, (.e (aq 23 [g64, g66])), u67⟩, ⟨none, (.d 0 2 (aQ g2)), u68⟩, ⟨none, (.p (aD (aF 1) g9)), u69⟩, ⟨none, (.d 0 2 (aQ g69)), u70⟩, ⟨none, (.e (aq 23 [g68, g70])), u71⟩, ⟨none, (.a (cg 3 1 [(.i 0), (.i 0), (.i 0)] [(0, 1, g63), (1, 1, g67), (2, 1, g71)])), u72⟩, ⟨none, (.e (kF 1 g59 g72)), u73⟩, ⟨none, (.p (aC g73)), u5⟩] k e s
def R_:Den:=fun _ e s=>bP (ak (bI bD) g55 (cV (.i 1)) e) fun v0=>.au (u74 (u55 e v0) v0) s
def Sa:aE:=lt (g5 e) fun v0=>bP (vw 26 [] [g2] e) fun v1=>bE (aq 25 [cV v0,cV v1] k e s) fun v2 s=>.au (jh (u5 e v2) fun r=>{r with a11:=v0,a12:=v1,a13:=v2}) s
def XA:aE:=lt (g5 e) fun v0=>bE (aq 27 [cV v0] k e s) fun v1 s=>.au (jh e fun r=>{r with a14:=v0,a15:=v1}) s
def WD:aE:=lt (g5 e) fun v0=>bE (aq 28 [cV v0] k e s) fun v1 s=>.au (kQ (u5 e v1) fun r=>{r with a0:=v0,a1:=v1}) s
def Vx:Den:=fun _ e s=>bw (V.ay) fun v0=>.au (u10 e v0) s
def Tj:Den:=fun _ e s=>lt (g5 e) fun v0=>pd aM v0 e fun v1=>bw (V.i 0) fun v2=>.au (kQ e fun r=>{r with a2:=v0,a3:=v1,a4:=v2}) s
def UI:Den:=fun _ e s=>bP (ak (bI dW) g84 g83 e) fun v0=>.au (u85 e v0) s
def Uz:Den:=fun _ e s=>lt (g84 e) fun v0=>bP (ak (aP 1) g82 g84 e) fun v1=>pj v1 e s fun v2=>.au (kQ (bG e fun r=>{r with a11:=v0,a12:=v2}) fun r=>{r with a6:=v0,a7:=v1,a8:=v2}) s
def Yd:aE:=lt (g12 e) fun v0=>bP ((aQ g2) e s) fun v1=>pd aM v1 e fun v2=>bP (bM [(.i 0), (.i 0), .ay] [(0, 1, (cV v0)), (1, 1, (cV v2))] e) fun v3=>bE (cZ (kO 3 (cK [(.i 0), (.i 0), .ay]) e s.next) s) fun v4 s=>bE (dJ 3 (cV v4) (cV v3) k e s) fun v5 s=>.au (kQ (u13 e v4) fun r=>{r with a9:=v0,a10:=v1,a11:=v2,a12:=v3}) s
def Sv:Den:=fun _ e s=>lt (g11 e) fun v0=>pk (bI bD) v0 (.i 1) e fun v1=>lt (g5 e) fun v2=>pd aM v2 e fun v3=>pk (bI dW) v1 v3 e fun v4=>.au (kU (kQ e fun r=>{r with a13:=v0,a14:=v1,a15:=v2}) fun r=>{r with a0:=v3,a1:=v4}) s
def Sd:aE:=lt (g5 e) fun v0=>lt (g11 e) fun v1=>pk (bI bD) v1 (.i 1) e fun v2=>pk (aP 1) v0 v2 e fun v3=>pj v3 e s fun v4=>bP (aD (aF 1) g13 e) fun v5=>bE (dJ 1 (cV v5) (cV v4) k e s) fun v6 s=>.au (kU e fun r=>{r with a2:=v0,a3:=v1,a4:=v2,a5:=v3,a6:=v4,a7:=v5}) s
def U4:aE:=bP ((aQ g2) e s) fun v0=>bP (aD (aF 1) g13 e) fun v1=>pj v1 e s fun v2=>pk (bI ei) v2 (.i 1) e fun v3=>bE (aq 29 [cV v0,cV v3] k e s) fun v4 s=>pd aM v4 e fun v5=>bw (V.i 0) fun v6=>.au (kU e fun r=>{r with a8:=v0,a9:=v1,a10:=v2,a11:=v3,a12:=v4,a13:=v5,a14:=v6}) s
def XF:Den:=fun _ e s=>bP (ak (bI dW) g110 g109 e) fun v0=>.au (u111 e v0) s
def Vu:Den:=fun _ e s=>bP (ak (aP 1) g108 g110 e) fun v0=>pj v0 e s fun v1=>.au (nC (u15 e v1) fun r=>{r with a0:=v0,a1:=v1}) s
def XL:aE:=lt (g5 e) fun v0=>lt (g15 e) fun v1=>bE (aq 30 [cV v0,cV v1] k e s) fun v2 s=>pd (dF 0) v2 e fun v3=>pd (dF 1) v2 e fun v4=>.au (nC (cw e fun r=>{r with a0:=v3,a1:=v4}) fun r=>{r with a2:=v2,a3:=v0,a4:=v1,a5:=v2,a6:=v3,a7:=v4}) s
def Vm:Den:=fun _ e s=>lt (g17 e) fun v0=>.au (u120 e v0) s
def VS:aE:=bP (aD (aF 2) g13 e) fun v0=>pj v0 e s fun v1=>lt (g16 e) fun v2=>bE (cZ (cg 1 1 [(.i 0)] [(0, 1, (cV v2))] e s.next) s) fun v3 s=>bE (kF 1 (cV v1) (cV v3) k e s) fun v4 s=>bP (aD (aF 2) g13 e) fun v5=>bE (dJ 1 (cV v5) (cV v4) k e s) fun v6 s=>.au (nC e fun r=>{r with a9:=v0,a10:=v1,a11:=v2,a12:=v3,a13:=v4,a14:=v5}) s
def Wl:Den:=fun _ e s=>bP (ak (bI bD) g110 (cV (.i 1)) e) fun v0=>.au (u127 (u110 e v0) v0) s
def Tf:aE:=lt (g10 e) fun v0=>bP ((dh 3 g13) e s) fun v1=>bE (cZ (cg 1 3 [(.i 0), (.i 0), .ay] [(0, 3, (cV v1))] e s.next) s) fun v2 s=>bE (iX 3 (cV v0) (cV v2) k e s) fun v3 s=>.au (oc (u10 e v3) fun r=>{r with a0:=v0,a1:=v1,a2:=v2,a3:=v3}) s
def Cg:Den:=fun _ e s=>bP (aD (aF 1) g13 e) fun v0=>pj v0 e s fun v1=>bP ((aQ g2) e s) fun v2=>pd aM v2 e fun v3=>pk (bI bp) v1 v3 e fun v4=>.au (oc e fun r=>{r with a4:=v0,a5:=v1,a6:=v2,a7:=v3,a8:=v4}) s
def x_:aE:=aa (aa U4 (aG 6 (bT (aa XF (aa (av g111 az (bB 6)) (aa (aG 7 (aa Vu (aa XL (aa Vm (av g120 VS az))))) Wl)))))) (aa Tf (aa Cg (av g136 (bB 4) az))) k e s
def AB:Den:=fun _ e s=>bP (ak (bI bD) g84 (cV (.i 1)) e) fun v0=>.au (u137 (u84 e v0) v0) s
def MQ:Den:=fun _ e s=>lt (g10 e) fun v0=>.au (u138 (u4 e v0) v0) s
def Jn:aE:=aa Sa (aa XA (aa WD (aa Vx (aa az (aa (aa Tj (aG 4 (bT (aa UI (aa (av g85 az (bB 4)) (aa (aG 5 (aa Uz (aa Yd (aa (aa Sv (av g97 Sd az)) x_)))) AB)))))) (aa MQ aS)))))) k e s
def CP:aE:=aa (aa XX (aG 2 (bT (aa Xb (aa (av g56 az (bB 2)) (aa (aG 3 (aa Rk TG)) R_)))))) Jn k e s
def Zj:aE:=aa aer (aa (aa aeZ (av g20 (aa abC aS) az)) (aa abS (aa (aa Xf (aG 0 (bT (aa VA (aa (av g25 az (bB 0)) (aa (aG 1 (aa Vr (aa (aa WL (av g31 Ug az)) (aa TR (av g46 Yi az))))) Wa)))))) CP))) k e s
def F8 : aX := ⟨[u0, u1], Zj, aL [rT g4]⟩
theorem af' : aH tt [] fok Tryz.f8 = some F8 := by kernel_rfl
theorem ab1 : aI Tryz.prog [] 8 F8 := aI.of (aA bR bq mixed Tryz.func8 af')
def acw:Den:=fun _ e s=>bw (V.ay) fun v0=>.au (u4 e v0) s
def ae8:Den:=fun _ e s=>bw (V.ay) fun v0=>.au (u5 e v0) s
def ab':aE:=lt (g5 e) fun v0=>lt (g0 e) fun v1=>bE (aq 31 [(cV v0), (cV v1), (cV (.i 0))] k e s) fun v2 s=>.au (u16 (bG e fun r=>{r with a5:=v2,a14:=v0,a15:=v1}) v2) s
def abu:Den:=fun _ e s=>bw (V.i 0) fun v0=>.au (u6 e v0) s
def TW:Den:=fun _ e s=>lt (g6 e) fun v0=>lt (g0 e) fun v1=>pd aM v1 e fun v2=>pk (bI dW) v0 v2 e fun v3=>.au (cw e fun r=>{r with a1:=v0,a2:=v1,a3:=v2,a4:=v3}) s
def Wp:aE:=lt (g0 e) fun v0=>lt (g6 e) fun v1=>pk (aP 4) v0 v1 e fun v2=>pd (aF 1) v2 e fun v3=>pj v3 e s fun v4=>bE (aq 15 [cV v4] k e s) fun v5 s=>.au (cw e fun r=>{r with a7:=v0,a8:=v1,a9:=v2,a10:=v3,a11:=v4,a12:=v5}) s
def Ta:aE:=lt (g5 e) fun v0=>lt (g0 e) fun v1=>lt (g0 e) fun v2=>lt (g0 e) fun v3=>lt (g6 e) fun v4=>pk (aP 4) v3 v4 e fun v5=>pd (aF 2) v5 e fun v6=>pj v6 e s fun v7=>bE (aq 16 [cV v2,cV v7] k e s) fun v8 s=>bE (aq 31 [cV v0,cV v1,cV v8] k e s) fun v9 s=>.au (cQ (cw (u5 e v9) fun r=>{r with a13:=v0,a14:=v1,a15:=v2}) fun r=>{r with a0:=v3,a1:=v4,a2:=v5,a3:=v6,a4:=v7,a5:=v8,a6:=v9}) s
def RW:aE:=lt (g0 e) fun v0=>lt (g6 e) fun v1=>pk (aP 4) v0 v1 e fun v2=>pd (aF 1) v2 e fun v3=>pj v3 e s fun v4=>bE (aq 15 [cV v4] k e s) fun v5 s=>pf v5 false (aC g0 e) fun v6=>pf v5 false (aC g6 e) fun v7=>pf v5 false (ak (aP 4) (cV v6) (cV v7) e) fun v8=>pf v5 false (aD (aF 1) (cV v8) e) fun v9=>bP (aN v5 false ((aQ (cV v9)) e s)) fun v10=>bE (ia v5 false s (aq 17 [cV v10] k e s)) fun v11 s=>bP (aO (cV v5) (cV (.bool true)) (cV v11) e) fun v12=>.au (eH (mu e fun a b c d f g h _ _ _ _ _ _ _ _ _=>⟨a,b,c,d,f,g,h,v0,v1,v2,v3,v4,v5,v5,v6,v7⟩) fun r=>{r with a0:=v8,a1:=v9,a2:=v10,a3:=v11,a4:=v12}) s
def Tm:aE:=lt (g5 e) fun v0=>lt (g0 e) fun v1=>lt (g6 e) fun v2=>pk (bI bD) v2 (.i 1) e fun v3=>bE (aq 31 [cV v0,cV v1,cV v3] k e s) fun v4 s=>.au (eH (u5 e v4) fun r=>{r with a5:=v0,a6:=v1,a7:=v2,a8:=v3,a9:=v4}) s
def RX:Den:=fun _ e s=>lt (g6 e) fun v0=>pk (bI bD) v0 (.i 1) e fun v1=>.au (cw (u6 e v1) fun r=>{r with a5:=v0,a6:=v1}) s
def X_:Den:=fun _ e s=>bw (V.i 0) fun v0=>.au (u7 e v0) s
def XU:Den:=fun _ e s=>lt (g7 e) fun v0=>lt (g1 e) fun v1=>pd aM v1 e fun v2=>pk (bI dW) v0 v2 e fun v3=>.au (eH e fun r=>{r with a10:=v0,a11:=v1,a12:=v2,a13:=v3}) s
def UO:aE:=fK [⟨none, (.p (aC g5)), u64⟩, ⟨none, (.p (aC g0)), u65⟩, ⟨none, (.p (aC g0)), u66⟩, ⟨none, (.p (aC g1)), u67⟩, ⟨none, (.p (aC g7)), u68⟩, ⟨none, (.p (ak (aP 4) g67 g68)), u69⟩, ⟨none, (.p (aD (aF 0) g69)), u70⟩, ⟨none, (.d 1 0 (aQ g70)), u71⟩, ⟨none, (.e (aq 16 [g66, g71])), u72⟩, ⟨none, (.e (aq 31 [g64, g65, g72])), u73⟩, ⟨none, (.p (aC g0)), u74⟩, ⟨none, (.p (aC g0)), u75⟩, ⟨none, (.p (aC g1)), u76⟩, ⟨none, (.p (aC g7)), u77⟩, ⟨none, (.p (ak (aP 4) g76 g77)), u78⟩, ⟨none, (.p (aD (aF 1) g78)), u79⟩, ⟨none, (.d 0 2 (aQ g79)), u80⟩, ⟨none, (.e (aq 16 [g75, g80])), u81⟩, ⟨none, (.e (aq 31 [g73, g74, g81])), u82⟩, ⟨none, (.p (aC g0)), u83⟩, ⟨none, (.p (aC g0)), u84⟩, ⟨none, (.p (aC g1)), u85⟩, ⟨none, (.p (aC g7)), u86⟩, ⟨none, (.p (ak (aP 4) g85 g86)), u87⟩, ⟨none, (.p (aD (aF 2) g87)), u88⟩, ⟨none, (.d 0 4 (aQ g88)), u89⟩, ⟨none, (.e (aq 16 [g84, g89])), u90⟩, ⟨none, (.e (aq 31 [g82, g83, g90])), u91⟩, ⟨none, (.p (aC g91)), u5⟩] k e s
def V0:Den:=fun _ e s=>lt (g7 e) fun v0=>pk (bI bD) v0 (.i 1) e fun v1=>.au (eH (u7 e v1) fun r=>{r with a14:=v0,a15:=v1}) s
def TA:Den:=fun _ e s=>bw (V.ay) fun v0=>.au (u8 e v0) s
def Tx:Den:=fun _ e s=>bw (V.i 0) fun v0=>.au (u9 e v0) s
def Rv:Den:=fun _ e s=>lt (g9 e) fun v0=>lt (g5 e) fun v1=>pd aM v1 e fun v2=>pk (bI dW) v0 v2 e fun v3=>.au (kQ e fun r=>{r with a12:=v0,a13:=v1,a14:=v2,a15:=v3}) s
def WV:aE:=lt (g5 e) fun v0=>lt (g9 e) fun v1=>pk (aP 1) v0 v1 e fun v2=>pj v2 e s fun v3=>lt (g0 e) fun v4=>pd aM v4 e fun v5=>bP (bM [(.i 0), (.i 0), .ay] [(0, 1, (cV v3)), (1, 1, (cV v5))] e) fun v6=>bE (cZ (kO 3 (cK [(.i 0), (.i 0), .ay]) e s.next) s) fun v7 s=>bE (dJ 3 (cV v7) (cV v6) k e s) fun v8 s=>.au (kU (u10 e v7) fun r=>{r with a2:=v0,a3:=v1,a4:=v2,a5:=v3,a6:=v4,a7:=v5,a8:=v6}) s
def V3:Den:=fun _ e s=>lt (g9 e) fun v0=>pk (bI bD) v0 (.i 1) e fun v1=>lt (g5 e) fun v2=>pd aM v2 e fun v3=>pk (bI dW) v1 v3 e fun v4=>.au (kU e fun r=>{r with a9:=v0,a10:=v1,a11:=v2,a12:=v3,a13:=v4}) s
def Vf:aE:=lt (g5 e) fun v0=>lt (g9 e) fun v1=>pk (bI bD) v1 (.i 1) e fun v2=>pk (aP 1) v0 v2 e fun v3=>pj v3 e s fun v4=>bP (aD (aF 1) g10 e) fun v5=>bE (dJ 1 (cV v5) (cV v4) k e s) fun v6 s=>.au (nC (kU e fun r=>{r with a14:=v0,a15:=v1}) fun r=>{r with a0:=v2,a1:=v3,a2:=v4,a3:=v5}) s
def U0:aE:=lt (g0 e) fun v0=>bP (aD (aF 1) g10 e) fun v1=>pj v1 e s fun v2=>pk (bI ei) v2 (.i 1) e fun v3=>bE (aq 32 [cV v0,cV v3] k e s) fun v4 s=>.au (nC (u11 e v4) fun r=>{r with a4:=v0,a5:=v1,a6:=v2,a7:=v3,a8:=v4}) s
def Vg:Den:=fun _ e s=>bw (V.i 0) fun v0=>.au (u12 e v0) s
def Ry:Den:=fun _ e s=>lt (g12 e) fun v0=>lt (g11 e) fun v1=>pd aM v1 e fun v2=>pk (bI dW) v0 v2 e fun v3=>.au (nC e fun r=>{r with a9:=v0,a10:=v1,a11:=v2,a12:=v3}) s
def XV:Den:=fun _ e s=>bw (V.i 0) fun v0=>.au (u13 e v0) s
def UX:Den:=fun _ e s=>lt (g13 e) fun v0=>lt (g5 e) fun v1=>pd aM v1 e fun v2=>pk (bI dW) v0 v2 e fun v3=>.au (oc (u127 e v0) fun r=>{r with a0:=v1,a1:=v2,a2:=v3}) s
def VY:Den:=fun _ e s=>lt (g5 e) fun v0=>lt (g13 e) fun v1=>pk (aP 1) v0 v1 e fun v2=>pj v2 e s fun v3=>lt (g11 e) fun v4=>lt (g12 e) fun v5=>pk (aP 1) v4 v5 e fun v6=>pj v6 e s fun v7=>pk (bI bp) v3 v7 e fun v8=>.au (rw8 e fun a b c d f _ _ _ _ _ _ _ _ _ q r=>⟨a,b,c,d,f,v0,v1,v2,v3,v4,v5,v6,v7,v8,q,r⟩) s
def Yn:aE:=bP (aD (aF 2) g10 e) fun v0=>pj v0 e s fun v1=>lt (g13 e) fun v2=>bE (cZ (cg 1 1 [(.i 0)] [(0, 1, (cV v2))] e s.next) s) fun v3 s=>bE (kF 1 (cV v1) (cV v3) k e s) fun v4 s=>bP (aD (aF 2) g10 e) fun v5=>bE (dJ 1 (cV v5) (cV v4) k e s) fun v6 s=>.au (yB (oc e fun r=>{r with a14:=v0,a15:=v1}) fun r=>{r with a0:=v2,a1:=v3,a2:=v4,a3:=v5}) s
def WH:Den:=fun _ e s=>lt (g13 e) fun v0=>pk (bI bD) v0 (.i 1) e fun v1=>.au (oc (u13 e v1) fun r=>{r with a3:=v0,a4:=v1}) s
def Ud:Den:=fun _ e s=>lt (g12 e) fun v0=>pk (bI bD) v0 (.i 1) e fun v1=>.au (nC (u12 e v1) fun r=>{r with a13:=v0,a14:=v1}) s
def Xv:aE:=lt (g8 e) fun v0=>bP ((dh 3 g10) e s) fun v1=>bE (cZ (cg 1 3 [(.i 0), (.i 0), .ay] [(0, 3, (cV v1))] e s.next) s) fun v2 s=>bE (iX 3 (cV v0) (cV v2) k e s) fun v3 s=>.au (yB (u8 e v3) fun r=>{r with a4:=v0,a5:=v1,a6:=v2,a7:=v3}) s
def xD:aE:=aa U0 (aa (aa Vg (aG 6 (bT (aa (aa Ry (av g124 az (bB 6))) (aa (aG 7 (aa XV (aG 8 (bT (aa (aa UX (av g130 az (bB 8))) (aa (aG 9 (aa VY (av g141 Yn az))) WH)))))) Ud))))) Xv) k e s
def TS:Den:=fun _ e s=>lt (g9 e) fun v0=>pk (bI bD) v0 (.i 1) e fun v1=>.au (kU (u9 e v1) fun r=>{r with a0:=v0,a1:=v1}) s
def Sl:Den:=fun _ e s=>lt (g8 e) fun v0=>.au (u152 (u4 e v0) v0) s
def Mu:aE:=aa TA (aa (aa Tx (aG 4 (bT (aa (aa Rv (av g95 az (bB 4))) (aa (aG 5 (aa WV (aa (aa V3 (av g109 Vf az)) xD))) TS))))) (aa Sl aS)) k e s
def ER:aE:=aa (aa X_ (aG 2 (bT (aa (aa XU (av g61 az (bB 2))) (aa (aG 3 UO) V0))))) Mu k e s
def YP:aE:=aa acw (aa ae8 (aa ab' (aa (aa abu (aG 0 (bT (aa (aa TW (av g20 az (bB 0))) (aa (aG 1 (aa (aa Wp (av g28 Ta az)) (aa RW (av g52 Tm az)))) RX))))) ER))) k e s
def F9 : aX := ⟨[u0, u1], YP, aL [rT g4]⟩
theorem agV : aH tt [] fok Tryz.f9 = some F9 := by kernel_rfl
theorem acJ : aI Tryz.prog [] 9 F9 := aI.of (aA bR bq mixed Tryz.func9 agV)
def UW:Den:=fun _ e s=>bw (V.bool false) fun v0=>.au (u4 e v0) s
def WM:Den:=fun _ e s=>lt (g0 e) fun v0=>pd aM v0 e fun v1=>lt (g1 e) fun v2=>pd aM v2 e fun v3=>pk (bI sH) v1 v3 e fun v4=>.au (bG e fun r=>{r with a6:=v0,a7:=v1,a8:=v2,a9:=v3,a10:=v4}) s
def RZ:Den:=fun _ e s=>bw (V.bool false) fun v0=>.au (u4 e v0) s
def HW:Den:=fun _ e s=>bw (V.i 0) fun v0=>.au (u5 e v0) s
def MN:Den:=fun _ e s=>lt (g5 e) fun v0=>lt (g0 e) fun v1=>pd aM v1 e fun v2=>pk (bI dW) v0 v2 e fun v3=>.au (bG e fun r=>{r with a11:=v0,a12:=v1,a13:=v2,a14:=v3}) s
def Lz:Den:=fun _ e s=>lt (g0 e) fun v0=>lt (g5 e) fun v1=>pk (aP 1) v0 v1 e fun v2=>pj v2 e s fun v3=>lt (g1 e) fun v4=>lt (g5 e) fun v5=>pk (aP 1) v4 v5 e fun v6=>pj v6 e s fun v7=>pk (qD true) v3 v7 e fun v8=>.au (cw e fun r=>{r with a1:=v0,a2:=v1,a3:=v2,a4:=v3,a5:=v4,a6:=v5,a7:=v6,a8:=v7,a9:=v8}) s
def D0:Den:=fun _ e s=>bw (V.bool false) fun v0=>.au (u4 e v0) s
def Gg:Den:=fun _ e s=>lt (g5 e) fun v0=>pk (bI bD) v0 (.i 1) e fun v1=>.au (u16 (bG e fun r=>{r with a5:=v1,a15:=v0}) v1) s
def Nt:Den:=fun _ e s=>bw (V.bool true) fun v0=>.au (u4 e v0) s
def Bj:aE:=aa UW (aa (aa WM (av g10 (aa RZ aS) az)) (aa (aa HW (aG 0 (bT (aa (aa MN (av g14 az (bB 0))) (aa (aG 1 (aa Lz (av g25 (aa D0 aS) az))) Gg))))) (aa Nt aS))) k e s
def F10 : aX := ⟨[u0, u1], Bj, aL [rT g4]⟩
theorem adR : aH tt [] fok Tryz.f10 = some F10 := by kernel_rfl
theorem Wr : aI Tryz.prog [] 10 F10 := aI.of (aA bR bq mixed Tryz.func10 adR)
def Ss:Den:=fun _ e s=>bE (cZ (kH g0 e s.next) s) fun v0 s=>bw (V.ay) fun v1=>.au (bG e fun r=>{r with a2:=v0,a4:=v1}) s
def VK:aE:=bP ((aQ g2) e s) fun v0=>pd aM v0 e fun v1=>bE (cZ (qV 1 1 [(.bool false)] (cV v1) (cV v1) e s.next) s) fun v2 s=>bE (cZ (kO 1 (cK [.ay]) e s.next) s) fun v3 s=>bE (dJ 1 (cV v3) (cV v2) k e s) fun v4 s=>.au (bG e fun r=>{r with a5:=v3,a13:=v0,a14:=v1,a15:=v2}) s
def UD:Den:=fun _ e s=>bE (cZ (kO 1 (cK [.ay]) e s.next) s) fun v0 s=>.au (u6 e v0) s
def Wn:Den:=fun _ e s=>bP (vw 33 [] [g2, g5, g6] e) fun v0=>.au (u16 (u7 e v0) v0) s
def Xg:aE:=lt (g7 e) fun v0=>bE (fP fok (cV v0) [(cV (.i 0))] k e s) fun v1 s=>.au (cw e fun r=>{r with a1:=v0,a2:=v1}) s
def N5:Den:=fun _ e s=>bP ((aQ g6) e s) fun v0=>pd aM v0 e fun v1=>pk (bI su) v1 (.i 0) e fun v2=>.au (cw e fun r=>{r with a3:=v0,a4:=v1,a5:=v2}) s
def Ir:Den:=fun _ e s=>bP ((aQ g6) e s) fun v0=>bP ((aQ g6) e s) fun v1=>pd aM v1 e fun v2=>pk (bI ei) v2 (.i 1) e fun v3=>pk (aP 1) v0 v3 e fun v4=>pj v4 e s fun v5=>.au (cw (u8 e v5) fun r=>{r with a6:=v0,a7:=v1,a8:=v2,a9:=v3,a10:=v4,a11:=v5}) s
def Dt:aE:=bP ((aQ g6) e s) fun v0=>bP ((aQ g6) e s) fun v1=>pd aM v1 e fun v2=>pk (bI ei) v2 (.i 1) e fun v3=>bP (xg 1 (cV v0) none (some (cV v3)) none e) fun v4=>bE (dJ 1 g6 (cV v4) k e s) fun v5 s=>.au (u32 (cw e fun r=>{r with a12:=v0,a13:=v1,a14:=v2,a15:=v3}) v4) s
def LF:aE:=bP ((aQ g2) e s) fun v0=>lt (g8 e) fun v1=>bE (aq 29 [cV v0,cV v1] k e s) fun v2 s=>pd aM v2 e fun v3=>bw (V.i 0) fun v4=>.au (cQ e fun r=>{r with a1:=v0,a2:=v1,a3:=v2,a4:=v3,a5:=v4}) s
def E_:Den:=fun _ e s=>bP (ak (bI dW) g37 g36 e) fun v0=>.au (u38 e v0) s
def Ml:Den:=fun _ e s=>bP (ak (aP 1) g35 g37 e) fun v0=>pj v0 e s fun v1=>.au (cQ (u10 e v1) fun r=>{r with a7:=v0,a8:=v1}) s
def FG:aE:=lt (g7 e) fun v0=>lt (g10 e) fun v1=>bE (fP fok (cV v0) [cV v1] k e s) fun v2 s=>.au (cQ e fun r=>{r with a9:=v0,a10:=v1,a11:=v2}) s
def FY:Den:=fun _ e s=>bP (ak (bI bD) g37 (cV (.i 1)) e) fun v0=>.au (cQ e fun r=>{r with a5:=v0,a12:=v0}) s
def Mt:Den:=fun _ e s=>lt (g1 e) fun v0=>pd aM v0 e fun v1=>bw (V.i 0) fun v2=>.au (cQ e fun r=>{r with a13:=v0,a14:=v1,a15:=v2}) s
def JW:Den:=fun _ e s=>bP (ak (bI dW) g47 g46 e) fun v0=>.au (u48 e v0) s
def BM:aE:=bP (ak (aP 4) g45 g47 e) fun v0=>bP ((dh 4 (cV v0)) e s) fun v1=>bE (cZ (kO 4 (cK [(.i 0), (.i 0), (.i 0), (.str [])]) e s.next) s) fun v2 s=>bE (dJ 4 (cV v2) (cV v1) k e s) fun v3 s=>.au (eH (u12 e v2) fun r=>{r with a1:=v0,a2:=v1}) s
def Lg:Den:=fun _ e s=>bP (aD (aF 0) g12 e) fun v0=>pj v0 e s fun v1=>bP ((aQ g2) e s) fun v2=>lt (g8 e) fun v3=>pk (aP 4) v2 v3 e fun v4=>pd (aF 0) v4 e fun v5=>pj v5 e s fun v6=>pk (bI zM) v1 v6 e fun v7=>pf v7 true ((aQ g2) e s) fun v8=>pf v7 true (aC g8 e) fun v9=>pf v7 true (ak (aP 4) (cV v8) (cV v9) e) fun v10=>pf v7 true (aD (aF 0) (cV v10) e) fun v11=>bP (aN v7 true ((aQ (cV v11)) e s)) fun v12=>pf v7 true (aD (aF 1) g12 e) fun v13=>bP (aN v7 true ((aQ (cV v13)) e s)) fun v14=>pf v7 true (ak (bI dW) (cV v12) (cV v14) e) fun v15=>bP (aO (cV v7) (cV v15) (cV (.bool false)) e) fun v16=>.au (jh (EG e fun a b c _ _ _ _ _ _ _ _ _ _ _ _ _=>⟨a,b,c,v0,v1,v2,v3,v4,v5,v6,v7,v7,v8,v9,v10,v11⟩) fun r=>{r with a0:=v12,a1:=v13,a2:=v14,a3:=v15,a4:=v16}) s
def FZ:aE:=lt (g7 e) fun v0=>bP ((aQ g2) e s) fun v1=>bP (aD (aF 2) g12 e) fun v2=>pj v2 e s fun v3=>bE (aq 23 [cV v1,cV v3] k e s) fun v4 s=>bE (fP fok (cV v0) [cV v4] k e s) fun v5 s=>.au (jh e fun r=>{r with a5:=v0,a6:=v1,a7:=v2,a8:=v3,a9:=v4,a10:=v5}) s
def Jr:Den:=fun _ e s=>bP (ak (bI bD) g47 (cV (.i 1)) e) fun v0=>.au (u75 (u47 e v0) v0) s
def N6:Den:=fun _ e s=>bP ((aQ g5) e s) fun v0=>.au (u76 (u4 e v0) v0) s
def Bx:aE:=aa Ss (aa VK (aa UD (aa Wn (aa Xg (aa (aG 0 (bT (aa (aa N5 (av g21 az (bB 0))) (aG 1 (aa Ir (aa Dt (aa (aa LF (aG 2 (bT (aa E_ (aa (av g38 az (bB 2)) (aa (aG 3 (aa Ml FG)) FY)))))) (aa Mt (aG 4 (bT (aa JW (aa (av g48 az (bB 4)) (aa (aG 5 (aa BM (aa Lg (av g68 FZ az)))) Jr))))))))))))) (aa N6 aS)))))) k e s
def F11 : aX := ⟨[u0, u1], Bx, aL [rT g4]⟩
theorem ac5 : aH tt [] fok Tryz.f11 = some F11 := by kernel_rfl
theorem Rg : aI Tryz.prog [] 11 F11 := aI.of (aA bR bq mixed Tryz.func11 ac5)
def Ya:Den:=fun _ e s=>bw (V.ay) fun v0=>.au (u4 e v0) s
def Yx:Den:=fun _ e s=>lt (g0 e) fun v0=>pd aM v0 e fun v1=>bE (cZ (qV 1 1 [(.bool false)] (cV v1) (cV v1) e s.next) s) fun v2 s=>.au (bG e fun r=>{r with a5:=v2,a13:=v0,a14:=v1,a15:=v2}) s
def Xm:Den:=fun _ e s=>lt (g0 e) fun v0=>pd aM v0 e fun v1=>pk (bI bp) v1 (.i 0) e fun v2=>.au (cw e fun r=>{r with a0:=v0,a1:=v1,a2:=v2}) s
def Wv:Den:=fun _ e s=>bw (V.ay) fun v0=>.au (u4 e v0) s
def L_:aE:=lt (g5 e) fun v0=>pk (aP 1) v0 (.i 0) e fun v1=>bE (dJ 1 (cV v1) (cV (.bool true)) k e s) fun v2 s=>.au (cw e fun r=>{r with a3:=v0,a4:=v1}) s
def AV:Den:=fun _ e s=>bw (V.bool true) fun v0=>.au (u6 e v0) s
def Hh:Den:=fun _ e s=>lt (g6 e) fun v0=>.au (u21 e v0) s
def Cz:Den:=fun _ e s=>bw (V.bool false) fun v0=>.au (u6 e v0) s
def I8:Den:=fun _ e s=>bw (V.i 0) fun v0=>.au (u7 e v0) s
def GQ:Den:=fun _ e s=>lt (g7 e) fun v0=>lt (g0 e) fun v1=>pd aM v1 e fun v2=>pk (bI dW) v0 v2 e fun v3=>.au (cw e fun r=>{r with a6:=v0,a7:=v1,a8:=v2,a9:=v3}) s
def HZ:Den:=fun _ e s=>lt (g5 e) fun v0=>lt (g7 e) fun v1=>pk (aP 1) v0 v1 e fun v2=>pj v2 e s fun v3=>pd gR v3 e fun v4=>.au (u32 (cw e fun r=>{r with a12:=v0,a13:=v1,a14:=v2,a15:=v3}) v4) s
def GG:aE:=lt (g0 e) fun v0=>lt (g7 e) fun v1=>bE (aq 32 [cV v0,cV v1] k e s) fun v2 s=>.au (cQ (u8 e v2) fun r=>{r with a1:=v0,a2:=v1,a3:=v2}) s
def AO:aE:=lt (g0 e) fun v0=>lt (g1 e) fun v1=>lt (g7 e) fun v2=>bE (aq 34 [cV v0,cV v1,cV v2] k e s) fun v3 s=>.au (cQ (u9 e v3) fun r=>{r with a4:=v0,a5:=v1,a6:=v2,a7:=v3}) s
def Cj:Den:=fun _ e s=>bw (V.i 0) fun v0=>.au (u10 e v0) s
def Bp:Den:=fun _ e s=>lt (g10 e) fun v0=>lt (g9 e) fun v1=>pd aM v1 e fun v2=>pk (bI dW) v0 v2 e fun v3=>.au (cQ e fun r=>{r with a8:=v0,a9:=v1,a10:=v2,a11:=v3}) s
def HS:aE:=lt (g0 e) fun v0=>lt (g1 e) fun v1=>lt (g9 e) fun v2=>lt (g10 e) fun v3=>pk (aP 1) v2 v3 e fun v4=>pj v4 e s fun v5=>pk (aP 4) v1 v5 e fun v6=>pd (aF 2) v6 e fun v7=>pj v7 e s fun v8=>bE (aq 16 [cV v0,cV v8] k e s) fun v9 s=>.au (eH (cQ (u11 e v9) fun r=>{r with a14:=v0,a15:=v1}) fun r=>{r with a0:=v2,a1:=v3,a2:=v4,a3:=v5,a4:=v6,a5:=v7,a6:=v8,a7:=v9}) s
def Dx:Den:=fun _ e s=>lt (g11 e) fun v0=>pk (bI m6) v0 (.i 0) e fun v1=>.au (eH e fun r=>{r with a8:=v0,a9:=v1}) s
def Ky:aE:=lt (g8 e) fun v0=>lt (g11 e) fun v1=>bE (cZ (cg 1 1 [(.i 0)] [(0, 1, (cV v1))] e s.next) s) fun v2 s=>bE (kF 1 (cV v0) (cV v2) k e s) fun v3 s=>.au (eH (u8 e v3) fun r=>{r with a10:=v0,a11:=v1,a12:=v2,a13:=v3}) s
def Ms:Den:=fun _ e s=>lt (g10 e) fun v0=>pk (bI bD) v0 (.i 1) e fun v1=>.au (cQ (u10 e v1) fun r=>{r with a12:=v0,a13:=v1}) s
def DO:Den:=fun _ e s=>bw (V.i 0) fun v0=>.au (u12 e v0) s
def KT:Den:=fun _ e s=>lt (g12 e) fun v0=>lt (g8 e) fun v1=>pd aM v1 e fun v2=>pk (bI dW) v0 v2 e fun v3=>.au (jh (eH e fun r=>{r with a14:=v0,a15:=v1}) fun r=>{r with a0:=v2,a1:=v3}) s
def D5:Den:=fun _ e s=>lt (g6 e) fun v0=>pf v0 false (aC g5 e) fun v1=>pf v0 false (aC g8 e) fun v2=>pf v0 false (aC g12 e) fun v3=>pf v0 false (ak (aP 1) (cV v2) (cV v3) e) fun v4=>bP (aN v0 false ((aQ (cV v4)) e s)) fun v5=>pf v0 false (ak (aP 1) (cV v1) (cV v5) e) fun v6=>bP (aN v0 false ((aQ (cV v6)) e s)) fun v7=>pf v0 false (aD gR (cV v7) e) fun v8=>bP (aO (cV v0) (cV (.bool true)) (cV v8) e) fun v9=>.au (T0 (u6 e v9) fun a b c d _ _ _ _ _ _ _ _ _ _ _ r=>⟨a,b,c,d,v0,v0,v1,v2,v3,v4,v5,v6,v7,v8,v9,r⟩) s
def Na:aE:=lt (g5 e) fun v0=>lt (g8 e) fun v1=>lt (g12 e) fun v2=>pk (aP 1) v1 v2 e fun v3=>pj v3 e s fun v4=>pk (aP 1) v0 v4 e fun v5=>bE (dJ 1 (cV v5) (cV (.bool true)) k e s) fun v6 s=>.au (kQ (u79 e v0) fun r=>{r with a0:=v1,a1:=v2,a2:=v3,a3:=v4,a4:=v5}) s
def Lm:Den:=fun _ e s=>lt (g12 e) fun v0=>pk (bI bD) v0 (.i 1) e fun v1=>.au (jh (u12 e v1) fun r=>{r with a2:=v0,a3:=v1}) s
def FJ:aE:=aa DO (aG 6 (bT (aa (aa KT (av g65 az (bB 6))) (aa (aG 7 (aa D5 Na)) Lm)))) k e s
def Oo:Den:=fun _ e s=>lt (g7 e) fun v0=>pk (bI bD) v0 (.i 1) e fun v1=>.au (cw (u7 e v1) fun r=>{r with a10:=v0,a11:=v1}) s
def L9:Den:=fun _ e s=>lt (g5 e) fun v0=>.au (u85 (u4 e v0) v0) s
def Hy:aE:=aa Ya (aa Yx (aa (aa Xm (av g18 (aa Wv aS) az)) (aa L_ (aa (aa AV (aG 0 (bT (aa (aa Hh (av g21 az (bB 0))) (aG 1 (aa Cz (aa I8 (aG 2 (bT (aa (aa GQ (av g25 az (bB 2))) (aa (aG 3 (aa (aa HZ (av g32 (bB 3) az)) (aa GG (aa AO (aa (aa Cj (aG 4 (bT (aa (aa Bp (av g43 az (bB 4))) (aa (aG 5 (aa HS (aa Dx (av g57 Ky az)))) Ms))))) FJ))))) Oo))))))))))) (aa L9 aS))))) k e s
def Sg : aX := ⟨[u0, u1], Hy, aL [rT g4]⟩
theorem aeN : aH tt [] fok Tryz.f12 = some Sg := by kernel_rfl
theorem T4 : aI Tryz.prog [] 12 Sg := aI.of (aA bR bq mixed Tryz.func12 aeN)
def Tp:Den:=fun _ e s=>bw (V.ay) fun v0=>bw (V.i 0) fun v1=>bw (V.i 0) fun v2=>.au (bG e fun r=>{r with a2:=v0,a3:=v1,a4:=v2}) s
def VD:Den:=fun _ e s=>lt (g0 e) fun v0=>pd aM v0 e fun v1=>pk (bI su) v1 (.i 1024) e fun v2=>.au (bG e fun r=>{r with a9:=v0,a10:=v1,a11:=v2}) s
def RQ:Den:=fun _ e s=>bw (V.ay) fun v0=>bw (V.i 3) fun v1=>bw (V.i 0) fun v2=>.au (bG e fun r=>{r with a2:=v0,a3:=v1,a4:=v2}) s
def Wc:Den:=fun _ e s=>bw (V.ay) fun v0=>.au (u5 e v0) s
def Bk:Den:=fun _ e s=>bw (V.i 0) fun v0=>.au (u6 e v0) s
def Fx:Den:=fun _ e s=>lt (g6 e) fun v0=>lt (g0 e) fun v1=>pd aM v1 e fun v2=>pk (bI dW) v0 v2 e fun v3=>.au (bG e fun r=>{r with a12:=v0,a13:=v1,a14:=v2,a15:=v3}) s
def Il:aE:=lt (g6 e) fun v0=>lt (g0 e) fun v1=>lt (g6 e) fun v2=>pk (aP 1) v1 v2 e fun v3=>pj v3 e s fun v4=>pd (cT .i64) v4 e fun v5=>bP (bM [(.i 0), (.i 0), (.i 0), (.i 0)] [(0, 1, (cV v0)), (1, 1, (cV v5))] e) fun v6=>bE (cZ (kO 4 (cK [(.i 0), (.i 0), (.i 0), (.i 0)]) e s.next) s) fun v7 s=>bE (dJ 4 (cV v7) (cV v6) k e s) fun v8 s=>.au (cw (u7 e v7) fun r=>{r with a0:=v0,a1:=v1,a2:=v2,a3:=v3,a4:=v4,a5:=v5,a6:=v6}) s
def Jt:aE:=bP (aD (aF 1) g7 e) fun v0=>pj v0 e s fun v1=>bE (aq 35 [cV v1] k e s) fun v2 s=>.au (cw (u8 e v2) fun r=>{r with a7:=v0,a8:=v1,a9:=v2}) s
def Fq:Den:=fun _ e s=>lt (g8 e) fun v0=>pk (bI bp) v0 (.i 0) e fun v1=>.au (cw e fun r=>{r with a10:=v0,a11:=v1}) s
def Ic:Den:=fun _ e s=>lt (g6 e) fun v0=>bw (V.ay) fun v1=>bw (V.i 15) fun v2=>.au (u28 (bG e fun r=>{r with a2:=v1,a3:=v2,a4:=v0}) v0) s
def z_:Den:=fun _ e s=>lt (g6 e) fun v0=>lt (g8 e) fun v1=>pk (bI bD) v0 v1 e fun v2=>lt (g0 e) fun v3=>pd aM v3 e fun v4=>pk (bI su) v2 v4 e fun v5=>.au (cQ (cw e fun r=>{r with a13:=v0,a14:=v1,a15:=v2}) fun r=>{r with a0:=v3,a1:=v4,a2:=v5}) s
def BA:Den:=fun _ e s=>lt (g6 e) fun v0=>bw (V.ay) fun v1=>bw (V.i 10) fun v2=>.au (u35 (bG e fun r=>{r with a2:=v1,a3:=v2,a4:=v0}) v0) s
def GH:Den:=fun _ e s=>bP (aD (aF 1) g7 e) fun v0=>pj v0 e s fun v1=>pk (bI bp) v1 (.i 132) e fun v2=>.au (cQ e fun r=>{r with a4:=v2,a5:=v0,a6:=v1,a7:=v2}) s
def IA:aE:=lt (g0 e) fun v0=>lt (g6 e) fun v1=>pk (bI bD) v1 (.i 1) e fun v2=>pk (aP 1) v0 v2 e fun v3=>pj v3 e s fun v4=>pd (cT .i64) v4 e fun v5=>bP (aD (aF 2) g7 e) fun v6=>bE (dJ 1 (cV v6) (cV v5) k e s) fun v7 s=>.au (cQ e fun r=>{r with a8:=v0,a9:=v1,a10:=v2,a11:=v3,a12:=v4,a13:=v5,a14:=v6}) s
def Dp:aE:=lt (g0 e) fun v0=>lt (g6 e) fun v1=>pk (bI bD) v1 (.i 2) e fun v2=>pk (aP 1) v0 v2 e fun v3=>pj v3 e s fun v4=>pd (cT .i8) v4 e fun v5=>pd (cT .i64) v5 e fun v6=>bP (aD (aF 3) g7 e) fun v7=>bE (dJ 1 (cV v7) (cV v6) k e s) fun v8 s=>.au (eH (u47 e v0) fun r=>{r with a0:=v1,a1:=v2,a2:=v3,a3:=v4,a4:=v5,a5:=v6,a6:=v7}) s
def Fv:aE:=lt (g8 e) fun v0=>pk (bI bp) v0 (.i 2) e fun v1=>pf v1 true (aD (aF 1) g7 e) fun v2=>bP (aN v1 true ((aQ (cV v2)) e s)) fun v3=>bE (ia v1 true s (aq 36 [cV v3] k e s)) fun v4 s=>bP (aO (cV v1) (cV v4) (cV (.bool false)) e) fun v5=>.au (eH e fun r=>{r with a7:=v5,a8:=v0,a9:=v1,a10:=v1,a11:=v2,a12:=v3,a13:=v4,a14:=v5}) s
def Kl:aE:=lt (g0 e) fun v0=>lt (g6 e) fun v1=>pk (bI bD) v1 (.i 1) e fun v2=>pk (aP 1) v0 v2 e fun v3=>pj v3 e s fun v4=>pd (cT .i8) v4 e fun v5=>pd (cT .i64) v5 e fun v6=>bP (aD (aF 2) g7 e) fun v7=>bE (dJ 1 (cV v7) (cV v6) k e s) fun v8 s=>.au (jh (u63 e v0) fun r=>{r with a0:=v1,a1:=v2,a2:=v3,a3:=v4,a4:=v5,a5:=v6,a6:=v7}) s
def HC:Den:=fun _ e s=>lt (g8 e) fun v0=>pk (bI bp) v0 (.i 2) e fun v1=>.au (jh e fun r=>{r with a7:=v1,a8:=v0,a9:=v1}) s
def Ka:aE:=lt (g0 e) fun v0=>lt (g6 e) fun v1=>pk (bI bD) v1 (.i 1) e fun v2=>pk (aP 1) v0 v2 e fun v3=>pj v3 e s fun v4=>pd (cT .i64) v4 e fun v5=>bP (aD (aF 2) g7 e) fun v6=>bE (dJ 1 (cV v6) (cV v5) k e s) fun v7 s=>.au (u80 (jh e fun r=>{r with a10:=v0,a11:=v1,a12:=v2,a13:=v3,a14:=v4,a15:=v5}) v6) s
def Dm:aE:=lt (g8 e) fun v0=>pk (bI bp) v0 (.i 3) e fun v1=>pf v1 true (aD (aF 1) g7 e) fun v2=>bP (aN v1 true ((aQ (cV v2)) e s)) fun v3=>bE (ia v1 true s (aq 36 [cV v3] k e s)) fun v4 s=>bP (aO (cV v1) (cV v4) (cV (.bool false)) e) fun v5=>.au (kQ e fun r=>{r with a1:=v5,a2:=v0,a3:=v1,a4:=v1,a5:=v2,a6:=v3,a7:=v4,a8:=v5}) s
def DK:aE:=lt (g0 e) fun v0=>lt (g6 e) fun v1=>pk (bI bD) v1 (.i 1) e fun v2=>pk (aP 1) v0 v2 e fun v3=>pj v3 e s fun v4=>pd (cT .u16) v4 e fun v5=>pk (yI .shl .u16) v5 (.int .u64 8) e fun v6=>lt (g0 e) fun v7=>lt (g6 e) fun v8=>pk (bI bD) v8 (.i 2) e fun v9=>pk (aP 1) v7 v9 e fun v10=>pj v10 e s fun v11=>pd (cT .u16) v11 e fun v12=>bP (ak (bK .u16 fun a b=>zu .u16 (jx .or .u16 a b)) (cV v6) (cV v12) e) fun v13=>pd (cT .i16) v13 e fun v14=>pd (cT .i64) v14 e fun v15=>bP (aD (aF 2) g7 e) fun v16=>bE (dJ 1 (cV v16) (cV v15) k e s) fun v17 s=>.au (rw6 (kQ e fun r=>{r with a9:=v0,a10:=v1,a11:=v2,a12:=v3,a13:=v4,a14:=v5,a15:=v6}) fun _ _ _ _ _ _ _ _ _ _ m n o p q r=>⟨v7,v8,v9,v10,v11,v12,v13,v14,v15,v16,m,n,o,p,q,r⟩) s
def MO:Den:=fun _ e s=>lt (g8 e) fun v0=>pk (bI bp) v0 (.i 3) e fun v1=>.au (kU e fun r=>{r with a10:=v1,a11:=v0,a12:=v1}) s
def Jy:aE:=lt (g0 e) fun v0=>lt (g6 e) fun v1=>pk (bI bD) v1 (.i 1) e fun v2=>pk (aP 1) v0 v2 e fun v3=>pj v3 e s fun v4=>pd (cT .i64) v4 e fun v5=>pk (yI .shl .i64) v5 (.int .u64 8) e fun v6=>lt (g0 e) fun v7=>lt (g6 e) fun v8=>pk (bI bD) v8 (.i 2) e fun v9=>pk (aP 1) v7 v9 e fun v10=>pj v10 e s fun v11=>pd (cT .i64) v11 e fun v12=>bP (ak (bI fun a b=>zu .i64 (jx .or .i64 a b)) (cV v6) (cV v12) e) fun v13=>bP (aD (aF 2) g7 e) fun v14=>bE (dJ 1 (cV v14) (cV v13) k e s) fun v15 s=>.au (rw7 (kU e fun r=>{r with a13:=v0,a14:=v1,a15:=v2}) fun _ _ _ _ _ _ _ _ _ _ _ _ o p q r=>⟨v3,v4,v5,v6,v7,v8,v9,v10,v11,v12,v13,v14,o,p,q,r⟩) s
def II:aE:=bP (aD (aF 1) g7 e) fun v0=>pj v0 e s fun v1=>bE (aq 15 [cV v1] k e s) fun v2 s=>.au (nC e fun r=>{r with a12:=v0,a13:=v1,a14:=v2}) s
def Kt:aE:=bP (aD (aF 2) g7 e) fun v0=>pj v0 e s fun v1=>lt (g6 e) fun v2=>pk (bI bD) v1 v2 e fun v3=>bP (aD (aF 2) g7 e) fun v4=>bE (dJ 1 (cV v4) (cV v3) k e s) fun v5 s=>.au (oc (u127 e v0) fun r=>{r with a0:=v1,a1:=v2,a2:=v3,a3:=v4}) s
def NZ:aE:=lt (g5 e) fun v0=>bP ((dh 4 g7) e s) fun v1=>bE (cZ (cg 1 4 [(.i 0), (.i 0), (.i 0), (.i 0)] [(0, 4, (cV v1))] e s.next) s) fun v2 s=>bE (iX 4 (cV v0) (cV v2) k e s) fun v3 s=>.au (oc (u5 e v3) fun r=>{r with a4:=v0,a5:=v1,a6:=v2,a7:=v3}) s
def KU:Den:=fun _ e s=>lt (g6 e) fun v0=>lt (g8 e) fun v1=>pk (bI bD) v0 v1 e fun v2=>.au (oc (u6 e v2) fun r=>{r with a8:=v0,a9:=v1,a10:=v2}) s
def KW:Den:=fun _ e s=>lt (g5 e) fun v0=>bw (V.i 0) fun v1=>bw (V.i 0) fun v2=>.au (u139 (bG e fun r=>{r with a2:=v0,a3:=v1,a4:=v2}) v0) s
def Cf:aE:=aa Tp (aa (aa VD (av g11 (aa RQ aS) az)) (aa Wc (aa (aa Bk (aG 0 (bT (aa (aa Fx (av g15 az (bB 0))) (aG 1 (aa Il (aa Jt (aa (aa Fq (av g27 (aa Ic aS) az)) (aa (aa z_ (av g34 (aa BA aS) az)) (aa (aG 2 (aa GH (av g36 (aa IA Dp) (aa Fv (av g55 Kl (aa HC (av g71 Ka (aa Dm (av g81 DK (aa MO (av g106 Jy az))))))))))) (aa (aa II (av g126 Kt az)) (aa NZ KU)))))))))))) (aa KW aS)))) k e s
def RD : aX := ⟨[u0], Cf, aL [rT g2, rT g3, rT g4]⟩
theorem aeY : aH tt [] fok Tryz.f13 = some RD := by kernel_rfl
theorem X2 : aI Tryz.prog [] 13 RD := aI.of (aA bR bq mixed Tryz.func13 aeY)
def Vj:Den:=fun _ e s=>bw (V.ay) fun v0=>.au (u2 e v0) s
def Uh:Den:=fun _ e s=>lt (g0 e) fun v0=>bP (bM [.ay, (.i 0)] [(0, 1, (cV v0))] e) fun v1=>bE (cZ (kH (cV v1) e s.next) s) fun v2 s=>.au (bG e fun r=>{r with a3:=v2,a11:=v0,a12:=v1,a13:=v2}) s
def Ub:aE:=bP (bM [(.str []), (.str []), (.bool false)] [(0, 1, (cV (.str [120]))), (1, 1, (cV (.str [73])))] e) fun v0=>bP (bM [(.str []), (.str []), (.bool false)] [(0, 1, (cV (.str [110, 101, 120, 116]))), (1, 1, (cV (.str [76, 65, 59])))] e) fun v1=>bP (bM [(.str []), (.str []), (.bool false)] [(0, 1, (cV (.str [115]))), (1, 1, (cV (.str [73]))), (2, 1, (cV (.bool true)))] e) fun v2=>bP (bM [(.str []), (.str []), (.bool false)] [(0, 1, (cV (.str [114]))), (1, 1, (cV (.str [76, 65, 59]))), (2, 1, (cV (.bool true)))] e) fun v3=>bE (cZ (cg 4 3 [(.str []), (.str []), (.bool false), (.str []), (.str []), (.bool false), (.str []), (.str []), (.bool false), (.str []), (.str []), (.bool false)] [(0, 3, (cV v0)), (3, 3, (cV v1)), (6, 3, (cV v2)), (9, 3, (cV v3))] e s.next) s) fun v4 s=>bP (bM [(.str []), (.str []), .ay, .ay, .ay] [(0, 1, (cV (.str [65]))), (1, 1, (cV (.str [79, 98, 106, 101, 99, 116]))), (3, 1, (cV v4))] e) fun v5=>bE (cZ (kO 5 (cK [(.str []), (.str []), .ay, .ay, .ay]) e s.next) s) fun v6 s=>bE (dJ 5 (cV v6) (cV v5) k e s) fun v7 s=>.au (cw (bG e fun r=>{r with a4:=v6,a14:=v0,a15:=v1}) fun r=>{r with a0:=v2,a1:=v3,a2:=v4,a3:=v5}) s
def U9:aE:=lt (g3 e) fun v0=>bP (aD (aF 2) g4 e) fun v1=>pj v1 e s fun v2=>bE (aq 37 [(cV v0), (cV v2), (cV (.str [103, 111])), (cV (.str [40, 73, 41, 73])), (cV (.bool false)), (cV (.bool false)), (cV (.bool true)), (cV (.i 2))] k e s) fun v3 s=>pd (dF 0) v3 e fun v4=>pd (dF 1) v3 e fun v5=>bE (cZ (kO 9 (cK [(.str []), (.str []), (.bool false), (.bool false), (.i 0), (.i 0), .ay, .ay, .ay]) e s.next) s) fun v6 s=>bE (dJ 9 (cV v6) (cV v4) k e s) fun v7 s=>.au (cw (bG e fun r=>{r with a5:=v6,a6:=v5}) fun r=>{r with a4:=v3,a5:=v0,a6:=v1,a7:=v2,a8:=v3,a9:=v4,a10:=v5}) s
def Sr:aE:=lt (g6 e) fun v0=>bP (aD (aF 2) g4 e) fun v1=>bE (dJ 1 (cV v1) (cV v0) k e s) fun v2 s=>.au (cw e fun r=>{r with a11:=v0,a12:=v1}) s
def J3:aE:=bP (aD (aF 4) g4 e) fun v0=>pj v0 e s fun v1=>bP ((dh 9 g5) e s) fun v2=>bE (cZ (cg 1 9 [(.str []), (.str []), (.bool false), (.bool false), (.i 0), (.i 0), .ay, .ay, .ay] [(0, 9, (cV v2))] e s.next) s) fun v3 s=>bE (iX 9 (cV v1) (cV v3) k e s) fun v4 s=>bP (aD (aF 4) g4 e) fun v5=>bE (dJ 1 (cV v5) (cV v4) k e s) fun v6 s=>.au (cQ (cw e fun r=>{r with a13:=v0,a14:=v1,a15:=v2}) fun r=>{r with a0:=v3,a1:=v4,a2:=v5}) s
def AS:aE:=bP (bM [(.str []), (.str []), (.bool false)] [(0, 1, (cV (.str [121]))), (1, 1, (cV (.str [73])))] e) fun v0=>bP (bM [(.str []), (.str []), (.bool false)] [(0, 1, (cV (.str [111, 116, 104, 101, 114]))), (1, 1, (cV (.str [76, 65, 59])))] e) fun v1=>bE (cZ (cg 2 3 [(.str []), (.str []), (.bool false), (.str []), (.str []), (.bool false)] [(0, 3, (cV v0)), (3, 3, (cV v1))] e s.next) s) fun v2 s=>bP (bM [(.str []), (.str []), .ay, .ay, .ay] [(0, 1, (cV (.str [66]))), (1, 1, (cV (.str [65]))), (3, 1, (cV v2))] e) fun v3=>bE (cZ (kO 5 (cK [(.str []), (.str []), .ay, .ay, .ay]) e s.next) s) fun v4 s=>bE (dJ 5 (cV v4) (cV v3) k e s) fun v5 s=>.au (cQ (u7 e v4) fun r=>{r with a3:=v0,a4:=v1,a5:=v2,a6:=v3}) s
def NI:aE:=lt (g3 e) fun v0=>bE (aq 38 [(cV v0), (cV (.i 2))] k e s) fun v1 s=>pk (bI bp) v1 (.i 0) e fun v2=>.au (cQ e fun r=>{r with a7:=v0,a8:=v1,a9:=v2}) s
def EP:aE:=lt (g3 e) fun v0=>bP (aD (aF 2) g7 e) fun v1=>pj v1 e s fun v2=>bE (aq 37 [(cV v0), (cV v2), (cV (.str [103, 111])), (cV (.str [40, 73, 41, 73])), (cV (.bool false)), (cV (.bool false)), (cV (.bool true)), (cV (.i 2))] k e s) fun v3 s=>pd (dF 0) v3 e fun v4=>pd (dF 1) v3 e fun v5=>bE (dJ 9 g5 (cV v4) k e s) fun v6 s=>.au (u48 (cQ (u6 e v5) fun r=>{r with a10:=v3,a11:=v0,a12:=v1,a13:=v2,a14:=v3,a15:=v4}) v5) s
def FF:aE:=lt (g6 e) fun v0=>bP (aD (aF 2) g7 e) fun v1=>bE (dJ 1 (cV v1) (cV v0) k e s) fun v2 s=>.au (eH e fun r=>{r with a1:=v0,a2:=v1}) s
def Nu:aE:=bP (aD (aF 4) g7 e) fun v0=>pj v0 e s fun v1=>bP ((dh 9 g5) e s) fun v2=>bE (cZ (cg 1 9 [(.str []), (.str []), (.bool false), (.bool false), (.i 0), (.i 0), .ay, .ay, .ay] [(0, 9, (cV v2))] e s.next) s) fun v3 s=>bE (iX 9 (cV v1) (cV v3) k e s) fun v4 s=>bP (aD (aF 4) g7 e) fun v5=>bE (dJ 1 (cV v5) (cV v4) k e s) fun v6 s=>.au (eH e fun r=>{r with a3:=v0,a4:=v1,a5:=v2,a6:=v3,a7:=v4,a8:=v5}) s
def Li:aE:=bP (bM [(.str []), (.str []), .ay, .ay, .ay] [(0, 1, (cV (.str [84]))), (1, 1, (cV (.str [84, 104, 114, 101, 97, 100])))] e) fun v0=>bE (cZ (kO 5 (cK [(.str []), (.str []), .ay, .ay, .ay]) e s.next) s) fun v1 s=>bE (dJ 5 (cV v1) (cV v0) k e s) fun v2 s=>.au (u57 (u8 e v1) v0) s
def JV:aE:=lt (g3 e) fun v0=>bP (aD (aF 2) g8 e) fun v1=>pj v1 e s fun v2=>bE (aq 37 [(cV v0), (cV v2), (cV (.str [114, 117, 110])), (cV (.str [40, 41, 86])), (cV (.bool false)), (cV (.bool false)), (cV (.bool false)), (cV (.i 1))] k e s) fun v3 s=>pd (dF 0) v3 e fun v4=>pd (dF 1) v3 e fun v5=>bE (dJ 9 g5 (cV v4) k e s) fun v6 s=>.au (u64 (eH (u6 e v5) fun r=>{r with a10:=v3,a11:=v0,a12:=v1,a13:=v2,a14:=v3,a15:=v4}) v5) s
def Iv:aE:=lt (g6 e) fun v0=>bP (aD (aF 2) g8 e) fun v1=>bE (dJ 1 (cV v1) (cV v0) k e s) fun v2 s=>.au (jh e fun r=>{r with a1:=v0,a2:=v1}) s
def Bb:aE:=bP (aD (aF 4) g8 e) fun v0=>pj v0 e s fun v1=>bP ((dh 9 g5) e s) fun v2=>bE (cZ (cg 1 9 [(.str []), (.str []), (.bool false), (.bool false), (.i 0), (.i 0), .ay, .ay, .ay] [(0, 9, (cV v2))] e s.next) s) fun v3 s=>bE (iX 9 (cV v1) (cV v3) k e s) fun v4 s=>bP (aD (aF 4) g8 e) fun v5=>bE (dJ 1 (cV v5) (cV v4) k e s) fun v6 s=>.au (jh e fun r=>{r with a3:=v0,a4:=v1,a5:=v2,a6:=v3,a7:=v4,a8:=v5}) s
def CJ:aE:=bP (bM [(.str []), (.str []), .ay, .ay, .ay] [(0, 1, (cV (.str [77, 97, 105, 110]))), (1, 1, (cV (.str [79, 98, 106, 101, 99, 116])))] e) fun v0=>bE (cZ (kO 5 (cK [(.str []), (.str []), .ay, .ay, .ay]) e s.next) s) fun v1 s=>bE (dJ 5 (cV v1) (cV v0) k e s) fun v2 s=>.au (u73 (u9 e v1) v0) s
def Ip:aE:=lt (g3 e) fun v0=>bP (aD (aF 2) g9 e) fun v1=>pj v1 e s fun v2=>bE (aq 37 [(cV v0), (cV v2), (cV (.str [109, 97, 105, 110])), (cV (.str [40, 41, 86])), (cV (.bool true)), (cV (.bool false)), (cV (.bool false)), (cV (.i 0))] k e s) fun v3 s=>pd (dF 0) v3 e fun v4=>pd (dF 1) v3 e fun v5=>bE (dJ 9 g5 (cV v4) k e s) fun v6 s=>.au (u80 (jh (u6 e v5) fun r=>{r with a10:=v3,a11:=v0,a12:=v1,a13:=v2,a14:=v3,a15:=v4}) v5) s
def NK:aE:=lt (g3 e) fun v0=>lt (g6 e) fun v1=>bE (aq 37 [(cV v0), (cV v1), (cV (.str [99, 97, 108, 99])), (cV (.str [40, 73, 73, 41, 73])), (cV (.bool true)), (cV (.bool true)), (cV (.bool true)), (cV (.i 2))] k e s) fun v2 s=>pd (dF 0) v2 e fun v3=>pd (dF 1) v2 e fun v4=>bE (cZ (kO 9 (cK [(.str []), (.str []), (.bool false), (.bool false), (.i 0), (.i 0), .ay, .ay, .ay]) e s.next) s) fun v5 s=>bE (dJ 9 (cV v5) (cV v3) k e s) fun v6 s=>.au (kQ (bG e fun r=>{r with a6:=v4,a10:=v5}) fun r=>{r with a1:=v2,a2:=v0,a3:=v1,a4:=v2,a5:=v3,a6:=v4}) s
def Bo:aE:=lt (g6 e) fun v0=>bP (aD (aF 2) g9 e) fun v1=>bE (dJ 1 (cV v1) (cV v0) k e s) fun v2 s=>.au (kQ e fun r=>{r with a7:=v0,a8:=v1}) s
def MX:aE:=bP (aD (aF 4) g9 e) fun v0=>pj v0 e s fun v1=>bP ((dh 9 g5) e s) fun v2=>bP ((dh 9 g10) e s) fun v3=>bE (cZ (cg 2 9 [(.str []), (.str []), (.bool false), (.bool false), (.i 0), (.i 0), .ay, .ay, .ay, (.str []), (.str []), (.bool false), (.bool false), (.i 0), (.i 0), .ay, .ay, .ay] [(0, 9, (cV v2)), (9, 9, (cV v3))] e s.next) s) fun v4 s=>bE (iX 9 (cV v1) (cV v4) k e s) fun v5 s=>bP (aD (aF 4) g9 e) fun v6=>bE (dJ 1 (cV v6) (cV v5) k e s) fun v7 s=>.au (kQ e fun r=>{r with a9:=v0,a10:=v1,a11:=v2,a12:=v3,a13:=v4,a14:=v5,a15:=v6}) s
def MZ:Den:=fun _ e s=>bP ((dh 5 g4) e s) fun v0=>bP ((dh 5 g7) e s) fun v1=>bP ((dh 5 g8) e s) fun v2=>bP ((dh 5 g9) e s) fun v3=>bE (cZ (cg 4 5 [(.str []), (.str []), .ay, .ay, .ay, (.str []), (.str []), .ay, .ay, .ay, (.str []), (.str []), .ay, .ay, .ay, (.str []), (.str []), .ay, .ay, .ay] [(0, 5, (cV v0)), (5, 5, (cV v1)), (10, 5, (cV v2)), (15, 5, (cV v3))] e s.next) s) fun v4 s=>.au (kU (u2 e v4) fun r=>{r with a0:=v0,a1:=v1,a2:=v2,a3:=v3,a4:=v4}) s
def wC:aE:=aa Li (aa JV (aa Iv (aa Bb (aa CJ (aa Ip (aa NK (aa Bo (aa MX (aa MZ aS))))))))) k e s
def Ei:aE:=aa Vj (aa Uh (aa Ub (aa U9 (aa Sr (aa J3 (aa AS (aa (aa NI (av g41 (aa EP (aa FF Nu)) az)) wC))))))) k e s
def Pn : aX := ⟨[u0], Ei, aL [rT g2]⟩
theorem aby : aH tt [] fok Tryz.f14 = some Pn := by kernel_rfl
theorem TU : aI Tryz.prog [] 14 Pn := aI.of (aA bR bq mixed Tryz.func14 aby)
noncomputable def F15 : aX := iC (fN 0 256 fun i => .bool (gU i))
def Uo:Den:=fun _ e s=>bw (V.i 0) fun v0=>.au (u4 e v0) s
def TB:Den:=fun _ e s=>bw (V.i 0) fun v0=>.au (u5 e v0) s
def Xj:Den:=fun _ e s=>lt (g5 e) fun v0=>lt (g0 e) fun v1=>pd aM v1 e fun v2=>pk (bI dW) v0 v2 e fun v3=>.au (bG e fun r=>{r with a6:=v0,a7:=v1,a8:=v2,a9:=v3}) s
def LB:Den:=fun _ e s=>lt (g0 e) fun v0=>lt (g5 e) fun v1=>pk (aP 4) v0 v1 e fun v2=>pd (aF 0) v2 e fun v3=>pj v3 e s fun v4=>lt (g1 e) fun v5=>pk (bI bp) v4 v5 e fun v6=>.au (cw (bG e fun r=>{r with a12:=v0,a13:=v1,a14:=v2,a15:=v3}) fun r=>{r with a0:=v4,a1:=v5,a2:=v6}) s
def NV:Den:=fun _ e s=>lt (g5 e) fun v0=>.au (u19 (u4 e v0) v0) s
def LD:Den:=fun _ e s=>lt (g5 e) fun v0=>pk (bI bD) v0 (.i 1) e fun v1=>.au (bG e fun r=>{r with a5:=v1,a10:=v0,a11:=v1}) s
def IT:Den:=fun _ e s=>bw (V.i (-1)) fun v0=>.au (u4 e v0) s
def MB:aE:=aa Uo (aa (aa TB (aG 0 (bT (aa (aa Xj (av g9 az (bB 0))) (aa (aG 1 (aa LB (av g18 (aa NV aS) az))) LD))))) (aa IT aS)) k e s
def F16 : aX := ⟨[u0, u1], MB, aL [rT g4]⟩
theorem adT : aH tt [] fok Tryz.f16 = some F16 := by kernel_rfl
theorem Wy : aI Tryz.prog [] 16 F16 := aI.of (aA bR bq mixed Tryz.func16 adT)
noncomputable def F17 : aX := iC (fN 0 256 fun i => .bool (eN i))
def RR:Den:=fun _ e s=>bw (V.i 0) fun v0=>.au (u2 e v0) s
def TX:Den:=fun _ e s=>lt (g0 e) fun v0=>pd aM v0 e fun v1=>pk (bI bp) v1 (.i 0) e fun v2=>.au (bG e fun r=>{r with a4:=v0,a5:=v1,a6:=v2}) s
def T2:Den:=fun _ e s=>bw (V.i 0) fun v0=>.au (u2 e v0) s
def SF:aE:=lt (g0 e) fun v0=>lt (g0 e) fun v1=>pd aM v1 e fun v2=>pk (bI ei) v2 (.i 1) e fun v3=>pk (aP 4) v0 v3 e fun v4=>bP ((dh 4 (cV v4)) e s) fun v5=>bE (cZ (kO 4 (cK [(.i 0), (.i 0), (.i 0), (.i 0)]) e s.next) s) fun v6 s=>bE (dJ 4 (cV v6) (cV v5) k e s) fun v7 s=>.au (bG e fun r=>{r with a3:=v6,a7:=v0,a8:=v1,a9:=v2,a10:=v3,a11:=v4,a12:=v5}) s
def Al:aE:=fK [⟨none, (.p (aD (aF 0) g3)), u13⟩, ⟨none, (.d 0 1 (aQ g13)), u14⟩, ⟨none, (.p (aD (aF 1) g3)), u15⟩, ⟨none, (.d 1 0 (aQ g15)), u16⟩, ⟨none, (.e (aq 35 [g16])), u17⟩, ⟨none, (.p (ak (bI bD) g14 g17)), u18⟩, ⟨none, (.p (aC g18)), u2⟩] k e s
def MY:aE:=aa RR (aa (aa TX (av g6 (aa T2 aS) az)) (aa SF (aa Al aS))) k e s
def F18 : aX := ⟨[u0], MY, aL [rT g2]⟩
theorem ab2 : aH tt [] fok Tryz.f18 = some F18 := by kernel_rfl
theorem XN : aI Tryz.prog [] 18 F18 := aI.of (aA bR bq mixed Tryz.func18 ab2)
def Ur:Den:=fun _ e s=>bw (V.i 0) fun v0=>bw (V.i 0) fun v1=>.au (bG e fun r=>{r with a6:=v0,a7:=v1}) s
def T_:Den:=fun _ e s=>lt (g0 e) fun v0=>pd aM v0 e fun v1=>pk (bI bp) v1 (.i 0) e fun v2=>.au (cw (u15 e v0) fun r=>{r with a0:=v1,a1:=v2}) s
def SD:Den:=fun _ e s=>bw (V.i 17) fun v0=>bw (V.i 0) fun v1=>.au (bG e fun r=>{r with a6:=v0,a7:=v1}) s
def LC:Den:=fun _ e s=>lt (g0 e) fun v0=>pd aM v0 e fun v1=>bw (V.i 0) fun v2=>.au (cw e fun r=>{r with a2:=v0,a3:=v1,a4:=v2}) s
def BE:Den:=fun _ e s=>bP (ak (bI dW) g20 g19 e) fun v0=>.au (u21 e v0) s
def FL:aE:=bP (ak (aP 4) g18 g20 e) fun v0=>bP ((dh 4 (cV v0)) e s) fun v1=>bE (cZ (kO 4 (cK [(.i 0), (.i 0), (.i 0), (.i 0)]) e s.next) s) fun v2 s=>bE (dJ 4 (cV v2) (cV v1) k e s) fun v3 s=>.au (cw (u9 e v2) fun r=>{r with a6:=v0,a7:=v1}) s
def NB:aE:=bP (aD (aF 1) g9 e) fun v0=>pj v0 e s fun v1=>bE (aq 22 [cV v1] k e s) fun v2 s=>pf v2 true (aC g0 e) fun v3=>pf v2 true (aD (aF 2) g9 e) fun v4=>bP (aN v2 true ((aQ (cV v4)) e s)) fun v5=>bE (ia v2 true s (aq 23 [cV v3,cV v5] k e s)) fun v6 s=>bP (aN v2 true (ak (bI dW) (cV v6) (cV (.i 0)) e)) fun v7=>bP (aO (cV v2) (cV v7) (cV (.bool false)) e) fun v8=>.au (cQ (cw e fun r=>{r with a8:=v0,a9:=v1,a10:=v2,a11:=v2,a12:=v3,a13:=v4,a14:=v5,a15:=v6}) fun r=>{r with a0:=v7,a1:=v8}) s
def GC:Den:=fun _ e s=>bP (aD (aF 0) g9 e) fun v0=>pj v0 e s fun v1=>bw (V.i 16) fun v2=>.au (cQ (bG e fun r=>{r with a6:=v2,a7:=v1}) fun r=>{r with a2:=v0,a3:=v1}) s
def D_:Den:=fun _ e s=>bP (ak (bI bD) g20 (cV (.i 1)) e) fun v0=>.au (u36 (u20 e v0) v0) s
def FO:aE:=lt (g0 e) fun v0=>lt (g0 e) fun v1=>pd aM v1 e fun v2=>pk (bI ei) v2 (.i 1) e fun v3=>pk (aP 4) v0 v3 e fun v4=>bP ((dh 4 (cV v4)) e s) fun v5=>bE (cZ (kO 4 (cK [(.i 0), (.i 0), (.i 0), (.i 0)]) e s.next) s) fun v6 s=>bE (dJ 4 (cV v6) (cV v5) k e s) fun v7 s=>.au (cQ (u10 e v6) fun r=>{r with a5:=v0,a6:=v1,a7:=v2,a8:=v3,a9:=v4,a10:=v5}) s
def KD:aE:=bP (aD (aF 1) g10 e) fun v0=>pj v0 e s fun v1=>bE (aq 24 [cV v1] k e s) fun v2 s=>pd gR v2 e fun v3=>.au (cQ e fun r=>{r with a11:=v0,a12:=v1,a13:=v2,a14:=v3}) s
def Av:Den:=fun _ e s=>bP (aD (aF 0) g10 e) fun v0=>pj v0 e s fun v1=>bw (V.i 17) fun v2=>.au (u48 (u47 (bG e fun r=>{r with a6:=v2,a7:=v1}) v0) v1) s
def Di:Den:=fun _ e s=>lt (g1 e) fun v0=>pd aM v0 e fun v1=>bw (V.i 0) fun v2=>.au (eH e fun r=>{r with a1:=v0,a2:=v1,a3:=v2}) s
def Ag:Den:=fun _ e s=>bP (ak (bI dW) g51 g50 e) fun v0=>.au (u52 e v0) s
def Ks:aE:=bP (ak (aP 4) g49 g51 e) fun v0=>bP ((dh 4 (cV v0)) e s) fun v1=>bE (cZ (kO 4 (cK [(.i 0), (.i 0), (.i 0), (.str [])]) e s.next) s) fun v2 s=>bE (dJ 4 (cV v2) (cV v1) k e s) fun v3 s=>.au (eH (u12 e v2) fun r=>{r with a5:=v0,a6:=v1}) s
def GZ:aE:=fK [⟨none, (.p (aC g0)), u55⟩, ⟨none, (.p (aD (aF 0) g12)), u56⟩, ⟨none, (.d 1 0 (aQ g56)), u57⟩, ⟨none, (.e (aq 23 [g55, g57])), u58⟩, ⟨none, (.p (ak (bI dW) g58 (cV (.i 0)))), u59⟩, ⟨none, (.p (aC g59)), u60⟩, ⟨(some (60, false)), (.p (aC g0)), u61⟩, ⟨(some (60, false)), (.p (aD (aF 2) g12)), u62⟩, ⟨(some (60, false)), (.d 1 0 (aQ g62)), u63⟩, ⟨(some (60, false)), (.e (aq 23 [g61, g63])), u64⟩, ⟨(some (60, false)), (.p (ak (bI dW) g64 (cV (.i 0)))), u65⟩, ⟨none, (.p (aO g60 (cV (.bool true)) g65)), u66⟩, ⟨none, (.p (aC g66)), u67⟩, ⟨(some (67, false)), (.p (aC g0)), u68⟩, ⟨(some (67, false)), (.p (aD (aF 1) g12)), u69⟩, ⟨(some (67, false)), (.d 1 0 (aQ g69)), u70⟩, ⟨(some (67, false)), (.e (aq 23 [g68, g70])), u71⟩, ⟨(some (67, false)), (.p (ak (bI dW) g71 (cV (.i 0)))), u72⟩, ⟨(some (67, false)), (.p (aC g72)), u73⟩, ⟨(some (73, true)), (.p (aD (aF 1) g12)), u74⟩, ⟨(some (73, true)), (.d 3 4 (aQ g74)), u75⟩, ⟨(some (73, true)), (.p (aC g0)), u76⟩, ⟨(some (73, true)), (.e (aq 39 [g76])), u77⟩, ⟨(some (73, true)), (.p (ak (bI sH) g75 g77)), u78⟩, ⟨(some (67, false)), (.p (aO g73 g78 (cV (.bool false)))), u79⟩, ⟨none, (.p (aO g67 (cV (.bool true)) g79)), u80⟩, ⟨none, (.p (aC g80)), u81⟩, ⟨(some (81, false)), (.p (aD (aF 0) g12)), u82⟩, ⟨(some (81, false)), (.d 1 0 (aQ g82)), u83⟩, ⟨(some (81, false)), (.p (aD (aF 1) g12)), u84⟩, ⟨(some (81, false)), (.d 1 0 (aQ g84)), u85⟩, ⟨(some (81, false)), (.p (ak (bI m6) g83 g85)), u86⟩, ⟨none, (.p (aO g81 (cV (.bool true)) g86)), u87⟩] k e s
def Fl:Den:=fun _ e s=>bP (aD (aF 0) g12 e) fun v0=>pj v0 e s fun v1=>bw (V.i 16) fun v2=>.au (kQ (bG e fun r=>{r with a6:=v2,a7:=v1}) fun r=>{r with a8:=v0,a9:=v1}) s
def GK:Den:=fun _ e s=>bP (ak (bI bD) g51 (cV (.i 1)) e) fun v0=>.au (u90 (u51 e v0) v0) s
def CN:Den:=fun _ e s=>lt (g2 e) fun v0=>pd aM v0 e fun v1=>bw (V.i 0) fun v2=>.au (kQ e fun r=>{r with a11:=v0,a12:=v1,a13:=v2}) s
def Ju:Den:=fun _ e s=>bP (ak (bI dW) g93 g92 e) fun v0=>.au (u94 e v0) s
def Gw:aE:=lt (g93 e) fun v0=>bP (ak (aP 3) g91 g93 e) fun v1=>bP ((dh 3 (cV v1)) e s) fun v2=>bE (cZ (kO 3 (cK [(.i 0), .ay, .ay]) e s.next) s) fun v3 s=>bE (dJ 3 (cV v3) (cV v2) k e s) fun v4 s=>.au (kU (u95 (bG e fun r=>{r with a13:=v0,a14:=v3}) v0) fun r=>{r with a0:=v1,a1:=v2}) s
def DJ:aE:=lt (g0 e) fun v0=>bP (aD (aF 0) g14 e) fun v1=>pj v1 e s fun v2=>bE (aq 23 [cV v0,cV v2] k e s) fun v3 s=>pk (bI dW) v3 (.i 0) e fun v4=>.au (kU e fun r=>{r with a2:=v4,a3:=v0,a4:=v1,a5:=v2,a6:=v3,a7:=v4}) s
def Co:Den:=fun _ e s=>bP (aD (aF 0) g14 e) fun v0=>pj v0 e s fun v1=>bw (V.i 16) fun v2=>.au (kU (bG e fun r=>{r with a6:=v2,a7:=v1}) fun r=>{r with a8:=v0,a9:=v1}) s
def Ie:aE:=lt (g2 e) fun v0=>lt (g13 e) fun v1=>bP (xg 3 (cV v0) none (some (cV v1)) none e) fun v2=>bP (vw 41 [] [g14] e) fun v3=>bE (aq 40 [cV v2,cV v3] k e s) fun v4 s=>.au (kU e fun r=>{r with a10:=v4,a11:=v0,a12:=v1,a13:=v2,a14:=v3,a15:=v4}) s
def EA:Den:=fun _ e s=>bP (aD (aF 0) g14 e) fun v0=>pj v0 e s fun v1=>bw (V.i 21) fun v2=>.au (nC (bG e fun r=>{r with a6:=v2,a7:=v1}) fun r=>{r with a0:=v0,a1:=v1}) s
def Nv:Den:=fun _ e s=>bP (ak (bI bD) g93 (cV (.i 1)) e) fun v0=>.au (u114 (u93 e v0) v0) s
def An:Den:=fun _ e s=>bw (V.i 0) fun v0=>bw (V.i 0) fun v1=>.au (bG e fun r=>{r with a6:=v0,a7:=v1}) s
def aa5:aE:=aa (aa CN (aG 4 (bT (aa Ju (aa (av g94 az (bB 4)) (aa (aG 5 (aa Gw (aG 6 (aa DJ (av g98 (aa Co aS) (aa Ie (av g106 (aa EA aS) az))))))) Nv)))))) (aa An aS) k e s
def YD:aE:=aa (aa Di (aG 2 (bT (aa Ag (aa (av g52 az (bB 2)) (aa (aG 3 (aa Ks (aa GZ (av g87 (aa Fl aS) az)))) GK)))))) aa5 k e s
def Zv:aE:=aa (aa FO (aa KD (av g46 (aa Av aS) az))) YD k e s
def Tu:aE:=aa Ur (aa (aa T_ (av g17 (aa SD aS) az)) (aa (aa LC (aG 0 (bT (aa BE (aa (av g21 az (bB 0)) (aa (aG 1 (aa FL (aa NB (av g33 (aa GC aS) az)))) D_)))))) Zv)) k e s
def F19 : aX := ⟨[u0, u1, u2], Tu, aL [rT g6, rT g7]⟩
theorem acj : aH tt [] fok Tryz.f19 = some F19 := by kernel_rfl
theorem Ws : aI Tryz.prog [] 19 F19 := aI.of (aA bR bq mixed Tryz.func19 acj)
def Yv:Den:=fun _ e s=>bE (cZ (kO 4 (cK [(.i 0), (.i 0), (.i 0), (.i 0)]) e s.next) s) fun v0 s=>.au (u6 e v0) s
def V1:aE:=lt (g0 e) fun v0=>lt (g1 e) fun v1=>lt (g2 e) fun v2=>bP (bM [(.i 0), (.i 0), (.i 0), (.i 0)] [(0, 1, (cV v0)), (1, 1, (cV v1)), (2, 1, (cV v2))] e) fun v3=>bE (dJ 4 g6 (cV v3) k e s) fun v4 s=>.au (bG e fun r=>{r with a7:=v0,a8:=v1,a9:=v2,a10:=v3}) s
def Xt:aE:=aa Yv (aa V1 aS) k e s
def F20 : aX := ⟨[u0, u1, u2], Xt, aL [rC true (nat_lit 4) g6]⟩
theorem acf : aH tt [] fok Tryz.f20 = some F20 := by kernel_rfl
theorem VN : aI Tryz.prog [] 20 F20 := aI.of (aA bR bq mixed Tryz.func20 acf)
def VP:Den:=fun _ e s=>bw (V.bool false) fun v0=>.au (u4 e v0) s
def WB:Den:=fun _ e s=>lt (g0 e) fun v0=>pd aM v0 e fun v1=>lt (g1 e) fun v2=>pd aM v2 e fun v3=>pk (bI sH) v1 v3 e fun v4=>.au (bG e fun r=>{r with a6:=v0,a7:=v1,a8:=v2,a9:=v3,a10:=v4}) s
def V7:Den:=fun _ e s=>bw (V.bool false) fun v0=>.au (u4 e v0) s
def Ny:Den:=fun _ e s=>bw (V.i 0) fun v0=>.au (u5 e v0) s
def Bs:Den:=fun _ e s=>lt (g5 e) fun v0=>lt (g0 e) fun v1=>pd aM v1 e fun v2=>pk (bI dW) v0 v2 e fun v3=>.au (bG e fun r=>{r with a11:=v0,a12:=v1,a13:=v2,a14:=v3}) s
def Iw:Den:=fun _ e s=>lt (g0 e) fun v0=>lt (g5 e) fun v1=>pk (aP 1) v0 v1 e fun v2=>pj v2 e s fun v3=>lt (g1 e) fun v4=>lt (g5 e) fun v5=>pk (aP 1) v4 v5 e fun v6=>pj v6 e s fun v7=>pk (bI sH) v3 v7 e fun v8=>.au (cw e fun r=>{r with a1:=v0,a2:=v1,a3:=v2,a4:=v3,a5:=v4,a6:=v5,a7:=v6,a8:=v7,a9:=v8}) s
def Fi:Den:=fun _ e s=>bw (V.bool false) fun v0=>.au (u4 e v0) s
def IL:Den:=fun _ e s=>lt (g5 e) fun v0=>pk (bI bD) v0 (.i 1) e fun v1=>.au (u16 (bG e fun r=>{r with a5:=v1,a15:=v0}) v1) s
def Gu:Den:=fun _ e s=>bw (V.bool true) fun v0=>.au (u4 e v0) s
def DS:aE:=aa VP (aa (aa WB (av g10 (aa V7 aS) az)) (aa (aa Ny (aG 0 (bT (aa (aa Bs (av g14 az (bB 0))) (aa (aG 1 (aa Iw (av g25 (aa Fi aS) az))) IL))))) (aa Gu aS))) k e s
def F21 : aX := ⟨[u0, u1], DS, aL [rT g4]⟩
theorem abr : aH tt [] fok Tryz.f21 = some F21 := by kernel_rfl
theorem Se : aI Tryz.prog [] 21 F21 := aI.of (aA bR bq mixed Tryz.func21 abr)
noncomputable def F22 : aX := iC (fN 0 256 fun i => .bool (gU i))
def Tq:Den:=fun _ e s=>bw (V.i 0) fun v0=>.au (u4 e v0) s
def Ti:aE:=lt (g0 e) fun v0=>lt (g1 e) fun v1=>bE (aq 42 [(cV v0), (cV v1), (cV (.func 43 [] []))] k e s) fun v2 s=>pd (dF 0) v2 e fun v3=>pd (dF 1) v2 e fun v4=>.au (bG e fun r=>{r with a5:=v3,a6:=v4,a7:=v2,a8:=v0,a9:=v1,a10:=v2,a11:=v3,a12:=v4}) s
def Xd:Den:=fun _ e s=>lt (g6 e) fun v0=>pd gR v0 e fun v1=>.au (bG e fun r=>{r with a13:=v0,a14:=v1}) s
def X3:Den:=fun _ e s=>bw (V.i (-1)) fun v0=>.au (u4 e v0) s
def NA:Den:=fun _ e s=>lt (g5 e) fun v0=>.au (bG e fun r=>{r with a4:=v0,a15:=v0}) s
def NO:aE:=aa Tq (aa Ti (aa (aa Xd (av g14 (aa X3 aS) az)) (aa NA aS))) k e s
def F23 : aX := ⟨[u0, u1], NO, aL [rT g4]⟩
theorem adf : aH tt [] fok Tryz.f23 = some F23 := by kernel_rfl
theorem RH : aI Tryz.prog [] 23 F23 := aI.of (aA bR bq mixed Tryz.func23 adf)
noncomputable def ZR : aX := iC (fN 0 256 fun i => .bool (eN i))
def Vh:Den:=fun _ e s=>bw (V.ay) fun v0=>.au (u4 e v0) s
def Wu:aE:=lt (g0 e) fun v0=>lt (g1 e) fun v1=>bE (aq 45 [cV v0,cV v1] k e s) fun v2 s=>.au (bG e fun r=>{r with a5:=v2,a8:=v0,a9:=v1,a10:=v2}) s
def Rr:Den:=fun _ e s=>lt (g5 e) fun v0=>bP (ak (bI bp) (cV v0) (cV (.i (-1))) e) fun v1=>.au (bG e fun r=>{r with a11:=v0,a12:=v1}) s
def SW:Den:=fun _ e s=>lt (g0 e) fun v0=>.au (bG e fun r=>{r with a4:=v0,a13:=v0}) s
def A_:Den:=fun _ e s=>lt (g5 e) fun v0=>pk (bI bD) v0 (.i 1) e fun v1=>.au (bG e fun r=>{r with a6:=v1,a14:=v0,a15:=v1}) s
def En:Den:=fun _ e s=>lt (g6 e) fun v0=>lt (g0 e) fun v1=>pd aM v1 e fun v2=>pk (bI dW) v0 v2 e fun v3=>.au (cw e fun r=>{r with a0:=v0,a1:=v1,a2:=v2,a3:=v3}) s
def Mm:Den:=fun _ e s=>lt (g0 e) fun v0=>lt (g6 e) fun v1=>pk (aP 1) v0 v1 e fun v2=>pj v2 e s fun v3=>.au (cw (u7 e v3) fun r=>{r with a6:=v0,a7:=v1,a8:=v2,a9:=v3}) s
def Dh:aE:=lt (g1 e) fun v0=>lt (g7 e) fun v1=>bE (fP fok (cV v0) [cV v1] k e s) fun v2 s=>pd gR v2 e fun v3=>.au (cw e fun r=>{r with a10:=v0,a11:=v1,a12:=v2,a13:=v3}) s
def JT:aE:=lt (g0 e) fun v0=>lt (g5 e) fun v1=>lt (g7 e) fun v2=>pk (aP 1) v0 v1 e fun v3=>bE (dJ 1 (cV v3) (cV v2) k e s) fun v4 s=>.au (cQ (cw e fun r=>{r with a14:=v0,a15:=v1}) fun r=>{r with a0:=v2,a1:=v3}) s
def Jd:Den:=fun _ e s=>lt (g5 e) fun v0=>pk (bI bD) v0 (.i 1) e fun v1=>.au (cQ (u5 e v1) fun r=>{r with a2:=v0,a3:=v1}) s
def Fz:Den:=fun _ e s=>lt (g6 e) fun v0=>pk (bI bD) v0 (.i 1) e fun v1=>.au (cw (u6 e v1) fun r=>{r with a4:=v0,a5:=v1}) s
def BY:aE:=lt (g0 e) fun v0=>lt (g5 e) fun v1=>bP (xg 1 (cV v0) (some (cV v1)) none none e) fun v2=>bE (tK [(.i 0)] (cV v2) k e s) fun v3 s=>.au (cQ e fun r=>{r with a4:=v0,a5:=v1,a6:=v2}) s
def KP:Den:=fun _ e s=>lt (g0 e) fun v0=>lt (g5 e) fun v1=>bP (xg 1 (cV v0) none (some (cV v1)) none e) fun v2=>.au (cQ (u4 e v2) fun r=>{r with a7:=v0,a8:=v1,a9:=v2}) s
def IQ:aE:=aa Vh (aa Wu (aa (aa Rr (av g12 (aa SW aS) az)) (aa (aa A_ (aG 0 (bT (aa (aa En (av g19 az (bB 0))) (aa (aG 1 (aa Mm (aa Dh (av g29 (aa JT Jd) az)))) Fz))))) (aa BY (aa KP aS))))) k e s
def F25 : aX := ⟨[u0, u1], IQ, aL [rT g4]⟩
theorem acL : aH tt [] fok Tryz.f25 = some F25 := by kernel_rfl
theorem VZ : aI Tryz.prog [] 25 F25 := aI.of (aA bR bq mixed Tryz.func25 acL)
def Su:Den:=fun _ e s=>bw (V.bool false) fun v0=>.au (u3 e v0) s
def TJ:Den:=fun _ e s=>lt (g0 e) fun v0=>pk (bI dW) v0 (.i 0) e fun v1=>pf v1 false (aC g0 e) fun v2=>pf v1 false ((aQ g1) e s) fun v3=>pf v1 false (aD aM (cV v3) e) fun v4=>pf v1 false (ak (bI m6) (cV v2) (cV v4) e) fun v5=>bP (aO (cV v1) (cV (.bool true)) (cV v5) e) fun v6=>.au (bG e fun r=>{r with a3:=v6,a4:=v0,a5:=v1,a6:=v1,a7:=v2,a8:=v3,a9:=v4,a10:=v5,a11:=v6}) s
def Dv:aE:=aa Su (aa TJ aS) k e s
def F26 : aX := ⟨[u0, u1], Dv, aL [rT g3]⟩
theorem acU : aH tt [] fok Tryz.f26 = some F26 := by kernel_rfl
theorem Vz : aI Tryz.prog [] 26 F26 := aI.of (aA bR bq mixed Tryz.func26 acU)
noncomputable def F27 : aX := MT
def UZ:Den:=fun _ e s=>bw (V.ay) fun v0=>.au (u2 e v0) s
def UL:Den:=fun _ e s=>lt (g0 e) fun v0=>pd aM v0 e fun v1=>pk (bI dW) v1 (.i 2) e fun v2=>.au (bG e fun r=>{r with a6:=v0,a7:=v1,a8:=v2}) s
def T1:Den:=fun _ e s=>lt (g0 e) fun v0=>.au (bG e fun r=>{r with a2:=v0,a9:=v0}) s
def Nd:Den:=fun _ e s=>bw (V.i 1) fun v0=>.au (u3 e v0) s
def Ov:Den:=fun _ e s=>lt (g3 e) fun v0=>lt (g0 e) fun v1=>pd aM v1 e fun v2=>pk (bI dW) v0 v2 e fun v3=>.au (bG e fun r=>{r with a10:=v0,a11:=v1,a12:=v2,a13:=v3}) s
def Oe:Den:=fun _ e s=>lt (g0 e) fun v0=>lt (g3 e) fun v1=>pk (aP 1) v0 v1 e fun v2=>pj v2 e s fun v3=>lt (g0 e) fun v4=>lt (g3 e) fun v5=>pk (bI ei) v5 (.i 1) e fun v6=>pk (aP 1) v4 v6 e fun v7=>pj v7 e s fun v8=>pk (bI bp) v3 v8 e fun v9=>.au (lW e fun _ _ _ _ _ _ _ _ _ _ m n o p q r=>⟨v0,v1,v2,v3,v4,v5,v6,v7,v8,v9,m,n,o,p,q,r⟩) s
def Nj:Den:=fun _ e s=>lt (g0 e) fun v0=>lt (g3 e) fun v1=>bP (xg 1 (cV v0) (some (cV v1)) none none e) fun v2=>.au (cw (u4 e v2) fun r=>{r with a10:=v0,a11:=v1,a12:=v2}) s
def Jf:Den:=fun _ e s=>bw (V.i 1) fun v0=>.au (u5 e v0) s
def Lp:Den:=fun _ e s=>lt (g5 e) fun v0=>lt (g4 e) fun v1=>pd aM v1 e fun v2=>pk (bI dW) v0 v2 e fun v3=>.au (u32 (cw e fun r=>{r with a13:=v0,a14:=v1,a15:=v2}) v3) s
def KB:Den:=fun _ e s=>lt (g4 e) fun v0=>lt (g5 e) fun v1=>pk (aP 1) v0 v1 e fun v2=>pj v2 e s fun v3=>lt (g4 e) fun v4=>lt (g5 e) fun v5=>pk (bI ei) v5 (.i 1) e fun v6=>pk (aP 1) v4 v6 e fun v7=>pj v7 e s fun v8=>pk (bI sH) v3 v8 e fun v9=>.au (mu e fun a b c _ _ _ _ _ _ _ _ _ _ p q r=>⟨a,b,c,v0,v1,v2,v3,v4,v5,v6,v7,v8,v9,p,q,r⟩) s
def BX:aE:=lt (g0 e) fun v0=>lt (g3 e) fun v1=>lt (g4 e) fun v2=>lt (g5 e) fun v3=>pk (aP 1) v2 v3 e fun v4=>pj v4 e s fun v5=>pk (aP 1) v0 v1 e fun v6=>bE (dJ 1 (cV v6) (cV v5) k e s) fun v7 s=>.au (eH (cQ e fun r=>{r with a13:=v0,a14:=v1,a15:=v2}) fun r=>{r with a0:=v3,a1:=v4,a2:=v5,a3:=v6}) s
def Jj:Den:=fun _ e s=>lt (g3 e) fun v0=>pk (bI bD) v0 (.i 1) e fun v1=>.au (eH (u3 e v1) fun r=>{r with a4:=v0,a5:=v1}) s
def FH:Den:=fun _ e s=>lt (g5 e) fun v0=>pk (bI bD) v0 (.i 1) e fun v1=>.au (cQ (u5 e v1) fun r=>{r with a1:=v0,a2:=v1}) s
def BH:aE:=lt (g0 e) fun v0=>lt (g3 e) fun v1=>bP (xg 1 (cV v0) (some (cV v1)) none none e) fun v2=>bE (tK [(.i 0)] (cV v2) k e s) fun v3 s=>.au (eH e fun r=>{r with a6:=v0,a7:=v1,a8:=v2}) s
def C9:Den:=fun _ e s=>lt (g0 e) fun v0=>lt (g3 e) fun v1=>bP (xg 1 (cV v0) none (some (cV v1)) none e) fun v2=>.au (eH (u2 e v2) fun r=>{r with a9:=v0,a10:=v1,a11:=v2}) s
def El:Den:=fun _ e s=>lt (g3 e) fun v0=>pk (bI bD) v0 (.i 1) e fun v1=>.au (bG e fun r=>{r with a3:=v1,a14:=v0,a15:=v1}) s
def Bm:Den:=fun _ e s=>lt (g0 e) fun v0=>.au (u60 (u2 e v0) v0) s
def MA:aE:=aa UZ (aa (aa UL (av g8 (aa T1 aS) az)) (aa (aa Nd (aG 0 (bT (aa (aa Ov (av g13 az (bB 0))) (aa (aG 1 (aa Oe (av g25 (aa Nj (aa (aa Jf (aG 2 (bT (aa (aa Lp (av g32 az (bB 2))) (aa (aG 3 (aa KB (av g44 (aa BX Jj) az))) FH))))) (aa BH (aa C9 aS)))) az))) El))))) (aa Bm aS))) k e s
def F28 : aX := ⟨[u0], MA, aL [rT g2]⟩
theorem adk : aH tt [] fok Tryz.f28 = some F28 := by kernel_rfl
theorem SE : aI Tryz.prog [] 28 F28 := aI.of (aA bR bq mixed Tryz.func28 adk)
def Ww:Den:=fun _ e s=>bw (V.ay) fun v0=>.au (u4 e v0) s
def T9:Den:=fun _ e s=>lt (g1 e) fun v0=>pk (bI dW) v0 (.i 0) e fun v1=>pf v1 false (aC g1 e) fun v2=>pf v1 false (aC g0 e) fun v3=>pf v1 false (aD aM (cV v3) e) fun v4=>pf v1 false (ak (bI m6) (cV v2) (cV v4) e) fun v5=>bP (aO (cV v1) (cV (.bool true)) (cV v5) e) fun v6=>.au (bG e fun r=>{r with a7:=v0,a8:=v1,a9:=v1,a10:=v2,a11:=v3,a12:=v4,a13:=v5,a14:=v6}) s
def Ux:Den:=fun _ e s=>bw (V.ay) fun v0=>.au (u4 e v0) s
def W_:Den:=fun _ e s=>bw (V.ay) fun v0=>.au (u5 e v0) s
def Ew:aE:=lt (g0 e) fun v0=>lt (g1 e) fun v1=>pk (aP 4) v0 v1 e fun v2=>pd (aF 1) v2 e fun v3=>pj v3 e s fun v4=>bE (aq 24 [cV v4] k e s) fun v5 s=>pd gR v5 e fun v6=>pf v6 true (aC g1 e) fun v7=>bP (aN v6 true (ak (bI bD) (cV v7) (cV (.i 1)) e)) fun v8=>pf v6 true (aC g0 e) fun v9=>pf v6 true (aD aM (cV v9) e) fun v10=>pf v6 true (ak (bI dW) (cV v8) (cV v10) e) fun v11=>bP (aO (cV v6) (cV v11) (cV (.bool false)) e) fun v12=>.au (lW (u15 e v0) fun _ _ _ _ _ _ _ _ _ _ _ _ _ p q r=>⟨v1,v2,v3,v4,v5,v6,v6,v7,v8,v9,v10,v11,v12,p,q,r⟩) s
def Hx:aE:=lt (g5 e) fun v0=>lt (g1 e) fun v1=>pk (bI bD) v1 (.i 1) e fun v2=>bE (cZ (cg 1 1 [(.i 0)] [(0, 1, (cV v2))] e s.next) s) fun v3 s=>bE (kF 1 (cV v0) (cV v3) k e s) fun v4 s=>.au (cQ (cw (u5 e v4) fun r=>{r with a13:=v0,a14:=v1,a15:=v2}) fun r=>{r with a0:=v3,a1:=v4}) s
def Ix:aE:=lt (g0 e) fun v0=>lt (g1 e) fun v1=>pk (aP 4) v0 v1 e fun v2=>pd (aF 1) v2 e fun v3=>pj v3 e s fun v4=>bE (aq 22 [cV v4] k e s) fun v5 s=>.au (cQ e fun r=>{r with a2:=v0,a3:=v1,a4:=v2,a5:=v3,a6:=v4,a7:=v5}) s
def JU:aE:=lt (g0 e) fun v0=>lt (g0 e) fun v1=>lt (g1 e) fun v2=>pk (aP 4) v1 v2 e fun v3=>pd (aF 2) v3 e fun v4=>pj v4 e s fun v5=>bE (aq 23 [cV v0,cV v5] k e s) fun v6 s=>.au (cQ (u6 e v6) fun r=>{r with a8:=v0,a9:=v1,a10:=v2,a11:=v3,a12:=v4,a13:=v5,a14:=v6}) s
def Cu:Den:=fun _ e s=>lt (g6 e) fun v0=>pk (bI m6) v0 (.i 0) e fun v1=>.au (u48 (u47 e v0) v1) s
def zZ:aE:=lt (g5 e) fun v0=>lt (g6 e) fun v1=>bE (cZ (cg 1 1 [(.i 0)] [(0, 1, (cV v1))] e s.next) s) fun v2 s=>bE (kF 1 (cV v0) (cV v2) k e s) fun v3 s=>.au (eH (u5 e v3) fun r=>{r with a1:=v0,a2:=v1,a3:=v2,a4:=v3}) s
def FQ:aE:=lt (g5 e) fun v0=>bE (aq 27 [cV v0] k e s) fun v1 s=>.au (eH e fun r=>{r with a5:=v0,a6:=v1}) s
def D2:aE:=lt (g5 e) fun v0=>bE (aq 28 [cV v0] k e s) fun v1 s=>.au (eH (u4 e v1) fun r=>{r with a7:=v0,a8:=v1}) s
def wk:aE:=aa FQ (aa D2 aS) k e s
def oO:aE:=aa (aa Ix (av g39 (aa JU (aa Cu (av g48 zZ az))) az)) wk k e s
def De:aE:=aa Ww (aa (aa T9 (av g14 (aa Ux aS) az)) (aa W_ (aa (aa Ew (av g28 Hx az)) oO))) k e s
def F29 : aX := ⟨[u0, u1], De, aL [rT g4]⟩
theorem adq : aH tt [] fok Tryz.f29 = some F29 := by kernel_rfl
theorem XH : aI Tryz.prog [] 29 F29 := aI.of (aA bR bq mixed Tryz.func29 adq)
def RG:Den:=fun _ e s=>bw (V.i 0) fun v0=>bw (V.bool false) fun v1=>.au (bG e fun r=>{r with a4:=v0,a5:=v1}) s
def WQ:Den:=fun _ e s=>lt (g0 e) fun v0=>pd aM v0 e fun v1=>.au (bG e fun r=>{r with a6:=v1,a10:=v0,a11:=v1}) s
def Sq:Den:=fun _ e s=>lt (g6 e) fun v0=>bw (V.i 0) fun v1=>.au (bG e fun r=>{r with a7:=v1,a8:=v0,a12:=v0}) s
def AA:Den:=fun _ e s=>lt (g7 e) fun v0=>lt (g8 e) fun v1=>pk (bI dW) v0 v1 e fun v2=>.au (bG e fun r=>{r with a13:=v0,a14:=v1,a15:=v2}) s
def Dd:Den:=fun _ e s=>lt (g7 e) fun v0=>lt (g8 e) fun v1=>pk (bI bD) v0 v1 e fun v2=>pd (cT .u64) v2 e fun v3=>pk (yI .shr .u64) v3 (.int .u64 1) e fun v4=>pd (cT .i64) v4 e fun v5=>.au (cw (u9 e v5) fun r=>{r with a0:=v0,a1:=v1,a2:=v2,a3:=v3,a4:=v4,a5:=v5}) s
def JS:aE:=lt (g0 e) fun v0=>lt (g9 e) fun v1=>pk (aP 1) v0 v1 e fun v2=>pj v2 e s fun v3=>lt (g1 e) fun v4=>bE (aq 48 [cV v3,cV v4] k e s) fun v5 s=>.au (cw e fun r=>{r with a6:=v0,a7:=v1,a8:=v2,a9:=v3,a10:=v4,a11:=v5}) s
def J8:Den:=fun _ e s=>lt (g9 e) fun v0=>pk (bI bD) v0 (.i 1) e fun v1=>.au (cw (u7 e v1) fun r=>{r with a12:=v0,a13:=v1}) s
def KS:Den:=fun _ e s=>lt (g9 e) fun v0=>.au (u30 (u8 e v0) v0) s
def KL:aE:=lt (g7 e) fun v0=>lt (g7 e) fun v1=>lt (g6 e) fun v2=>pk (bI dW) v1 v2 e fun v3=>pf v3 true (aC g0 e) fun v4=>pf v3 true (aC g7 e) fun v5=>pf v3 true (ak (aP 1) (cV v4) (cV v5) e) fun v6=>bP (aN v3 true ((aQ (cV v6)) e s)) fun v7=>pf v3 true (aC g1 e) fun v8=>pf v3 true (ak (bI bp) (cV v7) (cV v8) e) fun v9=>pf v3 true (aC (cV v9) e) fun v10=>pf v10 false (aC g0 e) fun v11=>pf v10 false (aC g7 e) fun v12=>pf v10 false (ak (aP 1) (cV v11) (cV v12) e) fun v13=>bP (aN v10 false ((aQ (cV v13)) e s)) fun v14=>bE (ia v10 false s (aq 49 [cV v14] k e s)) fun v15 s=>pf v10 false (aC (cV v15) e) fun v16=>pf v16 true (aC g1 e) fun v17=>bE (ia v16 true s (aq 49 [cV v17] k e s)) fun v18 s=>bP (aN v10 false (aO (cV v16) (cV v18) (cV (.bool false)) e)) fun v19=>bP (aN v3 true (aO (cV v10) (cV (.bool true)) (cV v19) e)) fun v20=>bP (aO (cV v3) (cV v20) (cV (.bool false)) e) fun v21=>.au (eH (mu (u31 (bG e fun r=>{r with a4:=v0,a5:=v21}) v0) fun _ _ _ _ _ _ _ _ _ _ _ _ _ _ _ _=>⟨v1,v2,v3,v3,v4,v5,v6,v7,v8,v9,v10,v11,v12,v13,v14,v15⟩) fun r=>{r with a0:=v16,a1:=v17,a2:=v18,a3:=v19,a4:=v20,a5:=v21}) s
def KV:aE:=aa RG (aa WQ (aa Sq (aa (aG 0 (bT (aa (aa AA (av g15 az (bB 0))) (aG 1 (aa Dd (aa JS (av g27 J8 KS))))))) (aa KL aS)))) k e s
def F30 : aX := ⟨[u0, u1], KV, aL [rT g4, rT g5]⟩
theorem aeH : aH tt [] fok Tryz.f30 = some F30 := by kernel_rfl
theorem Tz : aI Tryz.prog [] 30 F30 := aI.of (aA bR bq mixed Tryz.func30 aeH)
def UT:Den:=fun _ e s=>bw (V.ay) fun v0=>.au (u6 e v0) s
def Yc:Den:=fun _ e s=>lt (g2 e) fun v0=>pk (bI dW) v0 (.i 0) e fun v1=>pf v1 false (aC g2 e) fun v2=>pf v1 false (aC g1 e) fun v3=>pf v1 false (aD aM (cV v3) e) fun v4=>pf v1 false (ak (bI m6) (cV v2) (cV v4) e) fun v5=>bP (aO (cV v1) (cV (.bool true)) (cV v5) e) fun v6=>.au (bG e fun r=>{r with a7:=v0,a8:=v1,a9:=v1,a10:=v2,a11:=v3,a12:=v4,a13:=v5,a14:=v6}) s
def SM:Den:=fun _ e s=>lt (g0 e) fun v0=>.au (bG e fun r=>{r with a6:=v0,a15:=v0}) s
def WA:aE:=lt (g0 e) fun v0=>lt (g2 e) fun v1=>bE (aq 50 [cV v0,cV v1] k e s) fun v2 s=>.au (cw (u6 e v2) fun r=>{r with a0:=v0,a1:=v1,a2:=v2}) s
def LJ:aE:=aa UT (aa (aa Yc (av g14 (aa SM aS) az)) (aa WA aS)) k e s
def F31 : aX := ⟨[u0, u1, u2], LJ, aL [rT g6]⟩
theorem aec : aH tt [] fok Tryz.f31 = some F31 := by kernel_rfl
theorem SK : aI Tryz.prog [] 31 F31 := aI.of (aA bR bq mixed Tryz.func31 aec)
def XR:Den:=fun _ e s=>bw (V.ay) fun v0=>.au (u4 e v0) s
def VG:Den:=fun _ e s=>bw (V.ay) fun v0=>.au (u5 e v0) s
def VF:Den:=fun _ e s=>lt (g1 e) fun v0=>pk (bI dW) v0 (.i 0) e fun v1=>pf v1 false (aC g1 e) fun v2=>pf v1 false (aC g0 e) fun v3=>pf v1 false (aD aM (cV v3) e) fun v4=>pf v1 false (ak (bI m6) (cV v2) (cV v4) e) fun v5=>bP (aO (cV v1) (cV (.bool true)) (cV v5) e) fun v6=>.au (bG e fun r=>{r with a7:=v0,a8:=v1,a9:=v1,a10:=v2,a11:=v3,a12:=v4,a13:=v5,a14:=v6}) s
def Ym:Den:=fun _ e s=>bw (V.ay) fun v0=>.au (u4 e v0) s
def Du:aE:=lt (g0 e) fun v0=>lt (g1 e) fun v1=>pk (aP 4) v0 v1 e fun v2=>pd (aF 1) v2 e fun v3=>pj v3 e s fun v4=>bE (aq 17 [cV v4] k e s) fun v5 s=>pd gR v5 e fun v6=>pf v6 true (aC g1 e) fun v7=>bP (aN v6 true (ak (bI bD) (cV v7) (cV (.i 1)) e)) fun v8=>pf v6 true (aC g0 e) fun v9=>pf v6 true (aD aM (cV v9) e) fun v10=>pf v6 true (ak (bI dW) (cV v8) (cV v10) e) fun v11=>bP (aO (cV v6) (cV v11) (cV (.bool false)) e) fun v12=>.au (lW (u15 e v0) fun _ _ _ _ _ _ _ _ _ _ _ _ _ p q r=>⟨v1,v2,v3,v4,v5,v6,v6,v7,v8,v9,v10,v11,v12,p,q,r⟩) s
def LW:aE:=lt (g5 e) fun v0=>lt (g1 e) fun v1=>pk (bI bD) v1 (.i 1) e fun v2=>bE (aq 50 [cV v0,cV v2] k e s) fun v3 s=>.au (u32 (cw (u5 e v3) fun r=>{r with a13:=v0,a14:=v1,a15:=v2}) v3) s
def K7:aE:=lt (g0 e) fun v0=>lt (g1 e) fun v1=>pk (aP 4) v0 v1 e fun v2=>pd (aF 1) v2 e fun v3=>pj v3 e s fun v4=>bE (aq 15 [cV v4] k e s) fun v5 s=>.au (cQ e fun r=>{r with a1:=v0,a2:=v1,a3:=v2,a4:=v3,a5:=v4,a6:=v5}) s
def Ox:aE:=lt (g0 e) fun v0=>lt (g0 e) fun v1=>lt (g1 e) fun v2=>pk (aP 4) v1 v2 e fun v3=>pd (aF 2) v3 e fun v4=>pj v4 e s fun v5=>bE (aq 16 [cV v0,cV v5] k e s) fun v6 s=>.au (cQ (u6 e v6) fun r=>{r with a7:=v0,a8:=v1,a9:=v2,a10:=v3,a11:=v4,a12:=v5,a13:=v6}) s
def Jp:Den:=fun _ e s=>lt (g6 e) fun v0=>pk (bI m6) v0 (.i 0) e fun v1=>.au (cQ e fun r=>{r with a14:=v0,a15:=v1}) s
def KX:aE:=lt (g5 e) fun v0=>lt (g6 e) fun v1=>bE (aq 50 [cV v0,cV v1] k e s) fun v2 s=>.au (eH (u5 e v2) fun r=>{r with a0:=v0,a1:=v1,a2:=v2}) s
def EY:Den:=fun _ e s=>lt (g5 e) fun v0=>.au (u51 (u4 e v0) v0) s
def sQ:aE:=aa EY aS k e s
def pJ:aE:=aa (aa K7 (av g38 (aa Ox (aa Jp (av g47 KX az))) az)) sQ k e s
def AL:aE:=aa XR (aa VG (aa (aa VF (av g14 (aa Ym aS) az)) (aa (aa Du (av g28 LW az)) pJ))) k e s
def F32 : aX := ⟨[u0, u1], AL, aL [rT g4]⟩
theorem aeb : aH tt [] fok Tryz.f32 = some F32 := by kernel_rfl
theorem Rc : aI Tryz.prog [] 32 F32 := aI.of (aA bR bq mixed Tryz.func32 aeb)
def XO:Den:=fun _ e s=>lt (g0 e) fun v0=>pk (bI m6) v0 (.i 0) e fun v1=>pf v1 true (aC g0 e) fun v2=>pf v1 true ((aQ g1) e s) fun v3=>pf v1 true (aD aM (cV v3) e) fun v4=>pf v1 true (ak (bI dW) (cV v2) (cV v4) e) fun v5=>bP (aO (cV v1) (cV v5) (cV (.bool false)) e) fun v6=>pf v6 true ((aQ g2) e s) fun v7=>pf v6 true (aC g0 e) fun v8=>pf v6 true (ak (aP 1) (cV v7) (cV v8) e) fun v9=>bP (aN v6 true ((aQ (cV v9)) e s)) fun v10=>pf v6 true (aD gR (cV v10) e) fun v11=>bP (aO (cV v6) (cV v11) (cV (.bool false)) e) fun v12=>.au (cw (fV e fun a b c d f _ _ _ _ _ _ _ _ _ _ _=>⟨a,b,c,d,f,v0,v1,v1,v2,v3,v4,v5,v6,v6,v7,v8⟩) fun r=>{r with a0:=v9,a1:=v10,a2:=v11,a3:=v12}) s
def U7:aE:=bP ((aQ g2) e s) fun v0=>lt (g0 e) fun v1=>pk (aP 1) v0 v1 e fun v2=>bE (dJ 1 (cV v2) (cV (.bool true)) k e s) fun v3 s=>.au (cw e fun r=>{r with a4:=v0,a5:=v1,a6:=v2}) s
def TC:aE:=bP ((aQ g3) e s) fun v0=>lt (g0 e) fun v1=>bE (cZ (cg 1 1 [(.i 0)] [(0, 1, (cV v1))] e s.next) s) fun v2 s=>bE (kF 1 (cV v0) (cV v2) k e s) fun v3 s=>bE (dJ 1 g3 (cV v3) k e s) fun v4 s=>.au (cw e fun r=>{r with a7:=v0,a8:=v1,a9:=v2,a10:=v3}) s
def DU:aE:=aa XO (av g19 (aa U7 TC) az) k e s
def F33 : aX := ⟨[u0, u1, u2, u3], DU, aL []⟩
theorem adD : aH tt [] fok Tryz.f33 = some F33 := by kernel_rfl
theorem UM : aI Tryz.prog [] 33 F33 := aI.of (aA bR bq mixed Tryz.func33 adD)
def Uw:Den:=fun _ e s=>bw (V.ay) fun v0=>.au (u6 e v0) s
def Sc:Den:=fun _ e s=>bw (V.ay) fun v0=>.au (u7 e v0) s
def UA:Den:=fun _ e s=>bw (V.i 0) fun v0=>.au (u8 e v0) s
def Ao:Den:=fun _ e s=>lt (g8 e) fun v0=>lt (g1 e) fun v1=>pd aM v1 e fun v2=>pk (bI dW) v0 v2 e fun v3=>.au (bG e fun r=>{r with a9:=v0,a10:=v1,a11:=v2,a12:=v3}) s
def Ah:Den:=fun _ e s=>lt (g0 e) fun v0=>lt (g2 e) fun v1=>pk (aP 4) v0 v1 e fun v2=>pd (aF 0) v2 e fun v3=>pj v3 e s fun v4=>lt (g1 e) fun v5=>lt (g8 e) fun v6=>pk (aP 4) v5 v6 e fun v7=>pd (aF 0) v7 e fun v8=>pj v8 e s fun v9=>pk (bI m6) v4 v9 e fun v10=>pf v10 true (aC g0 e) fun v11=>pf v10 true (aC g2 e) fun v12=>pf v10 true (ak (aP 4) (cV v11) (cV v12) e) fun v13=>pf v10 true (aD (aF 0) (cV v13) e) fun v14=>bP (aN v10 true ((aQ (cV v14)) e s)) fun v15=>pf v10 true (aC g1 e) fun v16=>pf v10 true (aC g8 e) fun v17=>pf v10 true (ak (aP 4) (cV v16) (cV v17) e) fun v18=>pf v10 true (aD (aF 1) (cV v18) e) fun v19=>bP (aN v10 true ((aQ (cV v19)) e s)) fun v20=>pf v10 true (ak (bI dW) (cV v15) (cV v20) e) fun v21=>bP (aO (cV v10) (cV v21) (cV (.bool false)) e) fun v22=>.au (cQ (lW (u15 e v0) fun _ _ _ _ _ _ _ _ _ _ _ _ _ _ _ _=>⟨v1,v2,v3,v4,v5,v6,v7,v8,v9,v10,v10,v11,v12,v13,v14,v15⟩) fun r=>{r with a0:=v16,a1:=v17,a2:=v18,a3:=v19,a4:=v20,a5:=v21,a6:=v22}) s
def DY:aE:=lt (g7 e) fun v0=>lt (g8 e) fun v1=>bE (cZ (cg 1 1 [(.i 0)] [(0, 1, (cV v1))] e s.next) s) fun v2 s=>bE (kF 1 (cV v0) (cV v2) k e s) fun v3 s=>.au (cQ (u7 e v3) fun r=>{r with a7:=v0,a8:=v1,a9:=v2,a10:=v3}) s
def Bi:Den:=fun _ e s=>lt (g8 e) fun v0=>pk (bI bD) v0 (.i 1) e fun v1=>.au (bG e fun r=>{r with a8:=v1,a13:=v0,a14:=v1}) s
def Ad:Den:=fun _ e s=>lt (g7 e) fun v0=>.au (u43 (u6 e v0) v0) s
def HI:aE:=aa Uw (aa Sc (aa (aa UA (aG 0 (bT (aa (aa Ao (av g12 az (bB 0))) (aa (aG 1 (aa Ah (av g38 DY az))) Bi))))) (aa Ad aS))) k e s
def Jz : aX := ⟨[u0, u1, u2], HI, aL [rT g6]⟩
theorem aeB : aH tt [] fok Tryz.f34 = some Jz := by kernel_rfl
theorem Um : aI Tryz.prog [] 34 Jz := aI.of (aA bR bq mixed Tryz.func34 aeB)
noncomputable def F35 : aX := iC (fN 0 256 fun i => .i (bx i))
noncomputable def Z4 : aX := iC (fN 0 256 fun i => .bool (gL i))
def SX:Den:=fun _ e s=>bE (cZ (kO 9 (cK [(.str []), (.str []), (.bool false), (.bool false), (.i 0), (.i 0), .ay, .ay, .ay]) e s.next) s) fun v0 s=>bw (V.ay) fun v1=>.au (cw e fun r=>{r with a0:=v0,a1:=v1}) s
def U1:Den:=fun _ e s=>lt (g0 e) fun v0=>lt (g1 e) fun v1=>lt (g5 e) fun v2=>bP (bM [.jQ, .ay, .ay, (.i 0), (.bool false), (.i 0), (.i 0), .ay, .ay, .ay] [(0, 1, (cV v0)), (1, 1, (cV v1)), (4, 1, (cV v2)), (5, 1, (cV (.i 110)))] e) fun v3=>bE (cZ (kH (cV v3) e s.next) s) fun v4 s=>.au (cw e fun r=>{r with a2:=v4,a4:=v0,a5:=v1,a6:=v2,a7:=v3,a8:=v4}) s
def SG:Den:=fun _ e s=>lt (g4 e) fun v0=>pd gR v0 e fun v1=>.au (cw e fun r=>{r with a9:=v0,a10:=v1}) s
def T8:aE:=lt (g18 e) fun v0=>bE (aq 52 [(cV v0), (cV (.i 25)), (cV (.i 0)), (cV (.i 0))] k e s) fun v1 s=>.au (cw e fun r=>{r with a11:=v0,a12:=v1}) s
def DR:Den:=fun _ e s=>lt (g2 e) fun v0=>bP (ak (bS fun a b=>some (.bool (iM a b))) (cV v0) (cV (.str [103, 111])) e) fun v1=>.au (cw e fun r=>{r with a13:=v0,a14:=v1}) s
def Es:aE:=lt (g18 e) fun v0=>bE (aq 52 [(cV v0), (cV (.i 58)), (cV (.i 4)), (cV (.i 0))] k e s) fun v1 s=>.au (u32 (u31 e v0) v1) s
def Ji:aE:=lt (g18 e) fun v0=>bE (aq 52 [(cV v0), (cV (.i 21)), (cV (.i 1)), (cV (.i 0))] k e s) fun v1 s=>.au (cQ e fun r=>{r with a1:=v0,a2:=v1}) s
def LU:aE:=lt (g18 e) fun v0=>bE (aq 52 [(cV v0), (cV (.i 54)), (cV (.i 2)), (cV (.i 0))] k e s) fun v1 s=>.au (cQ e fun r=>{r with a3:=v0,a4:=v1}) s
def DZ:aE:=lt (g18 e) fun v0=>bE (aq 52 [(cV v0), (cV (.i 3)), (cV (.i 0)), (cV (.i 0))] k e s) fun v1 s=>.au (cQ e fun r=>{r with a5:=v0,a6:=v1}) s
def Cm:aE:=lt (g18 e) fun v0=>bE (aq 52 [(cV v0), (cV (.i 54)), (cV (.i 0)), (cV (.i 0))] k e s) fun v1 s=>.au (cQ e fun r=>{r with a7:=v0,a8:=v1}) s
def DB:aE:=lt (g18 e) fun v0=>bE (aq 52 [(cV v0), (cV (.i 58)), (cV (.i 8)), (cV (.i 0))] k e s) fun v1 s=>.au (cQ e fun r=>{r with a9:=v0,a10:=v1}) s
def Ay:aE:=lt (g18 e) fun v0=>bE (aq 52 [(cV v0), (cV (.i 3)), (cV (.i 0)), (cV (.i 0))] k e s) fun v1 s=>.au (cQ e fun r=>{r with a11:=v0,a12:=v1}) s
def Gi:aE:=lt (g18 e) fun v0=>bE (aq 52 [(cV v0), (cV (.i 54)), (cV (.i 0)), (cV (.i 0))] k e s) fun v1 s=>.au (cQ e fun r=>{r with a13:=v0,a14:=v1}) s
def Hp:aE:=lt (g18 e) fun v0=>bE (aq 52 [(cV v0), (cV (.i 3)), (cV (.i 0)), (cV (.i 0))] k e s) fun v1 s=>.au (u48 (u47 e v0) v1) s
def Ig:aE:=lt (g18 e) fun v0=>bE (aq 52 [(cV v0), (cV (.i 54)), (cV (.i 1)), (cV (.i 0))] k e s) fun v1 s=>.au (eH e fun r=>{r with a1:=v0,a2:=v1}) s
def JF:aE:=lt (g18 e) fun v0=>lt (g4 e) fun v1=>lt (g2 e) fun v2=>lt (g7 e) fun v3=>bE (aq 53 [cV v0,cV v1,cV v2,cV v3] k e s) fun v4 s=>.au (eH e fun r=>{r with a3:=v0,a4:=v1,a5:=v2,a6:=v3,a7:=v4}) s
def EN:aE:=lt (g18 e) fun v0=>bE (aq 54 [(cV v0), (cV (.i 6))] k e s) fun v1 s=>.au (eH e fun r=>{r with a8:=v0,a9:=v1}) s
def Gy:Den:=fun _ e s=>lt (g6 e) fun v0=>.au (u58 e v0) s
def B1:aE:=lt (g18 e) fun v0=>bE (aq 55 [(cV v0), (cV (.i 2))] k e s) fun v1 s=>.au (eH e fun r=>{r with a11:=v0,a12:=v1}) s
def BC:aE:=lt (g18 e) fun v0=>bE (aq 52 [(cV v0), (cV (.i 172)), (cV (.i 0)), (cV (.i 0))] k e s) fun v1 s=>.au (eH e fun r=>{r with a13:=v0,a14:=v1}) s
def J7:aE:=lt (g18 e) fun v0=>bE (aq 52 [(cV v0), (cV (.i 177)), (cV (.i 0)), (cV (.i 0))] k e s) fun v1 s=>.au (u64 (u63 e v0) v1) s
def GR:aE:=lt (g18 e) fun v0=>lt (g2 e) fun v1=>lt (g3 e) fun v2=>lt (g4 e) fun v3=>bE (aq 56 [cV v0,cV v1,cV v2,cV v3] k e s) fun v4 s=>bE (cZ (kO 9 (cK [(.str []), (.str []), (.bool false), (.bool false), (.i 0), (.i 0), .ay, .ay, .ay]) e s.next) s) fun v5 s=>bE (dJ 9 (cV v5) (cV v4) k e s) fun v6 s=>.au (jh (u19 e v5) fun r=>{r with a1:=v0,a2:=v1,a3:=v2,a4:=v3,a5:=v4}) s
def Kk:aE:=fK [⟨none, (.d 1 0 (dh 9 g19)), u70⟩, ⟨none, (.p (aC g18)), u71⟩, ⟨none, (.p (aD bF g71)), u72⟩, ⟨none, (.p (aD (aF 1) g72)), u73⟩, ⟨none, (.d 0 1 (aQ g73)), u74⟩, ⟨none, (.e (dJ 9 g16 g70)), nW⟩, ⟨none, (.p (aC g74)), u17⟩] k e s
def m_:aE:=aa GR (aa Kk aS) k e s
def oY:aE:=aa JF (aa EN (aa (aa Gy (av g58 (aa B1 BC) J7)) m_)) k e s
def AT:aE:=aa SX (aa U1 (aa (aa SG (av g26 (aa T8 (aa DR (av g30 (aa Es (aa Ji (aa LU (aa DZ Cm)))) (aa DB (aa Ay (aa Gi (aa Hp Ig))))))) az)) oY)) k e s
def F37 : aX := ⟨[u0, u1, u2, u3, u4, u5, u6, u7], AT, aL [rC true (nat_lit 9) g16, rT g17]⟩
theorem aex : aH tt [] fok Tryz.f37 = some F37 := by kernel_rfl
theorem TO : aI Tryz.prog [] 37 F37 := aI.of (aA bR bq mixed Tryz.func37 aex)
def Un:Den:=fun _ e s=>bw (V.i 0) fun v0=>.au (u4 e v0) s
def VW:Den:=fun _ e s=>bw (V.i 0) fun v0=>.au (u5 e v0) s
def SP:Den:=fun _ e s=>lt (g0 e) fun v0=>pd bF v0 e fun v1=>pd (aF 1) v1 e fun v2=>pj v2 e s fun v3=>lt (g0 e) fun v4=>pd bF v4 e fun v5=>pd (aF 0) v5 e fun v6=>pj v6 e s fun v7=>pd aM v7 e fun v8=>pk (bI dW) v3 v8 e fun v9=>.au (fV e fun a b c d f g _ _ _ _ _ _ _ _ _ _=>⟨a,b,c,d,f,g,v0,v1,v2,v3,v4,v5,v6,v7,v8,v9⟩) s
def WR:Den:=fun _ e s=>lt (g0 e) fun v0=>pd bF v0 e fun v1=>pd (aF 0) v1 e fun v2=>pj v2 e s fun v3=>lt (g0 e) fun v4=>pd bF v4 e fun v5=>pd (aF 1) v5 e fun v6=>pj v6 e s fun v7=>pk (aP 1) v3 v7 e fun v8=>pj v8 e s fun v9=>.au (lW (u5 e v9) fun _ _ _ _ _ _ _ _ _ _ m n o p q r=>⟨v0,v1,v2,v3,v4,v5,v6,v7,v8,v9,m,n,o,p,q,r⟩) s
def NY:aE:=lt (g0 e) fun v0=>pd bF v0 e fun v1=>pd (aF 1) v1 e fun v2=>pj v2 e s fun v3=>pk (bI bD) v3 (.i 1) e fun v4=>pd bF v0 e fun v5=>pd (aF 1) v5 e fun v6=>bE (dJ 1 (cV v6) (cV v4) k e s) fun v7 s=>.au (u32 (cw e fun r=>{r with a10:=v0,a11:=v1,a12:=v2,a13:=v3,a14:=v4,a15:=v5}) v6) s
def Kb:Den:=fun _ e s=>lt (g5 e) fun v0=>pk (bI dW) v0 (.i 0) e fun v1=>.au (cQ e fun r=>{r with a1:=v0,a2:=v1}) s
def Iy:Den:=fun _ e s=>lt (g5 e) fun v0=>pk (bI bD) v0 (.i 1) e fun v1=>pd Dk v1 e fun v2=>.au (cQ (u5 e v2) fun r=>{r with a3:=v0,a4:=v1,a5:=v2}) s
def Mr:Den:=fun _ e s=>lt (g5 e) fun v0=>lt (g1 e) fun v1=>pk oW v0 v1 e fun v2=>.au (cQ (u4 e v2) fun r=>{r with a6:=v0,a7:=v1,a8:=v2}) s
def FC:aE:=aa Un (aa VW (aa (aa SP (av g15 (aa WR NY) az)) (aa (aa Kb (av g34 Iy az)) (aa Mr aS)))) k e s
def F38 : aX := ⟨[u0, u1], FC, aL [rT g4]⟩
theorem adB : aH tt [] fok Tryz.f38 = some F38 := by kernel_rfl
theorem Yg : aI Tryz.prog [] 38 F38 := aI.of (aA bR bq mixed Tryz.func38 adB)
def XP:Den:=fun _ e s=>bw (V.i 0) fun v0=>.au (u2 e v0) s
def TN:aE:=lt (g0 e) fun v0=>lt (g0 e) fun v1=>pd aM v1 e fun v2=>pk (bI ei) v2 (.i 1) e fun v3=>pk (aP 4) v0 v3 e fun v4=>bP ((dh 4 (cV v4)) e s) fun v5=>bE (cZ (kO 4 (cK [(.i 0), (.i 0), (.i 0), (.i 0)]) e s.next) s) fun v6 s=>bE (dJ 4 (cV v6) (cV v5) k e s) fun v7 s=>.au (bG e fun r=>{r with a3:=v6,a4:=v0,a5:=v1,a6:=v2,a7:=v3,a8:=v4,a9:=v5}) s
def XM:aE:=fK [⟨none, (.p (aD (aF 0) g3)), u10⟩, ⟨none, (.d 0 1 (aQ g10)), u11⟩, ⟨none, (.p (aD (aF 1) g3)), u12⟩, ⟨none, (.d 1 0 (aQ g12)), u13⟩, ⟨none, (.e (aq 57 [g13])), u14⟩, ⟨none, (.p (ak (bI bD) g11 g14)), u15⟩, ⟨none, (.p (aC g15)), u2⟩] k e s
def Rx:aE:=aa XP (aa TN (aa XM aS)) k e s
def F39 : aX := ⟨[u0], Rx, aL [rT g2]⟩
theorem ac4 : aH tt [] fok Tryz.f39 = some F39 := by kernel_rfl
theorem U' : aI Tryz.prog [] 39 F39 := aI.of (aA bR bq mixed Tryz.func39 ac4)
def SJ:Den:=fun _ e s=>bw (V.bool false) fun v0=>.au (u4 e v0) s
def WT:aE:=lt (g0 e) fun v0=>lt (g1 e) fun v1=>bE (aq 58 [cV v0,cV v1] k e s) fun v2 s=>pk (bI m6) v2 (.i 0) e fun v3=>.au (bG e fun r=>{r with a4:=v3,a5:=v0,a6:=v1,a7:=v2,a8:=v3}) s
def UY:aE:=aa SJ (aa WT aS) k e s
def F40 : aX := ⟨[u0, u1], UY, aL [rT g4]⟩
theorem adn : aH tt [] fok Tryz.f40 = some F40 := by kernel_rfl
theorem SA : aI Tryz.prog [] 40 F40 := aI.of (aA bR bq mixed Tryz.func40 adn)
def Wb:Den:=fun _ e s=>bE (cZ (kH g0 e s.next) s) fun v0 s=>bw (V.bool false) fun v1=>.au (bG e fun r=>{r with a2:=v0,a3:=v1}) s
def Xa:Den:=fun _ e s=>bP (aD (aF 0) g2 e) fun v0=>pj v0 e s fun v1=>bP (aD (aF 0) g1 e) fun v2=>pj v2 e s fun v3=>pk (bI m6) v1 v3 e fun v4=>.au (bG e fun r=>{r with a3:=v4,a4:=v0,a5:=v1,a6:=v2,a7:=v3,a8:=v4}) s
def XG:aE:=aa Wb (aa Xa aS) k e s
def F41 : aX := ⟨[u0, u1], XG, aL [rT g3]⟩
theorem ac7 : aH tt [] fok Tryz.f41 = some F41 := by kernel_rfl
theorem RT : aI Tryz.prog [] 41 F41 := aI.of (aA bR bq mixed Tryz.func41 ac7)
def Xx:Den:=fun _ e s=>bw (V.i 0) fun v0=>bw (V.bool false) fun v1=>.au (bG e fun r=>{r with a6:=v0,a7:=v1}) s
def Yu:Den:=fun _ e s=>lt (g0 e) fun v0=>pd aM v0 e fun v1=>.au (bG e fun r=>{r with a8:=v1,a12:=v0,a13:=v1}) s
def R6:Den:=fun _ e s=>lt (g8 e) fun v0=>bw (V.i 0) fun v1=>.au (bG e fun r=>{r with a9:=v1,a10:=v0,a14:=v0}) s
def NM:Den:=fun _ e s=>lt (g9 e) fun v0=>lt (g10 e) fun v1=>pk (bI dW) v0 v1 e fun v2=>.au (cw (u15 e v0) fun r=>{r with a0:=v1,a1:=v2}) s
def JG:Den:=fun _ e s=>lt (g9 e) fun v0=>lt (g10 e) fun v1=>pk (bI bD) v0 v1 e fun v2=>pd (cT .u64) v2 e fun v3=>pk (yI .shr .u64) v3 (.int .u64 1) e fun v4=>pd (cT .i64) v4 e fun v5=>.au (cw (u11 e v5) fun r=>{r with a2:=v0,a3:=v1,a4:=v2,a5:=v3,a6:=v4,a7:=v5}) s
def IJ:aE:=lt (g2 e) fun v0=>lt (g0 e) fun v1=>lt (g11 e) fun v2=>pk (aP 4) v1 v2 e fun v3=>bP ((dh 4 (cV v3)) e s) fun v4=>lt (g1 e) fun v5=>bE (fP fok (cV v0) [cV v4,cV v5] k e s) fun v6 s=>pk (bI dW) v6 (.i 0) e fun v7=>.au (cw e fun r=>{r with a8:=v0,a9:=v1,a10:=v2,a11:=v3,a12:=v4,a13:=v5,a14:=v6,a15:=v7}) s
def BS:Den:=fun _ e s=>lt (g11 e) fun v0=>pk (bI bD) v0 (.i 1) e fun v1=>.au (cQ (u9 e v1) fun r=>{r with a0:=v0,a1:=v1}) s
def Cb:Den:=fun _ e s=>lt (g11 e) fun v0=>.au (u34 (u10 e v0) v0) s
def Kg:aE:=lt (g9 e) fun v0=>lt (g9 e) fun v1=>lt (g8 e) fun v2=>pk (bI dW) v1 v2 e fun v3=>pf v3 true (aC g2 e) fun v4=>pf v3 true (aC g0 e) fun v5=>pf v3 true (aC g9 e) fun v6=>pf v3 true (ak (aP 4) (cV v5) (cV v6) e) fun v7=>bP (aN v3 true ((dh 4 (cV v7)) e s)) fun v8=>pf v3 true (aC g1 e) fun v9=>bE (ia v3 true s (fP fok (cV v4) [cV v8,cV v9] k e s)) fun v10 s=>bP (aN v3 true (ak (bI bp) (cV v10) (cV (.i 0)) e)) fun v11=>bP (aO (cV v3) (cV v11) (cV (.bool false)) e) fun v12=>.au (u48 (mu (bG e fun r=>{r with a6:=v0,a7:=v12}) fun a b c _ _ _ _ _ _ _ _ _ _ _ _ _=>⟨a,b,c,v0,v1,v2,v3,v3,v4,v5,v6,v7,v8,v9,v10,v11⟩) v12) s
def Dl:aE:=aa Xx (aa Yu (aa R6 (aa (aG 0 (bT (aa (aa NM (av g17 az (bB 0))) (aG 1 (aa JG (aa IJ (av g31 BS Cb))))))) (aa Kg aS)))) k e s
def F42 : aX := ⟨[u0, u1, u2], Dl, aL [rT g6, rT g7]⟩
theorem adm : aH tt [] fok Tryz.f42 = some F42 := by kernel_rfl
theorem Vo : aI Tryz.prog [] 42 F42 := aI.of (aA bR bq mixed Tryz.func42 adm)
def T7:Den:=fun _ e s=>bE (cZ (kH g0 e s.next) s) fun v0 s=>bw (V.i 0) fun v1=>.au (bG e fun r=>{r with a2:=v0,a4:=v1}) s
def RV:aE:=bP (aD (aF 0) g2 e) fun v0=>pj v0 e s fun v1=>lt (g1 e) fun v2=>bE (aq 44 [cV v1,cV v2] k e s) fun v3 s=>.au (bG e fun r=>{r with a4:=v3,a5:=v0,a6:=v1,a7:=v2,a8:=v3}) s
def CF:aE:=aa T7 (aa RV aS) k e s
def F43 : aX := ⟨[u0, u1], CF, aL [rT g4]⟩
theorem abN : aH tt [] fok Tryz.f43 = some F43 := by kernel_rfl
theorem X9 : aI Tryz.prog [] 43 F43 := aI.of (aA bR bq mixed Tryz.func43 abN)
def Xn:Den:=fun _ e s=>bw (V.i 0) fun v0=>.au (u4 e v0) s
def SU:aE:=lt (g0 e) fun v0=>bE (aq 59 [cV v0] k e s) fun v1 s=>.au (bG e fun r=>{r with a5:=v1,a7:=v0,a8:=v1}) s
def Yq:aE:=lt (g1 e) fun v0=>bE (aq 59 [cV v0] k e s) fun v1 s=>.au (bG e fun r=>{r with a6:=v1,a9:=v0,a10:=v1}) s
def UJ:Den:=fun _ e s=>lt (g5 e) fun v0=>.au (u11 e v0) s
def DN:Den:=fun _ e s=>lt (g6 e) fun v0=>.au (u12 e v0) s
def GW:Den:=fun _ e s=>bw (V.i 0) fun v0=>.au (u4 e v0) s
def Ja:Den:=fun _ e s=>bw (V.i (-1)) fun v0=>.au (u4 e v0) s
def NP:Den:=fun _ e s=>lt (g6 e) fun v0=>.au (u13 e v0) s
def CT:Den:=fun _ e s=>bw (V.i 1) fun v0=>.au (u4 e v0) s
def Km:Den:=fun _ e s=>lt (g0 e) fun v0=>lt (g1 e) fun v1=>pk (bI dW) v0 v1 e fun v2=>.au (u16 (bG e fun r=>{r with a14:=v0,a15:=v1}) v2) s
def J6:Den:=fun _ e s=>bw (V.i (-1)) fun v0=>.au (u4 e v0) s
def Oq:Den:=fun _ e s=>lt (g0 e) fun v0=>lt (g1 e) fun v1=>pk (bI su) v0 v1 e fun v2=>.au (cw e fun r=>{r with a1:=v0,a2:=v1,a3:=v2}) s
def Hi:Den:=fun _ e s=>bw (V.i 1) fun v0=>.au (u4 e v0) s
def BD:Den:=fun _ e s=>bw (V.i 0) fun v0=>.au (u4 e v0) s
def Mw:aE:=aa Xn (aa SU (aa Yq (aa (aa UJ (av g11 (aa (aa DN (av g12 (aa GW aS) az)) (aa Ja aS)) az)) (aa (aa NP (av g13 (aa CT aS) az)) (aa (aa Km (av g16 (aa J6 aS) az)) (aa (aa Oq (av g19 (aa Hi aS) az)) (aa BD aS))))))) k e s
def F44 : aX := ⟨[u0, u1], Mw, aL [rT g4]⟩
theorem adP : aH tt [] fok Tryz.f44 = some F44 := by kernel_rfl
theorem Vp : aI Tryz.prog [] 44 F44 := aI.of (aA bR bq mixed Tryz.func44 adP)
def UN:Den:=fun _ e s=>bw (V.i 0) fun v0=>.au (u4 e v0) s
def Uk:Den:=fun _ e s=>lt (g0 e) fun v0=>pd aM v0 e fun v1=>bw (V.i 0) fun v2=>.au (bG e fun r=>{r with a6:=v0,a7:=v1,a8:=v2}) s
def XB:Den:=fun _ e s=>bP (ak (bI dW) g8 g7 e) fun v0=>.au (u9 e v0) s
def BB:Den:=fun _ e s=>lt (g8 e) fun v0=>.au (bG e fun r=>{r with a5:=v0,a10:=v0}) s
def AW:aE:=lt (g1 e) fun v0=>lt (g0 e) fun v1=>lt (g5 e) fun v2=>pk (aP 1) v1 v2 e fun v3=>pj v3 e s fun v4=>bE (fP fok (cV v0) [cV v4] k e s) fun v5 s=>.au (u16 (bG e fun r=>{r with a11:=v0,a12:=v1,a13:=v2,a14:=v3,a15:=v4}) v5) s
def FN:Den:=fun _ e s=>lt (g5 e) fun v0=>.au (u17 (u4 e v0) v0) s
def D3:Den:=fun _ e s=>bP (ak (bI bD) g8 (cV (.i 1)) e) fun v0=>.au (u18 (u8 e v0) v0) s
def Hv:Den:=fun _ e s=>bw (V.i (-1)) fun v0=>.au (u4 e v0) s
def Ai:aE:=aa UN (aa (aa Uk (aG 0 (bT (aa XB (aa (av g9 az (bB 0)) (aa (aG 1 (aa BB (aa AW (av g16 (aa FN aS) az)))) D3)))))) (aa Hv aS)) k e s
def OU : aX := ⟨[u0, u1], Ai, aL [rT g4]⟩
theorem adu : aH tt [] fok Tryz.f45 = some OU := by kernel_rfl
theorem XK : aI Tryz.prog [] 45 OU := aI.of (aA bR bq mixed Tryz.func45 adu)
def Rj:Den:=fun _ e s=>bw (V.bool false) fun v0=>.au (u4 e v0) s
def WO:aE:=lt (g0 e) fun v0=>bE (aq 59 [cV v0] k e s) fun v1 s=>pf v1 true (aC g1 e) fun v2=>bE (ia v1 true s (aq 59 [cV v2] k e s)) fun v3 s=>pf v1 true (aD gR (cV v3) e) fun v4=>bP (aO (cV v1) (cV v4) (cV (.bool false)) e) fun v5=>pf v5 false (aC g0 e) fun v6=>pf v5 false (aC g1 e) fun v7=>pf v5 false (ak (bI dW) (cV v6) (cV v7) e) fun v8=>bP (aO (cV v5) (cV (.bool true)) (cV v8) e) fun v9=>.au (u16 (fV e fun a b c d _ _ _ _ _ _ _ _ _ _ _ _=>⟨a,b,c,d,v9,v0,v1,v1,v2,v3,v4,v5,v5,v6,v7,v8⟩) v9) s
def FR:aE:=aa Rj (aa WO aS) k e s
def F48 : aX := ⟨[u0, u1], FR, aL [rT g4]⟩
theorem acv : aH tt [] fok Tryz.f48 = some F48 := by kernel_rfl
theorem X5 : aI Tryz.prog [] 48 F48 := aI.of (aA bR bq mixed Tryz.func48 acv)
def Vb:Den:=fun _ e s=>bw (V.bool false) fun v0=>.au (u2 e v0) s
def Wz:Den:=fun _ e s=>lt (g0 e) fun v0=>lt (g0 e) fun v1=>pk (bI sH) v0 v1 e fun v2=>.au (bG e fun r=>{r with a2:=v2,a3:=v0,a4:=v1,a5:=v2}) s
def DW:aE:=aa Vb (aa Wz aS) k e s
def F49 : aX := ⟨[u0], DW, aL [rT g2]⟩
theorem ad6 : aH tt [] fok Tryz.f49 = some F49 := by kernel_rfl
theorem WE : aI Tryz.prog [] 49 F49 := aI.of (aA bR bq mixed Tryz.func49 ad6)
def We:Den:=fun _ e s=>bw (V.ay) fun v0=>.au (u4 e v0) s
def UE:Den:=fun _ e s=>bw (V.ay) fun v0=>.au (u5 e v0) s
def Rl:Den:=fun _ e s=>bw (V.bool false) fun v0=>.au (u6 e v0) s
def VJ:Den:=fun _ e s=>bw (V.i 0) fun v0=>.au (u7 e v0) s
def Db:Den:=fun _ e s=>lt (g7 e) fun v0=>lt (g0 e) fun v1=>pd aM v1 e fun v2=>pk (bI dW) v0 v2 e fun v3=>.au (bG e fun r=>{r with a8:=v0,a9:=v1,a10:=v2,a11:=v3}) s
def CG:Den:=fun _ e s=>lt (g0 e) fun v0=>lt (g7 e) fun v1=>pk (aP 1) v0 v1 e fun v2=>pj v2 e s fun v3=>lt (g1 e) fun v4=>pk (bI m6) v3 v4 e fun v5=>pf v5 true (aC g6 e) fun v6=>pf v5 true (aD gR (cV v6) e) fun v7=>bP (aO (cV v5) (cV v7) (cV (.bool false)) e) fun v8=>.au (cw (bG e fun r=>{r with a14:=v0,a15:=v1}) fun r=>{r with a0:=v2,a1:=v3,a2:=v4,a3:=v5,a4:=v5,a5:=v6,a6:=v7,a7:=v8}) s
def CL:aE:=lt (g5 e) fun v0=>lt (g1 e) fun v1=>bE (cZ (cg 1 1 [(.i 0)] [(0, 1, (cV v1))] e s.next) s) fun v2 s=>bE (kF 1 (cV v0) (cV v2) k e s) fun v3 s=>.au (cw (u5 e v3) fun r=>{r with a8:=v0,a9:=v1,a10:=v2,a11:=v3}) s
def BQ:Den:=fun _ e s=>bw (V.bool true) fun v0=>.au (u6 e v0) s
def Dj:Den:=fun _ e s=>lt (g0 e) fun v0=>lt (g7 e) fun v1=>pk (aP 1) v0 v1 e fun v2=>pj v2 e s fun v3=>lt (g1 e) fun v4=>pk (bI sH) v3 v4 e fun v5=>.au (cQ (cw e fun r=>{r with a12:=v0,a13:=v1,a14:=v2,a15:=v3}) fun r=>{r with a0:=v4,a1:=v5}) s
def CB:aE:=lt (g5 e) fun v0=>lt (g0 e) fun v1=>lt (g7 e) fun v2=>pk (aP 1) v1 v2 e fun v3=>pj v3 e s fun v4=>bE (cZ (cg 1 1 [(.i 0)] [(0, 1, (cV v4))] e s.next) s) fun v5 s=>bE (kF 1 (cV v0) (cV v5) k e s) fun v6 s=>.au (cQ (u5 e v6) fun r=>{r with a2:=v0,a3:=v1,a4:=v2,a5:=v3,a6:=v4,a7:=v5,a8:=v6}) s
def KJ:Den:=fun _ e s=>lt (g7 e) fun v0=>pk (bI bD) v0 (.i 1) e fun v1=>.au (bG e fun r=>{r with a7:=v1,a12:=v0,a13:=v1}) s
def BZ:Den:=fun _ e s=>lt (g6 e) fun v0=>pd gR v0 e fun v1=>.au (cQ e fun r=>{r with a9:=v0,a10:=v1}) s
def CS:aE:=lt (g5 e) fun v0=>lt (g1 e) fun v1=>bE (cZ (cg 1 1 [(.i 0)] [(0, 1, (cV v1))] e s.next) s) fun v2 s=>bE (kF 1 (cV v0) (cV v2) k e s) fun v3 s=>.au (cQ (u5 e v3) fun r=>{r with a11:=v0,a12:=v1,a13:=v2,a14:=v3}) s
def Bd:Den:=fun _ e s=>lt (g5 e) fun v0=>.au (u47 (u4 e v0) v0) s
def F_:aE:=aa We (aa UE (aa Rl (aa (aa VJ (aG 0 (bT (aa (aa Db (av g11 az (bB 0))) (aa (aG 1 (aa (aa CG (av g23 (aa CL BQ) az)) (aa Dj (av g33 CB az)))) KJ))))) (aa (aa BZ (av g42 CS az)) (aa Bd aS))))) k e s
def F50 : aX := ⟨[u0, u1], F_, aL [rT g4]⟩
theorem abU : aH tt [] fok Tryz.f50 = some F50 := by kernel_rfl
theorem TL : aI Tryz.prog [] 50 F50 := aI.of (aA bR bq mixed Tryz.func50 abU)
def To:aE:=lt (g0 e) fun v0=>lt (g0 e) fun v1=>pd bF v1 e fun v2=>pd (aF 2) v2 e fun v3=>pj v3 e s fun v4=>lt (g1 e) fun v5=>lt (g2 e) fun v6=>lt (g3 e) fun v7=>bP (bM [(.i 0), (.i 0), (.i 0), (.i 0)] [(1, 1, (cV v5)), (2, 1, (cV v6)), (3, 1, (cV v7))] e) fun v8=>bP (bM [(.i 0), (.i 0), (.i 0), (.i 0), (.i 0), (.i 0)] [(0, 4, (cV v8)), (4, 1, (cV (.i (-1)))), (5, 1, (cV (.i (-1))))] e) fun v9=>bE (cZ (cg 1 6 [(.i 0), (.i 0), (.i 0), (.i 0), (.i 0), (.i 0)] [(0, 6, (cV v9))] e s.next) s) fun v10 s=>bE (iX 6 (cV v4) (cV v10) k e s) fun v11 s=>pd bF v0 e fun v12=>pd (aF 2) v12 e fun v13=>bE (dJ 1 (cV v13) (cV v11) k e s) fun v14 s=>.au (cw (bG e fun r=>{r with a8:=v0,a9:=v1,a10:=v2,a11:=v3,a12:=v4,a13:=v5,a14:=v6,a15:=v7}) fun r=>{r with a0:=v8,a1:=v9,a2:=v10,a3:=v11,a4:=v12,a5:=v13}) s
def Ri:aE:=lt (g0 e) fun v0=>pd bF v0 e fun v1=>pd (aF 5) v1 e fun v2=>pj v2 e s fun v3=>pk (bI ei) v3 (.i 1) e fun v4=>pd bF v0 e fun v5=>pd (aF 5) v5 e fun v6=>bE (dJ 1 (cV v6) (cV v4) k e s) fun v7 s=>.au (cw e fun r=>{r with a6:=v0,a7:=v1,a8:=v2,a9:=v3,a10:=v4,a11:=v5,a12:=v6}) s
def HT:aE:=aa To Ri k e s
def F52 : aX := ⟨[u0, u1, u2, u3], HT, aL []⟩
theorem ae5 : aH tt [] fok Tryz.f52 = some F52 := by kernel_rfl
theorem Vw : aI Tryz.prog [] 52 F52 := aI.of (aA bR bq mixed Tryz.func52 ae5)
def SC:Den:=fun _ e s=>lt (g1 e) fun v0=>.au (u10 e v0) s
def Sf:aE:=lt (g0 e) fun v0=>lt (g3 e) fun v1=>bE (aq 70 [cV v0,cV v1] k e s) fun v2 s=>.au (bG e fun r=>{r with a11:=v0,a12:=v1,a13:=v2}) s
def Tc:aE:=lt (g0 e) fun v0=>bE (aq 71 [cV v0] k e s) fun v1 s=>.au (bG e fun r=>{r with a8:=v1,a14:=v0,a15:=v1}) s
def T3:Den:=fun _ e s=>bw (V.i 1) fun v0=>.au (u9 e v0) s
def D6:Den:=fun _ e s=>lt (g9 e) fun v0=>lt (g8 e) fun v1=>pd aM v1 e fun v2=>pk (bI dW) v0 v2 e fun v3=>.au (cw e fun r=>{r with a0:=v0,a1:=v1,a2:=v2,a3:=v3}) s
def qI:Den:=fun _ e s=>lt (g2 e) fun v0=>bP (ak (bS fun a b=>some (.bool (iM a b))) (cV v0) (cV (.str [103, 111])) e) fun v1=>pf v1 true (aC g9 e) fun v2=>bP (aN v1 true (ak (bI bp) (cV v2) (cV (.i 1)) e)) fun v3=>pf v1 true (aC (cV v3) e) fun v4=>pf v4 false (aC g9 e) fun v5=>bP (aN v4 false (ak (bI bp) (cV v5) (cV (.i 2)) e)) fun v6=>bP (aN v1 true (aO (cV v4) (cV (.bool true)) (cV v6) e)) fun v7=>pf v1 true (aC (cV v7) e) fun v8=>pf v8 false (aC g9 e) fun v9=>bP (aN v8 false (ak (bI bp) (cV v9) (cV (.i 4)) e)) fun v10=>bP (aN v1 true (aO (cV v8) (cV (.bool true)) (cV v10) e)) fun v11=>bP (aO (cV v1) (cV v11) (cV (.bool false)) e) fun v12=>pf v12 false (aC g2 e) fun v13=>bP (aN v12 false (ak (bS fun a b=>some (.bool (iM a b))) (cV v13) (cV (.str [114, 117, 110])) e)) fun v14=>pf v12 false (aC (cV v14) e) fun v15=>pf v15 true (aC g9 e) fun v16=>bP (aN v15 true (ak (bI bp) (cV v16) (cV (.i 1)) e)) fun v17=>pf v15 true (aC (cV v17) e) fun v18=>pf v18 false (aC g9 e) fun v19=>bP (aN v18 false (ak (bI bp) (cV v19) (cV (.i 8)) e)) fun v20=>bP (aN v15 true (aO (cV v18) (cV (.bool true)) (cV v20) e)) fun v21=>bP (aN v12 false (aO (cV v15) (cV v21) (cV (.bool false)) e)) fun v22=>bP (aO (cV v12) (cV (.bool true)) (cV v22) e) fun v23=>.au (mu (lW e fun a b c d f g _ _ _ _ _ _ _ _ _ _=>⟨a,b,c,d,f,g,v0,v1,v1,v2,v3,v4,v5,v6,v7,v8⟩) fun _ _ _ _ _ _ _ _ _ _ _ _ _ _ _ _=>⟨v9,v10,v11,v12,v12,v13,v14,v15,v16,v17,v18,v19,v20,v21,v22,v23⟩) s
def Lj:Den:=fun _ e s=>lt (g8 e) fun v0=>lt (g9 e) fun v1=>pk (aP 1) v0 v1 e fun v2=>pj v2 e s fun v3=>bP (ak (bS fun a b=>some (.bool (iM a b))) (cV v3) (cV (.str [73])) e) fun v4=>.au (eH e fun r=>{r with a0:=v0,a1:=v1,a2:=v2,a3:=v3,a4:=v4}) s
def Ot:aE:=lt (g0 e) fun v0=>bE (aq 52 [(cV v0), (cV (.i 3)), (cV (.i 0)), (cV (.i 0))] k e s) fun v1 s=>.au (eH e fun r=>{r with a5:=v0,a6:=v1}) s
def Bt:aE:=lt (g0 e) fun v0=>lt (g9 e) fun v1=>bE (aq 52 [(cV v0), (cV (.i 54)), (cV v1), (cV (.i 0))] k e s) fun v2 s=>.au (eH e fun r=>{r with a7:=v0,a8:=v1,a9:=v2}) s
def Nx:aE:=lt (g0 e) fun v0=>bE (aq 52 [(cV v0), (cV (.i 1)), (cV (.i 0)), (cV (.i 0))] k e s) fun v1 s=>.au (eH e fun r=>{r with a10:=v0,a11:=v1}) s
def KI:aE:=lt (g0 e) fun v0=>lt (g9 e) fun v1=>bE (aq 52 [(cV v0), (cV (.i 58)), (cV v1), (cV (.i 0))] k e s) fun v2 s=>.au (eH e fun r=>{r with a12:=v0,a13:=v1,a14:=v2}) s
def DA:Den:=fun _ e s=>lt (g9 e) fun v0=>pk (bI bD) v0 (.i 1) e fun v1=>.au (cw (u9 e v1) fun r=>{r with a4:=v0,a5:=v1}) s
def nE:aE:=aa (aG 1 (aa (aa qI (av g47 (bB 1) az)) (aa Lj (av g52 (aa Ot Bt) (aa Nx KI))))) DA k e s
def Mv:aE:=aa (aa SC (av g10 (aa Sf aS) az)) (aa Tc (aa T3 (aG 0 (bT (aa (aa D6 (av g19 az (bB 0))) nE))))) k e s
def F53 : aX := ⟨[u0, u1, u2, u3], Mv, aL []⟩
theorem acX : aH tt [] fok Tryz.f53 = some F53 := by kernel_rfl
theorem VQ : aI Tryz.prog [] 53 F53 := aI.of (aA bR bq mixed Tryz.func53 acX)
def Xw:aE:=lt (g0 e) fun v0=>pd bF v0 e fun v1=>pd (aF 0) v1 e fun v2=>pj v2 e s fun v3=>lt (g1 e) fun v4=>bE (aq 38 [cV v3,cV v4] k e s) fun v5 s=>pk (bI bD) (.i 1) v5 e fun v6=>.au (bG e fun r=>{r with a4:=v6,a5:=v0,a6:=v1,a7:=v2,a8:=v3,a9:=v4,a10:=v5,a11:=v6}) s
def Va:Den:=fun _ e s=>lt (g4 e) fun v0=>pk (bI su) v0 (.i 0) e fun v1=>pf v1 true (aC g0 e) fun v2=>pf v1 true (aD bF (cV v2) e) fun v3=>pf v1 true (aD (aF 5) (cV v3) e) fun v4=>bP (aN v1 true ((aQ (cV v4)) e s)) fun v5=>bP (aN v1 true (ak (bI su) (cV v5) (cV (.i 25)) e)) fun v6=>bP (aO (cV v1) (cV v6) (cV (.bool false)) e) fun v7=>.au (cw (bG e fun r=>{r with a12:=v0,a13:=v1,a14:=v1,a15:=v2}) fun r=>{r with a0:=v3,a1:=v4,a2:=v5,a3:=v6,a4:=v7}) s
def EZ:aE:=lt (g0 e) fun v0=>bE (aq 72 [cV v0] k e s) fun v1 s=>.au (cw e fun r=>{r with a7:=v0,a8:=v1}) s
def LA:Den:=fun _ e s=>lt (g4 e) fun v0=>pk (bI ei) v0 (.i 1) e fun v1=>.au (cw (u4 e v1) fun r=>{r with a5:=v0,a6:=v1}) s
def BK:aE:=aa Xw (aG 0 (bT (aa (aa Va (av g20 az (bB 0))) (aa (aG 1 EZ) LA)))) k e s
def F54 : aX := ⟨[u0, u1], BK, aL []⟩
theorem adw : aH tt [] fok Tryz.f54 = some F54 := by kernel_rfl
theorem Uv : aI Tryz.prog [] 54 F54 := aI.of (aA bR bq mixed Tryz.func54 adw)
def Rm:aE:=lt (g0 e) fun v0=>pd bF v0 e fun v1=>pd (aF 0) v1 e fun v2=>pj v2 e s fun v3=>bE (aq 38 [(cV v3), (cV (.i 12))] k e s) fun v4 s=>.au (bG e fun r=>{r with a4:=v4,a5:=v0,a6:=v1,a7:=v2,a8:=v3,a9:=v4}) s
def Xz:Den:=fun _ e s=>lt (g1 e) fun v0=>pk (bI zM) v0 (.i 0) e fun v1=>pf v1 false (aC g0 e) fun v2=>pf v1 false (aD bF (cV v2) e) fun v3=>pf v1 false (aD (aF 5) (cV v3) e) fun v4=>bP (aN v1 false ((aQ (cV v4)) e s)) fun v5=>bP (aN v1 false (ak (bI dW) (cV v5) (cV (.i 20)) e)) fun v6=>bP (aO (cV v1) (cV (.bool true)) (cV v6) e) fun v7=>.au (cw (bG e fun r=>{r with a10:=v0,a11:=v1,a12:=v1,a13:=v2,a14:=v3,a15:=v4}) fun r=>{r with a0:=v5,a1:=v6,a2:=v7}) s
def Yb:Den:=fun _ e s=>lt (g4 e) fun v0=>pk oW v0 (.i 3) e fun v1=>.au (cw (u4 e v1) fun r=>{r with a3:=v0,a4:=v1}) s
def Vv:Den:=fun _ e s=>lt (g0 e) fun v0=>pd bF v0 e fun v1=>pd (aF 4) v1 e fun v2=>pj v2 e s fun v3=>pf v3 true (aC g4 e) fun v4=>bP (aN v3 true (ak (bI su) (cV v4) (cV (.i 6)) e)) fun v5=>bP (aO (cV v3) (cV v5) (cV (.bool false)) e) fun v6=>.au (cw e fun r=>{r with a5:=v0,a6:=v1,a7:=v2,a8:=v3,a9:=v3,a10:=v4,a11:=v5,a12:=v6}) s
def Af:Den:=fun _ e s=>lt (g4 e) fun v0=>pk oW v0 (.i 7) e fun v1=>.au (cw (u4 e v1) fun r=>{r with a13:=v0,a14:=v1}) s
def K2:Den:=fun _ e s=>lt (g4 e) fun v0=>.au (u31 e v0) s
def HL:Den:=fun _ e s=>bP (ak (bI bp) g31 (cV (.i 0)) e) fun v0=>.au (cQ e fun r=>{r with a0:=v0,a1:=v0}) s
def Dq:aE:=lt (g0 e) fun v0=>lt (g0 e) fun v1=>pd bF v1 e fun v2=>pd (aF 0) v2 e fun v3=>pj v3 e s fun v4=>bE (aq 38 [(cV v4), (cV (.i 6))] k e s) fun v5 s=>pk (bI bD) (.i 3) v5 e fun v6=>bE (aq 52 [(cV v0), (cV v6), (cV (.i 0)), (cV (.i 0))] k e s) fun v7 s=>.au (cQ e fun r=>{r with a2:=v0,a3:=v1,a4:=v2,a5:=v3,a6:=v4,a7:=v5,a8:=v6,a9:=v7}) s
def Hl:Den:=fun _ e s=>bP (ak (bI bp) g31 (cV (.i 1)) e) fun v0=>.au (cQ e fun r=>{r with a10:=v0,a11:=v0}) s
def Ep:aE:=lt (g0 e) fun v0=>lt (g0 e) fun v1=>pd bF v1 e fun v2=>pd (aF 0) v2 e fun v3=>pj v3 e s fun v4=>bE (aq 38 [(cV v4), (cV (.i 4))] k e s) fun v5 s=>bE (aq 52 [(cV v0), (cV (.i 21)), (cV v5), (cV (.i 0))] k e s) fun v6 s=>.au (eH (cQ e fun r=>{r with a12:=v0,a13:=v1,a14:=v2,a15:=v3}) fun r=>{r with a0:=v4,a1:=v5,a2:=v6}) s
def B0:Den:=fun _ e s=>bP (ak (bI bp) g31 (cV (.i 2)) e) fun v0=>.au (eH e fun r=>{r with a3:=v0,a4:=v0}) s
def Lw:aE:=lt (g0 e) fun v0=>lt (g0 e) fun v1=>pd bF v1 e fun v2=>pd (aF 0) v2 e fun v3=>pj v3 e s fun v4=>bE (aq 38 [(cV v4), (cV (.i 2000))] k e s) fun v5 s=>pk (bI ei) v5 (.i 1000) e fun v6=>bE (aq 52 [(cV v0), (cV (.i 17)), (cV v6), (cV (.i 0))] k e s) fun v7 s=>.au (eH e fun r=>{r with a5:=v0,a6:=v1,a7:=v2,a8:=v3,a9:=v4,a10:=v5,a11:=v6,a12:=v7}) s
def DP:Den:=fun _ e s=>bP (ak (bI bp) g31 (cV (.i 3)) e) fun v0=>.au (eH e fun r=>{r with a13:=v0,a14:=v0}) s
def Ng:Den:=fun _ e s=>bP (ak (bI bp) g31 (cV (.i 4)) e) fun v0=>.au (eH e fun r=>{r with a13:=v0,a15:=v0}) s
def IF:aE:=lt (g0 e) fun v0=>lt (g1 e) fun v1=>pk (bI ei) v1 (.i 1) e fun v2=>bE (aq 55 [cV v0,cV v2] k e s) fun v3 s=>.au (jh e fun r=>{r with a0:=v0,a1:=v1,a2:=v2,a3:=v3}) s
def IW:aE:=lt (g0 e) fun v0=>lt (g1 e) fun v1=>pk (bI ei) v1 (.i 1) e fun v2=>bE (aq 55 [cV v0,cV v2] k e s) fun v3 s=>.au (jh e fun r=>{r with a4:=v0,a5:=v1,a6:=v2,a7:=v3}) s
def Fs:aE:=lt (g0 e) fun v0=>bE (cZ (cg 11 1 [(.i 0), (.i 0), (.i 0), (.i 0), (.i 0), (.i 0), (.i 0), (.i 0), (.i 0), (.i 0), (.i 0)] [(0, 1, (cV (.i 96))), (1, 1, (cV (.i 100))), (2, 1, (cV (.i 104))), (3, 1, (cV (.i 108))), (4, 1, (cV (.i 112))), (5, 1, (cV (.i 120))), (6, 1, (cV (.i 122))), (7, 1, (cV (.i 124))), (8, 1, (cV (.i 126))), (9, 1, (cV (.i 128))), (10, 1, (cV (.i 130)))] e s.next) s) fun v1 s=>lt (g0 e) fun v2=>pd bF v2 e fun v3=>pd (aF 0) v3 e fun v4=>pj v4 e s fun v5=>bE (aq 38 [(cV v5), (cV (.i 11))] k e s) fun v6 s=>pk (aP 1) v1 v6 e fun v7=>pj v7 e s fun v8=>bE (aq 52 [(cV v0), (cV v8), (cV (.i 0)), (cV (.i 0))] k e s) fun v9 s=>.au (kQ (jh e fun r=>{r with a8:=v0,a9:=v1,a10:=v2,a11:=v3,a12:=v4,a13:=v5,a14:=v6,a15:=v7}) fun r=>{r with a0:=v8,a1:=v9}) s
def Gq:Den:=fun _ e s=>bP (ak (bI bp) g31 (cV (.i 5)) e) fun v0=>.au (kQ e fun r=>{r with a2:=v0,a3:=v0}) s
def Lr:aE:=lt (g0 e) fun v0=>lt (g1 e) fun v1=>pk (bI ei) v1 (.i 1) e fun v2=>bE (aq 55 [cV v0,cV v2] k e s) fun v3 s=>.au (kQ e fun r=>{r with a4:=v0,a5:=v1,a6:=v2,a7:=v3}) s
def Ho:aE:=lt (g0 e) fun v0=>bE (aq 52 [(cV v0), (cV (.i 116)), (cV (.i 0)), (cV (.i 0))] k e s) fun v1 s=>.au (kQ e fun r=>{r with a8:=v0,a9:=v1}) s
def Bq:Den:=fun _ e s=>bP (ak (bI bp) g31 (cV (.i 6)) e) fun v0=>.au (kQ e fun r=>{r with a10:=v0,a11:=v0}) s
def BL:aE:=lt (g0 e) fun v0=>lt (g0 e) fun v1=>bE (cZ (cg 4 1 [(.int .i32 0), (.int .i32 0), (.int .i32 0), (.int .i32 0)] [(0, 1, (cV (.int .i32 1073741824))), (1, 1, (cV (.int .i32 (-2147483648)))), (2, 1, (cV (.int .i32 2147483647))), (3, 1, (cV (.int .i32 77)))] e s.next) s) fun v2 s=>lt (g0 e) fun v3=>pd bF v3 e fun v4=>pd (aF 0) v4 e fun v5=>pj v5 e s fun v6=>bE (aq 38 [(cV v6), (cV (.i 4))] k e s) fun v7 s=>pk (aP 1) v2 v7 e fun v8=>pj v8 e s fun v9=>bP (bM [(.i 0), (.int .i32 0), (.str []), (.str []), (.str [])] [(0, 1, (cV (.i 3))), (1, 1, (cV v9))] e) fun v10=>bE (aq 73 [cV v1,cV v10] k e s) fun v11 s=>bE (aq 52 [(cV v0), (cV (.i 18)), (cV v11), (cV (.i 0))] k e s) fun v12 s=>.au (kU (kQ e fun r=>{r with a12:=v0,a13:=v1,a14:=v2,a15:=v3}) fun r=>{r with a0:=v4,a1:=v5,a2:=v6,a3:=v7,a4:=v8,a5:=v9,a6:=v10,a7:=v11,a8:=v12}) s
def Nl:Den:=fun _ e s=>bP (ak (bI bp) g31 (cV (.i 7)) e) fun v0=>.au (kU e fun r=>{r with a9:=v0,a10:=v0}) s
def LM:aE:=lt (g0 e) fun v0=>lt (g1 e) fun v1=>pk (bI ei) v1 (.i 1) e fun v2=>bE (aq 74 [cV v0,cV v2] k e s) fun v3 s=>.au (kU e fun r=>{r with a11:=v0,a12:=v1,a13:=v2,a14:=v3}) s
def Jk:aE:=lt (g0 e) fun v0=>lt (g0 e) fun v1=>bE (aq 75 [(cV v1), (cV (.str [65])), (cV (.str [120])), (cV (.str [73]))] k e s) fun v2 s=>bE (aq 52 [(cV v0), (cV (.i 180)), (cV v2), (cV (.i 0))] k e s) fun v3 s=>.au (nC (u111 e v0) fun r=>{r with a0:=v1,a1:=v2,a2:=v3}) s
def Dc:Den:=fun _ e s=>bP (ak (bI bp) g31 (cV (.i 8)) e) fun v0=>.au (nC e fun r=>{r with a3:=v0,a4:=v0}) s
def K1:aE:=lt (g0 e) fun v0=>bE (aq 52 [(cV v0), (cV (.i 25)), (cV (.i 6)), (cV (.i 0))] k e s) fun v1 s=>.au (nC e fun r=>{r with a5:=v0,a6:=v1}) s
def CO:aE:=lt (g0 e) fun v0=>lt (g1 e) fun v1=>pk (bI ei) v1 (.i 1) e fun v2=>bE (aq 55 [cV v0,cV v2] k e s) fun v3 s=>.au (nC e fun r=>{r with a7:=v0,a8:=v1,a9:=v2,a10:=v3}) s
def Lh:aE:=lt (g0 e) fun v0=>bE (aq 52 [(cV v0), (cV (.i 46)), (cV (.i 0)), (cV (.i 0))] k e s) fun v1 s=>.au (nC e fun r=>{r with a11:=v0,a12:=v1}) s
def Hq:Den:=fun _ e s=>bP (ak (bI bp) g31 (cV (.i 9)) e) fun v0=>.au (nC e fun r=>{r with a13:=v0,a14:=v0}) s
def IB:aE:=lt (g0 e) fun v0=>lt (g1 e) fun v1=>pk (bI ei) v1 (.i 1) e fun v2=>bE (aq 55 [cV v0,cV v2] k e s) fun v3 s=>.au (oc (u127 e v0) fun r=>{r with a0:=v1,a1:=v2,a2:=v3}) s
def I4:aE:=lt (g0 e) fun v0=>lt (g1 e) fun v1=>pk (bI ei) v1 (.i 1) e fun v2=>bE (aq 55 [cV v0,cV v2] k e s) fun v3 s=>.au (oc e fun r=>{r with a3:=v0,a4:=v1,a5:=v2,a6:=v3}) s
def Nw:aE:=lt (g0 e) fun v0=>lt (g0 e) fun v1=>bE (aq 76 [(cV v1), (cV (.str [77, 97, 105, 110])), (cV (.str [99, 97, 108, 99])), (cV (.str [40, 73, 73, 41, 73]))] k e s) fun v2 s=>bE (aq 52 [(cV v0), (cV (.i 184)), (cV v2), (cV (.i 0))] k e s) fun v3 s=>.au (oc e fun r=>{r with a7:=v0,a8:=v1,a9:=v2,a10:=v3}) s
def Kw:Den:=fun _ e s=>bP (ak (bI bp) g31 (cV (.i 10)) e) fun v0=>.au (oc e fun r=>{r with a11:=v0,a12:=v0}) s
def JZ:aE:=lt (g0 e) fun v0=>lt (g1 e) fun v1=>pk (bI ei) v1 (.i 1) e fun v2=>bE (aq 74 [cV v0,cV v2] k e s) fun v3 s=>.au (u144 (oc e fun r=>{r with a13:=v0,a14:=v1,a15:=v2}) v3) s
def JB:aE:=lt (g0 e) fun v0=>lt (g1 e) fun v1=>pk (bI ei) v1 (.i 1) e fun v2=>bE (aq 55 [cV v0,cV v2] k e s) fun v3 s=>.au (yB e fun r=>{r with a1:=v0,a2:=v1,a3:=v2,a4:=v3}) s
def HU:aE:=lt (g0 e) fun v0=>lt (g0 e) fun v1=>bE (aq 76 [(cV v1), (cV (.str [65])), (cV (.str [103, 111])), (cV (.str [40, 73, 41, 73]))] k e s) fun v2 s=>bE (aq 52 [(cV v0), (cV (.i 182)), (cV v2), (cV (.i 0))] k e s) fun v3 s=>.au (yB e fun r=>{r with a5:=v0,a6:=v1,a7:=v2,a8:=v3}) s
def B5:Den:=fun _ e s=>bP (ak (bI bp) g31 (cV (.i 11)) e) fun v0=>.au (yB e fun r=>{r with a9:=v0,a10:=v0}) s
def NX:aE:=lt (g0 e) fun v0=>lt (g1 e) fun v1=>pk (bI ei) v1 (.i 1) e fun v2=>bE (aq 74 [cV v0,cV v2] k e s) fun v3 s=>.au (yB e fun r=>{r with a11:=v0,a12:=v1,a13:=v2,a14:=v3}) s
def BV:aE:=lt (g0 e) fun v0=>lt (g0 e) fun v1=>bE (cZ (cg 3 1 [(.str []), (.str []), (.str [])] [(0, 1, (cV (.str [65]))), (1, 1, (cV (.str [66]))), (2, 1, (cV (.str [79, 98, 106, 101, 99, 116])))] e s.next) s) fun v2 s=>lt (g0 e) fun v3=>pd bF v3 e fun v4=>pd (aF 0) v4 e fun v5=>pj v5 e s fun v6=>bE (aq 38 [(cV v6), (cV (.i 3))] k e s) fun v7 s=>pk (aP 1) v2 v7 e fun v8=>pj v8 e s fun v9=>bE (aq 77 [cV v1,cV v9] k e s) fun v10 s=>bE (aq 52 [(cV v0), (cV (.i 193)), (cV v10), (cV (.i 0))] k e s) fun v11 s=>.au (abq (u159 e v0) fun _ _ _ _ _ _ _ _ _ _ _ n o p q r=>⟨v1,v2,v3,v4,v5,v6,v7,v8,v9,v10,v11,n,o,p,q,r⟩) s
def eM:aE:=aa K2 (aG 0 (aa HL (av g32 Dq (aa Hl (av g42 Ep (aa B0 (av g51 Lw (aa (aa DP (av g61 az Ng)) (av g61 (aa IF (aa IW Fs)) (aa Gq (av g82 (aa Lr Ho) (aa Bq (av g90 BL (aa Nl (av g105 (aa LM Jk) (aa Dc (av g115 (aa K1 (aa CO Lh)) (aa Hq (av g125 (aa IB (aa I4 Nw)) (aa Kw (av g139 (aa JZ (aa JB HU)) (aa B5 (av g153 (aa NX BV) az))))))))))))))))))))))) k e s
def gN:aE:=aa (aa Vv (av g28 Af az)) eM k e s
def CV:aE:=aa Rm (aa (aa Xz (av g18 Yb az)) gN) k e s
def F55 : aX := ⟨[u0, u1], CV, aL []⟩
theorem aem : aH tt [] fok Tryz.f55 = some F55 := by kernel_rfl
theorem US : aI Tryz.prog [] 55 F55 := aI.of (aA bR bq mixed Tryz.func55 aem)
def Yt:Den:=fun _ e s=>bE (cZ (kO 9 (cK [(.str []), (.str []), (.bool false), (.bool false), (.i 0), (.i 0), .ay, .ay, .ay]) e s.next) s) fun v0 s=>.au (u8 e v0) s
def Xo:Den:=fun _ e s=>lt (g0 e) fun v0=>pd bF v0 e fun v1=>pd (aF 3) v1 e fun v2=>pj v2 e s fun v3=>bE (cZ (qV 1 8 [(.i 0)] (cV v3) (cV v3) e s.next) s) fun v4 s=>.au (cw (u9 e v4) fun r=>{r with a2:=v0,a3:=v1,a4:=v2,a5:=v3,a6:=v4}) s
def TZ:Den:=fun _ e s=>bw (V.i 0) fun v0=>.au (u10 e v0) s
def Td:Den:=fun _ e s=>bw (V.i 0) fun v0=>.au (u11 e v0) s
def Ni:Den:=fun _ e s=>lt (g11 e) fun v0=>lt (g0 e) fun v1=>pd bF v1 e fun v2=>pd (aF 2) v2 e fun v3=>pj v3 e s fun v4=>pd aM v4 e fun v5=>pk (bI dW) v0 v5 e fun v6=>.au (cw e fun r=>{r with a7:=v0,a8:=v1,a9:=v2,a10:=v3,a11:=v4,a12:=v5,a13:=v6}) s
def Bn:Den:=fun _ e s=>lt (g0 e) fun v0=>pd bF v0 e fun v1=>pd (aF 2) v1 e fun v2=>pj v2 e s fun v3=>lt (g11 e) fun v4=>pk (aP 6) v3 v4 e fun v5=>pd (aF 5) v5 e fun v6=>pj v6 e s fun v7=>pk (bI m6) v7 (.i 0) e fun v8=>.au (cQ e fun r=>{r with a0:=v0,a1:=v1,a2:=v2,a3:=v3,a4:=v4,a5:=v5,a6:=v6,a7:=v7,a8:=v8}) s
def Cr:aE:=lt (g9 e) fun v0=>lt (g0 e) fun v1=>pd bF v1 e fun v2=>pd (aF 2) v2 e fun v3=>pj v3 e s fun v4=>lt (g11 e) fun v5=>pk (aP 6) v4 v5 e fun v6=>pd (aF 5) v6 e fun v7=>pj v7 e s fun v8=>lt (g10 e) fun v9=>pk (aP 1) v0 v8 e fun v10=>bE (dJ 1 (cV v10) (cV v9) k e s) fun v11 s=>.au (eH (cQ e fun r=>{r with a9:=v0,a10:=v1,a11:=v2,a12:=v3,a13:=v4,a14:=v5,a15:=v6}) fun r=>{r with a0:=v7,a1:=v8,a2:=v9,a3:=v10}) s
def MW:aE:=lt (g10 e) fun v0=>lt (g0 e) fun v1=>pd bF v1 e fun v2=>pd (aF 2) v2 e fun v3=>pj v3 e s fun v4=>lt (g11 e) fun v5=>pk (aP 6) v4 v5 e fun v6=>pd (aF 0) v6 e fun v7=>pd (aF 1) v7 e fun v8=>pj v8 e s fun v9=>bE (aq 35 [cV v9] k e s) fun v10 s=>pk (bI bD) v0 v10 e fun v11=>.au (EG (u10 e v11) fun a b c d _ _ _ _ _ _ _ _ _ _ _ _=>⟨a,b,c,d,v0,v1,v2,v3,v4,v5,v6,v7,v8,v9,v10,v11⟩) s
def GI:Den:=fun _ e s=>lt (g11 e) fun v0=>pk (bI bD) v0 (.i 1) e fun v1=>.au (cw (u11 e v1) fun r=>{r with a14:=v0,a15:=v1}) s
def Ol:Den:=fun _ e s=>bw (V.ay) fun v0=>.au (u12 e v0) s
def D9:Den:=fun _ e s=>bw (V.i 0) fun v0=>.au (u10 e v0) s
def Lq:aE:=lt (g1 e) fun v0=>lt (g2 e) fun v1=>lt (g3 e) fun v2=>lt (g0 e) fun v3=>bE (aq 71 [cV v3] k e s) fun v4 s=>pd aM v4 e fun v5=>bP (bM [(.str []), (.str []), (.bool false), (.bool false), (.i 0), (.i 0), .ay, .ay, .ay] [(0, 1, (cV v0)), (1, 1, (cV v1)), (2, 1, (cV v2)), (4, 1, (cV (.i 16))), (5, 1, (cV v5))] e) fun v6=>bE (cZ (kO 9 (cK [(.str []), (.str []), (.bool false), (.bool false), (.i 0), (.i 0), .ay, .ay, .ay]) e s.next) s) fun v7 s=>bE (dJ 9 (cV v7) (cV v6) k e s) fun v8 s=>.au (jh (u13 e v7) fun r=>{r with a0:=v0,a1:=v1,a2:=v2,a3:=v3,a4:=v4,a5:=v5,a6:=v6}) s
def Hw:Den:=fun _ e s=>bw (V.i 0) fun v0=>.au (u14 e v0) s
def My:Den:=fun _ e s=>lt (g14 e) fun v0=>lt (g0 e) fun v1=>pd bF v1 e fun v2=>pd (aF 2) v2 e fun v3=>pj v3 e s fun v4=>pd aM v4 e fun v5=>pk (bI dW) v0 v5 e fun v6=>.au (jh e fun r=>{r with a7:=v0,a8:=v1,a9:=v2,a10:=v3,a11:=v4,a12:=v5,a13:=v6}) s
def DE:aE:=lt (g0 e) fun v0=>pd bF v0 e fun v1=>pd (aF 2) v1 e fun v2=>pj v2 e s fun v3=>lt (g14 e) fun v4=>pk (aP 6) v3 v4 e fun v5=>bP ((dh 6 (cV v5)) e s) fun v6=>bE (cZ (kO 6 (cK [(.i 0), (.i 0), (.i 0), (.i 0), (.i 0), (.i 0)]) e s.next) s) fun v7 s=>bE (dJ 6 (cV v7) (cV v6) k e s) fun v8 s=>.au (kQ (u15 e v7) fun r=>{r with a0:=v0,a1:=v1,a2:=v2,a3:=v3,a4:=v4,a5:=v5,a6:=v6}) s
def zX:Den:=fun _ e s=>bP (aD (aF 5) g15 e) fun v0=>pj v0 e s fun v1=>pk (bI m6) v1 (.i 0) e fun v2=>.au (kQ e fun r=>{r with a7:=v0,a8:=v1,a9:=v2}) s
def Kh:aE:=fK [⟨none, (.p (aD (aF 8) g13)), u90⟩, ⟨none, (.d 0 2 (aQ g90)), u91⟩, ⟨none, (.p (aC g10)), u92⟩, ⟨none, (.p (aC g0)), u93⟩, ⟨none, (.e (aq 71 [g93])), u94⟩, ⟨none, (.p (aC g0)), u95⟩, ⟨none, (.p (aD (aF 5) g15)), u96⟩, ⟨none, (.d 0 1 (aQ g96)), u97⟩, ⟨none, (.e (aq 79 [g95, g97])), u98⟩, ⟨none, (.e (aq 78 [g91, g92, g94, g98])), u99⟩, ⟨none, (.p (aD (aF 8) g13)), u100⟩, ⟨none, (.e (dJ 1 g100 g99)), nW⟩] k e s
def K0:aE:=lt (g10 e) fun v0=>bP (aD (aF 0) g15 e) fun v1=>pd (aF 0) v1 e fun v2=>bE (dJ 1 (cV v2) (cV v0) k e s) fun v3 s=>.au (kU e fun r=>{r with a5:=v0,a6:=v1,a7:=v2}) s
def JK:Den:=fun _ e s=>bP (aD (aF 4) g15 e) fun v0=>pj v0 e s fun v1=>pk (bI m6) v1 (.i 0) e fun v2=>.au (kU e fun r=>{r with a8:=v0,a9:=v1,a10:=v2}) s
def FX:aE:=lt (g9 e) fun v0=>bP (aD (aF 4) g15 e) fun v1=>pj v1 e s fun v2=>pk (aP 1) v0 v2 e fun v3=>pj v3 e s fun v4=>bP (aD (aF 0) g15 e) fun v5=>pd (aF 2) v5 e fun v6=>bE (dJ 1 (cV v6) (cV v4) k e s) fun v7 s=>.au (nC (kU e fun r=>{r with a11:=v0,a12:=v1,a13:=v2,a14:=v3,a15:=v4}) fun r=>{r with a0:=v5,a1:=v6}) s
def LZ:aE:=lt (g12 e) fun v0=>bP (aD (aF 0) g15 e) fun v1=>bP ((dh 4 (cV v1)) e s) fun v2=>bE (cZ (cg 1 4 [(.i 0), (.i 0), (.i 0), (.i 0)] [(0, 4, (cV v2))] e s.next) s) fun v3 s=>bE (iX 4 (cV v0) (cV v3) k e s) fun v4 s=>.au (nC (u12 e v4) fun r=>{r with a2:=v0,a3:=v1,a4:=v2,a5:=v3,a6:=v4}) s
def Me:aE:=lt (g10 e) fun v0=>bP (aD (aF 0) g15 e) fun v1=>pd (aF 1) v1 e fun v2=>pj v2 e s fun v3=>bE (aq 35 [cV v3] k e s) fun v4 s=>pk (bI bD) v0 v4 e fun v5=>.au (nC (u10 e v5) fun r=>{r with a7:=v0,a8:=v1,a9:=v2,a10:=v3,a11:=v4,a12:=v5}) s
def HF:Den:=fun _ e s=>lt (g14 e) fun v0=>pk (bI bD) v0 (.i 1) e fun v1=>.au (jh (u14 e v1) fun r=>{r with a14:=v0,a15:=v1}) s
def AZ:aE:=lt (g12 e) fun v0=>bE (aq 80 [cV v0] k e s) fun v1 s=>pd (dF 0) v1 e fun v2=>pd (dF 1) v1 e fun v3=>bP (aD (aF 6) g13 e) fun v4=>bE (dJ 1 (cV v4) (cV v2) k e s) fun v5 s=>.au (oc (nC e fun r=>{r with a13:=v1,a14:=v0,a15:=v1}) fun r=>{r with a0:=v2,a1:=v3,a2:=v4}) s
def CI:Den:=fun _ e s=>lt (g0 e) fun v0=>pd bF v0 e fun v1=>pd (aF 7) v1 e fun v2=>pj v2 e s fun v3=>pd aM v3 e fun v4=>pk (bI ei) v4 (.i 1) e fun v5=>.au (oc (u16 e v5) fun r=>{r with a3:=v0,a4:=v1,a5:=v2,a6:=v3,a7:=v4,a8:=v5}) s
def Ej:Den:=fun _ e s=>lt (g16 e) fun v0=>pk (bI m6) v0 (.i 0) e fun v1=>.au (oc e fun r=>{r with a9:=v0,a10:=v1}) s
def Oc:aE:=fK [⟨none, (.p (aC g0)), u141⟩, ⟨none, (.p (aD bF g141)), u142⟩, ⟨none, (.p (aD (aF 7) g142)), u143⟩, ⟨none, (.d 0 0 (aQ g143)), u144⟩, ⟨none, (.p (aC g0)), u145⟩, ⟨none, (.p (aD bF g145)), u146⟩, ⟨none, (.p (aD (aF 7) g146)), u147⟩, ⟨none, (.d 0 0 (aQ g147)), u148⟩, ⟨none, (.p (aD aM g148)), u149⟩, ⟨none, (.p (ak (bI ei) g149 (cV (.i 1)))), u150⟩, ⟨none, (.p (aC g16)), u151⟩, ⟨none, (.p (ak (bI ei) g150 g151)), u152⟩, ⟨none, (.p (ak (aP 3) g144 g152)), u153⟩, ⟨none, (.d 0 0 (dh 3 g153)), u154⟩, ⟨none, (.a (kO 3 (cK [(.i 0), (.i 0), (.i 0)]))), u17⟩, ⟨none, (.e (dJ 3 g17 g154)), nW⟩] k e s
def Oa:aE:=fK [⟨none, (.p (aD (aF 7) g13)), u155⟩, ⟨none, (.d 0 0 (aQ g155)), u156⟩, ⟨none, (.p (aC g9)), u157⟩, ⟨none, (.p (aD (aF 0) g17)), u158⟩, ⟨none, (.d 0 0 (aQ g158)), u159⟩, ⟨none, (.p (ak (aP 1) g157 g159)), u160⟩, ⟨none, (.d 0 0 (aQ g160)), u161⟩, ⟨none, (.p (aC g9)), u162⟩, ⟨none, (.p (aD (aF 1) g17)), u163⟩, ⟨none, (.d 0 0 (aQ g163)), u164⟩, ⟨none, (.p (ak (aP 1) g162 g164)), u165⟩, ⟨none, (.d 0 0 (aQ g165)), u166⟩, ⟨none, (.p (aC g9)), u167⟩, ⟨none, (.p (aD (aF 2) g17)), u168⟩, ⟨none, (.d 0 0 (aQ g168)), u169⟩, ⟨none, (.p (ak (aP 1) g167 g169)), u170⟩, ⟨none, (.d 0 0 (aQ g170)), u171⟩, ⟨none, (.p (bM [(.i 0), (.i 0), (.i 0), (.str [])] [(0, 1, g161), (1, 1, g166), (2, 1, g171), (3, 1, (cV (.str [84, 104, 114, 111, 119, 97, 98, 108, 101])))])), u172⟩, ⟨none, (.a (cg 1 4 [(.i 0), (.i 0), (.i 0), (.str [])] [(0, 4, g172)])), u173⟩, ⟨none, (.e (iX 4 g156 g173)), u174⟩, ⟨none, (.p (aD (aF 7) g13)), u175⟩, ⟨none, (.e (dJ 1 g175 g174)), nW⟩] k e s
def B_:Den:=fun _ e s=>lt (g16 e) fun v0=>pk (bI ei) v0 (.i 1) e fun v1=>.au (oc (u16 e v1) fun r=>{r with a11:=v0,a12:=v1}) s
def DV:aE:=bP ((dh 9 g13) e s) fun v0=>bE (dJ 9 g8 (cV v0) k e s) fun v1 s=>.au (u176 e v0) s
def fW:aE:=aa DV aS k e s
def iD:aE:=aa AZ (aa (aa CI (aG 4 (bT (aa (aa Ej (av g138 az (bB 4))) (aa (aG 5 (aa Oc Oa)) B_))))) fW) k e s
def iB:aE:=aa Ol (aa D9 (aa Lq (aa (aa Hw (aG 2 (bT (aa (aa My (av g77 az (bB 2))) (aa (aG 3 (aa DE (aa (aa zX (av g89 (aa Kh (bB 3)) az)) (aa K0 (aa (aa JK (av g106 FX az)) (aa LZ Me)))))) HF))))) iD))) k e s
def KQ:aE:=aa Yt (aa Xo (aa TZ (aa (aa Td (aG 0 (bT (aa (aa Ni (av g29 az (bB 0))) (aa (aG 1 (aa (aa Bn (av g40 (aa Cr (bB 1)) az)) MW)) GI))))) iB))) k e s
def F56 : aX := ⟨[u0, u1, u2, u3], KQ, aL [rC true (nat_lit 9) g8]⟩
theorem abm : aH tt [] fok Tryz.f56 = some F56 := by kernel_rfl
theorem Rh : aI Tryz.prog [] 56 F56 := aI.of (aA bR bq mixed Tryz.func56 abm)
noncomputable def Y9 : aX := iC (fN 0 256 fun i => .i (bx i))
def Ui:Den:=fun _ e s=>bw (V.i 0) fun v0=>.au (u4 e v0) s
def Ru:Den:=fun _ e s=>lt (g0 e) fun v0=>pd aM v0 e fun v1=>bw (V.i 0) fun v2=>.au (bG e fun r=>{r with a6:=v0,a7:=v1,a8:=v2}) s
def WZ:Den:=fun _ e s=>bP (ak (bI dW) g8 g7 e) fun v0=>.au (u9 e v0) s
def DX:Den:=fun _ e s=>lt (g8 e) fun v0=>.au (bG e fun r=>{r with a5:=v0,a10:=v0}) s
def Gm:aE:=lt (g1 e) fun v0=>lt (g0 e) fun v1=>lt (g5 e) fun v2=>pk (aP 3) v1 v2 e fun v3=>bP ((dh 3 (cV v3)) e s) fun v4=>bE (fP fok (cV v0) [cV v4] k e s) fun v5 s=>.au (u16 (bG e fun r=>{r with a11:=v0,a12:=v1,a13:=v2,a14:=v3,a15:=v4}) v5) s
def Df:Den:=fun _ e s=>lt (g5 e) fun v0=>.au (u17 (u4 e v0) v0) s
def Hj:Den:=fun _ e s=>bP (ak (bI bD) g8 (cV (.i 1)) e) fun v0=>.au (u18 (u8 e v0) v0) s
def CH:Den:=fun _ e s=>bw (V.i (-1)) fun v0=>.au (u4 e v0) s
def VL:aE:=aa Ui (aa (aa Ru (aG 0 (bT (aa WZ (aa (av g9 az (bB 0)) (aa (aG 1 (aa DX (aa Gm (av g16 (aa Df aS) az)))) Hj)))))) (aa CH aS)) k e s
def F58 : aX := ⟨[u0, u1], VL, aL [rT g4]⟩
theorem abW : aH tt [] fok Tryz.f58 = some F58 := by kernel_rfl
theorem Rb : aI Tryz.prog [] 58 F58 := aI.of (aA bR bq mixed Tryz.func58 abW)
def V_:Den:=fun _ e s=>bw (V.bool false) fun v0=>.au (u2 e v0) s
def Ye:Den:=fun _ e s=>lt (g0 e) fun v0=>lt (g0 e) fun v1=>pk (bI sH) v0 v1 e fun v2=>.au (bG e fun r=>{r with a2:=v2,a3:=v0,a4:=v1,a5:=v2}) s
def CZ:aE:=aa V_ (aa Ye aS) k e s
def F59 : aX := ⟨[u0], CZ, aL [rT g2]⟩
theorem ab3 : aH tt [] fok Tryz.f59 = some F59 := by kernel_rfl
theorem U8 : aI Tryz.prog [] 59 F59 := aI.of (aA bR bq mixed Tryz.func59 ab3)
def Tl:aE:=lt (g0 e) fun v0=>bE (aq 71 [cV v0] k e s) fun v1 s=>.au (bG e fun r=>{r with a4:=v1,a6:=v0,a7:=v1}) s
def Sp:Den:=fun _ e s=>lt (g1 e) fun v0=>.au (bG e fun r=>{r with a5:=v0,a8:=v0}) s
def TK:Den:=fun _ e s=>lt (g5 e) fun v0=>lt (g4 e) fun v1=>pd aM v1 e fun v2=>pk (bI dW) v0 v2 e fun v3=>.au (bG e fun r=>{r with a9:=v0,a10:=v1,a11:=v2,a12:=v3}) s
def JE:Den:=fun _ e s=>lt (g4 e) fun v0=>lt (g5 e) fun v1=>pk (aP 1) v0 v1 e fun v2=>pj v2 e s fun v3=>bP (ak (bS fun a b=>some (.bool (iM a b))) (cV v3) (cV (.str [73])) e) fun v4=>.au (cw (u15 e v0) fun r=>{r with a0:=v1,a1:=v2,a2:=v3,a3:=v4}) s
def GY:aE:=lt (g0 e) fun v0=>bE (aq 52 [(cV v0), (cV (.i 3)), (cV (.i 0)), (cV (.i 0))] k e s) fun v1 s=>.au (cw e fun r=>{r with a4:=v0,a5:=v1}) s
def CA:aE:=lt (g0 e) fun v0=>lt (g5 e) fun v1=>bE (aq 52 [(cV v0), (cV (.i 54)), (cV v1), (cV (.i 0))] k e s) fun v2 s=>.au (cw e fun r=>{r with a6:=v0,a7:=v1,a8:=v2}) s
def Ez:aE:=lt (g0 e) fun v0=>bE (aq 52 [(cV v0), (cV (.i 1)), (cV (.i 0)), (cV (.i 0))] k e s) fun v1 s=>.au (cw e fun r=>{r with a9:=v0,a10:=v1}) s
def NH:aE:=lt (g0 e) fun v0=>lt (g5 e) fun v1=>bE (aq 52 [(cV v0), (cV (.i 58)), (cV v1), (cV (.i 0))] k e s) fun v2 s=>.au (cw e fun r=>{r with a11:=v0,a12:=v1,a13:=v2}) s
def Cs:Den:=fun _ e s=>lt (g5 e) fun v0=>pk (bI bD) v0 (.i 1) e fun v1=>.au (bG e fun r=>{r with a5:=v1,a13:=v0,a14:=v1}) s
def MH:aE:=aa Tl (aa Sp (aG 0 (bT (aa (aa TK (av g12 az (bB 0))) (aa (aG 1 (aa JE (av g19 (aa GY CA) (aa Ez NH)))) Cs))))) k e s
def F70 : aX := ⟨[u0, u1], MH, aL []⟩
theorem aet : aH tt [] fok Tryz.f70 = some F70 := by kernel_rfl
theorem Rn : aI Tryz.prog [] 70 F70 := aI.of (aA bR bq mixed Tryz.func70 aet)
def Sy:Den:=fun _ e s=>bw (V.ay) fun v0=>.au (u2 e v0) s
def SZ:Den:=fun _ e s=>lt (g0 e) fun v0=>pd bF v0 e fun v1=>pd (aF 9) v1 e fun v2=>pj v2 e s fun v3=>pk (qf true I9) v3 .ay e fun v4=>.au (bG e fun r=>{r with a3:=v0,a4:=v1,a5:=v2,a6:=v3,a7:=v4}) s
def Xp:Den:=fun _ e s=>lt (g0 e) fun v0=>pd bF v0 e fun v1=>pd (aF 9) v1 e fun v2=>pj v2 e s fun v3=>.au (bG e fun r=>{r with a2:=v3,a8:=v0,a9:=v1,a10:=v2,a11:=v3}) s
def Ih:Den:=fun _ e s=>lt (g0 e) fun v0=>pd bF v0 e fun v1=>pd (aF 4) v1 e fun v2=>pj v2 e s fun v3=>.au (bG e fun r=>{r with a12:=v0,a13:=v1,a14:=v2,a15:=v3}) s
def Lx:Den:=fun _ e s=>bE (cZ (cg 4 1 [(.str []), (.str []), (.str []), (.str [])] [(0, 1, (cV (.str [73]))), (1, 1, (cV (.str [73]))), (2, 1, (cV (.str [73]))), (3, 1, (cV (.str [73])))] e s.next) s) fun v0 s=>.au (u16 (u2 e v0) v0) s
def Ev:Den:=fun _ e s=>bE (cZ (cg 10 1 [(.str []), (.str []), (.str []), (.str []), (.str []), (.str []), (.str []), (.str []), (.str []), (.str [])] [(0, 1, (cV (.str [73]))), (1, 1, (cV (.str [73]))), (2, 1, (cV (.str [73]))), (3, 1, (cV (.str [73]))), (4, 1, (cV (.str [76, 65, 59]))), (5, 1, (cV (.str [76, 65, 59]))), (6, 1, (cV (.str [91, 73]))), (7, 1, (cV (.str [76, 84, 104, 114, 111, 119, 97, 98, 108, 101, 59]))), (8, 1, (cV (.str [76, 84, 59]))), (9, 1, (cV (.str [91, 76, 65, 59])))] e s.next) s) fun v0 s=>.au (u17 (u2 e v0) v0) s
def HY:aE:=aa Sy (aa (aa SZ (av g7 (aa Xp aS) az)) (aa (aa Ih (av g15 (aa Lx aS) az)) (aa Ev aS))) k e s
def F71 : aX := ⟨[u0], HY, aL [rT g2]⟩
theorem abJ : aH tt [] fok Tryz.f71 = some F71 := by kernel_rfl
theorem Th : aI Tryz.prog [] 71 F71 := aI.of (aA bR bq mixed Tryz.func71 abJ)
def Tk:aE:=lt (g0 e) fun v0=>pd bF v0 e fun v1=>pd (aF 0) v1 e fun v2=>pj v2 e s fun v3=>bE (aq 38 [(cV v3), (cV (.i 16))] k e s) fun v4 s=>.au (bG e fun r=>{r with a2:=v4,a3:=v0,a4:=v1,a5:=v2,a6:=v3,a7:=v4}) s
def RK:Den:=fun _ e s=>lt (g0 e) fun v0=>pd bF v0 e fun v1=>pd (aF 4) v1 e fun v2=>pj v2 e s fun v3=>.au (bG e fun r=>{r with a8:=v0,a9:=v1,a10:=v2,a11:=v3}) s
def UG:Den:=fun _ e s=>lt (g2 e) fun v0=>pk oW v0 (.i 5) e fun v1=>.au (bG e fun r=>{r with a2:=v1,a12:=v0,a13:=v1}) s
def Q7:aE:=lt (g0 e) fun v0=>pd bF v0 e fun v1=>pd (aF 6) v1 e fun v2=>pj v2 e s fun v3=>pk (bI bD) v3 (.i 1) e fun v4=>pd bF v0 e fun v5=>pd (aF 6) v5 e fun v6=>bE (dJ 1 (cV v6) (cV v4) k e s) fun v7 s=>.au (cw (bG e fun r=>{r with a14:=v0,a15:=v1}) fun r=>{r with a0:=v2,a1:=v3,a2:=v4,a3:=v5,a4:=v6}) s
def zY:Den:=fun _ e s=>lt (g0 e) fun v0=>pd bF v0 e fun v1=>pd (aF 6) v1 e fun v2=>pj v2 e s fun v3=>pk (bI su) v3 (.i 4) e fun v4=>pf v4 false (aC g0 e) fun v5=>pf v4 false (aD bF (cV v5) e) fun v6=>pf v4 false (aD (aF 3) (cV v6) e) fun v7=>bP (aN v4 false ((aQ (cV v7)) e s)) fun v8=>bP (aN v4 false (ak (bI su) (cV v8) (cV (.i 50)) e)) fun v9=>bP (aO (cV v4) (cV (.bool true)) (cV v9) e) fun v10=>.au (u32 (lW e fun a b c d f _ _ _ _ _ _ _ _ _ _ _=>⟨a,b,c,d,f,v0,v1,v2,v3,v4,v4,v5,v6,v7,v8,v9⟩) v10) s
def DF:Den:=fun _ e s=>lt (g2 e) fun v0=>pk oW v0 (.i 2) e fun v1=>.au (cQ (u2 e v1) fun r=>{r with a1:=v0,a2:=v1}) s
def Js:Den:=fun _ e s=>lt (g2 e) fun v0=>.au (u35 e v0) s
def HR:Den:=fun _ e s=>bP (ak (bI bp) g35 (cV (.i 0)) e) fun v0=>.au (cQ e fun r=>{r with a4:=v0,a5:=v0}) s
def Az:aE:=lt (g0 e) fun v0=>bE (aq 55 [(cV v0), (cV (.i 3))] k e s) fun v1 s=>.au (cQ e fun r=>{r with a6:=v0,a7:=v1}) s
def Gl:aE:=lt (g0 e) fun v0=>lt (g0 e) fun v1=>pd bF v1 e fun v2=>pd (aF 0) v2 e fun v3=>pj v3 e s fun v4=>bE (aq 38 [(cV v4), (cV (.i 4))] k e s) fun v5 s=>bE (aq 52 [(cV v0), (cV (.i 54)), (cV v5), (cV (.i 0))] k e s) fun v6 s=>.au (cQ e fun r=>{r with a8:=v0,a9:=v1,a10:=v2,a11:=v3,a12:=v4,a13:=v5,a14:=v6}) s
def Kz:Den:=fun _ e s=>bP (ak (bI bp) g35 (cV (.i 1)) e) fun v0=>.au (u48 (u47 e v0) v0) s
def Og:aE:=fK [⟨none, (.p (aC g0)), u49⟩, ⟨none, (.p (aC g0)), u50⟩, ⟨none, (.p (aD bF g50)), u51⟩, ⟨none, (.p (aD (aF 0) g51)), u52⟩, ⟨none, (.d 1 0 (aQ g52)), u53⟩, ⟨none, (.e (aq 38 [g53, (cV (.i 4))])), u54⟩, ⟨none, (.p (aC g0)), u55⟩, ⟨none, (.p (aD bF g55)), u56⟩, ⟨none, (.p (aD (aF 0) g56)), u57⟩, ⟨none, (.d 0 1 (aQ g57)), u58⟩, ⟨none, (.e (aq 38 [g58, (cV (.i 9))])), u59⟩, ⟨none, (.p (ak (bI ei) g59 (cV (.i 4)))), u60⟩, ⟨none, (.e (aq 52 [g49, (cV (.i 132)), g54, g60])), u61⟩] k e s
def Cd:Den:=fun _ e s=>bP (ak (bI bp) g35 (cV (.i 2)) e) fun v0=>.au (eH e fun r=>{r with a14:=v0,a15:=v0}) s
def AR:aE:=lt (g0 e) fun v0=>bE (aq 86 [cV v0] k e s) fun v1 s=>.au (jh e fun r=>{r with a0:=v0,a1:=v1}) s
def B7:Den:=fun _ e s=>bP (ak (bI bp) g35 (cV (.i 3)) e) fun v0=>.au (jh e fun r=>{r with a2:=v0,a3:=v0}) s
def EM:aE:=lt (g0 e) fun v0=>bE (aq 87 [cV v0] k e s) fun v1 s=>.au (jh e fun r=>{r with a4:=v0,a5:=v1}) s
def JJ:Den:=fun _ e s=>bP (ak (bI bp) g35 (cV (.i 4)) e) fun v0=>.au (jh e fun r=>{r with a6:=v0,a7:=v0}) s
def FP:aE:=lt (g0 e) fun v0=>bE (aq 55 [(cV v0), (cV (.i 2))] k e s) fun v1 s=>.au (jh e fun r=>{r with a8:=v0,a9:=v1}) s
def Gh:aE:=lt (g0 e) fun v0=>bE (aq 52 [(cV v0), (cV (.i 89)), (cV (.i 0)), (cV (.i 0))] k e s) fun v1 s=>.au (jh e fun r=>{r with a10:=v0,a11:=v1}) s
def Eo:aE:=lt (g0 e) fun v0=>bE (aq 52 [(cV v0), (cV (.i 95)), (cV (.i 0)), (cV (.i 0))] k e s) fun v1 s=>.au (jh e fun r=>{r with a12:=v0,a13:=v1}) s
def Aw:aE:=lt (g0 e) fun v0=>bE (aq 52 [(cV v0), (cV (.i 87)), (cV (.i 0)), (cV (.i 0))] k e s) fun v1 s=>.au (jh e fun r=>{r with a14:=v0,a15:=v1}) s
def LQ:aE:=lt (g0 e) fun v0=>lt (g0 e) fun v1=>pd bF v1 e fun v2=>pd (aF 0) v2 e fun v3=>pj v3 e s fun v4=>bE (aq 38 [(cV v4), (cV (.i 4))] k e s) fun v5 s=>bE (aq 52 [(cV v0), (cV (.i 54)), (cV v5), (cV (.i 0))] k e s) fun v6 s=>.au (kQ e fun r=>{r with a0:=v0,a1:=v1,a2:=v2,a3:=v3,a4:=v4,a5:=v5,a6:=v6}) s
def IS:Den:=fun _ e s=>bP (ak (bI bp) g35 (cV (.i 5)) e) fun v0=>.au (kQ e fun r=>{r with a7:=v0,a8:=v0}) s
def Ij:Den:=fun _ e s=>bP (ak (bI bp) g35 (cV (.i 6)) e) fun v0=>.au (kQ e fun r=>{r with a7:=v0,a9:=v0}) s
def AM:aE:=lt (g0 e) fun v0=>bE (aq 55 [(cV v0), (cV (.i 3))] k e s) fun v1 s=>.au (kQ e fun r=>{r with a10:=v0,a11:=v1}) s
def Bh:aE:=lt (g0 e) fun v0=>lt (g0 e) fun v1=>bE (aq 76 [(cV v1), (cV (.str [83, 121, 115, 116, 101, 109])), (cV (.str [112, 114, 105, 110, 116])), (cV (.str [40, 73, 41, 86]))] k e s) fun v2 s=>bE (aq 52 [(cV v0), (cV (.i 184)), (cV v2), (cV (.i 0))] k e s) fun v3 s=>.au (kQ e fun r=>{r with a12:=v0,a13:=v1,a14:=v2,a15:=v3}) s
def EC:Den:=fun _ e s=>bP (ak (bI bp) g35 (cV (.i 7)) e) fun v0=>.au (kU e fun r=>{r with a0:=v0,a1:=v0}) s
def GM:aE:=lt (g0 e) fun v0=>bE (aq 74 [(cV v0), (cV (.i 3))] k e s) fun v1 s=>.au (kU e fun r=>{r with a2:=v0,a3:=v1}) s
def IV:aE:=lt (g0 e) fun v0=>lt (g0 e) fun v1=>pd bF v1 e fun v2=>pd (aF 0) v2 e fun v3=>pj v3 e s fun v4=>bE (aq 38 [(cV v4), (cV (.i 2))] k e s) fun v5 s=>pk (bI bD) (.i 4) v5 e fun v6=>bE (aq 52 [(cV v0), (cV (.i 58)), (cV v6), (cV (.i 0))] k e s) fun v7 s=>.au (kU e fun r=>{r with a4:=v0,a5:=v1,a6:=v2,a7:=v3,a8:=v4,a9:=v5,a10:=v6,a11:=v7}) s
def EF:Den:=fun _ e s=>bP (ak (bI bp) g35 (cV (.i 8)) e) fun v0=>.au (kU e fun r=>{r with a12:=v0,a13:=v0}) s
def Nk:aE:=lt (g0 e) fun v0=>bE (aq 74 [(cV v0), (cV (.i 2))] k e s) fun v1 s=>.au (kU e fun r=>{r with a14:=v0,a15:=v1}) s
def Ke:aE:=lt (g0 e) fun v0=>bE (aq 55 [(cV v0), (cV (.i 2))] k e s) fun v1 s=>.au (nC e fun r=>{r with a0:=v0,a1:=v1}) s
def LK:aE:=lt (g0 e) fun v0=>lt (g0 e) fun v1=>bE (aq 75 [(cV v1), (cV (.str [65])), (cV (.str [120])), (cV (.str [73]))] k e s) fun v2 s=>bE (aq 52 [(cV v0), (cV (.i 181)), (cV v2), (cV (.i 0))] k e s) fun v3 s=>.au (nC e fun r=>{r with a2:=v0,a3:=v1,a4:=v2,a5:=v3}) s
def LR:Den:=fun _ e s=>bP (ak (bI bp) g35 (cV (.i 9)) e) fun v0=>.au (nC e fun r=>{r with a6:=v0,a7:=v0}) s
def IY:aE:=lt (g0 e) fun v0=>bE (aq 74 [(cV v0), (cV (.i 1))] k e s) fun v1 s=>.au (nC e fun r=>{r with a8:=v0,a9:=v1}) s
def Er:aE:=lt (g0 e) fun v0=>bE (aq 74 [(cV v0), (cV (.i 2))] k e s) fun v1 s=>.au (nC e fun r=>{r with a10:=v0,a11:=v1}) s
def It:aE:=lt (g0 e) fun v0=>lt (g0 e) fun v1=>bE (aq 75 [(cV v1), (cV (.str [65])), (cV (.str [110, 101, 120, 116])), (cV (.str [76, 65, 59]))] k e s) fun v2 s=>bE (aq 52 [(cV v0), (cV (.i 181)), (cV v2), (cV (.i 0))] k e s) fun v3 s=>.au (nC e fun r=>{r with a12:=v0,a13:=v1,a14:=v2,a15:=v3}) s
def Mh:Den:=fun _ e s=>bP (ak (bI bp) g35 (cV (.i 10)) e) fun v0=>.au (oc e fun r=>{r with a0:=v0,a1:=v0}) s
def AU:aE:=lt (g0 e) fun v0=>bE (aq 74 [(cV v0), (cV (.i 2))] k e s) fun v1 s=>.au (oc e fun r=>{r with a2:=v0,a3:=v1}) s
def LX:aE:=lt (g0 e) fun v0=>lt (g0 e) fun v1=>bE (aq 75 [(cV v1), (cV (.str [65])), (cV (.str [114])), (cV (.str [76, 65, 59]))] k e s) fun v2 s=>bE (aq 52 [(cV v0), (cV (.i 179)), (cV v2), (cV (.i 0))] k e s) fun v3 s=>.au (oc e fun r=>{r with a4:=v0,a5:=v1,a6:=v2,a7:=v3}) s
def AD:Den:=fun _ e s=>bP (ak (bI bp) g35 (cV (.i 11)) e) fun v0=>.au (oc e fun r=>{r with a8:=v0,a9:=v0}) s
def Ba:aE:=lt (g0 e) fun v0=>bE (aq 88 [cV v0] k e s) fun v1 s=>.au (oc e fun r=>{r with a10:=v0,a11:=v1}) s
def KF:Den:=fun _ e s=>bP (ak (bI bp) g35 (cV (.i 12)) e) fun v0=>.au (oc e fun r=>{r with a12:=v0,a13:=v0}) s
def J5:aE:=lt (g0 e) fun v0=>bE (aq 89 [cV v0] k e s) fun v1 s=>.au (oc e fun r=>{r with a14:=v0,a15:=v1}) s
def EL:Den:=fun _ e s=>bP (ak (bI bp) g35 (cV (.i 13)) e) fun v0=>.au (yB e fun r=>{r with a0:=v0,a1:=v0}) s
def FB:aE:=lt (g0 e) fun v0=>bE (aq 90 [cV v0] k e s) fun v1 s=>.au (yB e fun r=>{r with a2:=v0,a3:=v1}) s
def EX:Den:=fun _ e s=>bP (ak (bI bp) g35 (cV (.i 14)) e) fun v0=>.au (yB e fun r=>{r with a4:=v0,a5:=v0}) s
def xI:aE:=lt (g0 e) fun v0=>bE (aq 91 [cV v0] k e s) fun v1 s=>.au (yB e fun r=>{r with a6:=v0,a7:=v1}) s
def yb:Den:=fun _ e s=>bP (ak (bI bp) g35 (cV (.i 15)) e) fun v0=>.au (yB e fun r=>{r with a8:=v0,a9:=v0}) s
def xy:aE:=lt (g0 e) fun v0=>lt (g0 e) fun v1=>bE (cZ (cg 3 1 [(.str []), (.str []), (.str [])] [(0, 1, (cV (.str [73, 110, 100, 101, 120]))), (1, 1, (cV (.str [84, 104, 114, 111, 119, 97, 98, 108, 101]))), (2, 1, (cV (.str [67, 97, 115, 116])))] e s.next) s) fun v2 s=>lt (g0 e) fun v3=>pd bF v3 e fun v4=>pd (aF 0) v4 e fun v5=>pj v5 e s fun v6=>bE (aq 38 [(cV v6), (cV (.i 3))] k e s) fun v7 s=>pk (aP 1) v2 v7 e fun v8=>pj v8 e s fun v9=>bE (aq 77 [cV v1,cV v9] k e s) fun v10 s=>bE (aq 52 [(cV v0), (cV (.i 187)), (cV v10), (cV (.i 0))] k e s) fun v11 s=>.au (Qx (yB e fun r=>{r with a10:=v0,a11:=v1,a12:=v2,a13:=v3,a14:=v4,a15:=v5}) fun r=>{r with a0:=v6,a1:=v7,a2:=v8,a3:=v9,a4:=v10,a5:=v11}) s
def xY:aE:=lt (g0 e) fun v0=>bE (aq 52 [(cV v0), (cV (.i 58)), (cV (.i 7)), (cV (.i 0))] k e s) fun v1 s=>.au (Qx e fun r=>{r with a6:=v0,a7:=v1}) s
def xU:aE:=lt (g0 e) fun v0=>pd bF v0 e fun v1=>pd (aF 6) v1 e fun v2=>pj v2 e s fun v3=>pk (bI ei) v3 (.i 1) e fun v4=>pd bF v0 e fun v5=>pd (aF 6) v5 e fun v6=>bE (dJ 1 (cV v6) (cV v4) k e s) fun v7 s=>.au (Qx e fun r=>{r with a8:=v0,a9:=v1,a10:=v2,a11:=v3,a12:=v4,a13:=v5,a14:=v6}) s
def dP:aE:=aa (aa Js (aG 0 (aa HR (av g36 (aa Az Gl) (aa Kz (av g47 Og (aa Cd (av g62 AR (aa B7 (av g66 EM (aa JJ (av g70 (aa FP (aa Gh (aa Eo (aa Aw LQ)))) (aa (aa IS (av g87 az Ij)) (av g87 (aa AM Bh) (aa EC (av g96 (aa GM IV) (aa EF (av g108 (aa Nk (aa Ke LK)) (aa LR (av g118 (aa IY (aa Er It)) (aa Mh (av g128 (aa AU LX) (aa AD (av g136 Ba (aa KF (av g140 J5 (aa EL (av g144 FB (aa EX (av g148 xI (aa yb (av g152 (aa xy xY) az)))))))))))))))))))))))))))))))) xU k e s
def eW:aE:=aa (aa zY (av g32 DF az)) dP k e s
def N_:aE:=aa Tk (aa (aa RK (av g11 UG az)) (aa Q7 eW)) k e s
def F72 : aX := ⟨[u0], N_, aL []⟩
theorem ad0 : aH tt [] fok Tryz.f72 = some F72 := by kernel_rfl
theorem U2 : aI Tryz.prog [] 72 F72 := aI.of (aA bR bq mixed Tryz.func72 ad0)
def Wo:Den:=fun _ e s=>bE (cZ (kH g1 e s.next) s) fun v0 s=>bw (V.i 0) fun v1=>.au (bG e fun r=>{r with a3:=v0,a4:=v1}) s
def TH:aE:=lt (g0 e) fun v0=>pd bF v0 e fun v1=>pd (aF 1) v1 e fun v2=>pj v2 e s fun v3=>bP ((dh 5 g3) e s) fun v4=>bE (aq 92 [cV v3,cV v4] k e s) fun v5 s=>pd (dF 0) v5 e fun v6=>pd (dF 1) v5 e fun v7=>pd (dF 2) v5 e fun v8=>.au (cw (fV e fun a b c d f _ _ _ _ _ _ _ _ _ _ _=>⟨a,b,c,d,f,v6,v7,v8,v5,v0,v1,v2,v3,v4,v5,v6⟩) fun r=>{r with a0:=v7,a1:=v8}) s
def Uy:aE:=lt (g0 e) fun v0=>lt (g5 e) fun v1=>pd bF v0 e fun v2=>pd (aF 1) v2 e fun v3=>bE (dJ 1 (cV v3) (cV v1) k e s) fun v4 s=>.au (cw e fun r=>{r with a2:=v0,a3:=v1,a4:=v2,a5:=v3}) s
def V5:Den:=fun _ e s=>lt (g6 e) fun v0=>.au (u22 (u4 e v0) v0) s
def NF:aE:=aa Wo (aa TH (aa Uy (aa V5 aS))) k e s
def F73 : aX := ⟨[u0, u1], NF, aL [rT g4]⟩
theorem adg : aH tt [] fok Tryz.f73 = some F73 := by kernel_rfl
theorem Q_ : aI Tryz.prog [] 73 F73 := aI.of (aA bR bq mixed Tryz.func73 adg)
def U3:aE:=lt (g0 e) fun v0=>pd bF v0 e fun v1=>pd (aF 0) v1 e fun v2=>pj v2 e s fun v3=>bE (aq 38 [(cV v3), (cV (.i 8))] k e s) fun v4 s=>.au (bG e fun r=>{r with a4:=v4,a5:=v0,a6:=v1,a7:=v2,a8:=v3,a9:=v4}) s
def Yj:Den:=fun _ e s=>lt (g1 e) fun v0=>pk (bI zM) v0 (.i 0) e fun v1=>pf v1 false (aC g0 e) fun v2=>pf v1 false (aD bF (cV v2) e) fun v3=>pf v1 false (aD (aF 5) (cV v3) e) fun v4=>bP (aN v1 false ((aQ (cV v4)) e s)) fun v5=>bP (aN v1 false (ak (bI dW) (cV v5) (cV (.i 20)) e)) fun v6=>bP (aO (cV v1) (cV (.bool true)) (cV v6) e) fun v7=>.au (cw (bG e fun r=>{r with a10:=v0,a11:=v1,a12:=v1,a13:=v2,a14:=v3,a15:=v4}) fun r=>{r with a0:=v5,a1:=v6,a2:=v7}) s
def SY:Den:=fun _ e s=>lt (g4 e) fun v0=>pk oW v0 (.i 4) e fun v1=>.au (cw (u4 e v1) fun r=>{r with a3:=v0,a4:=v1}) s
def XW:Den:=fun _ e s=>lt (g4 e) fun v0=>.au (u21 e v0) s
def KA:Den:=fun _ e s=>bP (ak (bI bp) g21 (cV (.i 0)) e) fun v0=>.au (cw e fun r=>{r with a6:=v0,a7:=v0}) s
def By:Den:=fun _ e s=>bP (ak (bI bp) g21 (cV (.i 1)) e) fun v0=>.au (cw e fun r=>{r with a6:=v0,a8:=v0}) s
def Et:aE:=lt (g0 e) fun v0=>lt (g0 e) fun v1=>pd bF v1 e fun v2=>pd (aF 0) v2 e fun v3=>pj v3 e s fun v4=>bE (aq 38 [(cV v4), (cV (.i 2))] k e s) fun v5 s=>pk (bI bD) (.i 4) v5 e fun v6=>bE (aq 52 [(cV v0), (cV (.i 25)), (cV v6), (cV (.i 0))] k e s) fun v7 s=>.au (u32 (cw e fun r=>{r with a9:=v0,a10:=v1,a11:=v2,a12:=v3,a13:=v4,a14:=v5,a15:=v6}) v7) s
def EJ:Den:=fun _ e s=>bP (ak (bI bp) g21 (cV (.i 2)) e) fun v0=>.au (cQ e fun r=>{r with a1:=v0,a2:=v0}) s
def Fj:aE:=lt (g0 e) fun v0=>lt (g0 e) fun v1=>bE (aq 77 [(cV v1), (cV (.str [65]))] k e s) fun v2 s=>bE (aq 52 [(cV v0), (cV (.i 187)), (cV v2), (cV (.i 0))] k e s) fun v3 s=>.au (cQ e fun r=>{r with a3:=v0,a4:=v1,a5:=v2,a6:=v3}) s
def MF:Den:=fun _ e s=>bP (ak (bI bp) g21 (cV (.i 3)) e) fun v0=>.au (cQ e fun r=>{r with a7:=v0,a8:=v0}) s
def Fc:aE:=lt (g0 e) fun v0=>lt (g0 e) fun v1=>bE (aq 77 [(cV v1), (cV (.str [66]))] k e s) fun v2 s=>bE (aq 52 [(cV v0), (cV (.i 187)), (cV v2), (cV (.i 0))] k e s) fun v3 s=>.au (cQ e fun r=>{r with a9:=v0,a10:=v1,a11:=v2,a12:=v3}) s
def EW:Den:=fun _ e s=>bP (ak (bI bp) g21 (cV (.i 4)) e) fun v0=>.au (cQ e fun r=>{r with a13:=v0,a14:=v0}) s
def Fe:aE:=lt (g0 e) fun v0=>lt (g1 e) fun v1=>pk (bI ei) v1 (.i 1) e fun v2=>bE (aq 74 [cV v0,cV v2] k e s) fun v3 s=>.au (eH (u47 e v0) fun r=>{r with a0:=v1,a1:=v2,a2:=v3}) s
def Mg:aE:=lt (g0 e) fun v0=>lt (g0 e) fun v1=>bE (aq 75 [(cV v1), (cV (.str [65])), (cV (.str [110, 101, 120, 116])), (cV (.str [76, 65, 59]))] k e s) fun v2 s=>bE (aq 52 [(cV v0), (cV (.i 180)), (cV v2), (cV (.i 0))] k e s) fun v3 s=>.au (eH e fun r=>{r with a3:=v0,a4:=v1,a5:=v2,a6:=v3}) s
def JX:Den:=fun _ e s=>bP (ak (bI bp) g21 (cV (.i 5)) e) fun v0=>.au (eH e fun r=>{r with a7:=v0,a8:=v0}) s
def Eh:aE:=lt (g0 e) fun v0=>lt (g0 e) fun v1=>bE (aq 75 [(cV v1), (cV (.str [65])), (cV (.str [114])), (cV (.str [76, 65, 59]))] k e s) fun v2 s=>bE (aq 52 [(cV v0), (cV (.i 178)), (cV v2), (cV (.i 0))] k e s) fun v3 s=>.au (eH e fun r=>{r with a9:=v0,a10:=v1,a11:=v2,a12:=v3}) s
def DM:Den:=fun _ e s=>bP (ak (bI bp) g21 (cV (.i 6)) e) fun v0=>.au (eH e fun r=>{r with a13:=v0,a14:=v0}) s
def Dz:aE:=lt (g0 e) fun v0=>bE (aq 52 [(cV v0), (cV (.i 25)), (cV (.i 9)), (cV (.i 0))] k e s) fun v1 s=>.au (u64 (u63 e v0) v1) s
def Cc:aE:=lt (g0 e) fun v0=>lt (g1 e) fun v1=>pk (bI ei) v1 (.i 1) e fun v2=>bE (aq 55 [cV v0,cV v2] k e s) fun v3 s=>.au (jh e fun r=>{r with a1:=v0,a2:=v1,a3:=v2,a4:=v3}) s
def EO:aE:=lt (g0 e) fun v0=>bE (aq 52 [(cV v0), (cV (.i 50)), (cV (.i 0)), (cV (.i 0))] k e s) fun v1 s=>.au (jh e fun r=>{r with a5:=v0,a6:=v1}) s
def AK:Den:=fun _ e s=>bP (ak (bI bp) g21 (cV (.i 7)) e) fun v0=>.au (jh e fun r=>{r with a7:=v0,a8:=v0}) s
def EV:aE:=lt (g0 e) fun v0=>lt (g1 e) fun v1=>pk (bI ei) v1 (.i 1) e fun v2=>bE (aq 74 [cV v0,cV v2] k e s) fun v3 s=>.au (jh e fun r=>{r with a9:=v0,a10:=v1,a11:=v2,a12:=v3}) s
def ED:aE:=lt (g0 e) fun v0=>lt (g0 e) fun v1=>bE (cZ (cg 2 1 [(.str []), (.str [])] [(0, 1, (cV (.str [65]))), (1, 1, (cV (.str [66])))] e s.next) s) fun v2 s=>lt (g0 e) fun v3=>pd bF v3 e fun v4=>pd (aF 0) v4 e fun v5=>pj v5 e s fun v6=>bE (aq 38 [(cV v6), (cV (.i 2))] k e s) fun v7 s=>pk (aP 1) v2 v7 e fun v8=>pj v8 e s fun v9=>bE (aq 77 [cV v1,cV v9] k e s) fun v10 s=>bE (aq 52 [(cV v0), (cV (.i 192)), (cV v10), (cV (.i 0))] k e s) fun v11 s=>.au (kQ (jh e fun r=>{r with a13:=v0,a14:=v1,a15:=v2}) fun r=>{r with a0:=v3,a1:=v4,a2:=v5,a3:=v6,a4:=v7,a5:=v8,a6:=v9,a7:=v10,a8:=v11}) s
def lg:aE:=aa XW (aG 0 (aa (aa KA (av g22 az By)) (av g22 Et (aa EJ (av g33 Fj (aa MF (av g39 Fc (aa EW (av g45 (aa Fe Mg) (aa JX (av g55 Eh (aa DM (av g61 (aa Dz (aa Cc EO)) (aa AK (av g71 (aa EV ED) az))))))))))))))) k e s
def Kc:aE:=aa U3 (aa (aa Yj (av g18 SY az)) lg) k e s
def F74 : aX := ⟨[u0, u1], Kc, aL []⟩
theorem aeg : aH tt [] fok Tryz.f74 = some F74 := by kernel_rfl
theorem WY : aI Tryz.prog [] 74 F74 := aI.of (aA bR bq mixed Tryz.func74 aeg)
def UK:Den:=fun _ e s=>bw (V.i 0) fun v0=>.au (u8 e v0) s
def WX:aE:=lt (g0 e) fun v0=>lt (g1 e) fun v1=>lt (g2 e) fun v2=>lt (g3 e) fun v3=>bP (bM [(.i 0), (.int .i32 0), (.str []), (.str []), (.str [])] [(0, 1, (cV (.i 9))), (2, 1, (cV v1)), (3, 1, (cV v2)), (4, 1, (cV v3))] e) fun v4=>bE (aq 73 [cV v0,cV v4] k e s) fun v5 s=>.au (bG e fun r=>{r with a8:=v5,a9:=v0,a10:=v1,a11:=v2,a12:=v3,a13:=v4,a14:=v5}) s
def JR:aE:=aa UK (aa WX aS) k e s
def F75 : aX := ⟨[u0, u1, u2, u3], JR, aL [rT g8]⟩
theorem adO : aH tt [] fok Tryz.f75 = some F75 := by kernel_rfl
theorem Vl : aI Tryz.prog [] 75 F75 := aI.of (aA bR bq mixed Tryz.func75 adO)
def Ua:Den:=fun _ e s=>bw (V.i 0) fun v0=>.au (u8 e v0) s
def Vq:aE:=lt (g0 e) fun v0=>lt (g1 e) fun v1=>lt (g2 e) fun v2=>lt (g3 e) fun v3=>bP (bM [(.i 0), (.int .i32 0), (.str []), (.str []), (.str [])] [(0, 1, (cV (.i 10))), (2, 1, (cV v1)), (3, 1, (cV v2)), (4, 1, (cV v3))] e) fun v4=>bE (aq 73 [cV v0,cV v4] k e s) fun v5 s=>.au (bG e fun r=>{r with a8:=v5,a9:=v0,a10:=v1,a11:=v2,a12:=v3,a13:=v4,a14:=v5}) s
def NL:aE:=aa Ua (aa Vq aS) k e s
def F76 : aX := ⟨[u0, u1, u2, u3], NL, aL [rT g8]⟩
theorem ae1 : aH tt [] fok Tryz.f76 = some F76 := by kernel_rfl
theorem X8 : aI Tryz.prog [] 76 F76 := aI.of (aA bR bq mixed Tryz.func76 ae1)
def Yr:Den:=fun _ e s=>bw (V.i 0) fun v0=>.au (u4 e v0) s
def Yf:aE:=lt (g0 e) fun v0=>lt (g1 e) fun v1=>bP (bM [(.i 0), (.int .i32 0), (.str []), (.str []), (.str [])] [(0, 1, (cV (.i 7))), (2, 1, (cV v1))] e) fun v2=>bE (aq 73 [cV v0,cV v2] k e s) fun v3 s=>.au (bG e fun r=>{r with a4:=v3,a5:=v0,a6:=v1,a7:=v2,a8:=v3}) s
def Lu:aE:=aa Yr (aa Yf aS) k e s
def F77 : aX := ⟨[u0, u1], Lu, aL [rT g4]⟩
theorem adY : aH tt [] fok Tryz.f77 = some F77 := by kernel_rfl
theorem TD : aI Tryz.prog [] 77 F77 := aI.of (aA bR bq mixed Tryz.func77 adY)
def Xq:Den:=fun _ e s=>bw (V.ay) fun v0=>.au (u8 e v0) s
def Rz:aE:=lt (g1 e) fun v0=>lt (g2 e) fun v1=>bP (bM [(.i 0), .ay, .ay] [(0, 1, (cV v0)), (1, 1, (cV v1))] e) fun v2=>bE (cZ (kO 3 (cK [(.i 0), .ay, .ay]) e s.next) s) fun v3 s=>bE (dJ 3 (cV v3) (cV v2) k e s) fun v4 s=>.au (bG e fun r=>{r with a9:=v3,a10:=v0,a11:=v1,a12:=v2}) s
def SH:Den:=fun _ e s=>lt (g3 e) fun v0=>.au (u13 e v0) s
def UB:aE:=bE (cZ (cg 1 1 [(.str [])] [(0, 1, (cV (.str [76, 84, 104, 114, 111, 119, 97, 98, 108, 101, 59])))] e s.next) s) fun v0 s=>bP (aD (aF 2) g9 e) fun v1=>bE (dJ 1 (cV v1) (cV v0) k e s) fun v2 s=>.au (bG e fun r=>{r with a14:=v0,a15:=v1}) s
def Nc:Den:=fun _ e s=>lt (g0 e) fun v0=>pd aM v0 e fun v1=>pk (bI su) v1 (.i 0) e fun v2=>pf v2 true (aC g0 e) fun v3=>pf v2 true (aC g0 e) fun v4=>pf v2 true (aD aM (cV v4) e) fun v5=>bP (aN v2 true (ak (bI ei) (cV v5) (cV (.i 1)) e)) fun v6=>pf v2 true (ak (aP 3) (cV v3) (cV v6) e) fun v7=>pf v2 true (aD (aF 0) (cV v7) e) fun v8=>bP (aN v2 true ((aQ (cV v8)) e s)) fun v9=>pf v2 true (aC g1 e) fun v10=>pf v2 true (ak (bI bp) (cV v9) (cV v10) e) fun v11=>bP (aO (cV v2) (cV v11) (cV (.bool false)) e) fun v12=>.au (lW e fun _ _ _ _ _ _ _ _ _ _ _ _ _ _ q r=>⟨v0,v1,v2,v2,v3,v4,v5,v6,v7,v8,v9,v10,v11,v12,q,r⟩) s
def EH:Den:=fun _ e s=>lt (g0 e) fun v0=>.au (u30 (u8 e v0) v0) s
def IC:aE:=lt (g0 e) fun v0=>bP ((dh 3 g9) e s) fun v1=>bE (cZ (cg 1 3 [(.i 0), .ay, .ay] [(0, 3, (cV v1))] e s.next) s) fun v2 s=>bE (iX 3 (cV v0) (cV v2) k e s) fun v3 s=>.au (cQ (u31 (u8 e v3) v0) fun r=>{r with a0:=v1,a1:=v2,a2:=v3}) s
def JL:aE:=aa Xq (aa Rz (aa (aa SH (av g13 UB az)) (aa (aa Nc (av g29 (aa EH aS) az)) (aa IC aS)))) k e s
def F78 : aX := ⟨[u0, u1, u2, u3], JL, aL [rT g8]⟩
theorem adZ : aH tt [] fok Tryz.f78 = some F78 := by kernel_rfl
theorem SO : aI Tryz.prog [] 78 F78 := aI.of (aA bR bq mixed Tryz.func78 adZ)
def RF:Den:=fun _ e s=>bw (V.bool false) fun v0=>.au (u4 e v0) s
def Ul:Den:=fun _ e s=>bw (V.i 0) fun v0=>.au (u5 e v0) s
def Vt:Den:=fun _ e s=>lt (g5 e) fun v0=>lt (g0 e) fun v1=>pd bF v1 e fun v2=>pd (aF 8) v2 e fun v3=>pj v3 e s fun v4=>pd aM v4 e fun v5=>pk (bI dW) v0 v5 e fun v6=>.au (bG e fun r=>{r with a6:=v0,a7:=v1,a8:=v2,a9:=v3,a10:=v4,a11:=v5,a12:=v6}) s
def Cy:Den:=fun _ e s=>lt (g0 e) fun v0=>pd bF v0 e fun v1=>pd (aF 8) v1 e fun v2=>pj v2 e s fun v3=>lt (g5 e) fun v4=>pk (aP 1) v3 v4 e fun v5=>pj v5 e s fun v6=>lt (g1 e) fun v7=>pk (bI bp) v6 v7 e fun v8=>.au (cw (u15 e v0) fun r=>{r with a0:=v1,a1:=v2,a2:=v3,a3:=v4,a4:=v5,a5:=v6,a6:=v7,a7:=v8}) s
def Nh:Den:=fun _ e s=>bw (V.bool true) fun v0=>.au (u4 e v0) s
def Oi:Den:=fun _ e s=>lt (g5 e) fun v0=>pk (bI bD) v0 (.i 1) e fun v1=>.au (bG e fun r=>{r with a5:=v1,a13:=v0,a14:=v1}) s
def Ku:Den:=fun _ e s=>bw (V.bool false) fun v0=>.au (u4 e v0) s
def Bw:aE:=aa RF (aa (aa Ul (aG 0 (bT (aa (aa Vt (av g12 az (bB 0))) (aa (aG 1 (aa Cy (av g23 (aa Nh aS) az))) Oi))))) (aa Ku aS)) k e s
def F79 : aX := ⟨[u0, u1], Bw, aL [rT g4]⟩
theorem acu : aH tt [] fok Tryz.f79 = some F79 := by kernel_rfl
theorem Yw : aI Tryz.prog [] 79 F79 := aI.of (aA bR bq mixed Tryz.func79 acu)
def UQ:Den:=fun _ e s=>bw (V.ay) fun v0=>bw (V.i 0) fun v1=>.au (bG e fun r=>{r with a2:=v0,a3:=v1}) s
def UU:Den:=fun _ e s=>bw (V.ay) fun v0=>.au (u4 e v0) s
def Sb:Den:=fun _ e s=>bw (V.i 0) fun v0=>.au (u5 e v0) s
def JM:Den:=fun _ e s=>lt (g5 e) fun v0=>lt (g0 e) fun v1=>pd aM v1 e fun v2=>pk (bI dW) v0 v2 e fun v3=>.au (bG e fun r=>{r with a8:=v0,a9:=v1,a10:=v2,a11:=v3}) s
def I2:aE:=lt (g0 e) fun v0=>lt (g5 e) fun v1=>pk (aP 4) v0 v1 e fun v2=>pd (aF 1) v2 e fun v3=>pj v3 e s fun v4=>bE (aq 35 [cV v4] k e s) fun v5 s=>pk (bI bp) v5 (.i 0) e fun v6=>.au (cw (bG e fun r=>{r with a14:=v0,a15:=v1}) fun r=>{r with a0:=v2,a1:=v3,a2:=v4,a3:=v5,a4:=v6}) s
def LV:Den:=fun _ e s=>bw (V.ay) fun v0=>bw (V.i 15) fun v1=>.au (bG e fun r=>{r with a2:=v0,a3:=v1}) s
def Cq:Den:=fun _ e s=>lt (g0 e) fun v0=>lt (g5 e) fun v1=>pk (aP 4) v0 v1 e fun v2=>pd (aF 0) v2 e fun v3=>pj v3 e s fun v4=>lt (g4 e) fun v5=>pd aM v5 e fun v6=>pk (bI sH) v4 v6 e fun v7=>.au (cw e fun r=>{r with a5:=v0,a6:=v1,a7:=v2,a8:=v3,a9:=v4,a10:=v5,a11:=v6,a12:=v7}) s
def D7:Den:=fun _ e s=>bw (V.ay) fun v0=>bw (V.i 16) fun v1=>.au (bG e fun r=>{r with a2:=v0,a3:=v1}) s
def Mc:aE:=lt (g0 e) fun v0=>lt (g5 e) fun v1=>pk (aP 4) v0 v1 e fun v2=>bP ((dh 4 (cV v2)) e s) fun v3=>bE (aq 93 [cV v3] k e s) fun v4 s=>pd (dF 0) v4 e fun v5=>pd (dF 1) v4 e fun v6=>.au (cQ (cw (bG e fun r=>{r with a6:=v5,a7:=v6}) fun r=>{r with a13:=v4,a14:=v0,a15:=v1}) fun r=>{r with a0:=v2,a1:=v3,a2:=v4,a3:=v5,a4:=v6}) s
def GX:Den:=fun _ e s=>lt (g7 e) fun v0=>pd gR v0 e fun v1=>.au (cQ e fun r=>{r with a5:=v0,a6:=v1}) s
def CC:Den:=fun _ e s=>bw (V.ay) fun v0=>bw (V.i 1) fun v1=>.au (bG e fun r=>{r with a2:=v0,a3:=v1}) s
def HQ:aE:=lt (g4 e) fun v0=>lt (g6 e) fun v1=>bE (kF 1 (cV v0) (cV v1) k e s) fun v2 s=>.au (cQ (u4 e v2) fun r=>{r with a7:=v0,a8:=v1,a9:=v2}) s
def Lt:Den:=fun _ e s=>lt (g5 e) fun v0=>pk (bI bD) v0 (.i 1) e fun v1=>.au (bG e fun r=>{r with a5:=v1,a12:=v0,a13:=v1}) s
def D8:Den:=fun _ e s=>lt (g4 e) fun v0=>pd aM v0 e fun v1=>pk (bI su) v1 (.i 1024) e fun v2=>.au (cQ e fun r=>{r with a10:=v0,a11:=v1,a12:=v2}) s
def Im:Den:=fun _ e s=>bw (V.ay) fun v0=>bw (V.i 3) fun v1=>.au (bG e fun r=>{r with a2:=v0,a3:=v1}) s
def BN:Den:=fun _ e s=>lt (g4 e) fun v0=>bw (V.i 0) fun v1=>.au (u45 (bG e fun r=>{r with a2:=v0,a3:=v1}) v0) s
def Of:aE:=aa UQ (aa UU (aa (aa Sb (aG 0 (bT (aa (aa JM (av g11 az (bB 0))) (aa (aG 1 (aa (aa I2 (av g20 (aa LV aS) az)) (aa (aa Cq (av g28 (aa D7 aS) az)) (aa Mc (aa (aa GX (av g38 (aa CC aS) az)) HQ))))) Lt))))) (aa (aa D8 (av g44 (aa Im aS) az)) (aa BN aS)))) k e s
def F80 : aX := ⟨[u0], Of, aL [rT g2, rT g3]⟩
theorem acT : aH tt [] fok Tryz.f80 = some F80 := by kernel_rfl
theorem V2 : aI Tryz.prog [] 80 F80 := aI.of (aA bR bq mixed Tryz.func80 acT)
def TY:aE:=lt (g0 e) fun v0=>bE (aq 95 [cV v0] k e s) fun v1 s=>.au (bG e fun r=>{r with a2:=v1,a5:=v0,a6:=v1}) s
def Sw:aE:=lt (g0 e) fun v0=>bE (aq 95 [cV v0] k e s) fun v1 s=>.au (bG e fun r=>{r with a3:=v1,a7:=v0,a8:=v1}) s
def UP:aE:=lt (g0 e) fun v0=>pd bF v0 e fun v1=>pd (aF 0) v1 e fun v2=>pj v2 e s fun v3=>bE (aq 38 [(cV v3), (cV (.i 4))] k e s) fun v4 s=>.au (bG e fun r=>{r with a4:=v4,a9:=v0,a10:=v1,a11:=v2,a12:=v3,a13:=v4}) s
def U6:Den:=fun _ e s=>lt (g4 e) fun v0=>pk (bI bp) v0 (.i 0) e fun v1=>pf v1 true (aC g0 e) fun v2=>pf v1 true (aD bF (cV v2) e) fun v3=>pf v1 true (aD (aF 4) (cV v3) e) fun v4=>bP (aN v1 true ((aQ (cV v4)) e s)) fun v5=>pf v1 true (aD gR (cV v5) e) fun v6=>bP (aO (cV v1) (cV v6) (cV (.bool false)) e) fun v7=>.au (cQ (cw e fun r=>{r with a11:=v7,a12:=v0,a13:=v1,a14:=v1,a15:=v2}) fun r=>{r with a0:=v3,a1:=v4,a2:=v5,a3:=v6,a4:=v7}) s
def Is:aE:=lt (g0 e) fun v0=>bE (aq 74 [(cV v0), (cV (.i 2))] k e s) fun v1 s=>.au (cQ e fun r=>{r with a5:=v0,a6:=v1}) s
def Gs:aE:=lt (g0 e) fun v0=>bE (cZ (cg 2 1 [(.i 0), (.i 0)] [(0, 1, (cV (.i 198))), (1, 1, (cV (.i 199)))] e s.next) s) fun v1 s=>lt (g0 e) fun v2=>pd bF v2 e fun v3=>pd (aF 0) v3 e fun v4=>pj v4 e s fun v5=>bE (aq 38 [(cV v5), (cV (.i 2))] k e s) fun v6 s=>pk (aP 1) v1 v6 e fun v7=>pj v7 e s fun v8=>lt (g2 e) fun v9=>bE (aq 96 [cV v0,cV v8,cV v9] k e s) fun v10 s=>.au (eH (mu e fun a b c d f g h _ _ _ _ _ _ _ _ _=>⟨a,b,c,d,f,g,h,v0,v1,v2,v3,v4,v5,v6,v7,v8⟩) fun r=>{r with a0:=v9,a1:=v10}) s
def ID:Den:=fun _ e s=>lt (g4 e) fun v0=>pk (bI bp) v0 (.i 1) e fun v1=>pf v1 true (aC g0 e) fun v2=>pf v1 true (aD bF (cV v2) e) fun v3=>pf v1 true (aD (aF 4) (cV v3) e) fun v4=>bP (aN v1 true ((aQ (cV v4)) e s)) fun v5=>pf v1 true (aD gR (cV v5) e) fun v6=>bP (aO (cV v1) (cV v6) (cV (.bool false)) e) fun v7=>.au (EG e fun a b _ _ _ _ _ _ _ _ _ _ o p q r=>⟨a,b,v7,v0,v1,v1,v2,v3,v4,v5,v6,v7,o,p,q,r⟩) s
def AY:aE:=lt (g0 e) fun v0=>bE (aq 74 [(cV v0), (cV (.i 1))] k e s) fun v1 s=>.au (eH e fun r=>{r with a12:=v0,a13:=v1}) s
def IN:aE:=lt (g0 e) fun v0=>bE (aq 74 [(cV v0), (cV (.i 1))] k e s) fun v1 s=>.au (eH e fun r=>{r with a14:=v0,a15:=v1}) s
def H_:aE:=lt (g0 e) fun v0=>bE (cZ (cg 2 1 [(.i 0), (.i 0)] [(0, 1, (cV (.i 165))), (1, 1, (cV (.i 166)))] e s.next) s) fun v1 s=>lt (g0 e) fun v2=>pd bF v2 e fun v3=>pd (aF 0) v3 e fun v4=>pj v4 e s fun v5=>bE (aq 38 [(cV v5), (cV (.i 2))] k e s) fun v6 s=>pk (aP 1) v1 v6 e fun v7=>pj v7 e s fun v8=>lt (g2 e) fun v9=>bE (aq 96 [cV v0,cV v8,cV v9] k e s) fun v10 s=>.au (T0 e fun _ _ _ _ _ _ _ _ _ _ _ n o p q r=>⟨v0,v1,v2,v3,v4,v5,v6,v7,v8,v9,v10,n,o,p,q,r⟩) s
def Gv:Den:=fun _ e s=>lt (g4 e) fun v0=>pk (bI bp) v0 (.i 2) e fun v1=>.au (jh e fun r=>{r with a11:=v1,a12:=v0,a13:=v1}) s
def Gk:aE:=lt (g0 e) fun v0=>bE (aq 55 [(cV v0), (cV (.i 2))] k e s) fun v1 s=>.au (jh e fun r=>{r with a14:=v0,a15:=v1}) s
def HV:aE:=lt (g0 e) fun v0=>lt (g0 e) fun v1=>pd bF v1 e fun v2=>pd (aF 0) v2 e fun v3=>pj v3 e s fun v4=>bE (aq 38 [(cV v4), (cV (.i 6))] k e s) fun v5 s=>pk (bI bD) (.i 153) v5 e fun v6=>lt (g2 e) fun v7=>bE (aq 96 [cV v0,cV v6,cV v7] k e s) fun v8 s=>.au (kQ e fun r=>{r with a0:=v0,a1:=v1,a2:=v2,a3:=v3,a4:=v4,a5:=v5,a6:=v6,a7:=v7,a8:=v8}) s
def Gj:aE:=lt (g0 e) fun v0=>bE (aq 55 [(cV v0), (cV (.i 2))] k e s) fun v1 s=>.au (bG e fun r=>{r with a14:=v0,a15:=v1}) s
def GF:aE:=lt (g0 e) fun v0=>bE (aq 55 [(cV v0), (cV (.i 2))] k e s) fun v1 s=>.au (cw e fun r=>{r with a0:=v0,a1:=v1}) s
def NQ:aE:=lt (g0 e) fun v0=>lt (g0 e) fun v1=>pd bF v1 e fun v2=>pd (aF 0) v2 e fun v3=>pj v3 e s fun v4=>bE (aq 38 [(cV v4), (cV (.i 6))] k e s) fun v5 s=>pk (bI bD) (.i 159) v5 e fun v6=>lt (g2 e) fun v7=>bE (aq 96 [cV v0,cV v6,cV v7] k e s) fun v8 s=>.au (cw e fun r=>{r with a2:=v0,a3:=v1,a4:=v2,a5:=v3,a6:=v4,a7:=v5,a8:=v6,a9:=v7,a10:=v8}) s
def Dw:aE:=lt (g0 e) fun v0=>bE (aq 54 [(cV v0), (cV (.i 2))] k e s) fun v1 s=>.au (kQ e fun r=>{r with a9:=v0,a10:=v1}) s
def Jv:aE:=lt (g0 e) fun v0=>lt (g3 e) fun v1=>bE (aq 96 [(cV v0), (cV (.i 167)), (cV v1)] k e s) fun v2 s=>.au (kQ e fun r=>{r with a11:=v0,a12:=v1,a13:=v2}) s
def MJ:aE:=lt (g0 e) fun v0=>lt (g2 e) fun v1=>bE (aq 97 [cV v0,cV v1] k e s) fun v2 s=>.au (u96 (kQ e fun r=>{r with a14:=v0,a15:=v1}) v2) s
def D4:aE:=lt (g0 e) fun v0=>bE (aq 54 [(cV v0), (cV (.i 2))] k e s) fun v1 s=>.au (kU e fun r=>{r with a1:=v0,a2:=v1}) s
def Jw:aE:=lt (g0 e) fun v0=>lt (g3 e) fun v1=>bE (aq 97 [cV v0,cV v1] k e s) fun v2 s=>.au (kU e fun r=>{r with a3:=v0,a4:=v1,a5:=v2}) s
def I0:aE:=lt (g0 e) fun v0=>bE (aq 52 [(cV v0), (cV (.i 0)), (cV (.i 0)), (cV (.i 0))] k e s) fun v1 s=>.au (kU e fun r=>{r with a6:=v0,a7:=v1}) s
def Ds:aE:=aa TY (aa Sw (aa UP (aa (aG 0 (aa U6 (av g27 (aa Is Gs) (aa ID (av g50 (aa AY (aa IN H_)) (aa Gv (av g75 (aa Gk HV) (aa Gj (aa GF NQ))))))))) (aa Dw (aa Jv (aa MJ (aa D4 (aa Jw I0)))))))) k e s
def F86 : aX := ⟨[u0], Ds, aL []⟩
theorem abR : aH tt [] fok Tryz.f86 = some F86 := by kernel_rfl
theorem Wt : aI Tryz.prog [] 86 F86 := aI.of (aA bR bq mixed Tryz.func86 abR)
def Te:aE:=lt (g0 e) fun v0=>bE (aq 95 [cV v0] k e s) fun v1 s=>.au (bG e fun r=>{r with a2:=v1,a5:=v0,a6:=v1}) s
def WJ:aE:=lt (g0 e) fun v0=>bE (aq 95 [cV v0] k e s) fun v1 s=>.au (bG e fun r=>{r with a3:=v1,a7:=v0,a8:=v1}) s
def Wx:aE:=lt (g0 e) fun v0=>pd bF v0 e fun v1=>pd (aF 0) v1 e fun v2=>pj v2 e s fun v3=>bE (aq 38 [(cV v3), (cV (.i 4))] k e s) fun v4 s=>.au (bG e fun r=>{r with a4:=v4,a9:=v0,a10:=v1,a11:=v2,a12:=v3,a13:=v4}) s
def V8:aE:=lt (g0 e) fun v0=>bE (aq 52 [(cV v0), (cV (.i 3)), (cV (.i 0)), (cV (.i 0))] k e s) fun v1 s=>.au (bG e fun r=>{r with a14:=v0,a15:=v1}) s
def Sn:aE:=lt (g0 e) fun v0=>lt (g4 e) fun v1=>bE (aq 52 [(cV v0), (cV (.i 54)), (cV v1), (cV (.i 0))] k e s) fun v2 s=>.au (cw e fun r=>{r with a0:=v0,a1:=v1,a2:=v2}) s
def Ou:aE:=lt (g0 e) fun v0=>lt (g2 e) fun v1=>bE (aq 97 [cV v0,cV v1] k e s) fun v2 s=>.au (cw e fun r=>{r with a3:=v0,a4:=v1,a5:=v2}) s
def GV:aE:=lt (g0 e) fun v0=>lt (g4 e) fun v1=>bE (aq 52 [(cV v0), (cV (.i 21)), (cV v1), (cV (.i 0))] k e s) fun v2 s=>.au (cw e fun r=>{r with a6:=v0,a7:=v1,a8:=v2}) s
def Bg:aE:=lt (g0 e) fun v0=>lt (g0 e) fun v1=>pd bF v1 e fun v2=>pd (aF 0) v2 e fun v3=>pj v3 e s fun v4=>bE (aq 38 [(cV v4), (cV (.i 6))] k e s) fun v5 s=>pk (bI bD) (.i 3) v5 e fun v6=>bE (aq 52 [(cV v0), (cV v6), (cV (.i 0)), (cV (.i 0))] k e s) fun v7 s=>.au (u32 (cw e fun r=>{r with a9:=v0,a10:=v1,a11:=v2,a12:=v3,a13:=v4,a14:=v5,a15:=v6}) v7) s
def JD:aE:=lt (g0 e) fun v0=>lt (g3 e) fun v1=>bE (aq 96 [(cV v0), (cV (.i 162)), (cV v1)] k e s) fun v2 s=>.au (cQ e fun r=>{r with a1:=v0,a2:=v1,a3:=v2}) s
def Jl:aE:=lt (g0 e) fun v0=>bE (aq 54 [(cV v0), (cV (.i 2))] k e s) fun v1 s=>.au (cQ e fun r=>{r with a4:=v0,a5:=v1}) s
def DQ:aE:=lt (g0 e) fun v0=>lt (g4 e) fun v1=>bE (aq 52 [(cV v0), (cV (.i 132)), (cV v1), (cV (.i 1))] k e s) fun v2 s=>.au (cQ e fun r=>{r with a6:=v0,a7:=v1,a8:=v2}) s
def MS:aE:=lt (g0 e) fun v0=>lt (g2 e) fun v1=>bE (aq 96 [(cV v0), (cV (.i 167)), (cV v1)] k e s) fun v2 s=>.au (cQ e fun r=>{r with a9:=v0,a10:=v1,a11:=v2}) s
def LY:aE:=lt (g0 e) fun v0=>lt (g3 e) fun v1=>bE (aq 97 [cV v0,cV v1] k e s) fun v2 s=>.au (cQ e fun r=>{r with a12:=v0,a13:=v1,a14:=v2}) s
def LP:aE:=lt (g0 e) fun v0=>bE (aq 52 [(cV v0), (cV (.i 0)), (cV (.i 0)), (cV (.i 0))] k e s) fun v1 s=>.au (u48 (u47 e v0) v1) s
def JY:aE:=aa Te (aa WJ (aa Wx (aa V8 (aa Sn (aa Ou (aa GV (aa Bg (aa JD (aa Jl (aa DQ (aa MS (aa LY LP)))))))))))) k e s
def F87 : aX := ⟨[u0], JY, aL []⟩
theorem aen : aH tt [] fok Tryz.f87 = some F87 := by kernel_rfl
theorem VI : aI Tryz.prog [] 87 F87 := aI.of (aA bR bq mixed Tryz.func87 aen)
def WG:aE:=lt (g0 e) fun v0=>pd bF v0 e fun v1=>pd (aF 0) v1 e fun v2=>pj v2 e s fun v3=>bE (aq 38 [(cV v3), (cV (.i 4))] k e s) fun v4 s=>.au (bG e fun r=>{r with a2:=v0,a3:=v1,a4:=v2,a5:=v3,a6:=v4}) s
def XZ:Den:=fun _ e s=>bP (ak (bI bp) g6 (cV (.i 0)) e) fun v0=>.au (bG e fun r=>{r with a7:=v0,a8:=v0}) s
def Yh:aE:=lt (g0 e) fun v0=>bE (aq 55 [(cV v0), (cV (.i 1))] k e s) fun v1 s=>.au (bG e fun r=>{r with a9:=v0,a10:=v1}) s
def Xi:aE:=lt (g0 e) fun v0=>bE (aq 52 [(cV v0), (cV (.i 188)), (cV (.i 10)), (cV (.i 0))] k e s) fun v1 s=>.au (bG e fun r=>{r with a11:=v0,a12:=v1}) s
def IM:aE:=lt (g0 e) fun v0=>bE (aq 52 [(cV v0), (cV (.i 58)), (cV (.i 6)), (cV (.i 0))] k e s) fun v1 s=>.au (bG e fun r=>{r with a13:=v0,a14:=v1}) s
def B4:Den:=fun _ e s=>bP (ak (bI bp) g6 (cV (.i 1)) e) fun v0=>.au (u16 (u15 e v0) v0) s
def Bl:aE:=lt (g0 e) fun v0=>lt (g0 e) fun v1=>pd bF v1 e fun v2=>pd (aF 0) v2 e fun v3=>pj v3 e s fun v4=>bE (aq 38 [(cV v4), (cV (.i 9))] k e s) fun v5 s=>bE (aq 52 [(cV v0), (cV (.i 16)), (cV v5), (cV (.i 0))] k e s) fun v6 s=>.au (cw e fun r=>{r with a1:=v0,a2:=v1,a3:=v2,a4:=v3,a5:=v4,a6:=v5,a7:=v6}) s
def Bz:aE:=lt (g0 e) fun v0=>lt (g0 e) fun v1=>bE (cZ (cg 2 1 [(.str []), (.str [])] [(0, 1, (cV (.str [65]))), (1, 1, (cV (.str [66])))] e s.next) s) fun v2 s=>lt (g0 e) fun v3=>pd bF v3 e fun v4=>pd (aF 0) v4 e fun v5=>pj v5 e s fun v6=>bE (aq 38 [(cV v6), (cV (.i 2))] k e s) fun v7 s=>pk (aP 1) v2 v7 e fun v8=>pj v8 e s fun v9=>bE (aq 77 [cV v1,cV v9] k e s) fun v10 s=>bE (aq 52 [(cV v0), (cV (.i 189)), (cV v10), (cV (.i 0))] k e s) fun v11 s=>.au (cQ (cw e fun r=>{r with a8:=v0,a9:=v1,a10:=v2,a11:=v3,a12:=v4,a13:=v5,a14:=v6,a15:=v7}) fun r=>{r with a0:=v8,a1:=v9,a2:=v10,a3:=v11}) s
def JH:aE:=lt (g0 e) fun v0=>bE (aq 52 [(cV v0), (cV (.i 58)), (cV (.i 9)), (cV (.i 0))] k e s) fun v1 s=>.au (cQ e fun r=>{r with a4:=v0,a5:=v1}) s
def FK:Den:=fun _ e s=>bP (ak (bI bp) g6 (cV (.i 2)) e) fun v0=>.au (cQ e fun r=>{r with a6:=v0,a7:=v0}) s
def AE:aE:=lt (g0 e) fun v0=>bE (aq 52 [(cV v0), (cV (.i 25)), (cV (.i 6)), (cV (.i 0))] k e s) fun v1 s=>.au (cQ e fun r=>{r with a8:=v0,a9:=v1}) s
def EB:aE:=lt (g0 e) fun v0=>bE (aq 55 [(cV v0), (cV (.i 1))] k e s) fun v1 s=>.au (cQ e fun r=>{r with a10:=v0,a11:=v1}) s
def ET:aE:=lt (g0 e) fun v0=>bE (aq 55 [(cV v0), (cV (.i 2))] k e s) fun v1 s=>.au (cQ e fun r=>{r with a12:=v0,a13:=v1}) s
def K8:aE:=lt (g0 e) fun v0=>bE (aq 52 [(cV v0), (cV (.i 79)), (cV (.i 0)), (cV (.i 0))] k e s) fun v1 s=>.au (cQ e fun r=>{r with a14:=v0,a15:=v1}) s
def Iz:Den:=fun _ e s=>bP (ak (bI bp) g6 (cV (.i 3)) e) fun v0=>.au (eH e fun r=>{r with a0:=v0,a1:=v0}) s
def Je:aE:=lt (g0 e) fun v0=>bE (aq 52 [(cV v0), (cV (.i 25)), (cV (.i 9)), (cV (.i 0))] k e s) fun v1 s=>.au (eH e fun r=>{r with a2:=v0,a3:=v1}) s
def BG:aE:=lt (g0 e) fun v0=>lt (g0 e) fun v1=>pd bF v1 e fun v2=>pd (aF 0) v2 e fun v3=>pj v3 e s fun v4=>bE (aq 38 [(cV v4), (cV (.i 4))] k e s) fun v5 s=>pk (bI bD) (.i 3) v5 e fun v6=>bE (aq 52 [(cV v0), (cV v6), (cV (.i 0)), (cV (.i 0))] k e s) fun v7 s=>.au (eH e fun r=>{r with a4:=v0,a5:=v1,a6:=v2,a7:=v3,a8:=v4,a9:=v5,a10:=v6,a11:=v7}) s
def zW:aE:=lt (g0 e) fun v0=>bE (aq 74 [(cV v0), (cV (.i 2))] k e s) fun v1 s=>.au (eH e fun r=>{r with a12:=v0,a13:=v1}) s
def AH:aE:=lt (g0 e) fun v0=>bE (aq 52 [(cV v0), (cV (.i 83)), (cV (.i 0)), (cV (.i 0))] k e s) fun v1 s=>.au (eH e fun r=>{r with a14:=v0,a15:=v1}) s
def I6:aE:=aa WG (aG 0 (aa XZ (av g7 (aa Yh (aa Xi IM)) (aa B4 (av g15 (aa Bl (aa Bz JH)) (aa FK (av g38 (aa AE (aa EB (aa ET K8))) (aa Iz (av g48 (aa Je (aa BG (aa zW AH))) az))))))))) k e s
def F88 : aX := ⟨[u0], I6, aL []⟩
theorem adx : aH tt [] fok Tryz.f88 = some F88 := by kernel_rfl
theorem Rf : aI Tryz.prog [] 88 F88 := aI.of (aA bR bq mixed Tryz.func88 adx)
def XT:aE:=lt (g0 e) fun v0=>bE (aq 95 [cV v0] k e s) fun v1 s=>.au (bG e fun r=>{r with a2:=v1,a6:=v0,a7:=v1}) s
def Sm:aE:=lt (g0 e) fun v0=>bE (aq 95 [cV v0] k e s) fun v1 s=>.au (bG e fun r=>{r with a3:=v1,a8:=v0,a9:=v1}) s
def Sh:aE:=lt (g0 e) fun v0=>bE (aq 95 [cV v0] k e s) fun v1 s=>.au (bG e fun r=>{r with a4:=v1,a10:=v0,a11:=v1}) s
def Uf:aE:=lt (g0 e) fun v0=>bE (aq 95 [cV v0] k e s) fun v1 s=>.au (bG e fun r=>{r with a5:=v1,a12:=v0,a13:=v1}) s
def Wm:aE:=lt (g0 e) fun v0=>lt (g2 e) fun v1=>bE (aq 97 [cV v0,cV v1] k e s) fun v2 s=>.au (u16 (bG e fun r=>{r with a14:=v0,a15:=v1}) v2) s
def Ae:aE:=lt (g0 e) fun v0=>bE (aq 52 [(cV v0), (cV (.i 0)), (cV (.i 0)), (cV (.i 0))] k e s) fun v1 s=>.au (cw e fun r=>{r with a1:=v0,a2:=v1}) s
def NG:aE:=lt (g0 e) fun v0=>bE (aq 54 [(cV v0), (cV (.i 2))] k e s) fun v1 s=>.au (cw e fun r=>{r with a3:=v0,a4:=v1}) s
def C_:aE:=lt (g0 e) fun v0=>lt (g3 e) fun v1=>bE (aq 97 [cV v0,cV v1] k e s) fun v2 s=>.au (cw e fun r=>{r with a5:=v0,a6:=v1,a7:=v2}) s
def IU:aE:=lt (g0 e) fun v0=>lt (g5 e) fun v1=>bE (aq 96 [(cV v0), (cV (.i 167)), (cV v1)] k e s) fun v2 s=>.au (cw e fun r=>{r with a8:=v0,a9:=v1,a10:=v2}) s
def Ce:aE:=lt (g0 e) fun v0=>lt (g4 e) fun v1=>bE (aq 97 [cV v0,cV v1] k e s) fun v2 s=>.au (cw e fun r=>{r with a11:=v0,a12:=v1,a13:=v2}) s
def GO:aE:=lt (g0 e) fun v0=>lt (g0 e) fun v1=>pd bF v1 e fun v2=>pd (aF 8) v2 e fun v3=>pj v3 e s fun v4=>lt (g4 e) fun v5=>bE (cZ (cg 1 1 [(.i 0)] [(0, 1, (cV v5))] e s.next) s) fun v6 s=>bE (kF 1 (cV v4) (cV v6) k e s) fun v7 s=>pd bF v0 e fun v8=>pd (aF 8) v8 e fun v9=>bE (dJ 1 (cV v9) (cV v7) k e s) fun v10 s=>.au (cQ (cw e fun r=>{r with a14:=v0,a15:=v1}) fun r=>{r with a0:=v2,a1:=v3,a2:=v4,a3:=v5,a4:=v6,a5:=v7,a6:=v8,a7:=v9}) s
def Ch:aE:=lt (g0 e) fun v0=>bE (aq 52 [(cV v0), (cV (.i 58)), (cV (.i 7)), (cV (.i 0))] k e s) fun v1 s=>.au (cQ e fun r=>{r with a8:=v0,a9:=v1}) s
def Nn:aE:=lt (g0 e) fun v0=>lt (g0 e) fun v1=>pd bF v1 e fun v2=>pd (aF 7) v2 e fun v3=>pj v3 e s fun v4=>lt (g2 e) fun v5=>lt (g3 e) fun v6=>lt (g4 e) fun v7=>bP (bM [(.i 0), (.i 0), (.i 0)] [(0, 1, (cV v5)), (1, 1, (cV v6)), (2, 1, (cV v7))] e) fun v8=>bE (cZ (cg 1 3 [(.i 0), (.i 0), (.i 0)] [(0, 3, (cV v8))] e s.next) s) fun v9 s=>bE (iX 3 (cV v4) (cV v9) k e s) fun v10 s=>pd bF v0 e fun v11=>pd (aF 7) v11 e fun v12=>bE (dJ 1 (cV v12) (cV v10) k e s) fun v13 s=>.au (eH (cQ e fun r=>{r with a10:=v0,a11:=v1,a12:=v2,a13:=v3,a14:=v4,a15:=v5}) fun r=>{r with a0:=v6,a1:=v7,a2:=v8,a3:=v9,a4:=v10,a5:=v11,a6:=v12}) s
def As:aE:=lt (g0 e) fun v0=>bE (aq 54 [(cV v0), (cV (.i 1))] k e s) fun v1 s=>.au (eH e fun r=>{r with a7:=v0,a8:=v1}) s
def J2:aE:=lt (g0 e) fun v0=>pd bF v0 e fun v1=>pd (aF 0) v1 e fun v2=>pj v2 e s fun v3=>bE (aq 38 [(cV v3), (cV (.i 4))] k e s) fun v4 s=>pk (bI bp) v4 (.i 0) e fun v5=>.au (eH e fun r=>{r with a9:=v0,a10:=v1,a11:=v2,a12:=v3,a13:=v4,a14:=v5}) s
def DH:aE:=lt (g0 e) fun v0=>bE (aq 52 [(cV v0), (cV (.i 25)), (cV (.i 7)), (cV (.i 0))] k e s) fun v1 s=>.au (u64 (u63 e v0) v1) s
def Ck:aE:=lt (g0 e) fun v0=>bE (aq 52 [(cV v0), (cV (.i 191)), (cV (.i 0)), (cV (.i 0))] k e s) fun v1 s=>.au (jh e fun r=>{r with a1:=v0,a2:=v1}) s
def ML:aE:=lt (g0 e) fun v0=>lt (g5 e) fun v1=>bE (aq 97 [cV v0,cV v1] k e s) fun v2 s=>.au (jh e fun r=>{r with a3:=v0,a4:=v1,a5:=v2}) s
def AX:aE:=lt (g0 e) fun v0=>bE (aq 52 [(cV v0), (cV (.i 0)), (cV (.i 0)), (cV (.i 0))] k e s) fun v1 s=>.au (jh e fun r=>{r with a6:=v0,a7:=v1}) s
def ES:aE:=aa XT (aa Sm (aa Sh (aa Uf (aa Wm (aa Ae (aa NG (aa C_ (aa IU (aa Ce (aa GO (aa Ch (aa Nn (aa As (aa (aa J2 (av g62 (aa DH Ck) az)) (aa ML AX))))))))))))))) k e s
def F89 : aX := ⟨[u0], ES, aL []⟩
theorem aev : aH tt [] fok Tryz.f89 = some F89 := by kernel_rfl
theorem WW : aI Tryz.prog [] 89 F89 := aI.of (aA bR bq mixed Tryz.func89 aev)
def Re:aE:=lt (g0 e) fun v0=>pd bF v0 e fun v1=>pd (aF 0) v1 e fun v2=>pj v2 e s fun v3=>bE (aq 38 [(cV v3), (cV (.i 2))] k e s) fun v4 s=>pk (bI bD) (.i 4) v4 e fun v5=>.au (bG e fun r=>{r with a2:=v5,a4:=v0,a5:=v1,a6:=v2,a7:=v3,a8:=v4,a9:=v5}) s
def Si:aE:=lt (g0 e) fun v0=>lt (g2 e) fun v1=>bE (aq 52 [(cV v0), (cV (.i 25)), (cV v1), (cV (.i 0))] k e s) fun v2 s=>.au (bG e fun r=>{r with a10:=v0,a11:=v1,a12:=v2}) s
def T6:aE:=lt (g0 e) fun v0=>bE (aq 52 [(cV v0), (cV (.i 194)), (cV (.i 0)), (cV (.i 0))] k e s) fun v1 s=>.au (bG e fun r=>{r with a13:=v0,a14:=v1}) s
def Ts:aE:=lt (g0 e) fun v0=>bE (aq 54 [(cV v0), (cV (.i 1))] k e s) fun v1 s=>.au (u16 (u15 e v0) v1) s
def XD:aE:=lt (g0 e) fun v0=>pd bF v0 e fun v1=>pd (aF 0) v1 e fun v2=>pj v2 e s fun v3=>bE (aq 38 [(cV v3), (cV (.i 4))] k e s) fun v4 s=>.au (cw (u3 e v4) fun r=>{r with a1:=v0,a2:=v1,a3:=v2,a4:=v3,a5:=v4}) s
def Cn:Den:=fun _ e s=>lt (g3 e) fun v0=>pk (bI dW) v0 (.i 3) e fun v1=>.au (cw e fun r=>{r with a6:=v0,a7:=v1}) s
def DC:aE:=lt (g0 e) fun v0=>lt (g2 e) fun v1=>bE (aq 52 [(cV v0), (cV (.i 25)), (cV v1), (cV (.i 0))] k e s) fun v2 s=>.au (cw e fun r=>{r with a8:=v0,a9:=v1,a10:=v2}) s
def MD:aE:=lt (g0 e) fun v0=>lt (g0 e) fun v1=>bE (cZ (cg 3 1 [(.str []), (.str []), (.str [])] [(0, 1, (cV (.str [110, 111, 116, 105, 102, 121]))), (1, 1, (cV (.str [110, 111, 116, 105, 102, 121, 65, 108, 108]))), (2, 1, (cV (.str [119, 97, 105, 116])))] e s.next) s) fun v2 s=>lt (g3 e) fun v3=>pk (aP 1) v2 v3 e fun v4=>pj v4 e s fun v5=>bE (aq 76 [(cV v1), (cV (.str [79, 98, 106, 101, 99, 116])), (cV v5), (cV (.str [40, 41, 86]))] k e s) fun v6 s=>bE (aq 52 [(cV v0), (cV (.i 182)), (cV v6), (cV (.i 0))] k e s) fun v7 s=>.au (cQ (cw e fun r=>{r with a11:=v0,a12:=v1,a13:=v2,a14:=v3,a15:=v4}) fun r=>{r with a0:=v5,a1:=v6,a2:=v7}) s
def I7:aE:=lt (g0 e) fun v0=>lt (g2 e) fun v1=>bE (aq 52 [(cV v0), (cV (.i 25)), (cV v1), (cV (.i 0))] k e s) fun v2 s=>.au (cQ e fun r=>{r with a3:=v0,a4:=v1,a5:=v2}) s
def Nz:aE:=lt (g0 e) fun v0=>bE (aq 52 [(cV v0), (cV (.i 195)), (cV (.i 0)), (cV (.i 0))] k e s) fun v1 s=>.au (cQ e fun r=>{r with a6:=v0,a7:=v1}) s
def B6:aE:=aa Re (aa Si (aa T6 (aa Ts (aa XD (aa (aa Cn (av g23 (aa DC MD) az)) (aa I7 Nz)))))) k e s
def F90 : aX := ⟨[u0], B6, aL []⟩
theorem abt : aH tt [] fok Tryz.f90 = some F90 := by kernel_rfl
theorem Vn : aI Tryz.prog [] 90 F90 := aI.of (aA bR bq mixed Tryz.func90 abt)
def Uj:aE:=lt (g0 e) fun v0=>pd bF v0 e fun v1=>pd (aF 0) v1 e fun v2=>pj v2 e s fun v3=>bE (aq 38 [(cV v3), (cV (.i 4))] k e s) fun v4 s=>.au (bG e fun r=>{r with a2:=v0,a3:=v1,a4:=v2,a5:=v3,a6:=v4}) s
def UC:Den:=fun _ e s=>bP (ak (bI bp) g6 (cV (.i 0)) e) fun v0=>.au (bG e fun r=>{r with a7:=v0,a8:=v0}) s
def VM:aE:=lt (g0 e) fun v0=>lt (g0 e) fun v1=>bE (aq 77 [(cV v1), (cV (.str [84]))] k e s) fun v2 s=>bE (aq 52 [(cV v0), (cV (.i 187)), (cV v2), (cV (.i 0))] k e s) fun v3 s=>.au (bG e fun r=>{r with a9:=v0,a10:=v1,a11:=v2,a12:=v3}) s
def UF:aE:=lt (g0 e) fun v0=>bE (aq 52 [(cV v0), (cV (.i 58)), (cV (.i 8)), (cV (.i 0))] k e s) fun v1 s=>.au (bG e fun r=>{r with a13:=v0,a14:=v1}) s
def JQ:Den:=fun _ e s=>bP (ak (bI bp) g6 (cV (.i 1)) e) fun v0=>.au (u16 (u15 e v0) v0) s
def Ca:aE:=lt (g0 e) fun v0=>bE (aq 52 [(cV v0), (cV (.i 25)), (cV (.i 8)), (cV (.i 0))] k e s) fun v1 s=>.au (cw e fun r=>{r with a1:=v0,a2:=v1}) s
def NS:aE:=lt (g0 e) fun v0=>lt (g0 e) fun v1=>bE (aq 76 [(cV v1), (cV (.str [84, 104, 114, 101, 97, 100])), (cV (.str [115, 116, 97, 114, 116])), (cV (.str [40, 41, 86]))] k e s) fun v2 s=>bE (aq 52 [(cV v0), (cV (.i 182)), (cV v2), (cV (.i 0))] k e s) fun v3 s=>.au (cw e fun r=>{r with a3:=v0,a4:=v1,a5:=v2,a6:=v3}) s
def Kq:Den:=fun _ e s=>bP (ak (bI bp) g6 (cV (.i 2)) e) fun v0=>.au (cw e fun r=>{r with a7:=v0,a8:=v0}) s
def Be:aE:=lt (g0 e) fun v0=>bE (aq 52 [(cV v0), (cV (.i 25)), (cV (.i 8)), (cV (.i 0))] k e s) fun v1 s=>.au (cw e fun r=>{r with a9:=v0,a10:=v1}) s
def FD:aE:=lt (g0 e) fun v0=>lt (g0 e) fun v1=>bE (aq 76 [(cV v1), (cV (.str [84, 104, 114, 101, 97, 100])), (cV (.str [106, 111, 105, 110])), (cV (.str [40, 41, 86]))] k e s) fun v2 s=>bE (aq 52 [(cV v0), (cV (.i 182)), (cV v2), (cV (.i 0))] k e s) fun v3 s=>.au (cw e fun r=>{r with a11:=v0,a12:=v1,a13:=v2,a14:=v3}) s
def K_:Den:=fun _ e s=>bP (ak (bI bp) g6 (cV (.i 3)) e) fun v0=>.au (u32 (u31 e v0) v0) s
def Fh:aE:=lt (g0 e) fun v0=>lt (g0 e) fun v1=>pd bF v1 e fun v2=>pd (aF 0) v2 e fun v3=>pj v3 e s fun v4=>bE (aq 38 [(cV v4), (cV (.i 4))] k e s) fun v5 s=>pk (bI bD) (.i 3) v5 e fun v6=>bE (aq 52 [(cV v0), (cV v6), (cV (.i 0)), (cV (.i 0))] k e s) fun v7 s=>.au (cQ e fun r=>{r with a1:=v0,a2:=v1,a3:=v2,a4:=v3,a5:=v4,a6:=v5,a7:=v6,a8:=v7}) s
def Oy:aE:=lt (g0 e) fun v0=>lt (g0 e) fun v1=>bE (aq 76 [(cV v1), (cV (.str [83, 121, 115, 116, 101, 109])), (cV (.str [115, 108, 101, 101, 112])), (cV (.str [40, 73, 41, 86]))] k e s) fun v2 s=>bE (aq 52 [(cV v0), (cV (.i 184)), (cV v2), (cV (.i 0))] k e s) fun v3 s=>.au (cQ e fun r=>{r with a9:=v0,a10:=v1,a11:=v2,a12:=v3}) s
def ND:aE:=aa Uj (aG 0 (aa UC (av g7 (aa VM UF) (aa JQ (av g15 (aa Ca NS) (aa Kq (av g23 (aa Be FD) (aa K_ (av g31 (aa Fh Oy) az))))))))) k e s
def F91 : aX := ⟨[u0], ND, aL []⟩
theorem acH : aH tt [] fok Tryz.f91 = some F91 := by kernel_rfl
theorem RP : aI Tryz.prog [] 91 F91 := aI.of (aA bR bq mixed Tryz.func91 acH)
def VU:Den:=fun _ e s=>bE (cZ (kH g1 e s.next) s) fun v0 s=>bw (V.ay) fun v1=>bw (V.i 0) fun v2=>bw (V.i 0) fun v3=>.au (bG e fun r=>{r with a3:=v0,a4:=v1,a5:=v2,a6:=v3}) s
def TM:aE:=bP ((dh 5 g3) e s) fun v0=>bE (aq 98 [cV v0] k e s) fun v1 s=>pd gR v1 e fun v2=>.au (bG e fun r=>{r with a9:=v0,a10:=v1,a11:=v2}) s
def Wj:Den:=fun _ e s=>bw (V.ay) fun v0=>bw (V.i 0) fun v1=>bw (V.i 14) fun v2=>.au (bG e fun r=>{r with a4:=v0,a5:=v1,a6:=v2}) s
def X7:aE:=bE (cZ (cg 0 5 [] [] e s.next) s) fun v0 s=>lt (g0 e) fun v1=>bE (iX 5 (cV v0) (cV v1) k e s) fun v2 s=>.au (bG e fun r=>{r with a7:=v2,a12:=v0,a13:=v1,a14:=v2}) s
def Cp:Den:=fun _ e s=>bw (V.i 0) fun v0=>.au (u8 e v0) s
def Ii:Den:=fun _ e s=>lt (g8 e) fun v0=>lt (g0 e) fun v1=>pd aM v1 e fun v2=>pk (bI dW) v0 v2 e fun v3=>.au (cw (u15 e v0) fun r=>{r with a0:=v1,a1:=v2,a2:=v3}) s
def GA:Den:=fun _ e s=>lt (g0 e) fun v0=>lt (g8 e) fun v1=>pk (aP 5) v0 v1 e fun v2=>bP ((dh 5 (cV v2)) e s) fun v3=>bP ((dh 5 g3) e s) fun v4=>pk (LN false [.i, .i, .s, .s, .s]) v3 v4 e fun v5=>.au (cw e fun r=>{r with a5:=v0,a6:=v1,a7:=v2,a8:=v3,a9:=v4,a10:=v5}) s
def Mx:Den:=fun _ e s=>lt (g7 e) fun v0=>lt (g8 e) fun v1=>bw (V.i 0) fun v2=>.au (cw (bG e fun r=>{r with a4:=v0,a5:=v1,a6:=v2}) fun r=>{r with a11:=v0,a12:=v1}) s
def Mp:Den:=fun _ e s=>lt (g8 e) fun v0=>pk (bI bD) v0 (.i 1) e fun v1=>.au (cw (u8 e v1) fun r=>{r with a3:=v0,a4:=v1}) s
def HX:Den:=fun _ e s=>lt (g0 e) fun v0=>pd aM v0 e fun v1=>pk (bI m6) v1 (.i 256) e fun v2=>.au (cw e fun r=>{r with a13:=v0,a14:=v1,a15:=v2}) s
def E0:Den:=fun _ e s=>bw (V.ay) fun v0=>bw (V.i 0) fun v1=>bw (V.i 4) fun v2=>.au (bG e fun r=>{r with a4:=v0,a5:=v1,a6:=v2}) s
def Lv:aE:=lt (g7 e) fun v0=>bP ((dh 5 g3) e s) fun v1=>bE (cZ (cg 1 5 [(.i 0), (.int .i32 0), (.str []), (.str []), (.str [])] [(0, 5, (cV v1))] e s.next) s) fun v2 s=>bE (iX 5 (cV v0) (cV v2) k e s) fun v3 s=>lt (g0 e) fun v4=>pd aM v4 e fun v5=>bw (V.i 0) fun v6=>.au (cQ (bG e fun r=>{r with a4:=v3,a5:=v5,a6:=v6}) fun r=>{r with a0:=v0,a1:=v1,a2:=v2,a3:=v3,a4:=v4,a5:=v5}) s
def Ct:aE:=aa VU (aa (aa TM (av g11 (aa Wj aS) az)) (aa X7 (aa (aa Cp (aG 0 (bT (aa (aa Ii (av g18 az (bB 0))) (aa (aG 1 (aa GA (av g26 (aa Mx aS) az))) Mp))))) (aa (aa HX (av g31 (aa E0 aS) az)) (aa Lv aS))))) k e s
def F92 : aX := ⟨[u0, u1], Ct, aL [rT g4, rT g5, rT g6]⟩
theorem adL : aH tt [] fok Tryz.f92 = some F92 := by kernel_rfl
theorem UR : aI Tryz.prog [] 92 F92 := aI.of (aA bR bq mixed Tryz.func92 adL)
def SS:Den:=fun _ e s=>bE (cZ (kH g0 e s.next) s) fun v0 s=>bw (V.ay) fun v1=>bw (V.bool false) fun v2=>.au (bG e fun r=>{r with a1:=v0,a2:=v1,a3:=v2}) s
def U5:aE:=bP (aD (aF 1) g1 e) fun v0=>pj v0 e s fun v1=>bE (aq 35 [cV v1] k e s) fun v2 s=>.au (bG e fun r=>{r with a4:=v2,a6:=v0,a7:=v1,a8:=v2}) s
def Yk:Den:=fun _ e s=>bP (aD (aF 1) g1 e) fun v0=>pj v0 e s fun v1=>pk (bI bp) v1 (.i 132) e fun v2=>.au (bG e fun r=>{r with a9:=v0,a10:=v1,a11:=v2}) s
def SB:aE:=jO 1 [⟨none, (.p (aD (aF 1) g1)), u12⟩, ⟨none, (.d 0 2 (aQ g12)), u13⟩, ⟨none, (.p (aD (cT .u8) g13)), u14⟩, ⟨none, (.p (aD (aF 2) g1)), u15⟩, ⟨none, (.d 0 2 (aQ g15)), u16⟩, ⟨none, (.p (aD (cT .u8) g16)), u17⟩, ⟨none, (.p (aD (aF 3) g1)), u18⟩, ⟨none, (.d 0 2 (aQ g18)), u19⟩, ⟨none, (.p (aD (cT .u8) g19)), u20⟩, ⟨none, (.a (cg 3 1 [(.int .u8 0), (.int .u8 0), (.int .u8 0)] [(0, 1, g14), (1, 1, g17), (2, 1, g20)])), u21⟩, ⟨none, (.p (aD (aF 2) g1)), u22⟩, ⟨none, (.d 1 0 (aQ g22)), u23⟩, ⟨none, (.e [] (aq 99 [g23, (cV (.i 0)), (cV (.i 255))])), u24⟩, ⟨none, (.p (aC g24)), u25⟩, ⟨(some (25, true)), (.p (aD (aF 3) g1)), u26⟩, ⟨(some (25, true)), (.d 1 0 (aQ g26)), u27⟩, ⟨(some (25, true)), (.e [] (aq 99 [g27, (cV (.i (-128))), (cV (.i 127))])), u28⟩, ⟨none, (.p (aO g25 g28 (cV (.bool false)))), u29⟩, ⟨none, (.p (aC g21)), u2⟩, ⟨none, (.p (aC g29)), u3⟩] k e s
def HJ:Den:=fun _ e s=>bP (aD (aF 2) g1 e) fun v0=>pj v0 e s fun v1=>.au (cw (u5 e v1) fun r=>{r with a14:=v0,a15:=v1}) s
def Lk:aE:=bP (aD (aF 1) g1 e) fun v0=>pj v0 e s fun v1=>bE (aq 15 [cV v1] k e s) fun v2 s=>.au (cQ e fun r=>{r with a0:=v0,a1:=v1,a2:=v2}) s
def FE:aE:=bP (aD (aF 2) g1 e) fun v0=>pj v0 e s fun v1=>bE (aq 99 [(cV v1), (cV (.i (-1048576))), (cV (.i 1048576))] k e s) fun v2 s=>pd gR v2 e fun v3=>.au (cQ e fun r=>{r with a3:=v0,a4:=v1,a5:=v2,a6:=v3}) s
def Ab:Den:=fun _ e s=>bw (V.ay) fun v0=>bw (V.bool false) fun v1=>.au (bG e fun r=>{r with a2:=v0,a3:=v1}) s
def B8:Den:=fun _ e s=>bP (aD (aF 2) g1 e) fun v0=>pj v0 e s fun v1=>bP (aD (aF 0) g1 e) fun v2=>pj v2 e s fun v3=>pk (bI ei) v1 v3 e fun v4=>.au (cQ (u5 e v4) fun r=>{r with a7:=v0,a8:=v1,a9:=v2,a10:=v3,a11:=v4}) s
def Ia:Den:=fun _ e s=>lt (g4 e) fun v0=>pk (bI bp) v0 (.i 1) e fun v1=>.au (cQ e fun r=>{r with a12:=v1,a13:=v0,a14:=v1}) s
def Nf:aE:=fK [⟨none, (.p (aD (aF 1) g1)), u47⟩, ⟨none, (.d 0 0 (aQ g47)), u48⟩, ⟨none, (.p (aD (cT .u8) g48)), u49⟩, ⟨none, (.a (cg 1 1 [(.int .u8 0)] [(0, 1, g49)])), u50⟩, ⟨none, (.p (aD (aF 2) g1)), u51⟩, ⟨none, (.d 0 0 (aQ g51)), u52⟩, ⟨none, (.p (ak (bI bp) g52 (cV (.i 0)))), u53⟩, ⟨none, (.p (aC g53)), u54⟩, ⟨(some (54, true)), (.p (aD (aF 3) g1)), u55⟩, ⟨(some (54, true)), (.d 0 0 (aQ g55)), u56⟩, ⟨(some (54, true)), (.p (ak (bI bp) g56 (cV (.i 0)))), u57⟩, ⟨none, (.p (aO g54 g57 (cV (.bool false)))), u58⟩, ⟨none, (.p (aC g50)), u2⟩, ⟨none, (.p (aC g58)), u3⟩] k e s
def Mn:aE:=lt (g4 e) fun v0=>pk (bI bp) v0 (.i 2) e fun v1=>pf v1 true (aD (aF 1) g1 e) fun v2=>bP (aN v1 true ((aQ (cV v2)) e s)) fun v3=>bE (ia v1 true s (aq 36 [cV v3] k e s)) fun v4 s=>bP (aO (cV v1) (cV v4) (cV (.bool false)) e) fun v5=>.au (jh (eH e fun r=>{r with a11:=v5,a12:=v0,a13:=v1,a14:=v1,a15:=v2}) fun r=>{r with a0:=v3,a1:=v4,a2:=v5}) s
def Ln:aE:=jO 1 [⟨none, (.p (aD (aF 1) g1)), u67⟩, ⟨none, (.d 0 1 (aQ g67)), u68⟩, ⟨none, (.p (aD (cT .u8) g68)), u69⟩, ⟨none, (.p (aC g5)), u70⟩, ⟨none, (.p (aD (cT .u8) g70)), u71⟩, ⟨none, (.a (cg 2 1 [(.int .u8 0), (.int .u8 0)] [(0, 1, g69), (1, 1, g71)])), u72⟩, ⟨none, (.p (aD (aF 3) g1)), u73⟩, ⟨none, (.d 1 0 (aQ g73)), u74⟩, ⟨none, (.p (ak (bI bp) g74 (cV (.i 0)))), u75⟩, ⟨none, (.p (aC g75)), u76⟩, ⟨(some (76, true)), (.p (aC g5)), u77⟩, ⟨(some (76, true)), (.e [] (aq 99 [g77, (cV (.i (-128))), (cV (.i 127))])), u78⟩, ⟨none, (.p (aO g76 g78 (cV (.bool false)))), u79⟩, ⟨none, (.p (aC g72)), u2⟩, ⟨none, (.p (aC g79)), u3⟩] k e s
def LH:Den:=fun _ e s=>lt (g4 e) fun v0=>pk (bI bp) v0 (.i 2) e fun v1=>.au (kQ e fun r=>{r with a0:=v1,a1:=v0,a2:=v1}) s
def AF:aE:=jO 1 [⟨none, (.p (aD (aF 1) g1)), u83⟩, ⟨none, (.d 0 1 (aQ g83)), u84⟩, ⟨none, (.p (aD (cT .u8) g84)), u85⟩, ⟨none, (.p (aC g5)), u86⟩, ⟨none, (.p (aD (cT .u8) g86)), u87⟩, ⟨none, (.a (cg 2 1 [(.int .u8 0), (.int .u8 0)] [(0, 1, g85), (1, 1, g87)])), u88⟩, ⟨none, (.p (aD (aF 3) g1)), u89⟩, ⟨none, (.d 1 0 (aQ g89)), u90⟩, ⟨none, (.p (ak (bI bp) g90 (cV (.i 0)))), u91⟩, ⟨none, (.p (aC g91)), u92⟩, ⟨(some (92, true)), (.p (aC g5)), u93⟩, ⟨(some (92, true)), (.e [] (aq 99 [g93, (cV (.i 0)), (cV (.i 255))])), u94⟩, ⟨none, (.p (aO g92 g94 (cV (.bool false)))), u95⟩, ⟨none, (.p (aC g88)), u2⟩, ⟨none, (.p (aC g95)), u3⟩] k e s
def K4:aE:=bP (aD (aF 1) g1 e) fun v0=>pj v0 e s fun v1=>bE (aq 36 [cV v1] k e s) fun v2 s=>.au (kU e fun r=>{r with a0:=v2,a1:=v0,a2:=v1,a3:=v2}) s
def FW:aE:=jO 1 [⟨none, (.p (aD (aF 1) g1)), u100⟩, ⟨none, (.d 0 1 (aQ g100)), u101⟩, ⟨none, (.p (aD (cT .u8) g101)), u102⟩, ⟨none, (.p (aC g5)), u103⟩, ⟨none, (.p (ak (yI .shr .i64) g103 (cV (.int .u64 8)))), u104⟩, ⟨none, (.p (aD (cT .u8) g104)), u105⟩, ⟨none, (.p (aC g5)), u106⟩, ⟨none, (.p (aD (cT .u8) g106)), u107⟩, ⟨none, (.a (cg 3 1 [(.int .u8 0), (.int .u8 0), (.int .u8 0)] [(0, 1, g102), (1, 1, g105), (2, 1, g107)])), u108⟩, ⟨none, (.p (aD (aF 3) g1)), u109⟩, ⟨none, (.d 1 0 (aQ g109)), u110⟩, ⟨none, (.p (ak (bI bp) g110 (cV (.i 0)))), u111⟩, ⟨none, (.p (aC g111)), u112⟩, ⟨(some (112, true)), (.p (aC g5)), u113⟩, ⟨(some (112, true)), (.e [] (aq 99 [g113, (cV (.i (-32768))), (cV (.i 32767))])), u114⟩, ⟨none, (.p (aO g112 g114 (cV (.bool false)))), u115⟩, ⟨none, (.p (aC g108)), u2⟩, ⟨none, (.p (aC g115)), u3⟩] k e s
def EU:aE:=jO 1 [⟨none, (.p (aD (aF 1) g1)), u116⟩, ⟨none, (.d 0 1 (aQ g116)), u117⟩, ⟨none, (.p (aD (cT .u8) g117)), u118⟩, ⟨none, (.p (aC g5)), u119⟩, ⟨none, (.p (ak (yI .shr .i64) g119 (cV (.int .u64 8)))), u120⟩, ⟨none, (.p (aD (cT .u8) g120)), u121⟩, ⟨none, (.p (aC g5)), u122⟩, ⟨none, (.p (aD (cT .u8) g122)), u123⟩, ⟨none, (.a (cg 3 1 [(.int .u8 0), (.int .u8 0), (.int .u8 0)] [(0, 1, g118), (1, 1, g121), (2, 1, g123)])), u124⟩, ⟨none, (.p (aD (aF 3) g1)), u125⟩, ⟨none, (.d 1 0 (aQ g125)), u126⟩, ⟨none, (.p (ak (bI bp) g126 (cV (.i 0)))), u127⟩, ⟨none, (.p (aC g127)), u128⟩, ⟨(some (128, true)), (.p (aC g5)), u129⟩, ⟨(some (128, true)), (.e [] (aq 99 [g129, (cV (.i 0)), (cV (.i 65535))])), u130⟩, ⟨none, (.p (aO g128 g130 (cV (.bool false)))), u131⟩, ⟨none, (.p (aC g124)), u2⟩, ⟨none, (.p (aC g131)), u3⟩] k e s
def HK:aE:=aa SS (aa U5 (aa (aa Yk (av g11 (aa SB aS) az)) (aa HJ (aa (aa Lk (av g34 (aa (aa FE (av g38 (aa Ab aS) az)) B8) az)) (aa (aG 0 (aa Ia (av g44 (aa Nf aS) (aa Mn (av g59 (aa Ln aS) (aa LH (av g80 (aa AF aS) (aa K4 (av g96 (aa FW aS) az))))))))) (aa EU aS)))))) k e s
def F93 : aX := ⟨[u0], HK, aL [rT g2, rT g3]⟩
theorem aeF : aH tt [] fok Tryz.f93 = some F93 := by kernel_rfl
theorem WC : aI Tryz.prog [] 93 F93 := aI.of (aA bR bq mixed Tryz.func93 aeF)
def Q8:Den:=fun _ e s=>bw (V.i 0) fun v0=>.au (u2 e v0) s
def SQ:aE:=lt (g0 e) fun v0=>pd bF v0 e fun v1=>pd (aF 3) v1 e fun v2=>pj v2 e s fun v3=>pk (bI bD) v3 (.i 1) e fun v4=>pd bF v0 e fun v5=>pd (aF 3) v5 e fun v6=>bE (dJ 1 (cV v6) (cV v4) k e s) fun v7 s=>.au (bG e fun r=>{r with a3:=v0,a4:=v1,a5:=v2,a6:=v3,a7:=v4,a8:=v5,a9:=v6}) s
def SV:Den:=fun _ e s=>lt (g0 e) fun v0=>pd bF v0 e fun v1=>pd (aF 3) v1 e fun v2=>pj v2 e s fun v3=>pk (bI ei) v3 (.i 1) e fun v4=>.au (bG e fun r=>{r with a2:=v4,a10:=v0,a11:=v1,a12:=v2,a13:=v3,a14:=v4}) s
def CM:aE:=aa Q8 (aa SQ (aa SV aS)) k e s
def F95 : aX := ⟨[u0], CM, aL [rT g2]⟩
theorem acO : aH tt [] fok Tryz.f95 = some F95 := by kernel_rfl
theorem Ty : aI Tryz.prog [] 95 F95 := aI.of (aA bR bq mixed Tryz.func95 acO)
def VB:aE:=lt (g0 e) fun v0=>lt (g0 e) fun v1=>pd bF v1 e fun v2=>pd (aF 2) v2 e fun v3=>pj v3 e s fun v4=>lt (g1 e) fun v5=>bP (bM [(.i 0), (.i 0), (.i 0), (.i 0)] [(1, 1, (cV v5))] e) fun v6=>lt (g2 e) fun v7=>bP (bM [(.i 0), (.i 0), (.i 0), (.i 0), (.i 0), (.i 0)] [(0, 4, (cV v6)), (4, 1, (cV v7)), (5, 1, (cV (.i (-1))))] e) fun v8=>bE (cZ (cg 1 6 [(.i 0), (.i 0), (.i 0), (.i 0), (.i 0), (.i 0)] [(0, 6, (cV v8))] e s.next) s) fun v9 s=>bE (iX 6 (cV v4) (cV v9) k e s) fun v10 s=>pd bF v0 e fun v11=>pd (aF 2) v11 e fun v12=>bE (dJ 1 (cV v12) (cV v10) k e s) fun v13 s=>.au (cw (fV e fun a b c d f g _ _ _ _ _ _ _ _ _ _=>⟨a,b,c,d,f,g,v0,v1,v2,v3,v4,v5,v6,v7,v8,v9⟩) fun r=>{r with a0:=v10,a1:=v11,a2:=v12}) s
def Uu:aE:=lt (g0 e) fun v0=>pd bF v0 e fun v1=>pd (aF 5) v1 e fun v2=>pj v2 e s fun v3=>pk (bI ei) v3 (.i 1) e fun v4=>pd bF v0 e fun v5=>pd (aF 5) v5 e fun v6=>bE (dJ 1 (cV v6) (cV v4) k e s) fun v7 s=>.au (cw e fun r=>{r with a3:=v0,a4:=v1,a5:=v2,a6:=v3,a7:=v4,a8:=v5,a9:=v6}) s
def BF:aE:=aa VB Uu k e s
def F96 : aX := ⟨[u0, u1, u2], BF, aL []⟩
theorem aeo : aH tt [] fok Tryz.f96 = some F96 := by kernel_rfl
theorem XI : aI Tryz.prog [] 96 F96 := aI.of (aA bR bq mixed Tryz.func96 aeo)
def Dy:aE:=lt (g0 e) fun v0=>lt (g0 e) fun v1=>pd bF v1 e fun v2=>pd (aF 2) v2 e fun v3=>pj v3 e s fun v4=>bP (bM [(.i 0), (.i 0), (.i 0), (.i 0)] [(1, 1, (cV (.i (-1))))] e) fun v5=>lt (g1 e) fun v6=>bP (bM [(.i 0), (.i 0), (.i 0), (.i 0), (.i 0), (.i 0)] [(0, 4, (cV v5)), (4, 1, (cV (.i (-1)))), (5, 1, (cV v6))] e) fun v7=>bE (cZ (cg 1 6 [(.i 0), (.i 0), (.i 0), (.i 0), (.i 0), (.i 0)] [(0, 6, (cV v7))] e s.next) s) fun v8 s=>bE (iX 6 (cV v4) (cV v8) k e s) fun v9 s=>pd bF v0 e fun v10=>pd (aF 2) v10 e fun v11=>bE (dJ 1 (cV v11) (cV v9) k e s) fun v12 s=>.au (fV e fun a b c d _ _ _ _ _ _ _ _ _ _ _ _=>⟨a,b,c,d,v0,v1,v2,v3,v4,v5,v6,v7,v8,v9,v10,v11⟩) s
def F97 : aX := ⟨[u0, u1], Dy, aL []⟩
theorem aep : aH tt [] fok Tryz.f97 = some F97 := by kernel_rfl
theorem WS : aI Tryz.prog [] 97 F97 := aI.of (aA bR bq mixed Tryz.func97 aep)
noncomputable def F98 : aX := iC (uI lR)
def Q9:Den:=fun _ e s=>bw (V.bool false) fun v0=>.au (u6 e v0) s
def Uc:Den:=fun _ e s=>lt (g0 e) fun v0=>lt (g1 e) fun v1=>pk (bI m6) v0 v1 e fun v2=>pf v2 true (aC g0 e) fun v3=>pf v2 true (aC g2 e) fun v4=>pf v2 true (ak (bI zM) (cV v3) (cV v4) e) fun v5=>bP (aO (cV v2) (cV v5) (cV (.bool false)) e) fun v6=>.au (fV e fun a b c d f g _ _ _ _ _ _ _ _ _ r=>⟨a,b,c,d,f,g,v6,v0,v1,v2,v2,v3,v4,v5,v6,r⟩) s
def JC:aE:=aa Q9 (aa Uc aS) k e s
def F99 : aX := ⟨[u0, u1, u2], JC, aL [rT g6]⟩
theorem aeP : aH tt [] fok Tryz.f99 = some F99 := by kernel_rfl
theorem Vk : aI Tryz.prog [] 99 F99 := aI.of (aA bR bq mixed Tryz.func99 aeP)
end
end Go.Proofs.YtcgdlgbomjnnnaaGreatLab
