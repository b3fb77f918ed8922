/- The lab: marker.words, by its contract. No condition on the program. Pruned. -/
import Derived.Test.YtgkcpceppmppfaaLabG0
import Derived.Test.YtgkcpceppmppfaaLabAn
namespace Go.Proofs.YtgkcpceppmppfaaLab
open Go Go.Proofs Go.RowKit Go.Maps Go.Sort Go.Shelf
set_option linter.all false
set_option maxRecDepth 100000
noncomputable section
noncomputable def tblW : T FDen := (.node noF (.node noF (.node noF (.node noF (.node noF (.node noF .nil .nil) (.node noF .nil .nil)) (.node noF (.node noF .nil .nil) .nil)) (.node noF (.node noF (.node noF .nil .nil) (.node F51 .nil .nil)) (.node noF (.node noF .nil .nil) .nil))) (.node noF (.node noF (.node noF (.node noF .nil .nil) (.node noF .nil .nil)) (.node noF (.node noF .nil .nil) .nil)) (.node noF (.node noF (.node noF .nil .nil) .nil) (.node noF (.node noF .nil .nil) .nil)))) (.node noF (.node noF (.node noF (.node noF (.node noF .nil .nil) (.node noF .nil .nil)) (.node noF (.node noF .nil .nil) .nil)) (.node noF (.node noF (.node noF .nil .nil) .nil) (.node noF (.node noF .nil .nil) .nil))) (.node noF (.node noF (.node noF (.node noF .nil .nil) (.node F50 .nil .nil)) (.node noF (.node noF .nil .nil) .nil)) (.node noF (.node noF (.node noF .nil .nil) .nil) (.node noF (.node noF .nil .nil) .nil)))))
theorem tblWOk : T.All (FRun Try.prog []) tblW := (T.All.node (FRun.no _) (T.All.node (FRun.no _) (T.All.node (FRun.no _) (T.All.node (FRun.no _) (T.All.node (FRun.no _) (T.All.node (FRun.no _) T.All.nil T.All.nil) (T.All.node (FRun.no _) T.All.nil T.All.nil)) (T.All.node (FRun.no _) (T.All.node (FRun.no _) T.All.nil T.All.nil) T.All.nil)) (T.All.node (FRun.no _) (T.All.node (FRun.no _) (T.All.node (FRun.no _) T.All.nil T.All.nil) (T.All.node run51 T.All.nil T.All.nil)) (T.All.node (FRun.no _) (T.All.node (FRun.no _) T.All.nil T.All.nil) T.All.nil))) (T.All.node (FRun.no _) (T.All.node (FRun.no _) (T.All.node (FRun.no _) (T.All.node (FRun.no _) T.All.nil T.All.nil) (T.All.node (FRun.no _) T.All.nil T.All.nil)) (T.All.node (FRun.no _) (T.All.node (FRun.no _) T.All.nil T.All.nil) T.All.nil)) (T.All.node (FRun.no _) (T.All.node (FRun.no _) (T.All.node (FRun.no _) T.All.nil T.All.nil) T.All.nil) (T.All.node (FRun.no _) (T.All.node (FRun.no _) T.All.nil T.All.nil) T.All.nil)))) (T.All.node (FRun.no _) (T.All.node (FRun.no _) (T.All.node (FRun.no _) (T.All.node (FRun.no _) (T.All.node (FRun.no _) T.All.nil T.All.nil) (T.All.node (FRun.no _) T.All.nil T.All.nil)) (T.All.node (FRun.no _) (T.All.node (FRun.no _) T.All.nil T.All.nil) T.All.nil)) (T.All.node (FRun.no _) (T.All.node (FRun.no _) (T.All.node (FRun.no _) T.All.nil T.All.nil) T.All.nil) (T.All.node (FRun.no _) (T.All.node (FRun.no _) T.All.nil T.All.nil) T.All.nil))) (T.All.node (FRun.no _) (T.All.node (FRun.no _) (T.All.node (FRun.no _) (T.All.node (FRun.no _) T.All.nil T.All.nil) (T.All.node run50 T.All.nil T.All.nil)) (T.All.node (FRun.no _) (T.All.node (FRun.no _) T.All.nil T.All.nil) T.All.nil)) (T.All.node (FRun.no _) (T.All.node (FRun.no _) (T.All.node (FRun.no _) T.All.nil T.All.nil) T.All.nil) (T.All.node (FRun.no _) (T.All.node (FRun.no _) T.All.nil T.All.nil) T.All.nil)))))
noncomputable def k2 : KC := kc tblW 1152921504606846976 2
theorem quiet51 (n : Nat) : Quiet (kc tblW 1152921504606846976 (n + 1)) 51 := kc_q (F := F51) rfl fun e s => by
 show RQ s (dSeq p51_1 (dSeq p51_3 dRet) _ e s)
 refine RQ.seq RQ.nrm fun e => RQ.seq ?_ fun e => RQ.ret
 unfold p51_3; dsimp only [lt, ltc]; repeat (refine RQ.bP fun _ => ?_)
 exact RQ.nrm
theorem quiet50 : Quiet k2 50 := kc_q (F := F50) rfl fun e s => by
 have h : Quiet (kc tblW 1152921504606846976 1) 51 := quiet51 0
 show RQ s (dSeq p50_1 (dSeq (dSeq p50_4 (dCond g8 (dSeq p50_7 dRet) dSkip)) (dSeq p50_9 dRet)) _ e s)
 refine RQ.seq RQ.nrm fun e => RQ.seq (RQ.seq ?_ fun e => RQ.cond (RQ.seq RQ.nrm fun e => RQ.ret) RQ.skip) fun e => RQ.seq ?_ fun e => RQ.ret
 · unfold p50_4; dsimp only [lt, ltc]
   refine RQ.bE (fun v s1 hx => h _ _ _ _ hx) fun v => ?_
   repeat (refine RQ.bP fun _ => ?_)
   exact RQ.nrm
 · unfold p50_9; dsimp only [lt, ltc]; repeat (refine RQ.bP fun _ => ?_)
   exact RQ.nrm
theorem k2Ok : KOk Try.prog [] k2 := kc_run tblWOk 1152921504606846976 2
noncomputable def F47 : FDen := fOne (wordsV k2 50 1)
theorem run47 : FRun Try.prog [] 47 F47 :=
 words_run Try.underlying3 k2Ok quiet50 fun mb mo b n hv D0 lenf w J h1 h2 h3 h4 h5 h6 h7 h8 => callsIn_wide.1 (words_any mb mo b n hv D0 noR lenf w J h1 h2 h3 h4 h5 (fun x hx wr hw => callsIn_wide.2 (h6 x hx wr hw)) h7 h8)
end
end Go.Proofs.YtgkcpceppmppfaaLab
