/- Parts of the proof: contracts of functions, joined. No condition on the program. -/
import Derived.Test.YtgkcpceppmppfaaJ0
namespace Go.Proofs.YtgkcpceppmppfaaLab
open Go
set_option linter.all false
set_option maxRecDepth 10000
noncomputable section
theorem fok62 : fok.get 62 = some true := (rfl)
def okRf (os : List O) (r : Int) : Bool := decide (r = 0) || (at? os r).isSome
theorem okRf_iff {os : List O} {r : Int} : okRf os r = true ↔ r = 0 ∨ (at? os r).isSome := by
 unfold okRf; rw [Bool.or_eq_true, decide_eq_true_eq]
theorem rootOk_iff {os : List O} {roots : List Int} : RootOk os roots ↔ roots.all (okRf os) = true := by
 unfold RootOk; rw [List.all_eq_true]
 exact ⟨fun h r hr => okRf_iff.2 (h r hr), fun h r hr => okRf_iff.1 (h r hr)⟩
section
variable {s : St} {p bw bb n bm : Nat} {os : List O} {z : List Int} {shapes : List (List Bool)} {F : List Nat} (H : HS s p bw bb n os z shapes bm F)
include H
theorem HS.isN (d : Nat) (r : Int) : (K (d + 3)).call 53 [.ptr p 0, .i r] s = some (.bool (okRf os r), s) := by
 obtain ⟨sh, hA, hS⟩ := H.H
 have es := hA.shape d r
 rw [op53]
 unfold okRf
 by_cases c : r = 0
 · simp -implicitDefEqProofs (maxSteps := 5000000) (disch := first | assumption | omega | (simp only [dz, dl, Nat.zero_add, Nat.reduceAdd, Bool.and_self]; done) | (simp only [dl]; omega)) only [go_sem, c, eq_self, Bool.true_or]
 · have c3 : decide (-3 < shapeO os r) = (at? os r).isSome := by
    unfold shapeO
    cases ho : at? os r with
    | none => simp
    | some o =>
      rcases H.ok o (at_mem ho) with h | h | ⟨h, _⟩ <;> simp <;> omega
   simp -implicitDefEqProofs (maxSteps := 5000000) (disch := first | assumption | omega | (simp only [dz, dl, Nat.zero_add, Nat.reduceAdd, Bool.and_self]; done) | (simp only [dl]; omega)) only [go_sem, c, es, c3, Bool.false_or]
theorem HS.is62 {hb : Nat} (hh : s.cl hb = some [.ptr p 0]) (d : Nat) (r : Int) : (K (d + 4)).call 62 [.i r, .ptr hb 0] s = some (.bool (!okRf os r), s) := by
 have e1 := H.isN d r
 rw [op62]
 simp -implicitDefEqProofs (maxSteps := 5000000) (disch := first | assumption | omega | (simp only [dz, dl, Nat.zero_add, Nat.reduceAdd, Bool.and_self]; done) | (simp only [dl]; omega)) only [go_sem, dLd_at H.wf hh, e1]
theorem HS.index {hb : Nat} (hh : s.cl hb = some [.ptr p 0]) {v : V} {roots : List Int} (hk : SL s v (roots.map .i)) (hl : roots.length ≤ 100000) (d : Nat) : Ret ((K (d + 5)).call 72 [v, .func 62 [] [.ptr hb 0]] s) fun x t => t = s ∧ ∃ j : Int, x = .i j ∧ decide (0 ≤ j) = !(roots.all (okRf os)) := by
 have hw := H.wf
 have hlen := hk.len
 rw [List.length_map] at hlen
 simp -implicitDefEqProofs (maxSteps := 5000000) (disch := first | assumption | omega | (simp only [dz, dl, Nat.zero_add, Nat.reduceAdd, Bool.and_self]; done) | (simp only [dl]; omega)) only [op72, go_sem, fAdd_eq, hlen]
 refine loop_at (Q := fun r => Ret (retR _ (seqR (blkR 0 r) _)) _) (fun m e t => ∃ j : Nat, m = roots.length - j ∧ j ≤ roots.length ∧ t = s ∧ (roots.take j).all (okRf os) = true ∧ g0 e = v ∧ g1 e = .func 62 [] [.ptr hb 0] ∧ g7 e = .i (roots.length : Nat) ∧ g8 e = .i j) ?_ (n := roots.length) (by omega) ⟨0, by omega, by omega, rfl, by simp, (by first | trivial | rfl | assumption), (by first | trivial | rfl | assumption), (by first | trivial | rfl | assumption), (by first | trivial | rfl | assumption)⟩
 rintro m e t ⟨j, rfl, hj, rfl, ha, i0, i1, i7, i8⟩
 replace i0 : e.a0.a0 = _ := i0
 replace i1 : e.a0.a1 = _ := i1
 replace i7 : e.a0.a7 = _ := i7
 replace i8 : e.a0.a8 = _ := i8
 by_cases c : (j : Int) < ((roots.length : Nat) : Int)
 · obtain ⟨r, hr⟩ : ∃ r, roots[j]? = some r := ⟨_, List.getElem?_eq_getElem (by omega)⟩
   obtain ⟨q, a1, a2⟩ := hk.at hw (j := j) (x := .i r) (by rw [List.getElem?_map, hr]; rfl)
   have e1 := H.is62 hh d r
   have hts := take_snoc hr
   cases ho : okRf os r with
   | true =>
     rw [ho] at e1
     simp -implicitDefEqProofs (maxSteps := 5000000) (disch := first | assumption | omega | (simp only [dz, dl, Nat.zero_add, Nat.reduceAdd, Bool.and_self]; done) | (simp only [dl]; omega)) only [go_sem, fAdd_eq, i0, i1, i7, i8, c, a1, a2, cvV_func fok62, List.nil_append, List.cons_append, e1]
     exact ⟨roots.length - (j + 1), by omega, j + 1, rfl, by omega, (by first | trivial | rfl | assumption), by rw [hts, List.all_append, ha]; simp [ho], (by first | trivial | rfl | assumption), (by first | trivial | rfl | assumption), (by first | trivial | rfl | assumption), (by first | trivial | rfl | assumption)⟩
   | false =>
     rw [ho] at e1
     simp -implicitDefEqProofs (maxSteps := 5000000) (disch := first | assumption | omega | (simp only [dz, dl, Nat.zero_add, Nat.reduceAdd, Bool.and_self]; done) | (simp only [dl]; omega)) only [go_sem, fAdd_eq, i0, i1, i7, i8, c, a1, a2, cvV_func fok62, List.nil_append, List.cons_append, e1]
     refine ⟨(by first | trivial | rfl | assumption), _, rfl, ?_⟩
     have : roots.all (okRf os) = false := by
      rw [← Bool.not_eq_true, List.all_eq_true]
      intro h; rw [h r (List.mem_of_getElem? hr)] at ho; cases ho
     rw [this, decide_eq_true (by omega)]; rfl
 · have : j = roots.length := by omega
   subst this
   rw [List.take_length] at ha
   simp -implicitDefEqProofs (maxSteps := 5000000) (disch := first | assumption | omega | (simp only [dz, dl, Nat.zero_add, Nat.reduceAdd, Bool.and_self]; done) | (simp only [dl]; omega)) only [go_sem, fAdd_eq, i0, i1, i7, i8, c]
   exact ⟨(by first | trivial | rfl | assumption), _, rfl, by rw [ha]; rfl⟩
theorem HS.contains {hb : Nat} (hh : s.cl hb = some [.ptr p 0]) {v : V} {roots : List Int} (hk : SL s v (roots.map .i)) (hl : roots.length ≤ 100000) (d : Nat) : (K (d + 6)).call 61 [v, .func 62 [] [.ptr hb 0]] s = some (.bool (!(roots.all (okRf os))), s) := by
 obtain ⟨x, t, e1, rfl, j, rfl, h⟩ := H.index hh hk hl d
 rw [op61]
 simp -implicitDefEqProofs (maxSteps := 5000000) (disch := first | assumption | omega | (simp only [dz, dl, Nat.zero_add, Nat.reduceAdd, Bool.and_self]; done) | (simp only [dl]; omega)) only [go_sem, e1, h]
end
end
end Go.Proofs.YtgkcpceppmppfaaLab
namespace Go.Proofs.YtgkcpceppmppfaaLab
open Go
set_option linter.all false
set_option maxRecDepth 10000
noncomputable section
def metP (met : List Int) : List (Int × Int) := met.mapIdx fun i x => (x, (i : Int))
def metE (met : List Int) : List (V × V) := pairsI (metP met)
theorem metP_fst (met : List Int) : (metP met).map (·.1) = met := by
 unfold metP
 refine List.ext_getElem? fun i => ?_
 simp
 cases met[i]? <;> rfl
theorem metE_len (met : List Int) : (metE met).length = met.length := by simp [metE, pairsI, metP]
theorem metE_snoc (met : List Int) (r : Int) : metE (met ++ [r]) = metE met ++ [(.i r, .i (met.length : Nat))] := by
 unfold metE metP
 rw [List.mapIdx_concat]
 simp [pairsI]
theorem findP_none {x : Int} : ∀ {l : List (Int × Int)} {j : Nat}, x ∉ l.map (·.1) → findP x l j = none
 | [], j, _ => rfl
 | (y, v) :: l, j, h => by
   simp only [List.map_cons, List.mem_cons, not_or] at h
   unfold findP
   rw [if_neg h.1]
   exact findP_none h.2
theorem findP_some {x : Int} : ∀ {l : List (Int × Int)} {j : Nat}, x ∈ l.map (·.1) → ∃ p, findP x l j = some p
 | [], j, h => by simp at h
 | (y, v) :: l, j, h => by
   unfold findP
   by_cases e : x = y
   · rw [if_pos e]; exact ⟨_, rfl⟩
   · rw [if_neg e]
     refine findP_some ?_
     simpa [e] using h
theorem metE_none {met : List Int} {x : Int} (h : x ∉ met) : findV eqKI (.i x) (metE met) 0 = some none := by
 unfold metE
 rw [findV_pairsI, findP_none (by rw [metP_fst]; exact h)]; rfl
theorem metE_some {met : List Int} {x : Int} (h : x ∈ met) : ∃ n v, findV eqKI (.i x) (metE met) 0 = some (some (n, .i v)) := by
 unfold metE
 obtain ⟨p, hp⟩ := findP_some (x := x) (l := metP met) (j := 0) (by rw [metP_fst]; exact h)
 rw [findV_pairsI, hp]; exact ⟨_, _, rfl⟩
theorem dLenM_eq {s : St} {b : Nat} {es : List (V × V)} {bs : List Nat} {cl : Nat} (h : s.mp b = some (es, bs, cl)) : lenMP (.map b) s = some (.i (es.length : Nat)) := by
 show (match mapOf s (.map b) with | some es => some (V.i (Int.ofNat es.length)) | none => none) = _
 rw [mapOf_mp h]; rfl
structure MK (s0 s : St) (m mb p : Nat) (met todo : List Int) (steps : Nat) : Prop where
 f : Fr s0 s []
 hm : s0.next ≤ m ∧ s0.next ≤ mb
 ex : ∃ tv, s.cl m = some [.ptr p 0, .map mb, tv, .i steps] ∧ GP s tv (todo.map .i) ∧ ∀ b ∈ blkV tv, s0.next ≤ b ∧ b ≠ m
 mp : s.mp mb = some (metE met, List.range met.length, met.length)
theorem MK.fr {s0 s s' : St} {m mb p : Nat} {met todo : List Int} {steps : Nat} (h : MK s0 s m mb p met todo steps) (f : Fr s s' []) : MK s0 s' m mb p met todo steps := by
 obtain ⟨tv, h1, h2, h3⟩ := h.ex
 exact ⟨h.f.trans f, h.hm, ⟨tv, f.cl h.f.wf h1 (by simp), h2.fr h.f.wf f (by simp), h3⟩, f.mp h.f.wf h.mp (by simp)⟩
def markM (met : List Int) (r : Int) : List Int := if r ∈ met ∨ r = 0 then met else met ++ [r]
def markT (met todo : List Int) (r : Int) : List Int := if r ∈ met ∨ r = 0 then todo else todo ++ [r]
theorem MK.mark {s0 s : St} {m mb p : Nat} {met todo : List Int} {steps : Nat} (H : MK s0 s m mb p met todo steps) (d : Nat) (r : Int) (hs : steps < 1000000000) (hl : todo.length ≤ 1000000) :
 ∃ s', (K (d + 1)).call 73 [.ptr m 0, .i r] s = some (.tup [], s') ∧ MK s0 s' m mb p (markM met r) (markT met todo r) (steps + 1) := by
 obtain ⟨tv, h1, h2, h3⟩ := H.ex
 have hw := H.f.wf
 have hm := H.mp
 have hne : m ≠ mb := cl_mp_ne hw h1 hm
 obtain ⟨s1, p1, c1, f1, n1⟩ := eSt_ex (s := s) (b := m) (o := 3) (v := .i ((steps : Int) + 1)) hw h1 (by simp) rfl
 simp only [List.set_cons_zero, List.set_cons_succ] at c1
 have m1 := f1.mp hw hm (by simpa using hne.symm)
 have g1' := h2.fr hw f1 (fun b hb => by simp; exact (h3 b hb).2)
 have F1 : Fr s0 s1 [] := H.f.trans' f1 (fun b hb => .inr (by simp at hb; subst hb; exact H.hm.1))
 have hcast : ((steps : Int) + 1) = ((steps + 1 : Nat) : Int) := by omega
 have c1' : s1.cl m = some [.ptr p 0, .map mb, tv, .i ((steps + 1 : Nat) : Int)] := by rw [c1, hcast]
 rw [op73]
 by_cases hin : r ∈ met
 · obtain ⟨n, v, hf⟩ := metE_some hin
   refine ⟨s1, ?_, ?_⟩
   · simp -implicitDefEqProofs (maxSteps := 5000000) (disch := first | assumption | omega | (simp only [dz, dl, Nat.zero_add, Nat.reduceAdd, Bool.and_self]; done) | (simp only [dl]; omega)) only [go_sem, fAdd_eq, dLd_at hw h1, p1, dLd_at f1.wf c1, dLk_eq m1, lkV_some hf]
   · unfold markM markT
     rw [if_pos (.inl hin), if_pos (.inl hin)]
     exact ⟨F1, H.hm, ⟨tv, c1', g1', h3⟩, m1⟩
 · have hf := metE_none hin
   by_cases h0 : r = 0
   · refine ⟨s1, ?_, ?_⟩
     · simp -implicitDefEqProofs (maxSteps := 5000000) (disch := first | assumption | omega | (simp only [dz, dl, Nat.zero_add, Nat.reduceAdd, Bool.and_self]; done) | (simp only [dl]; omega)) only [go_sem, fAdd_eq, dLd_at hw h1, p1, dLd_at f1.wf c1, dLk_eq m1, lkV_none hf, h0, eq_self]
       simp only [h0] at hf
       simp -implicitDefEqProofs (maxSteps := 5000000) (disch := first | assumption | omega | (simp only [dz, dl, Nat.zero_add, Nat.reduceAdd, Bool.and_self]; done) | (simp only [dl]; omega)) only [go_sem, fAdd_eq, dLk_eq m1, lkV_none hf]
     · unfold markM markT
       rw [if_pos (.inr h0), if_pos (.inr h0)]
       exact ⟨F1, H.hm, ⟨tv, c1', g1', h3⟩, m1⟩
   · obtain ⟨s2, p2, m2, f2, n2⟩ := eMu_new (y := .i ((metE met).length : Nat)) f1.wf m1 hf
     have c2 := f2.cl f1.wf c1' (by simpa using hne)
     have g2' := g1'.fr f1.wf f2 (fun b hb => by
      rcases g1' with ⟨_, rfl⟩ | ⟨b1, L, rfl, hc, _⟩
      · simp [blkV] at hb
      · simp [blkV] at hb; subst hb; simp; exact cl_mp_ne f1.wf hc m1)
     obtain ⟨s3, s4, p3, p4, g4', f4, n4⟩ := g2'.push f2.wf (x := .i r) rfl (fun y hy => by obtain ⟨a, _, rfl⟩ := List.mem_map.1 hy; rfl) (by rw [List.length_map]; omega)
     have c4 := f4.cl f2.wf c2 (fun hm' => (h3 _ hm').2 rfl)
     obtain ⟨s5, p5, c5, f5, n5⟩ := eSt_ex (s := s4) (b := m) (o := 2) (v := .slice (s2.next + 1) 0 ((todo.map V.i).length + 1) none 1) f4.wf c4 (by simp) rfl
     simp only [List.set_cons_zero, List.set_cons_succ] at c5
     have hml := cl_lt f2.wf c2
     have hn0 := F1.nx
     have g5' := g4'.fr f4.wf f5 (fun b hb => by simp [blkV] at hb; subst hb; simp; omega)
     have m4 : s4.mp mb = some (metE met ++ [(.i r, .i ((metE met).length : Nat))], List.range met.length ++ [met.length], met.length + 1) := f4.mp f2.wf m2 (fun hm' => by
      rcases g2' with ⟨_, rfl⟩ | ⟨b1, L, rfl, hc, _⟩
      · simp [blkV] at hm'
      · simp [blkV] at hm'; subst hm'; exact cl_mp_ne f2.wf hc m2 rfl)
     have m5 := f5.mp f4.wf m4 (by simpa using hne.symm)
     refine ⟨s5, ?_, ?_⟩
     · simp -implicitDefEqProofs (maxSteps := 5000000) (disch := first | assumption | omega | (simp only [dz, dl, Nat.zero_add, Nat.reduceAdd, Bool.and_self]; done) | (simp only [dl]; omega)) only [go_sem, fAdd_eq, dLd_at hw h1, p1, dLd_at f1.wf c1, dLk_eq m1, lkV_none hf, h0, dLenM_eq m1, p2, dLd_at f2.wf c2, p3, p4, p5]
     · unfold markM markT
       rw [if_neg (by simp [hin, h0]), if_neg (by simp [hin, h0])]
       refine ⟨((F1.trans' f2 (fun b hb => .inr (by simp at hb; subst hb; exact H.hm.2))).trans' f4 (fun b hb => .inr (h3 b hb).1)).trans' f5 (fun b hb => .inr (by simp at hb; subst hb; exact H.hm.1)), H.hm, ⟨_, c5, ?_, fun b hb => ?_⟩, ?_⟩
       · rw [List.map_append]; exact g5'.gp
       · simp [blkV] at hb; subst hb; omega
       · rw [m5, metE_snoc, metE_len, List.length_append, List.length_singleton, List.range_succ]
end
end Go.Proofs.YtgkcpceppmppfaaLab
namespace Go.Proofs.YtgkcpceppmppfaaLab
open Go
set_option linter.all false
set_option maxRecDepth 10000
noncomputable section
theorem markM_mem {met : List Int} {r x : Int} : x ∈ markM met r ↔ x ∈ met ∨ (x = r ∧ r ≠ 0) := by
 unfold markM
 by_cases h : r ∈ met ∨ r = 0
 · rw [if_pos h]
   constructor
   · exact .inl
   · rintro (h' | ⟨rfl, h0⟩)
     · exact h'
     · exact h.resolve_right h0
 · rw [if_neg h, List.mem_append, List.mem_singleton]
   constructor
   · rintro (h' | rfl)
     · exact .inl h'
     · exact .inr ⟨rfl, fun h0 => h (.inr h0)⟩
   · rintro (h' | ⟨rfl, _⟩)
     · exact .inl h'
     · exact .inr rfl
structure MI (os : List O) (shapes : List (List Bool)) (roots met todo out : List Int) : Prop where
 so : ∀ r ∈ met, Reach os shapes roots r
 nd : met.Nodup
 ps : met.Perm (out ++ todo)
theorem MI.mark {os : List O} {shapes : List (List Bool)} {roots met todo out : List Int} (h : MI os shapes roots met todo out) {r : Int} (hr : r = 0 ∨ Reach os shapes roots r) : MI os shapes roots (markM met r) (markT met todo r) out := by
 refine ⟨fun x hx => ?_, ?_, ?_⟩
 · rcases markM_mem.1 hx with hx | ⟨rfl, h0⟩
   · exact h.so x hx
   · exact hr.resolve_left h0
 · unfold markM
   by_cases c : r ∈ met ∨ r = 0
   · rw [if_pos c]; exact h.nd
   · rw [if_neg c, List.nodup_append]
     exact ⟨h.nd, by simp, fun a ha b hb e => by simp at hb; subst hb; subst e; exact c (.inl ha)⟩
 · unfold markM markT
   by_cases c : r ∈ met ∨ r = 0
   · rw [if_pos c, if_pos c]; exact h.ps
   · rw [if_neg c, if_neg c, ← List.append_assoc]; exact h.ps.append_right _
def DoneM (os : List O) (shapes : List (List Bool)) (met out : List Int) : Prop := ∀ r ∈ out, ∀ o, at? os r = some o → ∀ (k : Nat) x, o.f[k]? = some x → refB shapes o k = true → x = 0 ∨ x ∈ met
theorem DoneM.mono {os : List O} {shapes : List (List Bool)} {met met' out : List Int} (h : DoneM os shapes met out) (hm : ∀ x ∈ met, x ∈ met') : DoneM os shapes met' out := fun r hr o ho k x hx hb => (h r hr o ho k x hx hb).imp_right (hm x)
theorem rnd_inv {r : Res} {N : E → St → Prop} (h : rnd r N fun _ => False) : ∃ e s, r = .nrm e s ∧ N e s := by
 unfold rnd at h
 cases r with
 | nrm e s => exact ⟨e, s, rfl, h⟩
 | _ => exact h.elim
section
variable {s0 : St} {p bw bb n bm : Nat} {os : List O} {z : List Int} {shapes : List (List Bool)} {F : List Nat} (H : HS s0 p bw bb n os z shapes bm F)
include H
theorem HS.lay_le : (lay os).length ≤ 20000 := by
 obtain ⟨sh, hA, _⟩ := H.H
 have := hA.size
 have := hA.nn
 omega
theorem MK.fields (hRf : RefOk os shapes) {s : St} {m mb : Nat} {met todo roots out : List Int} {steps : Nat} (M : MK s0 s m mb p met todo steps) {r : Int} {o : O} (ho : at? os r = some o) (I : MI os shapes roots met todo (out ++ [r])) (hR : Reach os shapes roots r) (hst0 : steps ≤ 100000000) (d : Nat) {e : E} (i0 : g0 e = .ptr m 0) (i6 : g6 e = .i r) (i57 : g57 e = .i (o.f.length : Nat)) (i58 : g58 e = .i 0) (hl : met.length ≤ 100000) :
 rnd (p63_28 (K (d + 4)) e s) (fun e' t => g0 e' = .ptr m 0 ∧ ∃ met' todo' steps', MK s0 t m mb p met' todo' steps' ∧ MI os shapes roots met' todo' (out ++ [r]) ∧ (∀ x ∈ met, x ∈ met') ∧ met'.length ≤ met.length + o.f.length ∧ steps' ≤ steps + 2 * o.f.length ∧ (∀ (k : Nat) x, o.f[k]? = some x → refB shapes o k = true → x = 0 ∨ x ∈ met')) (fun _ => False) := by
 have hol : o.f.length ≤ 20000 := by
  have := (lay_lt ho).2
  have hn : o.n = 3 + o.f.length := rfl
  have := H.lay_le
  omega
 replace i0 : e.a0.a0 = _ := i0
 replace i6 : e.a0.a6 = _ := i6
 replace i57 : e.a3.a9 = _ := i57
 replace i58 : e.a3.a10 = _ := i58
 simp -implicitDefEqProofs (maxSteps := 5000000) (disch := first | assumption | omega | (simp only [dz, dl, Nat.zero_add, Nat.reduceAdd, Bool.and_self]; done) | (simp only [dl]; omega)) only [go_sem, fAdd_eq, p63_28.eq_1]
 refine loop_at (Q := fun r => rnd (blkR 4 r) _ _) (fun q e' t => ∃ (k : Nat) (met' todo' : List Int) (steps' : Nat), q = o.f.length - k ∧ k ≤ o.f.length ∧ MK s0 t m mb p met' todo' steps' ∧ MI os shapes roots met' todo' (out ++ [r]) ∧ (∀ x ∈ met, x ∈ met') ∧ met'.length ≤ met.length + k ∧ steps' ≤ steps + 2 * k ∧ (∀ (j : Nat) x, j < k → o.f[j]? = some x → refB shapes o j = true → x = 0 ∨ x ∈ met') ∧ g0 e' = .ptr m 0 ∧ g6 e' = .i r ∧ g57 e' = .i (o.f.length : Nat) ∧ g58 e' = .i k) ?_ (n := o.f.length) (by omega) ⟨0, met, todo, steps, by omega, by omega, M, I, fun x hx => hx, by omega, by omega, fun j x hj => by omega, i0, i6, i57, i58⟩
 clear i0 i6 i57 i58 M I e
 rintro q e t ⟨k, met', todo', steps', rfl, hk, M, I, hsub, hlen, hst, hdone, i0, i6, i57, i58⟩
 replace i0 : e.a0.a0 = _ := i0
 replace i6 : e.a0.a6 = _ := i6
 replace i57 : e.a3.a9 = _ := i57
 replace i58 : e.a3.a10 = _ := i58
 by_cases c : (k : Int) < ((o.f.length : Nat) : Int)
 · have hkl : k < o.f.length := by omega
   obtain ⟨x, hx⟩ : ∃ x, o.f[k]? = some x := ⟨_, List.getElem?_eq_getElem hkl⟩
   obtain ⟨tv, h1, h2, h3⟩ := M.ex
   have hwt := M.f.wf
   obtain ⟨s1, p1, c1, f1, n1⟩ := eSt_ex (s := t) (b := m) (o := 3) (v := .i ((steps' : Int) + 1)) hwt h1 (by simp) rfl
   simp only [List.set_cons_zero, List.set_cons_succ] at c1
   have hmm := M.mp
   have hne : m ≠ mb := cl_mp_ne hwt h1 hmm
   have hcast : ((steps' : Int) + 1) = ((steps' + 1 : Nat) : Int) := by omega
   have M1 : MK s0 s1 m mb p met' todo' (steps' + 1) := ⟨M.f.trans' f1 (fun b hb => .inr (by simp at hb; subst hb; exact M.hm.1)), M.hm, ⟨tv, by rw [c1, hcast], h2.fr hwt f1 (fun b hb => by simp; exact (h3 b hb).2), h3⟩, f1.mp hwt hmm (by simpa using hne.symm)⟩
   have H1 := H.fr M1.f (by simp) (by simp) (by simp) (by simp) (by simp)
   obtain ⟨sh, hA, hS⟩ := H1.H
   have e1 := hA.isRef hS H1.ok d r (k : Nat)
   have hrO := refO_at (shapes := shapes) ho hkl
   rw [hrO] at e1
   have e2 := hA.get d r (k : Nat)
   have hg : getO os r (k : Nat) = some x := by
    unfold getO; rw [ho]; simp only
    rw [if_pos (by omega), Int.toNat_natCast]; exact hx
   rw [hg] at e2
   simp only at e2
   have htl : todo'.length ≤ 1000000 := by
    have := I.ps.length_eq; simp at this; omega
   cases hb : refB shapes o k with
   | false =>
     rw [hb] at e1
     simp -implicitDefEqProofs (maxSteps := 5000000) (disch := first | assumption | omega | (simp only [dz, dl, Nat.zero_add, Nat.reduceAdd, Bool.and_self]; done) | (simp only [dl]; omega)) only [go_sem, fAdd_eq, i0, i6, i57, i58, c, dLd_at hwt h1, p1, dLd_at f1.wf c1, e1]
     exact ⟨o.f.length - (k + 1), by omega, k + 1, met', todo', steps' + 1, rfl, by omega, M1, I, hsub, by omega, by omega, fun j y hj hy hby => by
      by_cases ej : j = k
      · subst ej; rw [hb] at hby; cases hby
      · exact hdone j y (by omega) hy hby, (by first | trivial | rfl | assumption), (by first | trivial | rfl | assumption), (by first | trivial | rfl | assumption), (by first | trivial | rfl | assumption)⟩
   | true =>
     rw [hb] at e1
     obtain ⟨s2, q2, M2⟩ := M1.mark (d + 3) x (by omega) htl
     have hxr : x = 0 ∨ Reach os shapes roots x := by
      by_cases h0 : x = 0
      · exact .inl h0
      · exact .inr (.step hR ho hx hb h0)
     simp -implicitDefEqProofs (maxSteps := 5000000) (disch := first | assumption | omega | (simp only [dz, dl, Nat.zero_add, Nat.reduceAdd, Bool.and_self]; done) | (simp only [dl]; omega)) only [go_sem, fAdd_eq, i0, i6, i57, i58, c, dLd_at hwt h1, p1, dLd_at f1.wf c1, e1, e2, q2]
     refine ⟨o.f.length - (k + 1), by omega, k + 1, _, _, steps' + 1 + 1, rfl, by omega, M2, I.mark hxr, fun y hy => markM_mem.2 (.inl (hsub y hy)), ?_, by omega, fun j y hj hy hby => ?_, (by first | trivial | rfl | assumption), (by first | trivial | rfl | assumption), (by first | trivial | rfl | assumption), (by first | trivial | rfl | assumption)⟩
     · unfold markM; split
       · omega
       · simp; omega
     · by_cases ej : j = k
       · subst ej
         rw [hx] at hy; cases hy
         by_cases h0 : x = 0
         · exact .inl h0
         · exact .inr (markM_mem.2 (.inr ⟨rfl, h0⟩))
       · exact (hdone j y (by omega) hy hby).imp_right fun h => markM_mem.2 (.inl h)
 · have : k = o.f.length := by omega
   subst this
   simp -implicitDefEqProofs (maxSteps := 5000000) (disch := first | assumption | omega | (simp only [dz, dl, Nat.zero_add, Nat.reduceAdd, Bool.and_self]; done) | (simp only [dl]; omega)) only [go_sem, fAdd_eq, i0, i6, i57, i58, c]
   exact ⟨(by first | trivial | rfl | assumption), met', todo', steps', M, I, hsub, hlen, hst, fun k x hx hb => hdone k x (List.getElem?_eq_some_iff.1 hx).1 hx hb⟩
end
end
end Go.Proofs.YtgkcpceppmppfaaLab
namespace Go.Proofs.YtgkcpceppmppfaaLab
open Go
set_option linter.all false
set_option maxRecDepth 10000
noncomputable section
theorem rnd_blk {id : Nat} {r : Res} {N N' : E → St → Prop} {Q : Res → Prop} (h : rnd r N' fun _ => False) (hN : ∀ e s, N' e s → N e s) : rnd (blkR id r) N Q := by
 obtain ⟨e, s, rfl, h⟩ := rnd_inv h
 exact hN e s h
theorem MI.fin {os : List O} {shapes : List (List Bool)} {roots met out : List Int} (I : MI os shapes roots met [] out) (hD : DoneM os shapes met out) (hr : ∀ r ∈ roots, r = 0 ∨ r ∈ met) : ∀ x, x ∈ met ↔ Reach os shapes roots x := fun x => by
 refine ⟨I.so x, fun h => ?_⟩
 induction h with
 | root h h0 => exact (hr _ h).resolve_left h0
 | step _ ho hx hb h0 ih => exact (hD _ (by have := I.ps.subset ih; simpa using this) _ ho _ _ hx hb).resolve_left h0
section
variable {s0 : St} {p bw bb n bm : Nat} {os : List O} {z : List Int} {shapes : List (List Bool)} {F : List Nat} (H : HS s0 p bw bb n os z shapes bm F)
include H
theorem MK.run2 (hRf : RefOk os shapes) {roots : List Int} (hRo : RootOk os roots) {s : St} {m mb : Nat} {met todo : List Int} {steps : Nat} (M : MK s0 s m mb p met todo steps) (I : MI os shapes roots met todo []) (hr : ∀ r ∈ roots, r = 0 ∨ r ∈ met) (hst : steps ≤ 100000) (hml : met.length ≤ 60000) (d : Nat) {e : E} (i0 : g0 e = .ptr m 0) :
 Ret (retR (resV []) (p63_15 (K (d + 4)) e s)) fun x t => x = .tup [] ∧ ∃ met' steps', MK s0 t m mb p met' [] steps' ∧ met'.Nodup ∧ (∀ x, x ∈ met' ↔ Reach os shapes roots x) ∧ steps' ≤ steps + 2 * (lay os).length ∧ met'.length ≤ 90000 := by
 have hlay := H.lay_le
 have hW0 := leftW_nil os 1
 replace i0 : e.a0.a0 = _ := i0
 simp -implicitDefEqProofs (maxSteps := 5000000) (disch := first | assumption | omega | (simp only [dz, dl, Nat.zero_add, Nat.reduceAdd, Bool.and_self]; done) | (simp only [dl]; omega)) only [go_sem, fAdd_eq, p63_15.eq_1]
 refine loop_at (Q := fun r => Ret (retR _ (blkR 2 r)) _) (fun q e' t => ∃ (met' todo' out : List Int) (steps' : Nat), q = leftW os 1 out ∧ MK s0 t m mb p met' todo' steps' ∧ MI os shapes roots met' todo' out ∧ DoneM os shapes met' out ∧ (∀ x ∈ met, x ∈ met') ∧ steps' + 2 * leftW os 1 out ≤ steps + 2 * leftW os 1 [] ∧ met'.length + leftW os 1 out ≤ met.length + leftW os 1 [] ∧ g0 e' = .ptr m 0) ?_ (n := leftW os 1 []) (by omega) ⟨met, todo, [], steps, rfl, M, I, fun r h => by simp at h, fun x h => h, by omega, by omega, i0⟩
 clear i0 M I e
 rintro q e t ⟨met', todo', out, steps', rfl, M, I, hD, hsub, hs2, hl2, i0⟩
 replace i0 : e.a0.a0 = _ := i0
 obtain ⟨tv, h1, h2, h3⟩ := M.ex
 have hwt := M.f.wf
 have hlen := h2.len
 rw [List.length_map] at hlen
 rcases List.eq_nil_or_concat todo' with rfl | ⟨rest, r, rfl⟩
 · replace hlen : uLenS tv = some (.i 0) := hlen
   simp -implicitDefEqProofs (maxSteps := 5000000) (disch := first | assumption | omega | (simp only [dz, dl, Nat.zero_add, Nat.reduceAdd, Bool.and_self]; done) | (simp only [dl]; omega)) only [go_sem, fAdd_eq, i0, dLd_at hwt h1, hlen]
   exact ⟨(by first | trivial | rfl | assumption), met', steps', M, I.nd, I.fin hD (fun r hr' => (hr r hr').imp_right (hsub r)), by omega, by omega⟩
 · rw [List.concat_eq_append] at *
   rw [List.length_append, List.length_singleton] at hlen
   have h2' := h2
   rw [List.map_append, List.map_cons, List.map_nil] at h2'
   obtain ⟨tv', k1, k2, k3⟩ := h2'.pop
   rw [List.length_map] at k1
   have em : ((rest.length + 1 : Nat) : Int) - 1 = (rest.length : Nat) := by omega
   rw [em] at k1
   have hrb : rest.length ≤ 100000 := by have := I.ps.length_eq; simp at this; omega
   have c0 : (0 : Int) < ((rest.length + 1 : Nat) : Int) := by omega
   obtain ⟨qq, a1, a2⟩ := (h2.sl hwt).at hwt (j := rest.length) (x := .i r) (by rw [List.getElem?_map]; simp)
   have hone : tv'.one = true := by
    rcases k2 with ⟨_, rfl⟩ | ⟨b, L, rfl, _⟩ <;> rfl
   obtain ⟨s1, p1, c1, f1, n1⟩ := eSt_ex (s := t) (b := m) (o := 2) (v := tv') hwt h1 (by simp) hone
   simp only [List.set_cons_zero, List.set_cons_succ] at c1
   have hmm := M.mp
   have hne : m ≠ mb := cl_mp_ne hwt h1 hmm
   have M1 : MK s0 s1 m mb p met' rest steps' := ⟨M.f.trans' f1 (fun b hb => .inr (by simp at hb; subst hb; exact M.hm.1)), M.hm, ⟨tv', c1, k2.fr hwt f1 (fun b hb => by rw [k3] at hb; simp; exact (h3 b hb).2), fun b hb => by rw [k3] at hb; exact h3 b hb⟩, f1.mp hwt hmm (by simpa using hne.symm)⟩
   have hrm : r ∈ met' := I.ps.symm.subset (by simp)
   have hR := I.so r hrm
   obtain ⟨o, ho⟩ := Option.isSome_iff_exists.1 (hR.isSome hRf hRo)
   have hrl := at_pos (hR.isSome hRf hRo)
   have hnd2 : (out ++ (rest ++ [r])).Nodup := I.ps.nodup_iff.1 I.nd
   have hrn : r ∉ out := fun hm => by
    rw [List.nodup_append] at hnd2
    exact hnd2.2.2 r hm r (by simp) rfl
   have hW : leftW os 1 (out ++ [r]) + 1 + o.f.length = leftW os 1 out := by
    have := leftW_snoc os 1 out (r - 1) o ho (by rw [show r - 1 + ((1 : Nat) : Int) = r by omega]; exact hrn)
    rwa [show r - 1 + ((1 : Nat) : Int) = r by omega] at this
   have I1 : MI os shapes roots met' rest (out ++ [r]) := ⟨I.so, I.nd, I.ps.trans (by
    rw [List.append_assoc]
    exact (List.perm_append_comm).append_left _)⟩
   have H1 := H.fr M1.f (by simp) (by simp) (by simp) (by simp) (by simp)
   obtain ⟨sh, hA, hS⟩ := H1.H
   have e1 := hA.len (d + 2) r
   have hlo : lenO os r = (o.f.length : Nat) := by unfold lenO; rw [ho]
   rw [hlo] at e1
   simp -implicitDefEqProofs (maxSteps := 5000000) (disch := first | assumption | omega | (simp only [dz, dl, Nat.zero_add, Nat.reduceAdd, Bool.and_self]; done) | (simp only [dl]; omega)) only [go_sem, fAdd_eq, i0, dLd_at hwt h1, hlen, c0, em, a1, a2, k1, p1, dLd_at f1.wf c1, e1]
   refine rnd_blk (M1.fields H hRf ho I1 hR (by omega) d (by first | trivial | rfl | assumption) (by first | trivial | rfl | assumption) (by first | trivial | rfl | assumption) (by first | trivial | rfl | assumption) (by omega)) ?_
   rintro e' t' ⟨j0, met2, todo2, steps2, M2, I2, hs3, hl3, hst3, hdn⟩
   refine ⟨leftW os 1 (out ++ [r]), by omega, met2, todo2, out ++ [r], steps2, rfl, M2, I2, ?_, fun x hx => hs3 x (hsub x hx), by omega, by omega, j0⟩
   intro x hx o' ho' k y hy hb
   rcases List.mem_append.1 hx with hx | hx
   · exact (hD x hx o' ho' k y hy hb).imp_right (hs3 y)
   · simp at hx; subst hx
     rw [ho] at ho'; cases ho'
     exact hdn k y hy hb
theorem MK.run (hRf : RefOk os shapes) {roots : List Int} (hRo : RootOk os roots) {s : St} {m mb : Nat} (M : MK s0 s m mb p [] [] 0) {v : V} (hk : SL s0 v (roots.map .i)) (hl : roots.length ≤ 50000) (d : Nat) :
 Ret ((K (d + 5)).call 63 [.ptr m 0, v] s) fun x t => x = .tup [] ∧ ∃ met' steps', MK s0 t m mb p met' [] steps' ∧ met'.Nodup ∧ (∀ x, x ∈ met' ↔ Reach os shapes roots x) ∧ steps' ≤ roots.length + 2 * (lay os).length ∧ met'.length ≤ 90000 := by
 have hw0 := H.wf
 have hlen := hk.len
 rw [List.length_map] at hlen
 simp -implicitDefEqProofs (maxSteps := 5000000) (disch := first | assumption | omega | (simp only [dz, dl, Nat.zero_add, Nat.reduceAdd, Bool.and_self]; done) | (simp only [dl]; omega)) only [op63, go_sem, fAdd_eq, hlen]
 refine loop_at (Q := fun r => Ret (retR _ (seqR (blkR 0 r) _)) _) (fun q e' t => ∃ (j : Nat) (met' todo' : List Int), q = roots.length - j ∧ j ≤ roots.length ∧ MK s0 t m mb p met' todo' j ∧ MI os shapes roots met' todo' [] ∧ (∀ r ∈ roots.take j, r = 0 ∨ r ∈ met') ∧ met'.length ≤ j ∧ g0 e' = .ptr m 0 ∧ g10 e' = v ∧ g11 e' = .i (roots.length : Nat) ∧ g12 e' = .i j) ?_ (n := roots.length) (by omega) ⟨0, [], [], by omega, by omega, M, ⟨fun r h => by simp at h, List.nodup_nil, by simp⟩, by simp, by simp, (by first | trivial | rfl | assumption), (by first | trivial | rfl | assumption), (by first | trivial | rfl | assumption), (by first | trivial | rfl | assumption)⟩
 rintro q e t ⟨j, met', todo', rfl, hj, M, I, hr, hml, i0, i10, i11, i12⟩
 replace i0 : e.a0.a0 = _ := i0
 replace i10 : e.a0.a10 = _ := i10
 replace i11 : e.a0.a11 = _ := i11
 replace i12 : e.a0.a12 = _ := i12
 by_cases c : (j : Int) < ((roots.length : Nat) : Int)
 · obtain ⟨r, hrj⟩ : ∃ r, roots[j]? = some r := ⟨_, List.getElem?_eq_getElem (by omega)⟩
   obtain ⟨qq, a1, a2⟩ := (hk.fr hw0 M.f (by simp)).at M.f.wf (j := j) (x := .i r) (by rw [List.getElem?_map, hrj]; rfl)
   have hts := take_snoc hrj
   obtain ⟨s2, q2, M2⟩ := M.mark (d + 3) r (by omega) (by have := I.ps.length_eq; simp at this; omega)
   have hrm := List.mem_of_getElem? hrj
   have hxr : r = 0 ∨ Reach os shapes roots r := by
    by_cases h0 : r = 0
    · exact .inl h0
    · exact .inr (.root hrm h0)
   simp -implicitDefEqProofs (maxSteps := 5000000) (disch := first | assumption | omega | (simp only [dz, dl, Nat.zero_add, Nat.reduceAdd, Bool.and_self]; done) | (simp only [dl]; omega)) only [go_sem, fAdd_eq, i0, i10, i11, i12, c, a1, a2, q2]
   refine ⟨roots.length - (j + 1), by omega, j + 1, _, _, rfl, by omega, M2, I.mark hxr, fun x hx => ?_, ?_, (by first | trivial | rfl | assumption), (by first | trivial | rfl | assumption), (by first | trivial | rfl | assumption), (by first | trivial | rfl | assumption)⟩
   · rw [hts] at hx
     rcases List.mem_append.1 hx with hx | hx
     · exact (hr x hx).imp_right fun h => markM_mem.2 (.inl h)
     · simp at hx; subst hx
       by_cases h0 : x = 0
       · exact .inl h0
       · exact .inr (markM_mem.2 (.inr ⟨rfl, h0⟩))
   · unfold markM; split
     · omega
     · simp; omega
 · have : j = roots.length := by omega
   subst this
   rw [List.take_length] at hr
   simp -implicitDefEqProofs (maxSteps := 5000000) (disch := first | assumption | omega | (simp only [dz, dl, Nat.zero_add, Nat.reduceAdd, Bool.and_self]; done) | (simp only [dl]; omega)) only [go_sem, fAdd_eq, i0, i10, i11, i12, c]
   exact M.run2 H hRf hRo I hr (by omega) (by omega) d (by first | trivial | rfl | assumption)
end
end
end Go.Proofs.YtgkcpceppmppfaaLab
namespace Go.Proofs.YtgkcpceppmppfaaLab
open Go
set_option linter.all false
set_option maxRecDepth 10000
noncomputable section
theorem fOne_run {g : V → St → Option (V × St)} {k : KC} {x v : V} {s s' : St} (h : g x s = some (v, s')) : runF (fOne g) k [x] s = some (v, s') := by
 show (match (match g (Gt 0 (Ut 0 e0 x)) s with | some (v, s') => Res.nrm (Ut 0 (Ut 0 e0 x) v) s' | none => .bad) with
  | .nrm e' s' => (match resV [rT (Gt 0)] e' s' with | some v => some (v, s') | none => none)
  | .ret e' s' => (match resV [rT (Gt 0)] e' s' with | some v => some (v, s') | none => none)
  | _ => none) = _
 rw [Gt_Ut 0 0 (by omega) (by omega), if_pos rfl, h]
 simp only
 show some (Gt 0 (Ut 0 (Ut 0 e0 x) v), s') = _
 rw [Gt_Ut 0 0 (by omega) (by omega), if_pos rfl]
theorem keysI_metP : ∀ {l : List (Int × Int)}, (∀ p ∈ l, wfI p.1 = true) → keysI (pairsI l) = some (l.map (·.1))
 | [], _ => rfl
 | (x, y) :: l, h => by
   have ih := keysI_metP (l := l) fun p hp => h p (by simp [hp])
   have hx := h (x, y) (by simp)
   show (Bool.casesOn (motive := fun _ => Option (List Int)) (wfI x) none (match keysI (pairsI l) with | some r => some (x :: r) | none => none)) = _
   rw [hx, ih]; rfl
theorem incN_range : ∀ (n k m : Nat), k + n ≤ m → incN m (List.range' k n) = true
 | 0, k, m, h => rfl
 | 1, k, m, h => by
   show Nat.blt k m = true
   rw [nblt_eq, decide_eq_true (by omega)]
 | n + 2, k, m, h => by
   rw [List.range'_succ, List.range'_succ]
   show and (Nat.blt k (k + 1)) (incN m ((k + 1) :: List.range' (k + 1 + 1) n)) = true
   have := incN_range (n + 1) (k + 1) m (by omega)
   rw [List.range'_succ] at this
   rw [this, nblt_eq, decide_eq_true (by omega)]; rfl
theorem incI_of : ∀ {l : List Int}, l.Pairwise (· < ·) → incI l = true
 | [], _ => rfl
 | [x], _ => rfl
 | x :: y :: l, h => by
   rw [List.pairwise_cons] at h
   show and (ltI x y) (incI (y :: l)) = true
   rw [incI_of h.2, ltI_eq, decide_eq_true (h.1 y (by simp))]; rfl
theorem srtI_lt {l : List Int} (h : l.Nodup) : (srtI l).Pairwise (· < ·) := perm_lt (srtI_perm l) (srtI_sorted l) h
theorem rising_eq : ∀ {a b : List Int}, a.Pairwise (· < ·) → b.Pairwise (· < ·) → (∀ x, x ∈ a ↔ x ∈ b) → a = b
 | [], [], _, _, _ => rfl
 | [], y :: b, _, _, h => by have := (h y).2 (by simp); simp at this
 | x :: a, [], _, _, h => by have := (h x).1 (by simp); simp at this
 | x :: a, y :: b, ha, hb, h => by
   rw [List.pairwise_cons] at ha hb
   have e : x = y := by
    rcases List.mem_cons.1 ((h x).1 (by simp)) with e | h1
    · exact e
    · rcases List.mem_cons.1 ((h y).2 (by simp)) with e | h2
      · exact e.symm
      · have := hb.1 x h1; have := ha.1 y h2; omega
   subst e
   rw [rising_eq ha.2 hb.2 fun z => ?_]
   constructor
   · intro hz
     rcases List.mem_cons.1 ((h z).1 (by simp [hz])) with rfl | h1
     · have := ha.1 z hz; omega
     · exact h1
   · intro hz
     rcases List.mem_cons.1 ((h z).2 (by simp [hz])) with rfl | h1
     · have := hb.1 z hz; omega
     · exact h1
section
variable {s0 s : St} {m mb p : Nat} {met todo : List Int} {steps : Nat} (M : MK s0 s m mb p met todo steps)
include M
theorem MK.blk : ∃ (xs : T V) (tv : V), s.heap.get m = some (.cells 4 xs) ∧ xs.get 0 = some (.ptr p 0) ∧ xs.get 1 = some (.map mb) := by
 obtain ⟨tv, h1, _⟩ := M.ex
 obtain ⟨xs, q1, q2, _⟩ := cl_inv M.f.wf h1
 exact ⟨xs, tv, q1, q2 0 (by simp), q2 1 (by simp)⟩
theorem MK.metOf (hn : met.Nodup) (h64 : ∀ x ∈ met, 0 ≤ x ∧ x ≤ 1000000) (hl : met.length ≤ 1000000) : Go.Proofs.YtgkcpceppmppfaaLab.metOf 1 (.ptr m 0) s = some met := by
 obtain ⟨xs, tv, q1, q2, q3⟩ := M.blk
 have hk : keysI (metE met) = some met := by
  unfold metE
  rw [keysI_metP, metP_fst]
  intro y hy
  have : y.1 ∈ met := by rw [← metP_fst met]; exact List.mem_map.2 ⟨y, hy, rfl⟩
  have := h64 _ this
  unfold wfI
  rw [Bool.and_eq_true, ltI_eq, ltI_eq]
  simp; omega
 have hb : blkOf s m = some (4, xs) := by unfold blkOf; rw [q1]
 unfold Go.Proofs.YtgkcpceppmppfaaLab.metOf
 simp only [hb]
 have e1 : Nat.blt (Nat.add 0 1) 4 = true := rfl
 have q3' : xs.get (Nat.add 0 1) = some (.map mb) := q3
 rw [e1, q3']
 simp only [mp_inv M.mp, hk]
 rw [ble_true (by omega), incI_of (srtI_lt hn)]
 have := incN_range met.length 0 met.length (by omega)
 rw [← List.range_eq_range'] at this
 rw [this]; rfl
theorem MK.all (hn : met.Nodup) (h64 : ∀ x ∈ met, 0 ≤ x ∧ x ≤ 1000000) (hl : met.length ≤ 1000000) (d : Nat) : ∃ s', (K (d + 1)).call 44 [.ptr m 0] s = some (.slice s.next 0 met.length none 1, s') ∧ GL s' (.slice s.next 0 met.length none 1) ((srtI met).map .i) ∧ Fr s s' [] := by
 have hm := M.metOf hn h64 hl
 obtain ⟨s', e1, c1, f1, n1⟩ := new_ex (s := s) (l := (srtI met).map V.i) (n := met.length) M.f.wf (by rw [List.length_map, (srtI_perm met).length_eq])
 refine ⟨s', ?_, .inr ⟨s.next, ?_, c1⟩, f1⟩
 · rw [call44]
   refine fOne_run ?_
   unfold allV
   rw [hm]; simp only
   rw [e1]
 · rw [List.length_map, (srtI_perm met).length_eq]
end
section
variable {k k' : KC}
theorem p50_4_k (h : k.call 51 = k'.call 51) : p50_4 k = p50_4 k' := by
 funext e s; unfold p50_4; simp only [eCall_eq, h]
theorem p50_3_k (h : k.call 51 = k'.call 51) : p50_3 k = p50_3 k' := by
 funext e s
 show dSeq p50_4 p50_5 k e s = dSeq p50_4 p50_5 k' e s
 unfold dSeq; rw [p50_4_k h]; rfl
theorem p50_2_k (h : k.call 51 = k'.call 51) : p50_2 k = p50_2 k' := by
 funext e s
 show dSeq p50_3 p50_8 k e s = dSeq p50_3 p50_8 k' e s
 unfold dSeq; rw [p50_3_k h]; rfl
theorem p50_0_k (h : k.call 51 = k'.call 51) : p50_0 k = p50_0 k' := by
 funext e s
 show dSeq p50_1 p50_2 k e s = dSeq p50_1 p50_2 k' e s
 unfold dSeq; rw [p50_2_k h]; rfl
end
theorem k2_51 : (kc tblW 1000000 1).call 51 = (K 1).call 51 := by
 funext args s
 rw [call51, call_eq (F := F51) rfl]; rfl
theorem k2_50 (args : List V) (s : St) : k2.call 50 args s = (K 2).call 50 args s := by
 have h : F50.body (kc tblW 1000000 1) = F50.body (K 1) := p50_0_k k2_51
 rw [call50]
 show (kc tblW 1000000 (1 + 1)).call 50 args s = _
 rw [call_eq (F := F50) rfl]
 unfold runF
 rw [h]
def wordsL (os : List O) (l : List Int) : Nat := (l.map fun x => 3 + (lenO os x).toNat).sum
theorem wordsL_perm {os : List O} {a b : List Int} (h : a.Perm b) : wordsL os a = wordsL os b := by
 unfold wordsL
 exact (h.map _).sum_nat
theorem lenO_b (os : List O) (x : Int) : 0 ≤ lenO os x := by
 unfold lenO; cases at? os x <;> simp
section
variable {s0 s : St} {p bw bb n bm : Nat} {os : List O} {z : List Int} {shapes : List (List Bool)} {F : List Nat} {m mb : Nat} {met todo : List Int} {steps : Nat} (H : HS s p bw bb n os z shapes bm F) (M : MK s0 s m mb p met todo steps)
include H M
theorem MK.sumN : ∀ l : List Int, Go.Proofs.YtgkcpceppmppfaaLab.sumN k2 50 (.ptr p 0) s l = some (wordsL os l)
 | [] => rfl
 | x :: l => by
   have ih := MK.sumN l
   obtain ⟨sh, hA, _⟩ := H.H
   have e := hA.len 0 x
   have hb := lenO_b os x
   have hle : (lenO os x).toNat ≤ 1099511627776 := by
    have := H.lay_le
    unfold lenO
    cases ho : at? os x with
    | none => simp
    | some o =>
      have := (lay_lt ho).2
      have hn : o.n = 3 + o.f.length := rfl
      simp; omega
   have e2 : lenN k2 50 (.ptr p 0) s x = some (lenO os x).toNat := by
    unfold lenN
    rw [k2_50, e]
    obtain ⟨q, hq⟩ : ∃ q : Nat, lenO os x = Int.ofNat q := ⟨(lenO os x).toNat, by simp; omega⟩
    rw [hq] at hle ⊢
    simp only
    rw [ble_true (by simpa using hle)]; rfl
   unfold Go.Proofs.YtgkcpceppmppfaaLab.sumN
   rw [e2, ih]; rfl
end
end
end Go.Proofs.YtgkcpceppmppfaaLab
namespace Go.Proofs.YtgkcpceppmppfaaLab
open Go
set_option linter.all false
set_option maxRecDepth 10000
noncomputable section
theorem valsI_met : ∀ l : List (Int × Int), valsI (pairsI l) = true
 | [] => rfl
 | (x, y) :: l => valsI_met l
theorem obj_b {os : List O} {x : Int} (h : (at? os x).isSome) : 1 ≤ x ∧ x ≤ (lay os).length := by
 obtain ⟨o, ho⟩ := Option.isSome_iff_exists.1 h
 have := lay_lt ho
 have := o.n_pos
 omega
section
variable {s : St} {p bw bb n bm : Nat} {os : List O} {z : List Int} {shapes : List (List Bool)} {F : List Nat} (H : HS s p bw bb n os z shapes bm F)
include H
theorem MK.words {s0 : St} {m mb : Nat} {met todo : List Int} {steps : Nat} (M : MK s0 s m mb p met todo steps) (hn : met.Nodup) (h64 : ∀ x ∈ met, 0 ≤ x ∧ x ≤ 1000000) (hl : met.length ≤ 1000000) (d : Nat) : (K (d + 1)).call 47 [.ptr m 0] s = some (.i (wordsL os met : Nat), s) := by
 obtain ⟨xs, tv, q1, q2, q3⟩ := M.blk
 have hm := M.metOf hn h64 hl
 have hb : blkOf s m = some (4, xs) := by unfold blkOf; rw [q1]
 have hB : metB 1 (.ptr m 0) s = some true := by
  unfold metB
  simp only [hb]
  have q3' : xs.get (Nat.add 0 1) = some (.map mb) := q3
  rw [q3']
  simp only [mp_inv M.mp]
  unfold metE
  rw [valsI_met]
 rw [call47]
 refine fOne_run ?_
 unfold wordsV
 rw [hm, hB]
 simp only [hb, q2, M.sumN H met]
 rfl
def MarkedQ (s : St) (p : Nat) (os : List O) (shapes : List (List Bool)) (roots : List Int) (r : V) (t : St) : Prop :=
 (¬ RootOk os roots → r = .tup [.nilp, .bool false] ∧ Fr s t []) ∧
 (RootOk os roots → ∃ m mb met steps, r = .tup [.ptr m 0, .bool true] ∧ MK s t m mb p met [] steps ∧ met.Nodup ∧ (∀ x, x ∈ met ↔ Reach os shapes roots x) ∧ steps ≤ roots.length + 2 * (lay os).length ∧ met.length ≤ 90000)
theorem HS.marked (hRf : RefOk os shapes) {v : V} {roots : List Int} (hk : SL s v (roots.map .i)) (hl : roots.length ≤ 50000) (d : Nat) : Ret ((K (d + 7)).call 43 [.ptr p 0, v] s) (MarkedQ s p os shapes roots) := by
 have hw := H.wf
 obtain ⟨s1, e1, c1, f1, n1⟩ := new_ex (s := s) (l := [V.ptr p 0]) (n := 1) hw rfl
 have H1 := H.fr f1 (by simp) (by simp) (by simp) (by simp) (by simp)
 have hc := H1.contains c1 (hk.fr hw f1 (by simp)) (by omega) d
 have hld := dLd_at f1.wf c1 (o := 0) (by simp)
 by_cases hr : RootOk os roots
 · rw [rootOk_iff.1 hr] at hc
   obtain ⟨s2, e2, m2, f2, n2⟩ : ∃ s', s1.new (.map [] [] 0) = s' ∧ s'.mp s1.next = some ([], [], 0) ∧ Fr s1 s' [] ∧ s'.next = s1.next + 1 :=
    ⟨_, rfl, by unfold St.mp; rw [new_at f1.wf], ⟨f1.wf.new trivial, Nat.le_succ _, fun j hj _ => new_ne (by omega)⟩, rfl⟩
   obtain ⟨s3, e3, c3, f3, n3⟩ := new_ex (s := s2) (l := [V.ptr p 0, .map s1.next, .nils, .i 0]) (n := 4) f2.wf rfl
   have M : MK s s3 s2.next s1.next p [] [] 0 := ⟨f1.trans (f2.trans f3), ⟨by omega, by omega⟩, ⟨.nils, c3, .inl ⟨rfl, rfl⟩, by simp [blkV]⟩, f3.mp f2.wf m2 (by simp)⟩
   obtain ⟨x, t, q1, rfl, met, steps, q2, q3, q4, q5, q6⟩ := M.run H hRf hr hk hl (d + 1)
   refine ⟨.tup [.ptr s2.next 0, .bool true], t, ?_, fun h => absurd hr h, fun _ => ⟨_, _, met, steps, rfl, q2, q3, q4, q5, q6⟩⟩
   rw [op43]
   simp -implicitDefEqProofs (maxSteps := 5000000) (disch := first | assumption | omega | (simp only [dz, dl, Nat.zero_add, Nat.reduceAdd, Bool.and_self]; done) | (simp only [dl]; omega)) only [go_sem, aBox_one, e1, hld, hc, e2, e3, q1, Bool.not_true]
 · have hr' : roots.all (okRf os) = false := by rw [← Bool.not_eq_true]; exact fun h => hr (rootOk_iff.2 h)
   rw [hr'] at hc
   refine ⟨.tup [.nilp, .bool false], s1, ?_, fun _ => ⟨rfl, f1⟩, fun h => absurd h hr⟩
   rw [op43]
   simp -implicitDefEqProofs (maxSteps := 5000000) (disch := first | assumption | omega | (simp only [dz, dl, Nat.zero_add, Nat.reduceAdd, Bool.and_self]; done) | (simp only [dl]; omega)) only [go_sem, aBox_one, e1, hld, hc, Bool.not_false]
theorem met64 {s0 : St} (hRf : RefOk os shapes) {met roots : List Int} (hr : RootOk os roots) (h : ∀ x, x ∈ met ↔ Reach os shapes roots x) : ∀ x ∈ met, 0 ≤ x ∧ x ≤ 1000000 := fun x hx => by
 have h1 := obj_b (((h x).1 hx).isSome hRf hr)
 have := H.lay_le
 omega
end
end
end Go.Proofs.YtgkcpceppmppfaaLab
namespace Go.Proofs.YtgkcpceppmppfaaLab
open Go
set_option linter.all false
set_option maxRecDepth 10000
noncomputable section
theorem ShOk.turn {os : List O} {shapes : List (List Bool)} (ok : ShOk os shapes) {g : O → O} (hg : ∀ o, (g o).f.length = o.f.length ∧ (g o).shape = o.shape) {r : Int} {o : O} (ho : at? os r = some o) : ShOk (turn g os (r - 1)) shapes := fun x hx => by
 obtain ⟨pre, post, rfl, hr⟩ := look_split ho
 rw [hr, turn_of] at hx
 rcases List.mem_append.1 hx with hx | hx
 · exact ok x (by simp [hx])
 · rcases List.mem_cons.1 hx with rfl | hx
   · rw [(hg o).1, (hg o).2]; exact ok o (by simp)
   · exact ok x (by simp [hx])
section
variable {b0 : Nat} {t : St} {p bw bb n bm rp : Nat} {os : List O} {z : List Int} {shapes : List (List Bool)} {F FO FS : List Nat} {w : Int} (T : Two b0 t p bw bb n bm rp os z shapes F FO FS w)
include T
theorem Two.off {t' : St} {L : List Nat} (f : Fr t t' L) (h1 : ∀ b ∈ p :: bw :: bb :: bm :: F, b ∉ L) (h2 : ∀ b ∈ rp :: (FO ++ FS), b ∉ L) : Two b0 t' p bw bb n bm rp os z shapes F FO FS w :=
 ⟨T.h.fr f (h1 _ (by simp)) (h1 _ (by simp)) (h1 _ (by simp)) (h1 _ (by simp)) (fun b hb => h1 b (by simp [hb])), T.r.fr f (h2 _ (by simp)) (fun b hb => h2 b (by simp [hb])) (fun b hb => h2 b (by simp [hb])), T.nw, T.rf, T.dj, T.dr⟩
theorem Two.arrayE (d : Nat) (b : Bool) (m : Nat) (hm : m ≤ 256) :
 (w < (lay os).length + 3 + m → (K (d + 3)).call 35 [.ptr p 0, .bool b, .i m] t = some (.tup [.i 0, .i 26], t) ∧ (K (d + 3)).call 36 [.ptr rp 0, .bool b, .i m] t = some (.tup [.i 0, .i 26], t)) ∧
 (((lay os).length + 3 + m : Int) ≤ w → ∃ t1 t2 z' FO', (K (d + 3)).call 35 [.ptr p 0, .bool b, .i m] t = some (.tup [.i ((1 + (lay os).length : Nat) : Int), .i 0], t1) ∧ Fr t t1 [p, bw, bb] ∧ (K (d + 3)).call 36 [.ptr rp 0, .bool b, .i m] t1 = some (.tup [.i ((1 + (lay os).length : Nat) : Int), .i 0], t2) ∧ Fr t1 t2 (rp :: FO) ∧ Two b0 t2 p bw bb n bm rp (os ++ [newO (if b then -2 else -1) m]) z' shapes F FO' FS w ∧ (∀ b ∈ FO', b ∈ FO ∨ t.next ≤ b)) := by
 obtain ⟨sh, hA, hS⟩ := T.h.H
 have hz := hA.size
 have hnw := T.nw
 have hw := T.wf
 refine ⟨fun c => ⟨(hA.array d b m).2.1 (by omega) (by omega) (by omega), (T.r.array d b m).2.1 (by omega) (by omega) (by omega)⟩, fun c => ?_⟩
 have c2 : (1 : Int) + (lay os).length + 3 + m ≤ (n : Int) := by omega
 obtain ⟨t1, e1, _, f1, _⟩ := (hA.array d b m).2.2 (by omega) (by omega) c2
 have h1 : HS t1 p bw bb n (os ++ [newO (if b then -2 else -1) m]) (z.drop (3 + m)) shapes bm F := by
  refine T.h.turn f1 (fun sh' h' => ?_) ?_
  · obtain ⟨t1', e1', h1', _⟩ := (h'.array d b m).2.2 (by omega) (by omega) c2
    rw [e1] at e1'; cases e1'
    rw [Int.toNat_natCast] at h1'
    exact h1'
  · intro o ho
    rcases List.mem_append.1 ho with ho | ho
    · exact T.h.ok o ho
    · simp at ho; subst ho
      cases b
      · exact .inl rfl
      · exact .inr (.inl rfl)
 obtain ⟨t2, FO', e2, r2, hO, f2⟩ := ((T.r1 f1 (by intro b hb; simp at hb ⊢; rcases hb with h | h | h <;> simp [h])).array d b m).2.2 (by omega) (by omega) (by omega)
 rw [Int.toNat_natCast] at r2
 exact ⟨t1, t2, _, _, e1, f1, e2, f2, T.addO f1 h1 f2 r2 hO, fun x hx => (hO x hx).imp_right fun h => Nat.le_trans f1.nx h⟩
theorem Two.objectE (d : Nat) (r : Int) (hsh : shapes.length < 100000) {l : List Bool} (h0 : 0 ≤ r) (hl : shapes[r.toNat]? = some l) (hln : l.length < 20000) :
 (w < (lay os).length + 3 + l.length → (K (d + 3)).call 37 [.ptr p 0, .i r] t = some (.tup [.i 0, .i 26], t) ∧ (K (d + 3)).call 38 [.ptr rp 0, .i r] t = some (.tup [.i 0, .i 26], t)) ∧
 (((lay os).length + 3 + l.length : Int) ≤ w → ∃ t1 t2 z' FO', (K (d + 3)).call 37 [.ptr p 0, .i r] t = some (.tup [.i ((1 + (lay os).length : Nat) : Int), .i 0], t1) ∧ Fr t t1 [p, bw, bb] ∧ (K (d + 3)).call 38 [.ptr rp 0, .i r] t1 = some (.tup [.i ((1 + (lay os).length : Nat) : Int), .i 0], t2) ∧ Fr t1 t2 (rp :: FO) ∧ Two b0 t2 p bw bb n bm rp (os ++ [newO r l.length]) z' shapes F FO' FS w ∧ (∀ b ∈ FO', b ∈ FO ∨ t.next ≤ b)) := by
 obtain ⟨sh, hA, hS⟩ := T.h.H
 have hz := hA.size
 have hnw := T.nw
 have hw := T.wf
 refine ⟨fun c => ⟨(T.h.object d r hsh).2.1 l h0 hl hln (by omega), (T.r.object d r hsh).2.1 l h0 hl hln (by omega)⟩, fun c => ?_⟩
 obtain ⟨t1, e1, h1, f1, _⟩ := (T.h.object d r hsh).2.2 l h0 hl hln (by omega)
 obtain ⟨t2, FO', e2, r2, hO, f2⟩ := ((T.r1 f1 (by intro b hb; simp at hb ⊢; rcases hb with h | h | h <;> simp [h])).object d r hsh).2.2 l h0 hl hln (by omega)
 exact ⟨t1, t2, _, _, e1, f1, e2, f2, T.addO f1 h1 f2 r2 hO, fun x hx => (hO x hx).imp_right fun h => Nat.le_trans f1.nx h⟩
theorem Two.setE (d : Nat) {r k v y : Int} (h64 : -9223372036854775808 ≤ v ∧ v < 9223372036854775808) (hg : getO os r k = some y) (hc : (refO os shapes r k && !(decide (v = 0) || (at? os v).isSome)) = false) : ∃ t1 t2, (K (d + 5)).call 41 [.ptr p 0, .i r, .i k, .i v] t = some (.i 0, t1) ∧ Fr t t1 [bw] ∧ (K (d + 5)).call 42 [.ptr rp 0, .i r, .i k, .i v] t1 = some (.i 0, t2) ∧ Fr t1 t2 FO ∧ Two b0 t2 p bw bb n bm rp (turn (O.setF k v) os (r - 1)) z shapes F FO FS w := by
 obtain ⟨sh, hA, hS⟩ := T.h.H
 have hw := T.wf
 obtain ⟨o, ho, _⟩ := getO_some hg
 obtain ⟨t1, e1, _, f1, _⟩ := (hA.set hS T.h.ok d r k v h64).2.2 y hg hc
 have ok' : ShOk (turn (O.setF k v) os (r - 1)) shapes := T.h.ok.turn (g := O.setF k v) (fun o => ⟨by simp [O.setF], rfl⟩) ho
 have h1 : HS t1 p bw bb n (turn (O.setF k v) os (r - 1)) z shapes bm F := by
  refine T.h.turn (f1.mono (by simp)) (fun sh' h' => ?_) ok'
  have h2 := h'.hr.hp
  rw [hA.hr.hp] at h2
  cases h2
  obtain ⟨t1', e1', h1', _⟩ := (h'.set hS T.h.ok d r k v h64).2.2 y hg hc
  rw [e1] at e1'; cases e1'; exact h1'
 obtain ⟨t2, e2, r2, f2, _⟩ := ((T.r1 f1 (by simp)).set T.h.ok (d + 2) r k v).2.2 y hg hc
 exact ⟨t1, t2, e1, f1, e2, f2, T.make f1 h1 (fun b hb => .inl hb) f2 (fun b hb => by simp [hb]) r2 (fun b hb => .inl hb) (fun b hb => .inl hb) (T.rf.set hg hc)⟩
theorem Two.setTagE (d : Nat) {r : Int} (v : Int) {o : O} (ho : at? os r = some o) : ∃ t1 t2, (K (d + 2)).call 30 [.ptr p 0, .i r, .i v] t = some (.i 0, t1) ∧ Fr t t1 [bw] ∧ (K (d + 2)).call 39 [.ptr rp 0, .i r, .i v] t1 = some (.i 0, t2) ∧ Fr t1 t2 FO ∧ Two b0 t2 p bw bb n bm rp (turn (O.setTag v) os (r - 1)) z shapes F FO FS w := by
 obtain ⟨sh, hA, hS⟩ := T.h.H
 have hw := T.wf
 obtain ⟨t1, e1, _, f1, _⟩ := (hA.setTag d r v).2 o ho
 have ok' : ShOk (turn (O.setTag v) os (r - 1)) shapes := T.h.ok.turn (g := O.setTag v) (fun o => ⟨rfl, rfl⟩) ho
 have h1 : HS t1 p bw bb n (turn (O.setTag v) os (r - 1)) z shapes bm F := by
  refine T.h.turn (f1.mono (by simp)) (fun sh' h' => ?_) ok'
  obtain ⟨t1', e1', h1', _⟩ := (h'.setTag d r v).2 o ho
  rw [e1] at e1'; cases e1'; exact h1'
 obtain ⟨t2, e2, r2, f2, _⟩ := ((T.r1 f1 (by simp)).setTag d r v).2 o ho
 exact ⟨t1, t2, e1, f1, e2, f2, T.make f1 h1 (fun b hb => .inl hb) f2 (fun b hb => by simp [hb]) r2 (fun b hb => .inl hb) (fun b hb => .inl hb) (T.rf.setTag ho)⟩
end
end
end Go.Proofs.YtgkcpceppmppfaaLab
namespace Go.Proofs.YtgkcpceppmppfaaLab
open Go
set_option linter.all false
set_option maxRecDepth 10000
noncomputable section
structure Nd where
 sh : Int
 ln : Int
 tv : V
 to : List Int
def Nd.cells (a : Nd) : List V := [.i a.sh, .i a.ln, a.tv]
def NA (s : St) (v : V) (l : List Nd) : Prop := (l = [] ∧ (v = .nils ∨ ∃ b o c, v = .slice b o 0 c 3)) ∨ ∃ b o c n f, v = .slice b o l.length c 3 ∧ rdOf s b = some (n, f) ∧ o + l.length * 3 ≤ n ∧ ∀ i a, l[i]? = some a → ∀ j, j < 3 → f (o + i * 3 + j) = a.cells[j]?
structure NdOk (s : St) (b0 : Nat) (a : Nd) : Prop where
 to : SL s a.tv (a.to.map .i)
 bk : ∀ b ∈ blkV a.tv, b < b0
 i64 : ∀ x ∈ a.to, -9223372036854775808 ≤ x ∧ x < 9223372036854775808
section
variable {s : St} {v : V} {l : List Nd}
theorem NA.len (h : NA s v l) : uLenS v = some (.i (l.length : Nat)) := by
 rcases h with ⟨rfl, rfl | ⟨b, o, c, rfl⟩⟩ | ⟨b, o, c, n, f, rfl, _⟩ <;> rfl
theorem NA.fr {s' : St} {L : List Nat} (h : NA s v l) (hw : Wf s) (f : Fr s s' L) (hd : ∀ b, b ∈ blkV v → b ∉ L) : NA s' v l := by
 rcases h with h | ⟨b, o, c, n, g, h1, h2, h3⟩
 · exact .inl h
 · subst h1; exact .inr ⟨b, o, c, n, g, rfl, (rd_same (f.same b (rd_lt hw h2) (hd b (by simp [blkV])))).trans h2, h3⟩
theorem NA.at (h : NA s v l) {i : Nat} {a : Nd} (hi : l[i]? = some a) : ∃ b o, bIdx 3 v (.i (i : Nat)) = some (.ptr b o) ∧ ldP (.ptr b o) s = some (.i a.sh) ∧ ldP (.ptr b (o + 1)) s = some (.i a.ln) ∧ ldP (.ptr b (o + 2)) s = some a.tv := by
 have hl := (List.getElem?_eq_some_iff.1 hi).1
 rcases h with ⟨rfl, _⟩ | ⟨b, o, c, n, f, rfl, h2, h3, h4⟩
 · simp at hi
 · have hi3 : i * 3 + 3 ≤ l.length * 3 := by omega
   refine ⟨b, o + i * 3, ?_, ?_, ?_, ?_⟩
   · rw [bIdx_eq (by omega) (by omega)]; simp
   · rw [dLd_rd h2 (by omega)]; exact h4 i a hi 0 (by omega)
   · rw [dLd_rd h2 (by omega)]; exact h4 i a hi 1 (by omega)
   · rw [dLd_rd h2 (by omega)]; exact h4 i a hi 2 (by omega)
end
def shapes0 : List (List Bool) := [[], [true], [true, false], [false, true, true]]
def ndS (a : Nd) : Int := if a.sh < 0 then (if a.sh = -2 then -2 else -1) else a.sh.tmod 4
def ndN (a : Nd) : Nat := if a.sh < 0 then (withinI a.ln 0 6).toNat else ((shapes0[(a.sh.tmod 4).toNat]?).getD []).length
def mkO (w : Int) : List Nd → Nat → List O → List O
 | [], _, os => os
 | a :: l, i, os => if ((lay os).length + 3 + ndN a : Int) ≤ w then mkO w l (i + 1) (os ++ [(newO (ndS a) (ndN a)).setTag ((i : Int) + 1)]) else os
def valS (os : List O) (refs : List Int) (r : Int) (k : Nat) (x : Int) : Int :=
 if refO os shapes0 r k then (if 0 ≤ x then (refs[(x.tmod (refs.length : Nat)).toNat]?).getD 0 else 0) else x
def rowS (refs : List Int) (a : Nd) (r : Int) : Nat → Nat → List O → List O
 | 0, _, os => os
 | f + 1, k, os => if (k : Int) < lenO os r then (match a.to[k]? with | some x => rowS refs a r f (k + 1) (turn (O.setF k (valS os refs r k x)) os (r - 1)) | none => os) else os
@[irreducible] def fuelR : Nat := 20001
theorem fuelR_eq : fuelR = 20001 := by unfold fuelR; rfl
def allS (refs : List Int) : List Nd → List Int → List O → List O
 | a :: l, r :: rs, os => allS refs l rs (rowS refs a r fuelR 0 os)
 | _, _, os => os
def bld (w : Int) (l : List Nd) : List O := allS (starts 1 (mkO w (l.take 30) 0 [])) (l.take 30) (starts 1 (mkO w (l.take 30) 0 [])) (mkO w (l.take 30) 0 [])
theorem starts_last (os : List O) (o : O) : starts 1 (os ++ [o]) = starts 1 os ++ [((1 + (lay os).length : Nat) : Int)] := by
 rw [starts_append]; rfl
theorem at_last (os : List O) (o : O) : at? (os ++ [o]) ((1 + (lay os).length : Nat) : Int) = some o := by
 unfold at?
 rw [show ((1 + (lay os).length : Nat) : Int) - 1 = ((lay os).length : Nat) by omega]
 exact look_of os o []
theorem turn_last (g : O → O) (os : List O) (o : O) : turn g (os ++ [o]) (((1 + (lay os).length : Nat) : Int) - 1) = os ++ [g o] := by
 rw [show ((1 + (lay os).length : Nat) : Int) - 1 = ((lay os).length : Nat) by omega]
 exact turn_of g os o []
theorem starts_turn {g : O → O} (hg : ∀ o, (g o).f.length = o.f.length) : ∀ (os : List O) (a : Nat) (r : Int), starts a (turn g os r) = starts a os
 | [], a, r => rfl
 | o :: os, a, r => by
   have hn : (g o).n = o.n := by simp [O.n, hg]
   unfold turn
   split
   · simp only [starts, hn]
   · simp only [starts, starts_turn hg os]
theorem turn_length (g : O → O) : ∀ (os : List O) (r : Int), (turn g os r).length = os.length
 | [], r => rfl
 | o :: os, r => by
   unfold turn
   split
   · simp
   · simp [turn_length g os]
theorem turn_get {g : O → O} : ∀ {os : List O} {r : Int} {i : Nat} {o' : O}, (turn g os r)[i]? = some o' → ∃ o, os[i]? = some o ∧ (o' = o ∨ o' = g o)
 | [], r, i, o', h => by unfold turn at h; simp at h
 | o :: os, r, i, o', h => by
   unfold turn at h
   split at h
   · cases i with
     | zero => simp at h; subst h; exact ⟨o, rfl, .inr rfl⟩
     | succ i => exact ⟨o', by simpa using h, .inl rfl⟩
   · cases i with
     | zero => simp at h; subst h; exact ⟨o, rfl, .inl rfl⟩
     | succ i =>
       have h' : (turn g os (r - (o.n : Nat)))[i]? = some o' := by simpa using h
       obtain ⟨x, hx, hc⟩ := turn_get h'
       exact ⟨x, by simpa using hx, hc⟩
def Tagged (os : List O) : Prop := ∀ (i : Nat) o, os[i]? = some o → o.tag = (i : Int) + 1
theorem mkO_tag (w : Int) : ∀ (l : List Nd) (i : Nat) (os : List O), os.length = i → Tagged os → Tagged (mkO w l i os) ∧ (mkO w l i os).length ≤ i + l.length
 | [], i, os, hi, h => ⟨h, by simp [mkO]; omega⟩
 | a :: l, i, os, hi, h => by
   unfold mkO
   split
   · have := mkO_tag w l (i + 1) (os ++ [(newO (ndS a) (ndN a)).setTag ((i : Int) + 1)]) (by simp [hi]) (fun j o hj => by
      by_cases c : j < os.length
      · rw [List.getElem?_append_left c] at hj; exact h j o hj
      · have hl := (List.getElem?_eq_some_iff.1 hj).1
        simp at hl
        have : j = os.length := by omega
        subst this
        simp at hj; subst hj
        rw [hi]; rfl)
     exact ⟨this.1, by simp; omega⟩
   · exact ⟨h, by simp; omega⟩
theorem rowS_keep (refs : List Int) (a : Nd) (r : Int) : ∀ (f k : Nat) (os : List O), starts 1 (rowS refs a r f k os) = starts 1 os ∧ (rowS refs a r f k os).length = os.length ∧ (Tagged os → Tagged (rowS refs a r f k os))
 | 0, k, os => ⟨rfl, rfl, fun h => h⟩
 | f + 1, k, os => by
   unfold rowS
   split
   · split
     · rename_i x hx
       obtain ⟨h1, h2, h3⟩ := rowS_keep refs a r f (k + 1) (turn (O.setF k (valS os refs r k x)) os (r - 1))
       refine ⟨h1.trans (starts_turn (fun o => by simp [O.setF]) os 1 _), h2.trans (turn_length _ _ _), fun h => h3 fun i o hi => ?_⟩
       obtain ⟨o2, ho2, hc⟩ := turn_get hi
       rcases hc with rfl | rfl
       · exact h i _ ho2
       · exact h i o2 ho2
     · exact ⟨rfl, rfl, fun h => h⟩
   · exact ⟨rfl, rfl, fun h => h⟩
theorem allS_keep (refs : List Int) : ∀ (l : List Nd) (rs : List Int) (os : List O), starts 1 (allS refs l rs os) = starts 1 os ∧ (allS refs l rs os).length = os.length ∧ (Tagged os → Tagged (allS refs l rs os))
 | [], rs, os => by unfold allS; exact ⟨rfl, rfl, fun h => h⟩
 | a :: l, [], os => by unfold allS; exact ⟨rfl, rfl, fun h => h⟩
 | a :: l, r :: rs, os => by
   unfold allS
   obtain ⟨h1, h2, h3⟩ := rowS_keep refs a r fuelR 0 os
   obtain ⟨k1, k2, k3⟩ := allS_keep refs l rs (rowS refs a r fuelR 0 os)
   exact ⟨k1.trans h1, k2.trans h2, fun h => k3 (h3 h)⟩
theorem bld_facts (w : Int) (l : List Nd) : Tagged (bld w l) ∧ (bld w l).length ≤ 30 := by
 obtain ⟨h1, h2⟩ := mkO_tag w (l.take 30) 0 [] rfl (fun i o h => by simp at h)
 obtain ⟨k1, k2, k3⟩ := allS_keep (starts 1 (mkO w (l.take 30) 0 [])) (l.take 30) (starts 1 (mkO w (l.take 30) 0 [])) (mkO w (l.take 30) 0 [])
 refine ⟨k3 h1, ?_⟩
 unfold bld
 rw [k2]
 simp at h2; omega
end
end Go.Proofs.YtgkcpceppmppfaaLab
namespace Go.Proofs.YtgkcpceppmppfaaLab
open Go
set_option linter.all false
set_option maxRecDepth 10000
noncomputable section
def BuildQ (s : St) (w : Int) (l : List Nd) (r : V) (t : St) : Prop := ∃ p rp bw bb n bm z F FO FS rv, r = .tup [.ptr p 0, .ptr rp 0, rv] ∧ Two s.next t p bw bb n bm rp (bld w l) z shapes0 F FO FS w ∧ GL t rv ((starts 1 (bld w l)).map .i) ∧ Fr s t [] ∧ ∀ b ∈ blkV rv, s.next ≤ b ∧ b ∉ p :: bw :: bb :: bm :: F ∧ b ∉ rp :: (FO ++ FS)
theorem refs_at {os : List O} {i : Nat} {r : Int} (h : (starts 1 os)[i]? = some r) : ∃ o, os[i]? = some o ∧ at? os r = some o := by
 have hl := (List.getElem?_eq_some_iff.1 h).1
 rw [starts_len] at hl
 have ho : os[i]? = some os[i] := List.getElem?_eq_getElem hl
 rw [starts_get _ _ _ hl] at h
 cases h
 exact ⟨_, ho, at_starts ho⟩
theorem refs_root (os : List O) : ∀ r ∈ starts 1 os, (at? os r).isSome := fun r hr => by
 obtain ⟨i, hi⟩ := List.getElem?_of_mem hr
 obtain ⟨o, _, ho⟩ := refs_at hi
 rw [ho]; rfl
section
variable {s : St} {l : List Nd} {w : Int} {lv : V} (hA : NA s lv l) (hok : ∀ a ∈ l, NdOk s s.next a) (hw : Wf s) (hlb : ∀ b ∈ blkV lv, b < s.next)
include hA hok hw hlb
theorem build_row {t : St} {p rp bw bb n bm : Nat} {z : List Int} {F FO FS : List Nat} {os : List O} {refs : List Int} {rv : V} (T : Two s.next t p bw bb n bm rp os z shapes0 F FO FS w) (hf : Fr s t []) (hrefs : starts 1 os = refs) (hg : GL t rv (refs.map .i)) (hoff : ∀ b ∈ blkV rv, s.next ≤ b ∧ b ∉ p :: bw :: bb :: bm :: F ∧ b ∉ rp :: (FO ++ FS)) {i : Nat} {a : Nd} (hai : l[i]? = some a) {r : Int} (hri : refs[i]? = some r) (d : Nat) {e : E} (i0 : g0 e = lv) (i7 : g7 e = .ptr p 0) (i9 : g9 e = .ptr rp 0) (i12 : g12 e = rv) (i17 : g17 e = .i i) :
 rnd (p8_78 (K (d + 5)) e t) (fun e' t' => Two s.next t' p bw bb n bm rp (rowS refs a r 20001 0 os) z shapes0 F FO FS w ∧ Fr s t' [] ∧ GL t' rv (refs.map .i) ∧ g0 e' = lv ∧ g7 e' = .ptr p 0 ∧ g9 e' = .ptr rp 0 ∧ g12 e' = rv ∧ g17 e' = .i i) (fun _ => False) := by
 replace i0 : e.a0.a0 = _ := i0
 replace i7 : e.a0.a7 = _ := i7
 replace i9 : e.a0.a9 = _ := i9
 replace i12 : e.a0.a12 = _ := i12
 replace i17 : e.a1.a1 = _ := i17
 simp -implicitDefEqProofs (maxSteps := 5000000) (disch := first | assumption | omega | (simp only [dz, dl, Nat.zero_add, Nat.reduceAdd, Bool.and_self]; done) | (simp only [dl]; omega)) only [go_sem, fAdd_eq, p8_78.eq_1]
 refine loop_at (Q := fun r => rnd (blkR 5 (blkR 6 r)) _ _) (fun q e' t' => ∃ (k : Nat) (os' : List O), q = 20001 - k ∧ k ≤ 20001 ∧ Two s.next t' p bw bb n bm rp os' z shapes0 F FO FS w ∧ Fr s t' [] ∧ GL t' rv (refs.map .i) ∧ starts 1 os' = refs ∧ rowS refs a r (20001 - k) k os' = rowS refs a r 20001 0 os ∧ g0 e' = lv ∧ g7 e' = .ptr p 0 ∧ g9 e' = .ptr rp 0 ∧ g12 e' = rv ∧ g17 e' = .i i ∧ g18 e' = .i k) ?_ (n := 20001) (by omega) ⟨0, os, by omega, by omega, T, hf, hg, hrefs, rfl, i0, i7, i9, i12, i17, (by first | trivial | rfl | assumption)⟩
 clear i0 i7 i9 i12 i17 T hf hg hrefs e
 rintro q e t1 ⟨k, os', rfl, hk, T, hf, hg, hrefs, hrow, i0, i7, i9, i12, i17, i18⟩
 replace i0 : e.a0.a0 = _ := i0
 replace i7 : e.a0.a7 = _ := i7
 replace i9 : e.a0.a9 = _ := i9
 replace i12 : e.a0.a12 = _ := i12
 replace i17 : e.a1.a1 = _ := i17
 replace i18 : e.a1.a2 = _ := i18
 have hwt := hf.wf
 obtain ⟨q, a1, a2⟩ := (hg.sl hwt).at hwt (j := i) (x := .i r) (by rw [List.getElem?_map, hri]; rfl)
 have elen := T.r.len (d + 3) r
 obtain ⟨b, o, b1, _, _, b2⟩ := (hA.fr hw hf (by simp)).at hai
 have hna := hok a (List.mem_of_getElem? hai)
 have hto := hna.to.fr hw hf (by simp)
 have htl := hto.len
 rw [List.length_map] at htl
 obtain ⟨ob, hob, hat⟩ := refs_at (hrefs ▸ hri)
 have hlenO : lenO os' r = (ob.f.length : Nat) := by unfold lenO; rw [hat]
 have hlay := T.h.lay_le
 have hobn : ob.n ≤ 20000 := by have := lay_lt hat; omega
 have hrl : refs.length ≤ 20000 := by
  have := lay_len3 os'
  rw [← hrefs, starts_len]; omega
 have hgl := hg.len
 rw [List.length_map] at hgl
 by_cases c1 : (k : Int) < lenO os' r
 · have hk999 : k < 20001 := by
    have hn : ob.n = 3 + ob.f.length := rfl
    omega
   by_cases c2 : (k : Int) < ((a.to.length : Nat) : Int)
   · obtain ⟨x, hx⟩ : ∃ x, a.to[k]? = some x := ⟨_, List.getElem?_eq_getElem (by omega)⟩
     obtain ⟨qx, x1, x2⟩ := hto.at hwt (j := k) (x := .i x) (by rw [List.getElem?_map, hx]; rfl)
     have erf := T.r.isRef T.h.ok (d + 3) r (k : Nat)
     have hx64 := hna.i64 x (List.mem_of_getElem? hx)
     have hstep : rowS refs a r (20001 - k) k os' = rowS refs a r (20001 - (k + 1)) (k + 1) (turn (O.setF k (valS os' refs r k x)) os' (r - 1)) := by
      rw [show 20001 - k = (20001 - (k + 1)) + 1 by omega, rowS, if_pos c1, hx]
     have hgk : getO os' r (k : Nat) = some (ob.f[k]'(by omega)) := by
      unfold getO; rw [hat]; simp only
      rw [if_pos (by omega), Int.toNat_natCast]; exact List.getElem?_eq_getElem _
     have fin : ∀ v, v = valS os' refs r k x → -9223372036854775808 ≤ v ∧ v < 9223372036854775808 → (refO os' shapes0 r k && !(decide (v = 0) || (at? os' v).isSome)) = false → ∃ t2 t3, (K (d + 5)).call 41 [.ptr p 0, .i r, .i (k : Nat), .i v] t1 = some (.i 0, t2) ∧ bIdx 1 rv (.i (i : Nat)) = some q ∧ ldP q t2 = some (.i r) ∧ (K (d + 5)).call 42 [.ptr rp 0, .i r, .i (k : Nat), .i v] t2 = some (.i 0, t3) ∧ ∃ m, m < 20001 - k ∧ ∃ (k' : Nat) (os'' : List O), m = 20001 - k' ∧ k' ≤ 20001 ∧ Two s.next t3 p bw bb n bm rp os'' z shapes0 F FO FS w ∧ Fr s t3 [] ∧ GL t3 rv (refs.map .i) ∧ starts 1 os'' = refs ∧ rowS refs a r (20001 - k') k' os'' = rowS refs a r 20001 0 os ∧ k' = k + 1 := fun v hv h64 hc => by
      obtain ⟨t2, t3, e1, f1, e2, f2, T3⟩ := T.setE d h64 hgk hc
      have hn1 := hf.nx
      have g2' := hg.fr hwt f1 (fun b hb => by have := (hoff b hb).2.1; simp at this ⊢; exact this.2.1)
      have g3' := g2'.fr f1.wf f2 (fun b hb => by have := (hoff b hb).2.2; simp at this ⊢; exact this.2.1)
      obtain ⟨q', a1', a2'⟩ := (g2'.sl f1.wf).at f1.wf (j := i) (x := .i r) (by rw [List.getElem?_map, hri]; rfl)
      rw [a1] at a1'; cases a1'
      have F3 : Fr s t3 [] := (hf.trans' f1 (fun b hb => .inr (by simp at hb; subst hb; exact (T.dj b (by simp)).1))).trans' f2 (fun b hb => .inr (T.dr b (by simp [hb])))
      exact ⟨t2, t3, e1, a1, a2', e2, 20001 - (k + 1), by omega, k + 1, _, rfl, by omega, T3, F3, g3', (starts_turn (fun o => by simp [O.setF]) os' 1 _).trans hrefs, by rw [← hrow, hstep, hv], rfl⟩
     cases hb : refO os' shapes0 r (k : Nat) with
     | false =>
       rw [hb] at erf
       obtain ⟨t2, t3, w1, _, w3, w4, m, m1, k', os'', m2, m3, m4, m5, m6, m7, m8, rfl⟩ := fin x (by unfold valS; rw [hb]; rfl) hx64 (by rw [hb]; rfl)
       simp -implicitDefEqProofs (maxSteps := 5000000) (disch := first | assumption | omega | (simp only [dz, dl, Nat.zero_add, Nat.reduceAdd, Bool.and_self]; done) | (simp only [dl]; omega)) only [go_sem, fAdd_eq, i0, i7, i9, i12, i17, i18, a1, a2, elen, c1, b1, b2, htl, c2, x1, x2, erf, w1, w3, w4]
       exact ⟨m, m1, k + 1, os'', m2, m3, m4, m5, m6, m7, m8, (by first | trivial | rfl | assumption), (by first | trivial | rfl | assumption), (by first | trivial | rfl | assumption), (by first | trivial | rfl | assumption), (by first | trivial | rfl | assumption), (by first | trivial | rfl | assumption)⟩
     | true =>
       rw [hb] at erf
       have hr0 : 0 < refs.length := by have := (List.getElem?_eq_some_iff.1 hri).1; omega
       by_cases c0 : 0 ≤ x
       · obtain ⟨ix, hix⟩ : ∃ ix : Nat, x.tmod (refs.length : Nat) = ix := ⟨(x.tmod (refs.length : Nat)).toNat, by have := Int.tmod_nonneg (refs.length : Int) c0; omega⟩
         have hlt := Int.tmod_lt_of_pos x (show (0 : Int) < (refs.length : Nat) by omega)
         rw [hix] at hlt
         obtain ⟨y, hy⟩ : ∃ y, refs[ix]? = some y := ⟨_, List.getElem?_eq_getElem (by omega)⟩
         obtain ⟨qy, y1, y2⟩ := (hg.sl hwt).at hwt (j := ix) (x := .i y) (by rw [List.getElem?_map, hy]; rfl)
         have hys := refs_root os' y (hrefs ▸ List.mem_of_getElem? hy)
         have hyb := obj_b hys
         obtain ⟨t2, t3, w1, _, w3, w4, m, m1, k', os'', m2, m3, m4, m5, m6, m7, m8, rfl⟩ := fin y (by unfold valS; rw [hb, hix, Int.toNat_natCast, hy]; simp [c0]) (by omega) (by rw [hb, hys]; simp)
         have cne : ¬ ((refs.length : Nat) : Int) = 0 := by omega
         simp -implicitDefEqProofs (maxSteps := 5000000) (disch := first | assumption | omega | (simp only [dz, dl, Nat.zero_add, Nat.reduceAdd, Bool.and_self]; done) | (simp only [dl]; omega)) only [go_sem, fAdd_eq, i0, i7, i9, i12, i17, i18, a1, a2, elen, c1, b1, b2, htl, c2, x1, x2, erf, c0, hgl, cne, hix, y1, y2, w1, w3, w4]
         exact ⟨m, m1, k + 1, os'', m2, m3, m4, m5, m6, m7, m8, (by first | trivial | rfl | assumption), (by first | trivial | rfl | assumption), (by first | trivial | rfl | assumption), (by first | trivial | rfl | assumption), (by first | trivial | rfl | assumption), (by first | trivial | rfl | assumption)⟩
       · obtain ⟨t2, t3, w1, _, w3, w4, m, m1, k', os'', m2, m3, m4, m5, m6, m7, m8, rfl⟩ := fin 0 (by unfold valS; rw [hb]; simp [c0]) (by omega) (by rw [hb]; simp)
         simp -implicitDefEqProofs (maxSteps := 5000000) (disch := first | assumption | omega | (simp only [dz, dl, Nat.zero_add, Nat.reduceAdd, Bool.and_self]; done) | (simp only [dl]; omega)) only [go_sem, fAdd_eq, i0, i7, i9, i12, i17, i18, a1, a2, elen, c1, b1, b2, htl, c2, x1, x2, erf, c0, w1, w3, w4]
         exact ⟨m, m1, k + 1, os'', m2, m3, m4, m5, m6, m7, m8, (by first | trivial | rfl | assumption), (by first | trivial | rfl | assumption), (by first | trivial | rfl | assumption), (by first | trivial | rfl | assumption), (by first | trivial | rfl | assumption), (by first | trivial | rfl | assumption)⟩
   · have hnone : a.to[k]? = none := List.getElem?_eq_none (by omega)
     have hend : rowS refs a r (20001 - k) k os' = os' := by
      rw [show 20001 - k = (20001 - (k + 1)) + 1 by omega, rowS, if_pos c1, hnone]
     simp -implicitDefEqProofs (maxSteps := 5000000) (disch := first | assumption | omega | (simp only [dz, dl, Nat.zero_add, Nat.reduceAdd, Bool.and_self]; done) | (simp only [dl]; omega)) only [go_sem, fAdd_eq, i0, i7, i9, i12, i17, i18, a1, a2, elen, c1, b1, b2, htl, c2]
     exact ⟨by rw [← hrow, hend]; exact T, hf, hg, (by first | trivial | rfl | assumption), (by first | trivial | rfl | assumption), (by first | trivial | rfl | assumption), (by first | trivial | rfl | assumption), (by first | trivial | rfl | assumption)⟩
 · have hend : rowS refs a r (20001 - k) k os' = os' := by
    cases h : 20001 - k with
    | zero => rfl
    | succ f => rw [rowS, if_neg c1]
   simp -implicitDefEqProofs (maxSteps := 5000000) (disch := first | assumption | omega | (simp only [dz, dl, Nat.zero_add, Nat.reduceAdd, Bool.and_self]; done) | (simp only [dl]; omega)) only [go_sem, fAdd_eq, i0, i7, i9, i12, i17, i18, a1, a2, elen, c1]
   exact ⟨by rw [← hrow, hend]; exact T, hf, hg, (by first | trivial | rfl | assumption), (by first | trivial | rfl | assumption), (by first | trivial | rfl | assumption), (by first | trivial | rfl | assumption), (by first | trivial | rfl | assumption)⟩
end
end
end Go.Proofs.YtgkcpceppmppfaaLab
namespace Go.Proofs.YtgkcpceppmppfaaLab
open Go
set_option linter.all false
set_option maxRecDepth 10000
noncomputable section
theorem rnd_seq {r : Res} {B : E → St → Res} {N N' : E → St → Prop} {Q : Res → Prop} (h : rnd r N' fun _ => False) (hN : ∀ e s, N' e s → rnd (B e s) N Q) : rnd (seqR r B) N Q := by
 obtain ⟨e, s, rfl, h⟩ := rnd_inv h
 exact hN e s h
section
variable {s : St} {l : List Nd} {w : Int} {lv : V} (hA : NA s lv l) (hok : ∀ a ∈ l, NdOk s s.next a) (hw : Wf s) (hlb : ∀ b ∈ blkV lv, b < s.next)
include hA hok hw hlb
theorem build_sets {t : St} {p rp bw bb n bm : Nat} {z : List Int} {F FO FS : List Nat} {rv : V} (T : Two s.next t p bw bb n bm rp (mkO w (l.take 30) 0 []) z shapes0 F FO FS w) (hf : Fr s t []) (hg : GL t rv ((starts 1 (mkO w (l.take 30) 0 [])).map .i)) (hoff : ∀ b ∈ blkV rv, s.next ≤ b ∧ b ∉ p :: bw :: bb :: bm :: F ∧ b ∉ rp :: (FO ++ FS)) (d : Nat) {e : E} (i0 : g0 e = lv) (i7 : g7 e = .ptr p 0) (i9 : g9 e = .ptr rp 0) (i12 : g12 e = rv) :
 Ret (retR (resV [rT g4, rT g5, rT g6]) (p8_68 (K (d + 5)) e t)) (BuildQ s w l) := by
 have hlenR : (mkO w (l.take 30) 0 []).length ≤ (l.take 30).length := by
  have := (mkO_tag w (l.take 30) 0 [] rfl (fun i o h => by simp at h)).2
  omega
 have hbld : bld w l = allS (starts 1 (mkO w (l.take 30) 0 [])) (l.take 30) (starts 1 (mkO w (l.take 30) 0 [])) (mkO w (l.take 30) 0 []) := rfl
 have hkeep := (allS_keep (starts 1 (mkO w (l.take 30) 0 [])) (l.take 30) (starts 1 (mkO w (l.take 30) 0 [])) (mkO w (l.take 30) 0 [])).1
 generalize hos : mkO w (l.take 30) 0 [] = os at *
 generalize hrs : starts 1 os = refs at *
 have hrl : refs.length = os.length := by rw [← hrs, starts_len]
 have hl30 : (l.take 30).length ≤ 30 := by simp; omega
 replace i0 : e.a0.a0 = _ := i0
 replace i7 : e.a0.a7 = _ := i7
 replace i9 : e.a0.a9 = _ := i9
 replace i12 : e.a0.a12 = _ := i12
 have hgl := hg.len
 rw [List.length_map] at hgl
 simp -implicitDefEqProofs (maxSteps := 5000000) (disch := first | assumption | omega | (simp only [dz, dl, Nat.zero_add, Nat.reduceAdd, Bool.and_self]; done) | (simp only [dl]; omega)) only [go_sem, fAdd_eq, p8_68.eq_1]
 refine loop_at (Q := fun r => Ret (retR _ (seqR (blkR 4 r) _)) _) (fun q e' t' => ∃ (i : Nat) (os' : List O), q = refs.length - i ∧ i ≤ refs.length ∧ Two s.next t' p bw bb n bm rp os' z shapes0 F FO FS w ∧ Fr s t' [] ∧ GL t' rv (refs.map .i) ∧ starts 1 os' = refs ∧ allS refs ((l.take 30).drop i) (refs.drop i) os' = bld w l ∧ g0 e' = lv ∧ g7 e' = .ptr p 0 ∧ g9 e' = .ptr rp 0 ∧ g12 e' = rv ∧ g17 e' = .i i) ?_ (n := refs.length) (by omega) ⟨0, os, by omega, by omega, T, hf, hg, hrs, by rw [List.drop_zero, List.drop_zero, hbld], i0, i7, i9, i12, (by first | trivial | rfl | assumption)⟩
 clear i0 i7 i9 i12 T hf hg hrs e hgl
 rintro q e t1 ⟨i, os', rfl, hi, T, hf, hg, hrs, hall, i0, i7, i9, i12, i17⟩
 replace i0 : e.a0.a0 = _ := i0
 replace i7 : e.a0.a7 = _ := i7
 replace i9 : e.a0.a9 = _ := i9
 replace i12 : e.a0.a12 = _ := i12
 replace i17 : e.a1.a1 = _ := i17
 have hgl := hg.len
 rw [List.length_map] at hgl
 by_cases c : (i : Int) < ((refs.length : Nat) : Int)
 · obtain ⟨r, hr⟩ : ∃ r, refs[i]? = some r := ⟨_, List.getElem?_eq_getElem (by omega)⟩
   obtain ⟨a, ha⟩ : ∃ a, (l.take 30)[i]? = some a := ⟨_, List.getElem?_eq_getElem (by omega)⟩
   have hal : l[i]? = some a := by
    rw [List.getElem?_take] at ha
    split at ha
    · exact ha
    · cases ha
   have hstep : allS refs ((l.take 30).drop i) (refs.drop i) os' = allS refs ((l.take 30).drop (i + 1)) (refs.drop (i + 1)) (rowS refs a r fuelR 0 os') := by
    rw [List.drop_eq_getElem_cons (show i < (l.take 30).length by omega), List.drop_eq_getElem_cons (show i < refs.length by omega), (List.getElem?_eq_some_iff.1 ha).2, (List.getElem?_eq_some_iff.1 hr).2]
    rfl
   have hst : starts 1 (rowS refs a r fuelR 0 os') = refs := (rowS_keep refs a r fuelR 0 os').1.trans hrs
   rw [fuelR_eq] at hstep hst
   simp -implicitDefEqProofs (maxSteps := 5000000) (disch := first | assumption | omega | (simp only [dz, dl, Nat.zero_add, Nat.reduceAdd, Bool.and_self]; done) | (simp only [dl]; omega)) only [go_sem, fAdd_eq, i0, i7, i9, i12, i17, hgl, c]
   refine rnd_seq (build_row hA hok hw hlb T hf hrs hg hoff hal hr d (by first | trivial | rfl | assumption) (by first | trivial | rfl | assumption) (by first | trivial | rfl | assumption) (by first | trivial | rfl | assumption) (by first | trivial | rfl | assumption)) ?_
   rintro e' t' ⟨T', hf', hg', j0, j7, j9, j12, j17⟩
   replace j0 : e'.a0.a0 = _ := j0
   replace j7 : e'.a0.a7 = _ := j7
   replace j9 : e'.a0.a9 = _ := j9
   replace j12 : e'.a0.a12 = _ := j12
   replace j17 : e'.a1.a1 = _ := j17
   simp -implicitDefEqProofs (maxSteps := 5000000) (disch := first | assumption | omega | (simp only [dz, dl, Nat.zero_add, Nat.reduceAdd, Bool.and_self]; done) | (simp only [dl]; omega)) only [go_sem, fAdd_eq, j0, j7, j9, j12, j17]
   exact ⟨refs.length - (i + 1), by omega, i + 1, _, rfl, by omega, T', hf', hg', hst, by rw [← hall, hstep], (by first | trivial | rfl | assumption), (by first | trivial | rfl | assumption), (by first | trivial | rfl | assumption), (by first | trivial | rfl | assumption), (by first | trivial | rfl | assumption)⟩
 · have : i = refs.length := by omega
   subst this
   have hend : allS refs ((l.take 30).drop refs.length) (refs.drop refs.length) os' = os' := by
    rw [List.drop_eq_nil_of_le (Nat.le_refl refs.length)]
    cases (l.take 30).drop refs.length <;> rfl
   rw [hend] at hall
   subst hall
   simp -implicitDefEqProofs (maxSteps := 5000000) (disch := first | assumption | omega | (simp only [dz, dl, Nat.zero_add, Nat.reduceAdd, Bool.and_self]; done) | (simp only [dl]; omega)) only [go_sem, fAdd_eq, i0, i7, i9, i12, i17, hgl, c]
   exact ⟨p, rp, bw, bb, n, bm, z, F, FO, FS, rv, (by first | trivial | rfl | assumption), T, by rw [hrs]; exact hg, hf, hoff⟩
end
end
end Go.Proofs.YtgkcpceppmppfaaLab
namespace Go.Proofs.YtgkcpceppmppfaaLab
open Go
set_option linter.all false
set_option maxRecDepth 10000
noncomputable section
theorem shapes0_at {r : Int} (h0 : 0 ≤ r) (h1 : r < 4) : ∃ l, shapes0[r.toNat]? = some l ∧ l.length ≤ 3 := by
 have : r = 0 ∨ r = 1 ∨ r = 2 ∨ r = 3 := by omega
 rcases this with rfl | rfl | rfl | rfl
 · exact ⟨_, rfl, by simp⟩
 · exact ⟨_, rfl, by simp⟩
 · exact ⟨_, rfl, by simp⟩
 · exact ⟨_, rfl, by simp⟩
section
variable {s : St} {l : List Nd} {w : Int} {lv : V} (hA : NA s lv l) (hok : ∀ a ∈ l, NdOk s s.next a) (hw : Wf s) (hlb : ∀ b ∈ blkV lv, b < s.next)
include hA hok hw hlb
theorem build_objs {t : St} {p rp bw bb n bm : Nat} {z : List Int} {F FO FS : List Nat} (T : Two s.next t p bw bb n bm rp [] z shapes0 F FO FS w) (hf : Fr s t []) (d : Nat) {e : E} (i0 : g0 e = lv) (i7 : g7 e = .ptr p 0) (i9 : g9 e = .ptr rp 0) :
 Ret (retR (resV [rT g4, rT g5, rT g6]) (p8_29 (K (d + 5)) e t)) (BuildQ s w l) := by
 have hlen := hA.len
 have hl30 : (l.take 30).length = min 30 l.length := by simp
 generalize hos0 : mkO w (l.take 30) 0 [] = os0 at *
 replace i0 : e.a0.a0 = _ := i0
 replace i7 : e.a0.a7 = _ := i7
 replace i9 : e.a0.a9 = _ := i9
 simp -implicitDefEqProofs (maxSteps := 5000000) (disch := first | assumption | omega | (simp only [dz, dl, Nat.zero_add, Nat.reduceAdd, Bool.and_self]; done) | (simp only [dl]; omega)) only [go_sem, fAdd_eq, p8_29.eq_1]
 refine loop_at (Q := fun r => Ret (retR _ (seqR (blkR 2 r) _)) _) (fun q e' t' => ∃ (i : Nat) (os : List O) (z' : List Int) (FO' : List Nat) (rv : V), q = (l.take 30).length - i ∧ i ≤ (l.take 30).length ∧ Two s.next t' p bw bb n bm rp os z' shapes0 F FO' FS w ∧ Fr s t' [] ∧ os.length = i ∧ GL t' rv ((starts 1 os).map .i) ∧ (∀ b ∈ blkV rv, s.next ≤ b ∧ b ∉ p :: bw :: bb :: bm :: F ∧ b ∉ rp :: (FO' ++ FS)) ∧ mkO w ((l.take 30).drop i) i os = os0 ∧ g0 e' = lv ∧ g7 e' = .ptr p 0 ∧ g9 e' = .ptr rp 0 ∧ g12 e' = rv ∧ g13 e' = .i i) ?_ (n := (l.take 30).length) (by omega) ⟨0, [], z, FO, .nils, by omega, by omega, T, hf, rfl, .inl ⟨rfl, rfl⟩, by simp [blkV], by rw [List.drop_zero]; exact hos0, i0, i7, i9, (by first | trivial | rfl | assumption), (by first | trivial | rfl | assumption)⟩
 clear i0 i7 i9 T hf e
 rintro q e t1 ⟨i, os, z', FO', rv, rfl, hi, T, hf, hol, hg, hoff, hmk, i0, i7, i9, i12, i13⟩
 replace i0 : e.a0.a0 = _ := i0
 replace i7 : e.a0.a7 = _ := i7
 replace i9 : e.a0.a9 = _ := i9
 replace i12 : e.a0.a12 = _ := i12
 replace i13 : e.a0.a13 = _ := i13
 have hwt := hf.wf
 have fin : os = os0 → ∀ {e : E}, g0 e = lv → g7 e = .ptr p 0 → g9 e = .ptr rp 0 → g12 e = rv → Ret (retR (resV [rT g4, rT g5, rT g6]) (p8_68 (K (d + 5)) e t1)) (BuildQ s w l) := fun he e j0 j7 j9 j12 => by
  subst he
  rw [← hos0] at T hg
  exact build_sets hA hok hw hlb T hf hg hoff d j0 j7 j9 j12
 by_cases cl : (i : Int) < ((l.length : Nat) : Int)
 · by_cases c30 : (i : Int) < 30
   · obtain ⟨a, ha⟩ : ∃ a, (l.take 30)[i]? = some a := ⟨_, List.getElem?_eq_getElem (by omega)⟩
     have hal : l[i]? = some a := by
      rw [List.getElem?_take] at ha
      split at ha
      · exact ha
      · cases ha
     have hdrop : (l.take 30).drop i = a :: (l.take 30).drop (i + 1) := by
      rw [List.drop_eq_getElem_cons (show i < (l.take 30).length by omega), (List.getElem?_eq_some_iff.1 ha).2]
     rw [hdrop] at hmk
     have hNt := hA.fr hw hf (by simp)
     obtain ⟨b, o, b1, b2, b3, _⟩ := hNt.at hal
     have ew := within_eq t1 a.ln 0 6 (by omega) (by omega) (by omega) (d + 4)
     have hwi := withinI_le a.ln 0 6 (by omega)
     obtain ⟨m, hm⟩ : ∃ m : Nat, withinI a.ln 0 6 = m := ⟨(withinI a.ln 0 6).toNat, by omega⟩
     rw [hm] at ew hwi
     have hlay := T.h.lay_le
     have hf0 := hf.nx
     have step : ∀ (t2 t3 : St) (z2 : List Int) (FO2 : List Nat), Fr t1 t2 [p, bw, bb] → Fr t2 t3 (rp :: FO') → Two s.next t3 p bw bb n bm rp (os ++ [newO (ndS a) (ndN a)]) z2 shapes0 F FO2 FS w → (∀ b ∈ FO2, b ∈ FO' ∨ t1.next ≤ b) → ((lay os).length + 3 + ndN a : Int) ≤ w → ∃ t4 t5 t6 t7, (K (d + 5)).call 30 [.ptr p 0, .i ((1 + (lay os).length : Nat) : Int), .i ((i : Int) + 1)] t3 = some (.i 0, t4) ∧ (K (d + 5)).call 39 [.ptr rp 0, .i ((1 + (lay os).length : Nat) : Int), .i ((i : Int) + 1)] t4 = some (.i 0, t5) ∧ t5.new (.cells 1 (ofL [V.i ((1 + (lay os).length : Nat) : Int)])) = t6 ∧ apP 1 rv (.slice t5.next 0 1 (some 1) 1) t6 = some (.slice (t5.next + 1) 0 (os.length + 1) none 1, t7) ∧ ∃ m, m < (l.take 30).length - i ∧ ∃ (i' : Nat) (os' : List O) (z' : List Int) (FO' : List Nat) (rv' : V), m = (l.take 30).length - i' ∧ i' ≤ (l.take 30).length ∧ Two s.next t7 p bw bb n bm rp os' z' shapes0 F FO' FS w ∧ Fr s t7 [] ∧ os'.length = i' ∧ GL t7 rv' ((starts 1 os').map .i) ∧ (∀ b ∈ blkV rv', s.next ≤ b ∧ b ∉ p :: bw :: bb :: bm :: F ∧ b ∉ rp :: (FO' ++ FS)) ∧ mkO w ((l.take 30).drop i') i' os' = os0 ∧ i' = i + 1 ∧ rv' = .slice (t5.next + 1) 0 (os.length + 1) none 1 := by
      intro t2 t3 z2 FO2 f2 f3 T3 hO2 hfit
      obtain ⟨t4, t5, e4, f4, e5, f5, T5⟩ := T3.setTagE (d + 3) ((i : Int) + 1) (at_last os _)
      rw [turn_last] at T5
      have hmk' : mkO w ((l.take 30).drop (i + 1)) (i + 1) (os ++ [(newO (ndS a) (ndN a)).setTag ((i : Int) + 1)]) = os0 := by
       rw [← hmk, mkO, if_pos hfit]
      have g2' := hg.fr hwt f2 (fun b hb => by have := (hoff b hb).2.1; simp at this ⊢; exact ⟨this.1, this.2.1, this.2.2.1⟩)
      have g3' := g2'.fr f2.wf f3 (fun b hb => by have := (hoff b hb).2.2; simp at this ⊢; exact ⟨this.1, this.2.1⟩)
      have hrvlt : ∀ b ∈ blkV rv, b < t1.next := fun b hb => blk_lt hwt hg b hb
      have hnF2 : ∀ b ∈ blkV rv, b ∉ FO2 := fun b hb hm => by
       rcases hO2 b hm with h | h
       · exact (hoff b hb).2.2 (by simp [h])
       · have := hrvlt b hb; omega
      have g4' := g3'.fr f3.wf f4 (fun b hb => by have := (hoff b hb).2.1; simp at this ⊢; exact this.2.1)
      have g5' := g4'.fr f4.wf f5 (fun b hb => hnF2 b hb)
      obtain ⟨t6, t7, e6, e7, hg7, f7, n7⟩ := g5'.push f5.wf (x := .i ((1 + (lay os).length : Nat) : Int)) rfl (fun y hy => by obtain ⟨a, _, rfl⟩ := List.mem_map.1 hy; rfl) (by rw [List.length_map, starts_len]; omega)
      rw [List.length_map, starts_len] at e7 hg7
      have hoff5 : ∀ b ∈ blkV rv, s.next ≤ b ∧ b ∉ p :: bw :: bb :: bm :: F ∧ b ∉ rp :: (FO2 ++ FS) := fun b hb => ⟨(hoff b hb).1, (hoff b hb).2.1, fun hm => by
       simp only [List.mem_cons, List.mem_append] at hm
       rcases hm with h | h | h
       · exact (hoff b hb).2.2 (by simp [h])
       · exact hnF2 b hb h
       · exact (hoff b hb).2.2 (by simp [h])⟩
      have T7 : Two s.next t7 p bw bb n bm rp (os ++ [(newO (ndS a) (ndN a)).setTag ((i : Int) + 1)]) z2 shapes0 F FO2 FS w := by
       refine T5.off f7 ?_ ?_
       · exact fun b hb hm => (hoff5 b hm).2.1 hb
       · exact fun b hb hm => (hoff5 b hm).2.2 hb
      have hn5 : t1.next ≤ t5.next := by have := f2.nx; have := f3.nx; have := f4.nx; have := f5.nx; omega
      have F7 : Fr s t7 [] := ((((hf.trans' f2 (fun b hb => .inr (by simp at hb; exact (T.dj b (by simp; rcases hb with h | h | h <;> simp [h])).1))).trans' f3 (fun b hb => .inr (T.dr b (by simp at hb ⊢; rcases hb with h | h <;> simp [h])))).trans' f4 (fun b hb => .inr (by simp at hb; subst hb; exact (T.dj b (by simp)).1))).trans' f5 (fun b hb => .inr (T3.dr b (by simp [hb])))).trans' f7 (fun b hb => .inr (hoff b hb).1)
      refine ⟨t4, t5, t6, t7, e4, e5, e6, e7, (l.take 30).length - (i + 1), by omega, i + 1, _, z2, FO2, _, rfl, by omega, T7, F7, by simp [hol], ?_, fun b hb => ?_, hmk', rfl, rfl⟩
      · rw [starts_last, List.map_append]
        have e : (starts 1 (os ++ [(newO (ndS a) (ndN a)).setTag ((i : Int) + 1)])).length = os.length + 1 := by rw [starts_len]; simp
        exact hg7
      · simp [blkV] at hb; subst hb
        refine ⟨by omega, fun hm => ?_, fun hm => ?_⟩
        · have := T5.lt _ hm; omega
        · have := T5.ltR _ hm; omega
     by_cases cs : a.sh < 0
     · have hS : ndS a = if a.sh = -2 then -2 else -1 := by unfold ndS; rw [if_pos cs]
       have hN : ndN a = m := by unfold ndN; rw [if_pos cs, hm]; simp
       obtain ⟨q1, q2⟩ := T.arrayE (d + 2) (decide (a.sh = -2)) m (by omega)
       by_cases cf : ((lay os).length + 3 + m : Int) ≤ w
       · obtain ⟨t2, t3, z2, FO2, e2, f2, e3, f3, T3, hO2⟩ := q2 cf
         have hif : (if decide (a.sh = -2) = true then (-2 : Int) else -1) = ndS a := by rw [hS]; by_cases h : a.sh = -2 <;> simp [h]
         rw [hif, ← hN] at T3
         have hNt2 := hNt.fr hwt f2 (fun b hb hm => by
          have := hlb b hb
          have : s.next ≤ b := (T.dj b (by simp at hm ⊢; rcases hm with h | h | h <;> simp [h])).1
          omega)
         obtain ⟨b', o', b1', b2', _⟩ := hNt2.at hal
         rw [b1] at b1'; cases b1'
         obtain ⟨t4, t5, t6, t7, w4, w5, w6, w7, mm, m1, i', os', z3, FO3, rv3, m2, m3, m4, m5, m6, m7, m8, m9, rfl, rfl⟩ := step t2 t3 z2 FO2 f2 f3 T3 hO2 (by rw [hN]; exact cf)
         simp -implicitDefEqProofs (maxSteps := 5000000) (disch := first | assumption | omega | (simp only [dz, dl, Nat.zero_add, Nat.reduceAdd, Bool.and_self]; done) | (simp only [dl]; omega)) only [go_sem, fAdd_eq, i0, i7, i9, i12, i13, hlen, cl, c30, b1, b2, b3, ew, cs, e2, b2', e3, eq_self, w4, w5, w6, w7]
         exact ⟨mm, m1, i + 1, os', z3, FO3, _, m2, m3, m4, m5, m6, m7, m8, m9, (by first | trivial | rfl | assumption), (by first | trivial | rfl | assumption), (by first | trivial | rfl | assumption), rfl, (by first | trivial | rfl | assumption)⟩
       · obtain ⟨e2, e3⟩ := q1 (by omega)
         have c26 : ¬ (26 : Int) = 0 := by omega
         have he : os = os0 := by rw [← hmk, mkO, if_neg (by rw [hN]; exact cf)]
         simp -implicitDefEqProofs (maxSteps := 5000000) (disch := first | assumption | omega | (simp only [dz, dl, Nat.zero_add, Nat.reduceAdd, Bool.and_self]; done) | (simp only [dl]; omega)) only [go_sem, fAdd_eq, i0, i7, i9, i12, i13, hlen, cl, c30, b1, b2, b3, ew, cs, e2, e3, c26]
         exact fin he (by first | trivial | rfl | assumption) (by first | trivial | rfl | assumption) (by first | trivial | rfl | assumption) (by first | trivial | rfl | assumption)
     · have h4 : 0 ≤ a.sh.tmod 4 ∧ a.sh.tmod 4 < 4 := ⟨Int.tmod_nonneg 4 (by omega), Int.tmod_lt_of_pos a.sh (by omega)⟩
       obtain ⟨ls, hls, hls3⟩ := shapes0_at h4.1 h4.2
       have hS : ndS a = a.sh.tmod 4 := by unfold ndS; rw [if_neg cs]
       have hN : ndN a = ls.length := by unfold ndN; rw [if_neg cs, hls]; rfl
       obtain ⟨q1, q2⟩ := T.objectE (d + 2) (a.sh.tmod 4) (by simp [shapes0]) h4.1 hls (by omega)
       have c4 : ¬ (4 : Int) = 0 := by omega
       by_cases cf : ((lay os).length + 3 + ls.length : Int) ≤ w
       · obtain ⟨t2, t3, z2, FO2, e2, f2, e3, f3, T3, hO2⟩ := q2 cf
         rw [← hS, ← hN] at T3
         have hNt2 := hNt.fr hwt f2 (fun b hb hm => by
          have := hlb b hb
          have : s.next ≤ b := (T.dj b (by simp at hm ⊢; rcases hm with h | h | h <;> simp [h])).1
          omega)
         obtain ⟨b', o', b1', b2', _⟩ := hNt2.at hal
         rw [b1] at b1'; cases b1'
         obtain ⟨t4, t5, t6, t7, w4, w5, w6, w7, mm, m1, i', os', z3, FO3, rv3, m2, m3, m4, m5, m6, m7, m8, m9, rfl, rfl⟩ := step t2 t3 z2 FO2 f2 f3 T3 hO2 (by rw [hN]; exact cf)
         simp -implicitDefEqProofs (maxSteps := 5000000) (disch := first | assumption | omega | (simp only [dz, dl, Nat.zero_add, Nat.reduceAdd, Bool.and_self]; done) | (simp only [dl]; omega)) only [go_sem, fAdd_eq, i0, i7, i9, i12, i13, hlen, cl, c30, b1, b2, b3, ew, cs, c4, e2, b2', e3, eq_self, w4, w5, w6, w7]
         exact ⟨mm, m1, i + 1, os', z3, FO3, _, m2, m3, m4, m5, m6, m7, m8, m9, (by first | trivial | rfl | assumption), (by first | trivial | rfl | assumption), (by first | trivial | rfl | assumption), rfl, (by first | trivial | rfl | assumption)⟩
       · obtain ⟨e2, e3⟩ := q1 (by omega)
         have c26 : ¬ (26 : Int) = 0 := by omega
         have he : os = os0 := by rw [← hmk, mkO, if_neg (by rw [hN]; exact cf)]
         simp -implicitDefEqProofs (maxSteps := 5000000) (disch := first | assumption | omega | (simp only [dz, dl, Nat.zero_add, Nat.reduceAdd, Bool.and_self]; done) | (simp only [dl]; omega)) only [go_sem, fAdd_eq, i0, i7, i9, i12, i13, hlen, cl, c30, b1, b2, b3, ew, cs, c4, e2, e3, c26]
         exact fin he (by first | trivial | rfl | assumption) (by first | trivial | rfl | assumption) (by first | trivial | rfl | assumption) (by first | trivial | rfl | assumption)
   · have hend : i = (l.take 30).length := by omega
     have he : os = os0 := by rw [← hmk, hend, List.drop_length]; rfl
     simp -implicitDefEqProofs (maxSteps := 5000000) (disch := first | assumption | omega | (simp only [dz, dl, Nat.zero_add, Nat.reduceAdd, Bool.and_self]; done) | (simp only [dl]; omega)) only [go_sem, fAdd_eq, i0, i7, i9, i12, i13, hlen, cl, c30]
     exact fin he (by first | trivial | rfl | assumption) (by first | trivial | rfl | assumption) (by first | trivial | rfl | assumption) (by first | trivial | rfl | assumption)
 · have hend : i = (l.take 30).length := by omega
   have he : os = os0 := by rw [← hmk, hend, List.drop_length]; rfl
   simp -implicitDefEqProofs (maxSteps := 5000000) (disch := first | assumption | omega | (simp only [dz, dl, Nat.zero_add, Nat.reduceAdd, Bool.and_self]; done) | (simp only [dl]; omega)) only [go_sem, fAdd_eq, i0, i7, i9, i12, i13, hlen, cl]
   exact fin he (by first | trivial | rfl | assumption) (by first | trivial | rfl | assumption) (by first | trivial | rfl | assumption) (by first | trivial | rfl | assumption)
end
end
end Go.Proofs.YtgkcpceppmppfaaLab
namespace Go.Proofs.YtgkcpceppmppfaaLab
open Go
set_option linter.all false
set_option maxRecDepth 10000
noncomputable section
section
variable {b0 : Nat} {t : St} {p bw bb n bm rp : Nat} {os : List O} {z : List Int} {shapes : List (List Bool)} {F FO FS : List Nat} {w : Int} (T : Two b0 t p bw bb n bm rp os z shapes F FO FS w)
include T
theorem Two.shapeE (d : Nat) {v : V} {l : List Bool} (h : SL t v (l.map .bool)) (hv : ∀ b ∈ blkV v, b < t.next ∧ b ∉ p :: bw :: bb :: bm :: F) (hb : l.length ≤ 1000) (hsh : shapes.length ≤ 1000) (hi : idxL l shapes = none) :
 ∃ t1 t2 x F' FS', (K (d + 2)).call 33 [.ptr p 0, v] t = some (.i x, t1) ∧ Fr t t1 (p :: bm :: F) ∧ (K (d + 2)).call 34 [.ptr rp 0, v] t1 = some (.i x, t2) ∧ Fr t1 t2 (rp :: FS) ∧ Two b0 t2 p bw bb n bm rp os z (shapes ++ [l]) F' FO FS' w ∧ (∀ b ∈ F', b ∈ F ∨ t.next ≤ b) ∧ (∀ b ∈ FS', b ∈ FS ∨ t.next ≤ b) := by
 have hw := T.wf
 have hne : ∀ b ∈ blkV v, ∀ x ∈ p :: bw :: bb :: bm :: F, b ≠ x := fun b hb x hx e => (hv b hb).2 (e ▸ hx)
 obtain ⟨x1, t1, e1, hq⟩ := T.h.shape h (fun b hb => ⟨(hv b hb).1, hne b hb p (by simp), hne b hb bm (by simp), fun hm => hne b hb b (by simp [hm]) rfl⟩) (by omega) (by omega) d
 unfold ShapeQ at hq
 rw [hi] at hq
 obtain ⟨rfl, ⟨F', h1, hF⟩, f1⟩ := hq
 have R1 := T.r1 f1 (by intro b hb; simp only [List.mem_cons] at hb ⊢; rcases hb with h | h | h <;> simp [h])
 obtain ⟨x2, t2, e2, hq2⟩ := R1.shapeN (h.fr hw f1 (fun b hb hm => by simp only [List.mem_cons] at hm; rcases hm with h | h | h; exact hne b hb p (by simp) h; exact hne b hb bm (by simp) h; exact hne b hb b (by simp [h]) rfl)) (by omega) (by omega) (d + 1)
 rw [hi] at hq2
 obtain ⟨rfl, FS', r2, hS2, f2⟩ := hq2
 exact ⟨t1, t2, _, F', FS', e1, f1, e2, f2, T.make f1 h1 hF f2 (by intro b hb; simp only [List.mem_cons, List.mem_append] at hb ⊢; exact hb.elim .inl (fun h => .inr (.inr h))) r2 (fun b hb => .inl hb) hS2 (T.rf.more T.h.ok l), hF, fun b hb => (hS2 b hb).imp_right fun h => Nat.le_trans f1.nx h⟩
end
theorem lit0 (id : Nat) : bslP 0 1 [] [] id = some (.slice id 0 0 (some 0) 1, .cells 0 (ofL [])) := rfl
theorem lit2 (id : Nat) : bslP 2 1 [.bool false, .bool false] [(0, 1, .bool true), (1, 1, .bool false)] id = some (.slice id 0 2 (some 2) 1, .cells 2 (ofL [.bool true, .bool false])) := rfl
theorem lit3 (id : Nat) : bslP 3 1 [.bool false, .bool false, .bool false] [(0, 1, .bool false), (1, 1, .bool true), (2, 1, .bool true)] id = some (.slice id 0 3 (some 3) 1, .cells 3 (ofL [.bool false, .bool true, .bool true])) := rfl
theorem lit4 (id a b c d : Nat) : bslP 4 1 [.nils, .nils, .nils, .nils] [(0, 1, .slice a 0 0 (some 0) 1), (1, 1, .slice b 0 1 (some 1) 1), (2, 1, .slice c 0 2 (some 2) 1), (3, 1, .slice d 0 3 (some 3) 1)] id = some (.slice id 0 4 (some 4) 1, .cells 4 (ofL [.slice a 0 0 (some 0) 1, .slice b 0 1 (some 1) 1, .slice c 0 2 (some 2) 1, .slice d 0 3 (some 3) 1])) := rfl
def svs (y : Nat) : List V := [.slice y 0 0 (some 0) 1, .slice (y + 1) 0 1 (some 1) 1, .slice (y + 2) 0 2 (some 2) 1, .slice (y + 3) 0 3 (some 3) 1]
structure Lits (s : St) (y : Nat) : Prop where
 l : s.cl (y + 4) = some (svs y)
 a : s.cl y = some []
 b : s.cl (y + 1) = some [.bool true]
 c : s.cl (y + 2) = some [.bool true, .bool false]
 d : s.cl (y + 3) = some [.bool false, .bool true, .bool true]
theorem Lits.fr {s s' : St} {y : Nat} {L : List Nat} (h : Lits s y) (hw : Wf s) (f : Fr s s' L) (hd : ∀ b ∈ L, b < y ∨ y + 5 ≤ b) : Lits s' y :=
 ⟨f.cl hw h.l (fun hm => by have := hd _ hm; omega), f.cl hw h.a (fun hm => by have := hd _ hm; omega), f.cl hw h.b (fun hm => by have := hd _ hm; omega), f.cl hw h.c (fun hm => by have := hd _ hm; omega), f.cl hw h.d (fun hm => by have := hd _ hm; omega)⟩
theorem Lits.at {s : St} {y : Nat} (h : Lits s y) (hw : Wf s) {j : Nat} (hj : j < 4) : ∃ v l, bIdx 1 (.slice (y + 4) 0 4 (some 4) 1) (.i (j : Nat)) = some (.ptr (y + 4) j) ∧ ldP (.ptr (y + 4) j) s = some v ∧ shapes0[j]? = some l ∧ SL s v (l.map .bool) ∧ (∀ b ∈ blkV v, y ≤ b ∧ b < y + 5) ∧ l.length ≤ 3 ∧ idxL l (shapes0.take j) = none := by
 have hb : bIdx 1 (.slice (y + 4) 0 4 (some 4) 1) (.i (j : Nat)) = some (.ptr (y + 4) j) := by rw [bIdx1_eq (by omega) (by omega)]; simp
 have hld : ∀ v, (svs y)[j]? = some v → ldP (.ptr (y + 4) j) s = some v := fun v hv => dLd_eq hw h.l hv
 have : j = 0 ∨ j = 1 ∨ j = 2 ∨ j = 3 := by omega
 rcases this with rfl | rfl | rfl | rfl
 · exact ⟨_, [], hb, hld _ rfl, rfl, .inl ⟨rfl, .inr ⟨_, _, _, rfl⟩⟩, by simp [blkV], by simp, rfl⟩
 · exact ⟨_, [true], hb, hld _ rfl, rfl, SL.of hw h.b (by simp) (fun i hi => by rw [Nat.zero_add]; rfl), by simp [blkV], by simp, rfl⟩
 · exact ⟨_, [true, false], hb, hld _ rfl, rfl, SL.of hw h.c (by simp) (fun i hi => by rw [Nat.zero_add]; rfl), by simp [blkV], by simp, rfl⟩
 · exact ⟨_, [false, true, true], hb, hld _ rfl, rfl, SL.of hw h.d (by simp) (fun i hi => by rw [Nat.zero_add]; rfl), by simp [blkV], by simp, rfl⟩
theorem build_eq {s : St} {l : List Nd} {lv : V} (hA : NA s lv l) (hok : ∀ a ∈ l, NdOk s s.next a) (hw : Wf s) (hlb : ∀ b ∈ blkV lv, b < s.next) {w : Int} (h1 : 1 ≤ w) (h2 : w ≤ 16384) (d : Nat) :
 Ret ((K (d + 6)).call 8 [lv, .i w] s) (BuildQ s w l) := by
 obtain ⟨s1, e1, hA1, f1, n1, m1⟩ := new_heap hw (d + 4) w h1 h2
 obtain ⟨s2, e2, hR, f2, n2⟩ := new_ref f1.wf (d + 4) w h1 h2
 have H2 := hA1.fr f2 (by simp) (by simp) (by simp)
 have m2 := f2.mp f1.wf m1 (by simp)
 have T0 : Two s.next s2 (s.next + 3) s.next (s.next + 1) (w.toNat + 1) (s.next + 2) s1.next [] (List.replicate w.toNat 0) [] [] [] [] w := by
  refine ⟨⟨⟨_, H2, .inl ⟨rfl, rfl⟩⟩, ⟨_, _, m2⟩, fun o ho => (by cases ho), fun b hb => (by cases hb)⟩, hR, by omega, fun r o ho => (by cases ho), ?_, ?_⟩
  · intro b hb
    simp only [List.mem_cons, List.not_mem_nil, or_false, List.append_nil] at hb ⊢
    omega
  · intro b hb
    simp only [List.mem_cons, List.not_mem_nil, or_false, List.append_nil] at hb
    omega
 have hsep : ∀ b ∈ (s.next + 3) :: s.next :: (s.next + 1) :: (s.next + 2) :: s1.next :: [], b < s2.next := fun b hb => by simp at hb; omega
 obtain ⟨s3, a3, c3, f3, n3⟩ := new_ex (s := s2) (l := []) (n := 0) f2.wf rfl
 obtain ⟨s4, a4, c4, f4, n4⟩ := new_ex (s := s3) (l := [V.bool true]) (n := 1) f3.wf rfl
 obtain ⟨s5, a5, c5, f5, n5⟩ := new_ex (s := s4) (l := [V.bool true, .bool false]) (n := 2) f4.wf rfl
 obtain ⟨s6, a6, c6, f6, n6⟩ := new_ex (s := s5) (l := [V.bool false, .bool true, .bool true]) (n := 3) f5.wf rfl
 generalize hy : s2.next = y at *
 rw [n3] at n4 c4
 rw [n4] at n5 c5
 rw [n5] at n6 c6
 obtain ⟨s7, a7, c7, f7, n7⟩ := new_ex (s := s6) (l := svs y) (n := 4) f6.wf rfl
 rw [n6] at n7 c7
 have hL : Lits s7 y := ⟨c7, f7.cl f6.wf (f6.cl f5.wf (f5.cl f4.wf (f4.cl f3.wf c3 (by simp)) (by simp)) (by simp)) (by simp), f7.cl f6.wf (f6.cl f5.wf (f5.cl f4.wf c4 (by simp)) (by simp)) (by simp), f7.cl f6.wf (f6.cl f5.wf c5 (by simp)) (by simp), f7.cl f6.wf c6 (by simp)⟩
 have T7 := ((((T0.fr f3).fr f4).fr f5).fr f6).fr f7
 have F7 : Fr s s7 [] := ((((f1.trans f2).trans f3).trans f4).trans (f5.trans f6)).trans f7
 clear T0 H2 m2 hA1 m1
 have hrp : (s1.next : Nat) < y := hsep _ (by simp)
 have hp3 : s.next + 3 < y := hsep _ (by simp)
 have hp2 : s.next + 2 < y := hsep _ (by simp)
 have hp1 : s.next + 1 < y := hsep _ (by simp)
 have hp0 : s.next < y := hsep _ (by simp)
 have hl4 : uLenS (.slice (y + 4) 0 4 (some 4) 1) = some (.i 4) := rfl
 generalize s.next + 3 = p at *
 generalize s.next + 2 = bm at *
 generalize s.next + 1 = bb at *
 generalize hbw : s.next = bw at *
 generalize s1.next = rp at *
 have a7' : s6.new (.cells 4 (ofL [V.slice y 0 0 (some 0) 1, .slice (y + 1) 0 1 (some 1) 1, .slice (y + 2) 0 2 (some 2) 1, .slice (y + 3) 0 3 (some 3) 1])) = s7 := a7
 have nn4 : s4.next = y + 2 := n4
 have nn5 : s5.next = y + 3 := n5
 have nn6 : s6.next = y + 4 := n6
 simp -implicitDefEqProofs (maxSteps := 5000000) (disch := first | assumption | omega | (simp only [dz, dl, Nat.zero_add, Nat.reduceAdd, Bool.and_self]; done) | (simp only [dl]; omega)) only [op8, go_sem, fAdd_eq, e1, e2, eq_self, hy, lit0, a3, n3, aBSl_one, a4, nn4, lit2, a5, nn5, lit3, a6, nn6, lit4, a7']
 refine loop_at (Q := fun r => Ret (retR _ (seqR (blkR 0 r) _)) _) (fun q e' t => ∃ (j : Nat) (F FO FS : List Nat), q = 4 - j ∧ j ≤ 4 ∧ Two bw t p bw bb (w.toNat + 1) bm rp [] (List.replicate w.toNat 0) (shapes0.take j) F FO FS w ∧ Lits t y ∧ Fr s t [] ∧ (∀ b ∈ p :: bw :: bb :: bm :: F, b < y ∨ y + 5 ≤ b) ∧ (∀ b ∈ rp :: (FO ++ FS), b < y ∨ y + 5 ≤ b) ∧ g0 e' = lv ∧ g7 e' = .ptr p 0 ∧ g9 e' = .ptr rp 0 ∧ g10 e' = .slice (y + 4) 0 4 (some 4) 1 ∧ g11 e' = .i j) ?_ (n := 4) (by omega) ⟨0, [], [], [], by omega, by omega, T7, hL, F7, fun b hb => .inl ?_, fun b hb => .inl ?_, (by first | trivial | rfl | assumption), (by first | trivial | rfl | assumption), (by first | trivial | rfl | assumption), (by first | trivial | rfl | assumption), (by first | trivial | rfl | assumption)⟩
 · rintro q e t ⟨j, F, FO, FS, rfl, hj, T, hLt, hf, hs1, hs2, i0, i7, i9, i10, i11⟩
   replace i0 : e.a0.a0 = _ := i0
   replace i7 : e.a0.a7 = _ := i7
   replace i9 : e.a0.a9 = _ := i9
   replace i10 : e.a0.a10 = _ := i10
   replace i11 : e.a0.a11 = _ := i11
   have hwt := hf.wf
   by_cases c : (j : Int) < 4
   · obtain ⟨v, ls, b1, b2, b3, b4, b5, b6, b7⟩ := hLt.at hwt (j := j) (by omega)
     have hyt := cl_lt hwt hLt.l
     obtain ⟨t1, t2, x, F', FS', q1, g1', q2, g2', T2, hF, hFS⟩ := T.shapeE (d + 3) b4 (fun b hb => ⟨by have := b5 b hb; omega, fun hm => by have := hs1 b hm; have := b5 b hb; omega⟩) (by omega) (by simp [shapes0]; omega) b7
     have hLt1 := hLt.fr hwt g1' (fun b hb => hs1 b (by simp at hb ⊢; rcases hb with h | h | h <;> simp [h]))
     have hLt2 := hLt1.fr g1'.wf g2' (fun b hb => hs2 b (by simp at hb ⊢; rcases hb with h | h <;> simp [h]))
     obtain ⟨v', ls', b1', b2', b3', _⟩ := hLt1.at g1'.wf (j := j) (by omega)
     have hvv : v' = v := by
      have h1 := hLt.l
      have h2 := hLt1.l
      rw [dLd_at hwt h1 (by simp [svs]; omega)] at b2
      rw [dLd_at g1'.wf h2 (by simp [svs]; omega), b2] at b2'
      cases b2'; rfl
     subst hvv
     have F2 : Fr s t2 [] := (hf.trans' g1' (fun b hb => .inr (by rw [hbw]; exact (T.dj b (by simp at hb ⊢; rcases hb with h | h | h <;> simp [h])).1))).trans' g2' (fun b hb => .inr (by rw [hbw]; exact T.dr b (by simp at hb ⊢; rcases hb with h | h <;> simp [h])))
     have htk : shapes0.take j ++ [ls] = shapes0.take (j + 1) := by rw [List.take_succ, b3]; rfl
     rw [htk] at T2
     simp -implicitDefEqProofs (maxSteps := 5000000) (disch := first | assumption | omega | (simp only [dz, dl, Nat.zero_add, Nat.reduceAdd, Bool.and_self]; done) | (simp only [dl]; omega)) only [go_sem, fAdd_eq, i0, i7, i9, i10, i11, c, hl4, b1, b2, q1, b2', q2]
     refine ⟨4 - (j + 1), by omega, j + 1, F', FO, FS', rfl, by omega, T2, hLt2, F2, fun b hb => ?_, fun b hb => ?_, (by first | trivial | rfl | assumption), (by first | trivial | rfl | assumption), (by first | trivial | rfl | assumption), (by first | trivial | rfl | assumption), (by first | trivial | rfl | assumption)⟩
     · simp only [List.mem_cons] at hb
       rcases hb with h | h | h | h | h
       · exact hs1 b (by simp [h])
       · exact hs1 b (by simp [h])
       · exact hs1 b (by simp [h])
       · exact hs1 b (by simp [h])
       · rcases hF b h with h | h
         · exact hs1 b (by simp [h])
         · exact .inr (by omega)
     · simp only [List.mem_cons, List.mem_append] at hb
       rcases hb with h | h | h
       · exact hs2 b (by simp [h])
       · exact hs2 b (by simp [h])
       · rcases hFS b h with h | h
         · exact hs2 b (by simp [h])
         · exact .inr (by omega)
   · have : j = 4 := by omega
     subst this
     have T' : Two s.next t p bw bb (w.toNat + 1) bm rp [] (List.replicate w.toNat 0) shapes0 F FO FS w := by rw [hbw]; exact T
     simp -implicitDefEqProofs (maxSteps := 5000000) (disch := first | assumption | omega | (simp only [dz, dl, Nat.zero_add, Nat.reduceAdd, Bool.and_self]; done) | (simp only [dl]; omega)) only [go_sem, fAdd_eq, i0, i7, i9, i10, i11, c, hl4]
     exact build_objs hA (by rw [hbw]; exact hok) hw (by rw [hbw]; exact hlb) T' hf d (by first | trivial | rfl | assumption) (by first | trivial | rfl | assumption) (by first | trivial | rfl | assumption)
 · simp only [List.mem_cons, List.not_mem_nil, or_false] at hb
   omega
 · simp only [List.mem_cons, List.not_mem_nil, or_false, List.append_nil] at hb
   omega
end
end Go.Proofs.YtgkcpceppmppfaaLab
namespace Go.Proofs.YtgkcpceppmppfaaLab
open Go
set_option linter.all false
set_option maxRecDepth 10000
noncomputable section
def rootV (refs : List Int) (x : Int) : Int := if x < 0 ∨ refs.length = 0 then 0 else (refs[(x.tmod (refs.length : Nat)).toNat]?).getD 0
def rootsL (l refs : List Int) : List Int := (l.take 12).map (rootV refs)
theorem rootV_at {refs : List Int} {x : Int} (h : ¬(x < 0 ∨ refs.length = 0)) : ∃ ix y : Nat, ∃ z, x.tmod (refs.length : Nat) = (ix : Nat) ∧ refs[ix]? = some z ∧ rootV refs x = z := by
 have h0 : 0 ≤ x := by omega
 have hl : 0 < refs.length := by omega
 obtain ⟨ix, hix⟩ : ∃ ix : Nat, x.tmod (refs.length : Nat) = ix := ⟨(x.tmod (refs.length : Nat)).toNat, by have := Int.tmod_nonneg (refs.length : Int) h0; omega⟩
 have hlt := Int.tmod_lt_of_pos x (show (0 : Int) < (refs.length : Nat) by omega)
 rw [hix] at hlt
 refine ⟨ix, 0, _, hix, List.getElem?_eq_getElem (by omega), ?_⟩
 unfold rootV
 rw [if_neg h, hix, Int.toNat_natCast, List.getElem?_eq_getElem (by omega)]; rfl
theorem rootsL_ok (os : List O) (l : List Int) : RootOk os (rootsL l (starts 1 os)) := fun r hr => by
 obtain ⟨x, _, rfl⟩ := List.mem_map.1 hr
 by_cases h : x < 0 ∨ (starts 1 os).length = 0
 · exact .inl (by unfold rootV; rw [if_pos h])
 · obtain ⟨ix, _, z, _, hz, e⟩ := rootV_at h
   rw [e]
   exact .inr (refs_root os z (List.mem_of_getElem? hz))
theorem rootsL_len (l refs : List Int) : (rootsL l refs).length ≤ 12 := by simp [rootsL]; omega
theorem roots_eq {s : St} (hw : Wf s) {rv fv : V} {l refs : List Int} (hr : SL s rv (l.map .i)) (hf : SL s fv (refs.map .i)) (hfl : refs.length ≤ 100000) (d : Nat) : Ret ((K (d + 1)).call 9 [rv, fv] s) fun v t => GL t v ((rootsL l refs).map .i) ∧ Fr s t [] ∧ ∀ b ∈ blkV v, s.next ≤ b := by
 have h1 := hr.len
 have h2 := hf.len
 rw [List.length_map] at h1 h2
 have h12 : (l.take 12).length = min 12 l.length := by simp
 simp -implicitDefEqProofs (maxSteps := 5000000) (disch := first | assumption | omega | (simp only [dz, dl, Nat.zero_add, Nat.reduceAdd, Bool.and_self]; done) | (simp only [dl]; omega)) only [op9, go_sem, fAdd_eq, h1]
 refine loop_at (Q := fun r => Ret (retR _ (seqR (blkR 0 r) _)) _) (fun q e t => ∃ (j : Nat) (v : V), q = (l.take 12).length - j ∧ j ≤ (l.take 12).length ∧ Fr s t [] ∧ GL t v ((((l.take 12).take j).map (rootV refs)).map .i) ∧ (∀ b ∈ blkV v, s.next ≤ b) ∧ g0 e = rv ∧ g1 e = fv ∧ g5 e = v ∧ g6 e = .i j) ?_ (n := (l.take 12).length) (by omega) ⟨0, .nils, by omega, by omega, Fr.refl hw _, .inl ⟨rfl, rfl⟩, by simp [blkV], (by first | trivial | rfl | assumption), (by first | trivial | rfl | assumption), (by first | trivial | rfl | assumption), (by first | trivial | rfl | assumption)⟩
 rintro q e t ⟨j, v, rfl, hj, ft, hg, hb, i0, i1, i5, i6⟩
 replace i0 : e.a0.a0 = _ := i0
 replace i1 : e.a0.a1 = _ := i1
 replace i5 : e.a0.a5 = _ := i5
 replace i6 : e.a0.a6 = _ := i6
 have hwt := ft.wf
 have fin : j = (l.take 12).length → GL t v ((rootsL l refs).map .i) := fun h => by
  rw [h, List.take_length] at hg; exact hg
 by_cases cl : (j : Int) < ((l.length : Nat) : Int)
 · by_cases c12 : (j : Int) < 12
   · obtain ⟨x, hx⟩ : ∃ x, (l.take 12)[j]? = some x := ⟨_, List.getElem?_eq_getElem (by omega)⟩
     have hxl : l[j]? = some x := by
      rw [List.getElem?_take] at hx
      split at hx
      · exact hx
      · cases hx
     obtain ⟨q, a1, a2⟩ := (hr.fr hw ft (by simp)).at hwt (j := j) (x := .i x) (by rw [List.getElem?_map, hxl]; rfl)
     have hts := take_snoc hx
     have hjl : (((l.take 12).take j).map (rootV refs)).length = j := by simp; omega
     have hnx := ft.nx
     have next : ∀ y, y = rootV refs x → ∃ s1 s2, t.new (.cells 1 (ofL [V.i y])) = s1 ∧ apP 1 v (.slice t.next 0 1 (some 1) 1) s1 = some (.slice (t.next + 1) 0 ((((l.take 12).take j).map (rootV refs)).length + 1) none 1, s2) ∧ ∃ m, m < (l.take 12).length - j ∧ ∃ (j' : Nat) (v' : V), m = (l.take 12).length - j' ∧ j' ≤ (l.take 12).length ∧ Fr s s2 [] ∧ GL s2 v' ((((l.take 12).take j').map (rootV refs)).map .i) ∧ (∀ b ∈ blkV v', s.next ≤ b) ∧ j' = j + 1 ∧ v' = .slice (t.next + 1) 0 ((((l.take 12).take j).map (rootV refs)).length + 1) none 1 := fun y hy => by
      obtain ⟨s1, s2, p1, p2, hg2, f2, n2⟩ := hg.push hwt (x := .i y) rfl (fun z hz => by obtain ⟨a, _, rfl⟩ := List.mem_map.1 hz; rfl) (by rw [List.length_map, hjl]; omega)
      rw [List.length_map] at p2 hg2
      refine ⟨s1, s2, p1, p2, (l.take 12).length - (j + 1), by omega, j + 1, _, rfl, by omega, ft.trans' f2 (fun b hb' => .inr (hb b hb')), ?_, fun b hb' => ?_, rfl, rfl⟩
      · rw [hts, List.map_append, List.map_append, List.map_cons, List.map_nil, List.map_cons, List.map_nil, ← hy]; exact hg2
      · simp [blkV] at hb'; omega
     by_cases c0 : x < 0
     · obtain ⟨s1, s2, p1, p2, m, m1, j', v', m2, m3, m4, m5, m6, rfl, rfl⟩ := next 0 (by unfold rootV; rw [if_pos (.inl c0)])
       simp -implicitDefEqProofs (maxSteps := 5000000) (disch := first | assumption | omega | (simp only [dz, dl, Nat.zero_add, Nat.reduceAdd, Bool.and_self]; done) | (simp only [dl]; omega)) only [go_sem, fAdd_eq, i0, i1, i5, i6, h1, cl, c12, a1, a2, c0, p1, p2]
       exact ⟨m, m1, j + 1, _, m2, m3, m4, m5, m6, (by first | trivial | rfl | assumption), (by first | trivial | rfl | assumption), rfl, (by first | trivial | rfl | assumption)⟩
     · by_cases cr : refs.length = 0
       · obtain ⟨s1, s2, p1, p2, m, m1, j', v', m2, m3, m4, m5, m6, rfl, rfl⟩ := next 0 (by unfold rootV; rw [if_pos (.inr cr)])
         have h2' : uLenS fv = some (.i 0) := by rw [h2, cr]; rfl
         simp -implicitDefEqProofs (maxSteps := 5000000) (disch := first | assumption | omega | (simp only [dz, dl, Nat.zero_add, Nat.reduceAdd, Bool.and_self]; done) | (simp only [dl]; omega)) only [go_sem, fAdd_eq, i0, i1, i5, i6, h1, cl, c12, a1, a2, c0, h2', eq_self, p1, p2]
         exact ⟨m, m1, j + 1, _, m2, m3, m4, m5, m6, (by first | trivial | rfl | assumption), (by first | trivial | rfl | assumption), rfl, (by first | trivial | rfl | assumption)⟩
       · obtain ⟨ix, _, y, hix, hy, hv⟩ := rootV_at (refs := refs) (x := x) (by simp [c0, cr])
         obtain ⟨qy, y1, y2⟩ := (hf.fr hw ft (by simp)).at hwt (j := ix) (x := .i y) (by rw [List.getElem?_map, hy]; rfl)
         obtain ⟨s1, s2, p1, p2, m, m1, j', v', m2, m3, m4, m5, m6, rfl, rfl⟩ := next y hv.symm
         have cne : ¬ ((refs.length : Nat) : Int) = 0 := by omega
         simp -implicitDefEqProofs (maxSteps := 5000000) (disch := first | assumption | omega | (simp only [dz, dl, Nat.zero_add, Nat.reduceAdd, Bool.and_self]; done) | (simp only [dl]; omega)) only [go_sem, fAdd_eq, i0, i1, i5, i6, h1, cl, c12, a1, a2, c0, h2, cne, hix, y1, y2, p1, p2]
         exact ⟨m, m1, j + 1, _, m2, m3, m4, m5, m6, (by first | trivial | rfl | assumption), (by first | trivial | rfl | assumption), rfl, (by first | trivial | rfl | assumption)⟩
   · simp -implicitDefEqProofs (maxSteps := 5000000) (disch := first | assumption | omega | (simp only [dz, dl, Nat.zero_add, Nat.reduceAdd, Bool.and_self]; done) | (simp only [dl]; omega)) only [go_sem, fAdd_eq, i0, i1, i5, i6, h1, cl, c12]
     exact ⟨fin (by omega), ft, hb⟩
 · simp -implicitDefEqProofs (maxSteps := 5000000) (disch := first | assumption | omega | (simp only [dz, dl, Nat.zero_add, Nat.reduceAdd, Bool.and_self]; done) | (simp only [dl]; omega)) only [go_sem, fAdd_eq, i0, i1, i5, i6, h1, cl]
   exact ⟨fin (by omega), ft, hb⟩
end
end Go.Proofs.YtgkcpceppmppfaaLab
namespace Go.Proofs.YtgkcpceppmppfaaLab
open Go
set_option linter.all false
set_option maxRecDepth 10000
noncomputable section
theorem nan76 (x : Int) (s : St) (d : Nat) : (K (d + 1)).call 76 [.i x] s = some (.bool false, s) := by
 rw [op76]
 simp -implicitDefEqProofs (maxSteps := 5000000) (disch := first | assumption | omega | (simp only [dz, dl, Nat.zero_add, Nat.reduceAdd, Bool.and_self]; done) | (simp only [dl]; omega)) only [go_sem, eq_self]
theorem nan70 (x : Int) (s : St) (d : Nat) : (K (d + 1)).call 70 [.i x] s = some (.bool false, s) := by
 rw [op70]
 simp -implicitDefEqProofs (maxSteps := 5000000) (disch := first | assumption | omega | (simp only [dz, dl, Nat.zero_add, Nat.reduceAdd, Bool.and_self]; done) | (simp only [dl]; omega)) only [go_sem, eq_self]
theorem less69 (x y : Int) (s : St) (d : Nat) : (K (d + 2)).call 69 [.i x, .i y] s = some (.bool (decide (x < y)), s) := by
 have e1 := nan76 x s d
 rw [op69]
 simp -implicitDefEqProofs (maxSteps := 5000000) (disch := first | assumption | omega | (simp only [dz, dl, Nat.zero_add, Nat.reduceAdd, Bool.and_self]; done) | (simp only [dl]; omega)) only [go_sem, e1]
theorem shr1 {a : Int} (h0 : 0 ≤ a) (h1 : a < 18446744073709551616) : bSh .shr .u64 (.int .u64 a) (.int .u64 1) = some (.int .u64 (a / 2)) := by
 show some (V.int .u64 (Int.fdiv a (Int.ofNat (Nat.pow 2 (min (1 : Int).toNat IntKind.u64.bits))))) = _
 have e : Int.ofNat (Nat.pow 2 (min (1 : Int).toNat IntKind.u64.bits)) = 2 := rfl
 rw [e, Int.fdiv_eq_ediv_of_nonneg a (by omega)]
theorem cI64 {a : Int} (h0 : 0 ≤ a) (h1 : a < 9223372036854775808) : cInt .i64 (.int .u64 a) = some (.i a) := by
 show some (V.i (w64 a)) = _
 rw [w64_of ⟨by omega, by omega⟩]
theorem search_eq {s : St} (hw : Wf s) {v : V} {l : List Int} (h : SL s v (l.map .i)) (hl : l.length ≤ 900000) (hp : l.Pairwise (· < ·)) (x : Int) (d : Nat) : ∃ i : Nat, (K (d + 3)).call 49 [v, .i x] s = some (.tup [.i i, .bool (decide (x ∈ l))], s) ∧ (x ∈ l → l[i]? = some x) := by
 have hlen := h.len
 rw [List.length_map] at hlen
 have key : Ret ((K (d + 3)).call 49 [v, .i x] s) fun r t => t = s ∧ ∃ i : Nat, r = .tup [.i i, .bool (decide (x ∈ l))] ∧ (x ∈ l → l[i]? = some x) := by
  simp -implicitDefEqProofs (maxSteps := 5000000) (disch := first | assumption | omega | (simp only [dz, dl, Nat.zero_add, Nat.reduceAdd, Bool.and_self]; done) | (simp only [dl]; omega)) only [op49, go_sem, fAdd_eq, hlen]
  refine loop_at (Q := fun r => Ret (retR _ (seqR (blkR 0 r) _)) _) (fun q e t => ∃ i j : Nat, q = j - i ∧ i ≤ j ∧ j ≤ l.length ∧ t = s ∧ (∀ (k : Nat) y, k < i → l[k]? = some y → y < x) ∧ (∀ (k : Nat) y, j ≤ k → l[k]? = some y → x ≤ y) ∧ g0 e = v ∧ g1 e = .i x ∧ g6 e = .i (l.length : Nat) ∧ g7 e = .i i ∧ g8 e = .i j) ?_ (n := l.length) (by omega) ⟨0, l.length, by omega, by omega, by omega, rfl, fun k y hk => absurd hk (Nat.not_lt_zero k), fun k y hk hy => by have := (List.getElem?_eq_some_iff.1 hy).1; omega, (by first | trivial | rfl | assumption), (by first | trivial | rfl | assumption), (by first | trivial | rfl | assumption), (by first | trivial | rfl | assumption), (by first | trivial | rfl | assumption)⟩
  rintro q e t ⟨i, j, rfl, hij, hj, rfl, hlo, hhi, i0, i1, i6, i7, i8⟩
  replace i0 : e.a0.a0 = _ := i0
  replace i1 : e.a0.a1 = _ := i1
  replace i6 : e.a0.a6 = _ := i6
  replace i7 : e.a0.a7 = _ := i7
  replace i8 : e.a0.a8 = _ := i8
  have mono : ∀ (a b : Nat) y z, a < b → l[a]? = some y → l[b]? = some z → y < z := fun a b y z hab ha hb => by
   obtain ⟨x1, x2⟩ := List.getElem?_eq_some_iff.1 ha
   obtain ⟨y1, y2⟩ := List.getElem?_eq_some_iff.1 hb
   have := List.pairwise_iff_getElem.1 hp a b x1 y1 hab
   rwa [x2, y2] at this
  by_cases c : (i : Int) < (j : Nat)
  · have e1 : ((i : Int) + j) / 2 = (((i + j) / 2 : Nat) : Int) := by omega
    have hs := shr1 (a := (i : Int) + j) (by omega) (by omega)
    rw [e1] at hs
    have hc := cI64 (a := (((i + j) / 2 : Nat) : Int)) (by omega) (by omega)
    obtain ⟨m, hm⟩ : ∃ m, (i + j) / 2 = m := ⟨_, rfl⟩
    rw [hm] at hs hc
    have hmi : i ≤ m ∧ m < j := by omega
    obtain ⟨y, hy⟩ : ∃ y, l[m]? = some y := ⟨_, List.getElem?_eq_getElem (by omega)⟩
    obtain ⟨qq, a1, a2⟩ := h.at hw (j := m) (x := .i y) (by rw [List.getElem?_map, hy]; rfl)
    have e2 := less69 y x t d
    by_cases cy : y < x
    · simp -implicitDefEqProofs (maxSteps := 5000000) (disch := first | assumption | omega | (simp only [dz, dl, Nat.zero_add, Nat.reduceAdd, Bool.and_self]; done) | (simp only [dl]; omega)) only [go_sem, fAdd_eq, i0, i1, i6, i7, i8, c, hs, hc, a1, a2, e2, cy]
      exact ⟨j - (m + 1), by omega, m + 1, j, rfl, by omega, hj, (by first | trivial | rfl | assumption), fun k z hk hz => by
       by_cases ek : k = m
       · subst ek; rw [hy] at hz; cases hz; exact cy
       · have := mono k m z y (by omega) hz hy; omega, hhi, (by first | trivial | rfl | assumption), (by first | trivial | rfl | assumption), (by first | trivial | rfl | assumption), (by first | trivial | rfl | assumption), (by first | trivial | rfl | assumption)⟩
    · simp -implicitDefEqProofs (maxSteps := 5000000) (disch := first | assumption | omega | (simp only [dz, dl, Nat.zero_add, Nat.reduceAdd, Bool.and_self]; done) | (simp only [dl]; omega)) only [go_sem, fAdd_eq, i0, i1, i6, i7, i8, c, hs, hc, a1, a2, e2, cy]
      exact ⟨m - i, by omega, i, m, rfl, by omega, by omega, (by first | trivial | rfl | assumption), hlo, fun k z hk hz => by
       by_cases ek : k = m
       · subst ek; rw [hy] at hz; cases hz; omega
       · have := mono m k y z (by omega) hy hz; omega, (by first | trivial | rfl | assumption), (by first | trivial | rfl | assumption), (by first | trivial | rfl | assumption), (by first | trivial | rfl | assumption), (by first | trivial | rfl | assumption)⟩
  · have hij' : i = j := by omega
    subst hij'
    by_cases cl : (i : Int) < ((l.length : Nat) : Int)
    · obtain ⟨y, hy⟩ : ∃ y, l[i]? = some y := ⟨_, List.getElem?_eq_getElem (by omega)⟩
      obtain ⟨qq, a1, a2⟩ := h.at hw (j := i) (x := .i y) (by rw [List.getElem?_map, hy]; rfl)
      have e3 := nan70 y t (d + 1)
      by_cases cy : y = x
      · subst cy
        have hm := List.mem_of_getElem? hy
        simp -implicitDefEqProofs (maxSteps := 5000000) (disch := first | assumption | omega | (simp only [dz, dl, Nat.zero_add, Nat.reduceAdd, Bool.and_self]; done) | (simp only [dl]; omega)) only [go_sem, fAdd_eq, i0, i1, i6, i7, i8, c, cl, a1, a2, eq_self]
        exact ⟨(by first | trivial | rfl | assumption), i, by rw [decide_eq_true hm], fun _ => hy⟩
      · have hm : x ∉ l := fun hm => by
         obtain ⟨k, hk⟩ := List.getElem?_of_mem hm
         rcases Nat.lt_trichotomy k i with h1 | h1 | h1
         · have := hlo k x h1 hk; omega
         · subst h1; rw [hy] at hk; cases hk; exact cy rfl
         · have h2 := mono i k y x h1 hy hk
           have h3 := hhi i y (Nat.le_refl _) hy; omega
        simp -implicitDefEqProofs (maxSteps := 5000000) (disch := first | assumption | omega | (simp only [dz, dl, Nat.zero_add, Nat.reduceAdd, Bool.and_self]; done) | (simp only [dl]; omega)) only [go_sem, fAdd_eq, i0, i1, i6, i7, i8, c, cl, a1, a2, cy, e3]
        exact ⟨(by first | trivial | rfl | assumption), i, by rw [decide_eq_false hm], fun h => absurd h hm⟩
    · have hm : x ∉ l := fun hm => by
       obtain ⟨k, hk⟩ := List.getElem?_of_mem hm
       have := (List.getElem?_eq_some_iff.1 hk).1
       have := hlo k x (by omega) hk; omega
      simp -implicitDefEqProofs (maxSteps := 5000000) (disch := first | assumption | omega | (simp only [dz, dl, Nat.zero_add, Nat.reduceAdd, Bool.and_self]; done) | (simp only [dl]; omega)) only [go_sem, fAdd_eq, i0, i1, i6, i7, i8, c, cl]
      exact ⟨(by first | trivial | rfl | assumption), i, by rw [decide_eq_false hm], fun h => absurd h hm⟩
 obtain ⟨r, t, e1, rfl, i, rfl, h2⟩ := key
 exact ⟨i, e1, h2⟩
end
end Go.Proofs.YtgkcpceppmppfaaLab
namespace Go.Proofs.YtgkcpceppmppfaaLab
open Go
set_option linter.all false
set_option maxRecDepth 10000
noncomputable section
theorem resV_tct {g h i : E → V} {n : Nat} {e : E} {s : St} : resV [rT g, rC true n h, rT i] e s = (ldNP n (h e) s).map fun a => .tup [g e, a, i e] := by
 have e1 : rC true n h e s = ldNP n (h e) s := rfl
 unfold resV
 simp only [evR, e1, rT]
 cases ldNP n (h e) s <;> rfl
theorem reach_kept {os : List O} {shapes : List (List Bool)} {roots keep : List Int} (hRf : RefOk os shapes) (hr : RootOk os roots) (hp : keep.Pairwise (· < ·)) (hm : ∀ x, x ∈ keep ↔ Reach os shapes roots x) : Kept os keep ∧ Clo os shapes keep keep := by
 refine ⟨⟨fun r hr' => ((hm r).1 hr').isSome hRf hr, hp⟩, fun r hr' o ho k x hx hb => ?_⟩
 by_cases h0 : x = 0
 · exact .inl h0
 · exact .inr ((hm x).2 (.step ((hm r).1 hr') ho hx hb h0))
theorem mv_in {os : List O} {keep : List Int} (hK : Kept os keep) {x : Int} {i : Nat} (hi : keep[i]? = some x) : (tos os keep)[i]? = some (mv os keep x) := by
 have hx := hK.inn x (List.mem_of_getElem? hi)
 have h1 := at_pos hx
 have hil := (List.getElem?_eq_some_iff.1 hi).1
 obtain ⟨j, hj⟩ := idxI_mem (List.mem_of_getElem? hi)
 have hj' := idxI_get hj
 have hij : i = j := by
  rcases Nat.lt_trichotomy i j with h | h | h
  · have := hK.get hi hj' h; omega
  · exact h
  · have := hK.get hj' hi h; omega
 subst hij
 unfold mv
 rw [if_neg (by omega), hj]
 simp only
 have : i < (tos os keep).length := by rw [tos_len hK.inn]; exact hil
 rw [List.getElem?_eq_getElem this]; rfl
theorem mv_out {os : List O} {keep : List Int} {x : Int} (h : x ∉ keep) : mv os keep x = 0 := by
 unfold mv
 split
 · rfl
 · cases hi : idxI x keep with
   | none => rfl
   | some i => exact absurd (List.mem_of_getElem? (idxI_get hi)) h
section
variable {s : St} {p bw bb n bm : Nat} {os : List O} {z : List Int} {shapes : List (List Bool)} {F : List Nat} (H : HS s p bw bb n os z shapes bm F)
include H
def RunQ (s : St) (p bw bb n bm : Nat) (os : List O) (shapes : List (List Bool)) (F : List Nat) (roots : List Int) (r : V) (t : St) : Prop := ∃ (keep : List Int) (av : V) (steps : Nat) (z' : List Int), keep.Pairwise (· < ·) ∧ (∀ x, x ∈ keep ↔ Reach os shapes roots x) ∧ r = .tup [av, .agg [.i (keep.length : Nat), .i ((os.length : Nat) - (keep.length : Nat)), .i (wordsL os keep : Nat), .i (steps : Nat)], .i 0] ∧ SL t av ((roots.map (mv os keep)).map .i) ∧ HS t p bw bb n (slid os shapes keep) z' shapes bm F ∧ Fr s t [p, bw, bb] ∧ (∀ b ∈ blkV av, s.next ≤ b ∧ b < t.next) ∧ steps ≤ 2 * roots.length + 2 * (lay os).length + wordsL os keep
theorem HS.run19 (hRf : RefOk os shapes) {v : V} {roots : List Int} (hk : SL s v (roots.map .i)) (hvb : ∀ b ∈ blkV v, b < s.next ∧ b ∉ [p, bw, bb]) (hl : roots.length ≤ 1000) (hr : RootOk os roots) (d : Nat) :
 Ret ((K (d + 8)).call 19 [.ptr p 0, v] s) (RunQ s p bw bb n bm os shapes F roots) := by
 have hw := H.wf
 have hlay := H.lay_le
 have hlen := hk.len
 rw [List.length_map] at hlen
 obtain ⟨s1, e1, c1, f1, n1⟩ := new_ex (s := s) (l := [V.i 0, .i 0, .i 0, .i 0]) (n := 4) hw rfl
 have H1 := H.fr f1 (by simp) (by simp) (by simp) (by simp) (by simp)
 obtain ⟨r2, s2, e2, _, q2⟩ := H1.marked hRf (hk.fr hw f1 (by simp)) (by omega) d
 obtain ⟨m, mb, met, st0, rfl, M, hn, hm, hst, hml⟩ := q2 hr
 have h64 := met64 H (s0 := s) hRf hr hm
 obtain ⟨s3, e3, g3', f3⟩ := M.all hn h64 (by omega) (d + 6)
 generalize hkv : V.slice s2.next 0 met.length none 1 = kv at *
 have hkp := srtI_lt hn
 have hkm : ∀ x, x ∈ srtI met ↔ Reach os shapes roots x := fun x => by rw [(srtI_perm met).mem_iff]; exact hm x
 have hwl := wordsL_perm (os := os) (srtI_perm met).symm
 have hkl := (srtI_perm met).length_eq
 generalize hkeep : srtI met = keep at *
 obtain ⟨hK, hC⟩ := reach_kept hRf hr hkp hkm
 have M3 := M.fr f3
 have H3 := H1.fr M3.f (by simp) (by simp) (by simp) (by simp) (by simp)
 obtain ⟨sh3, hA3, _⟩ := H3.H
 obtain ⟨av, s4, e4, g4', f4, _⟩ := hA3.all (d + 4)
 have l4 := g4'.len
 rw [List.length_map, starts_len] at l4
 have M4 := M3.fr f4
 have H4 := H3.fr f4 (by simp) (by simp) (by simp) (by simp) (by simp)
 have ew := M4.words H4 hn h64 (by omega) (d + 6)
 rw [hwl] at ew
 have lk := g3'.len
 rw [List.length_map] at lk
 have hos3 := lay_len3 os
 have hfits := hK.fits
 have hol := objs_len hK.inn
 have hob3 := lay_len3 (objs os keep)
 obtain ⟨s5, e5, c5, f5, n5⟩ := new_ex (s := s4) (l := [V.i 0, .i 0, .i 0, .i 0]) (n := 4) f4.wf rfl
 obtain ⟨s6, p6, c6, f6, n6⟩ := eSt_exN (s := s5) (b := s4.next) (o := 0) (vs := [V.i (keep.length : Nat), .i ((os.length : Nat) - (keep.length : Nat)), .i (wordsL os keep : Nat), .i 0]) (m := 4) f5.wf c5 rfl (by simp) (by intro v hv; simp at hv; rcases hv with rfl | rfl | rfl | rfl <;> rfl)
 have c6' : s6.cl s4.next = some [V.i (keep.length : Nat), .i ((os.length : Nat) - (keep.length : Nat)), .i (wordsL os keep : Nat), .i 0] := by rw [c6]; simp [putL]
 have F36 : Fr s3 s6 [] := (f4.trans f5).trans' f6 (fun b hb => .inr (by simp at hb; subst hb; exact f4.nx))
 have H6 := H3.fr F36 (by simp) (by simp) (by simp) (by simp) (by simp)
 have g6' := g3'.fr f3.wf F36 (by simp)
 have hkb : ∀ b ∈ blkV kv, s2.next ≤ b ∧ b < s3.next := fun b hb => by
  refine ⟨?_, blk_lt f3.wf g3' b hb⟩
  rw [← hkv] at hb; simp [blkV] at hb; omega
 have hne := H.ne
 have hF1 := f1.nx
 have hF2 := M.f.nx
 have hF3 := f3.nx
 have hF6 := F36.nx
 obtain ⟨r7, s7, e7, _, q7⟩ := H6.slide (g6'.sl F36.wf) (by omega) (fun b hb => ⟨by have := hkb b hb; omega, by have := hkb b hb; simp; omega⟩) (d + 1)
 obtain ⟨tv, z', rfl, g7', H7, f7, hbt⟩ := q7 ⟨hK, hC⟩
 obtain ⟨s8, e8, c8, f8, n8⟩ := new_ex (s := s7) (l := List.replicate roots.length (V.i 0)) (n := roots.length) f7.wf (by simp)
 have H8 := H7.fr f8 (by simp) (by simp) (by simp) (by simp) (by simp)
 have hF7 := f7.nx
 have k8 := (((g6'.fr F36.wf f7 (fun b hb => by have := hkb b hb; simp; omega)).fr f7.wf f8 (by simp)))
 have t8 := g7'.fr f7.wf f8 (by simp)
 have v8 := (((((hk.fr hw f1 (by simp)).fr f1.wf M3.f (by simp)).fr M3.f.wf F36 (by simp)).fr F36.wf f7 (fun b hb => (hvb b hb).2)).fr f7.wf f8 (by simp))
 have hFa : Fr s s6 [] := (f1.trans M3.f).trans F36
 have F8 : Fr s s8 [p, bw, bb] := ((hFa.mono (by simp)).trans f7).trans (f8.mono (by simp))
 have c8s : s8.cl s4.next = some [V.i (keep.length : Nat), .i ((os.length : Nat) - (keep.length : Nat)), .i (wordsL os keep : Nat), .i 0] := f8.cl f7.wf (f7.cl F36.wf c6' (by have := f4.nx; simp; omega)) (by simp)
 obtain ⟨mtv, cm4, _, _⟩ := M4.ex
 have cm6 := f6.cl f5.wf (f5.cl f4.wf cm4 (by simp)) (by have := cl_lt f4.wf cm4; simp; omega)
 have cm8 : s8.cl m = some [.ptr p 0, .map mb, mtv, .i st0] := f8.cl f7.wf (f7.cl F36.wf cm6 (by have := M.hm.1; simp; omega)) (by simp)
 have cR8 : s8.cl s.next = some [V.i 0, .i 0, .i 0, .i 0] := f8.cl f7.wf (f7.cl F36.wf (F36.cl f3.wf (M3.f.cl f1.wf c1 (by simp)) (by simp)) (by simp; omega)) (by simp)
 have hml2 := cl_lt f4.wf cm4
 have hmlo := M.hm.1
 have hs4 : s4.next < s7.next := by have := f4.nx; have := cl_lt F36.wf c6'; omega
 have hrn : ((roots.length : Nat) : Int).toNat = roots.length := Int.toNat_natCast _
 have wb : wordsL os keep ≤ 100000 := by
  have h1 : ∀ l : List Int, (∀ r ∈ l, (at? os r).isSome) → wordsL os l = (lay (objs os l)).length := fun l => by
   induction l with
   | nil => intro _; rfl
   | cons x l ih =>
     intro h
     have hx := h x (by simp)
     obtain ⟨o, ho⟩ := Option.isSome_iff_exists.1 hx
     have hob : objs os (x :: l) = o :: objs os l := by simp [objs, ho]
     rw [hob]
     show _ = (o.ws ++ lay (objs os l)).length
     rw [List.length_append, O.ws_len, ← ih (fun r hr => h r (by simp [hr]))]
     have hl : lenO os x = (o.f.length : Nat) := by unfold lenO; rw [ho]
     simp [wordsL, hl, O.n]
  rw [h1 keep hK.inn]
  omega
 have em0 : ((roots.length : Nat) : Int).toNat * 8 ≤ 16777216 := by omega
 simp -implicitDefEqProofs (maxSteps := 5000000) (disch := first | assumption | omega | (simp only [dz, dl, Nat.zero_add, Nat.reduceAdd, Bool.and_self]; done) | (simp only [dl]; omega)) only [op19, go_sem, fAdd_eq, aAl_eq, e1, e2, e3, lk, e4, l4, ew, e5, p6, e7, eq_self, hlen, aMkS_i, hrn, e8]
 have hmvl : ((roots.map (mv os keep)).map V.i).length = roots.length := by simp
 refine loop_at (Q := fun r => Ret (retR _ (seqR (blkR 0 r) _)) _) (fun q e t => ∃ j : Nat, q = roots.length - j ∧ j ≤ roots.length ∧ Fr s8 t [s7.next] ∧ t.cl s7.next = some (fillL ((roots.map (mv os keep)).map V.i) (.i 0) j roots.length) ∧ g1 e = v ∧ g5 e = .ptr s.next 0 ∧ g7 e = .ptr m 0 ∧ g9 e = kv ∧ g10 e = .ptr s4.next 0 ∧ g11 e = tv ∧ g13 e = .slice s7.next 0 roots.length (some roots.length) 1 ∧ g53 e = v ∧ g54 e = .i (roots.length : Nat) ∧ g55 e = .i j) ?_ (n := roots.length) (by omega) ⟨0, by omega, by omega, Fr.refl f8.wf _, by simpa [fillL] using c8, (by first | trivial | rfl | assumption), (by first | trivial | rfl | assumption), (by first | trivial | rfl | assumption), (by first | trivial | rfl | assumption), (by first | trivial | rfl | assumption), (by first | trivial | rfl | assumption), (by first | trivial | rfl | assumption), (by first | trivial | rfl | assumption), (by first | trivial | rfl | assumption), (by first | trivial | rfl | assumption)⟩
 rintro q e t ⟨j, rfl, hj, ft, ct, i1, i5, i7, i9, i10, i11, i13, i53, i54, i55⟩
 replace i1 : e.a0.a1 = _ := i1
 replace i5 : e.a0.a5 = _ := i5
 replace i7 : e.a0.a7 = _ := i7
 replace i9 : e.a0.a9 = _ := i9
 replace i10 : e.a0.a10 = _ := i10
 replace i11 : e.a0.a11 = _ := i11
 replace i13 : e.a0.a13 = _ := i13
 replace i53 : e.a3.a5 = _ := i53
 replace i54 : e.a3.a6 = _ := i54
 replace i55 : e.a3.a7 = _ := i55
 have hwt := ft.wf
 have ho : s.next ≤ s7.next := by omega
 have vt := v8.fr f8.wf ft (fun b hb => by have := (hvb b hb).1; simp; omega)
 have kt := (k8.fr f8.wf ft (fun b hb => by have := hkb b hb; simp; omega)).sl hwt
 have tt := (t8.fr f8.wf ft (fun b hb => by have := blk_lt f7.wf g7' b hb; simp; omega)).sl hwt
 by_cases c : (j : Int) < ((roots.length : Nat) : Int)
 · obtain ⟨x, hx⟩ : ∃ x, roots[j]? = some x := ⟨_, List.getElem?_eq_getElem (by omega)⟩
   obtain ⟨qq, a1, a2⟩ := vt.at hwt (j := j) (x := .i x) (by rw [List.getElem?_map, hx]; rfl)
   obtain ⟨i, es, hi⟩ := search_eq hwt kt (by omega) hkp x (d + 4)
   have hlj : ((roots.map (mv os keep)).map V.i)[j]? = some (.i (mv os keep x)) := by rw [List.getElem?_map, List.getElem?_map, hx]; rfl
   have hset := fill_set (z := V.i 0) hlj (show j < roots.length by omega)
   by_cases cx : x ∈ keep
   · rw [decide_eq_true cx] at es
     obtain ⟨qy, y1, y2⟩ := tt.at hwt (j := i) (x := .i (mv os keep x)) (by rw [List.getElem?_map, mv_in hK (hi cx)]; rfl)
     obtain ⟨t2, p2, c2, f2, n2⟩ := eSt_ex (s := t) (b := s7.next) (o := j) (v := .i (mv os keep x)) hwt ct (by simp [fillL]; omega) rfl
     rw [hset] at c2
     simp -implicitDefEqProofs (maxSteps := 5000000) (disch := first | assumption | omega | (simp only [dz, dl, Nat.zero_add, Nat.reduceAdd, Bool.and_self]; done) | (simp only [dl]; omega)) only [go_sem, fAdd_eq, i1, i5, i7, i9, i10, i11, i13, i53, i54, i55, c, a1, a2, es, y1, y2, Int.toNat_natCast, Nat.zero_add, p2]
     exact ⟨roots.length - (j + 1), by omega, j + 1, rfl, by omega, ft.trans f2, c2, (by first | trivial | rfl | assumption), (by first | trivial | rfl | assumption), (by first | trivial | rfl | assumption), (by first | trivial | rfl | assumption), (by first | trivial | rfl | assumption), (by first | trivial | rfl | assumption), (by first | trivial | rfl | assumption), (by first | trivial | rfl | assumption), (by first | trivial | rfl | assumption), (by first | trivial | rfl | assumption)⟩
   · rw [decide_eq_false cx] at es
     have hz : fillL ((roots.map (mv os keep)).map V.i) (.i 0) (j + 1) roots.length = fillL ((roots.map (mv os keep)).map V.i) (.i 0) j roots.length := by
      rw [← hset, mv_out cx]
      refine set_self ?_
      unfold fillL
      rw [List.getElem?_append_right (by rw [List.length_take, hmvl]; omega), List.getElem?_replicate, if_pos (by rw [List.length_take, hmvl]; omega)]
     simp -implicitDefEqProofs (maxSteps := 5000000) (disch := first | assumption | omega | (simp only [dz, dl, Nat.zero_add, Nat.reduceAdd, Bool.and_self]; done) | (simp only [dl]; omega)) only [go_sem, fAdd_eq, i1, i5, i7, i9, i10, i11, i13, i53, i54, i55, c, a1, a2, es]
     exact ⟨roots.length - (j + 1), by omega, j + 1, rfl, by omega, ft, by rw [hz]; exact ct, (by first | trivial | rfl | assumption), (by first | trivial | rfl | assumption), (by first | trivial | rfl | assumption), (by first | trivial | rfl | assumption), (by first | trivial | rfl | assumption), (by first | trivial | rfl | assumption), (by first | trivial | rfl | assumption), (by first | trivial | rfl | assumption), (by first | trivial | rfl | assumption), (by first | trivial | rfl | assumption)⟩
 · have hjl : j = roots.length := by omega
   subst hjl
   have hfl : fillL ((roots.map (mv os keep)).map V.i) (.i 0) roots.length roots.length = (roots.map (mv os keep)).map V.i := by
    unfold fillL
    rw [Nat.sub_self, List.take_of_length_le (by omega)]; simp
   rw [hfl] at ct
   have cmt := ft.cl f8.wf cm8 (by have := hs4; have := f4.nx; simp; omega)
   have cSt := ft.cl f8.wf c8s (by simp; omega)
   have cRt := ft.cl f8.wf cR8 (by simp; omega)
   obtain ⟨t2, p2, c2, f2, n2⟩ := eSt_ex (s := t) (b := s4.next) (o := 3) (v := .i ((st0 : Int) + (wordsL os keep : Nat) + (roots.length : Nat))) hwt cSt (by simp) rfl
   simp only [List.set_cons_zero, List.set_cons_succ] at c2
   have eN := dLdN_eq (o := 0) (m := 4) f2.wf c2 (by simp)
   have eN' : ldNP 4 (.ptr s4.next 0) t2 = some (.agg [.i (keep.length : Nat), .i ((os.length : Nat) - (keep.length : Nat)), .i (wordsL os keep : Nat), .i ((st0 : Int) + (wordsL os keep : Nat) + (roots.length : Nat))]) := by rw [eN]; rfl
   have cR2 := f2.cl hwt cRt (by have := f4.nx; simp; omega)
   obtain ⟨t3, p3, c3, f3', n3⟩ := eSt_exN (s := t2) (b := s.next) (o := 0) (vs := [V.i (keep.length : Nat), .i ((os.length : Nat) - (keep.length : Nat)), .i (wordsL os keep : Nat), .i ((st0 : Int) + (wordsL os keep : Nat) + (roots.length : Nat))]) (m := 4) f2.wf cR2 rfl (by simp) (by intro v hv; simp at hv; rcases hv with rfl | rfl | rfl | rfl <;> rfl)
   have eR := dLdN_eq (o := 0) (m := 4) f3'.wf c3 (by simp [putL])
   have eR' : ldNP 4 (.ptr s.next 0) t3 = some (.agg [.i (keep.length : Nat), .i ((os.length : Nat) - (keep.length : Nat)), .i (wordsL os keep : Nat), .i ((st0 : Int) + (wordsL os keep : Nat) + (roots.length : Nat))]) := by rw [eR]; simp [putL]
   have hdF := H.dF
   have FF : Fr s8 t3 [s7.next, s4.next, s.next] := (ft.mono (by simp)).trans ((f2.mono (by simp)).trans (f3'.mono (by simp)))
   have hs4n : s.next ≤ s4.next := by have := f4.nx; omega
   have Ht := H8.fr FF (by simp; omega) (by simp; omega) (by simp; omega) (by simp; omega) (fun b hb => by have := (hdF b hb).2.2.2.1; simp; omega)
   have Ft : Fr s t3 [p, bw, bb] := F8.trans' FF (fun b hb => .inr (by simp at hb; omega))
   have co := f3'.cl f2.wf (f2.cl hwt ct (by simp; omega)) (by simp; omega)
   have hsl : SL t3 (.slice s7.next 0 roots.length (some roots.length) 1) ((roots.map (mv os keep)).map V.i) := by
    have := SL.of (o := 0) (c := some roots.length) (l := (roots.map (mv os keep)).map V.i) f3'.wf co (by simp) (fun i hi => by rw [Nat.zero_add])
    rwa [hmvl] at this
   simp -implicitDefEqProofs (maxSteps := 5000000) (disch := first | assumption | omega | (simp only [dz, dl, Nat.zero_add, Nat.reduceAdd, Bool.and_self]; done) | (simp only [dl]; omega)) only [go_sem, fAdd_eq, i1, i5, i7, i9, i10, i11, i13, i53, i54, i55, c, dLd_at hwt cmt, dLd_at hwt cSt, hlen, p2, eN', p3, resV_tct, eR', Option.map_some]
   refine ⟨keep, _, st0 + wordsL os keep + roots.length, z', hkp, hkm, ?_, hsl, Ht, Ft, fun b hb => by have h1 := ft.nx; have h2 := f2.nx; have h3 := f3'.nx; simp [blkV] at hb; omega, by omega⟩
   simp
end
end
end Go.Proofs.YtgkcpceppmppfaaLab
namespace Go.Proofs.YtgkcpceppmppfaaLab
open Go
set_option linter.all false
set_option maxRecDepth 10000
noncomputable section
section
variable {t : St} {p bw bb n bm rp : Nat} {os : List O} {z : List Int} {shapes : List (List Bool)} {F FO FS : List Nat} {w : Int} (H : HS t p bw bb n os z shapes bm F) (R : RR t rp w os shapes FO FS)
include H R
end
end
end Go.Proofs.YtgkcpceppmppfaaLab
namespace Go.Proofs.YtgkcpceppmppfaaLab
open Go
set_option linter.all false
set_option maxRecDepth 10000
noncomputable section
theorem lay_take_mono (os : List O) {a b : Nat} (h : a ≤ b) : (lay (os.take a)).length ≤ (lay (os.take b)).length := by
 have : os.take b = os.take a ++ (os.take b).drop a := by
  conv => lhs; rw [← List.take_append_drop a (os.take b)]
  rw [List.take_take, Nat.min_eq_left h]
 rw [this, lay_append, List.length_append]; omega
theorem at_index {os : List O} {r : Int} {o : O} (h : at? os r = some o) : ∃ a : Nat, os[a]? = some o ∧ r = ((1 + (lay (os.take a)).length : Nat) : Int) := by
 obtain ⟨pre, post, rfl, hr⟩ := look_split h
 refine ⟨pre.length, by simp, ?_⟩
 rw [List.take_left' rfl]; omega
theorem tag_lt {os : List O} (ht : Tagged os) {r r' : Int} {o o' : O} (h : at? os r = some o) (h' : at? os r' = some o') (hl : r < r') : o.tag < o'.tag := by
 obtain ⟨a, ha, e⟩ := at_index h
 obtain ⟨b, hb, e'⟩ := at_index h'
 have : a < b := by
  by_cases c : b ≤ a
  · have := lay_take_mono os c; omega
  · omega
 rw [ht a o ha, ht b o' hb]; omega
section
variable {os : List O} {shapes : List (List Bool)} {keep : List Int}
theorem slid_at (hK : Kept os keep) {i : Nat} {x : Int} (hi : keep[i]? = some x) : ∃ o, at? os x = some o ∧ at? (slid os shapes keep) (mv os keep x) = some (mvO os shapes keep o) ∧ (slid os shapes keep)[i]? = some (mvO os shapes keep o) := by
 have hx := hK.inn x (List.mem_of_getElem? hi)
 obtain ⟨o, ho⟩ := Option.isSome_iff_exists.1 hx
 have hil := (List.getElem?_eq_some_iff.1 hi).1
 have h1 := objs_get hK.inn hi
 rw [ho] at h1
 have h2 : (slid os shapes keep)[i]? = some (mvO os shapes keep o) := by unfold slid; rw [List.getElem?_map, h1]; rfl
 have h3 := mv_in hK hi
 rw [tos_get hK.inn hil] at h3
 have h4 := at_starts h2
 rw [slid_take hK.inn, lay_map_len] at h4
 rw [Option.some.inj h3] at h4
 exact ⟨o, ho, h4, h2⟩
theorem slid_tag (hK : Kept os keep) {x : Int} (hx : x = 0 ∨ x ∈ keep) : tagO (slid os shapes keep) (mv os keep x) = tagO os x ∧ (mv os keep x = 0 ↔ x = 0) := by
 rcases hx with rfl | hx
 · have h0 : mv os keep 0 = 0 := by unfold mv; rw [if_pos rfl]
   rw [h0]
   have h1 : ∀ l : List O, at? l 0 = none := fun l => by unfold at?; exact look_neg _ _ (by omega)
   exact ⟨by unfold tagO; rw [h1, h1], by simp⟩
 · obtain ⟨i, hi⟩ := List.getElem?_of_mem hx
   obtain ⟨o, h1, h2, _⟩ := slid_at (shapes := shapes) hK hi
   have p1 := (lay_lt h1).1
   have p2 := (lay_lt h2).1
   exact ⟨by unfold tagO; rw [h1, h2]; rfl, by omega⟩
end
section
variable {t : St} {p bw bb n bm : Nat} {os : List O} {z : List Int} {shapes : List (List Bool)} {F : List Nat} {X : List Int}
end
end
end Go.Proofs.YtgkcpceppmppfaaLab
namespace Go.Proofs.YtgkcpceppmppfaaLab
open Go
set_option linter.all false
set_option maxRecDepth 10000
noncomputable section
theorem nodup_len {α : Type} [DecidableEq α] : ∀ {l1 l2 : List α}, l1.Nodup → (∀ x ∈ l1, x ∈ l2) → l1.length ≤ l2.length
 | [], _, _, _ => Nat.zero_le _
 | a :: l1, l2, h, hs => by
   have ha := hs a (by simp)
   obtain ⟨hn, h1⟩ := List.nodup_cons.1 h
   have := nodup_len (l2 := l2.erase a) h1 fun x hx => (List.mem_erase_of_ne (fun e => by subst e; exact hn hx)).2 (hs x (by simp [hx]))
   rw [List.length_erase_of_mem ha] at this
   have := List.length_pos_of_mem ha
   simp; omega
def swp (P : List (Int × Int)) : List (Int × Int) := P.map fun p => (p.2, p.1)
theorem swp_mem {P : List (Int × Int)} {x y : Int} : (x, y) ∈ swp P ↔ (y, x) ∈ P := by
 unfold swp
 rw [List.mem_map]
 constructor
 · rintro ⟨⟨a, b⟩, h, e⟩; cases e; exact h
 · exact fun h => ⟨_, h, rfl⟩
theorem swp_fst (P : List (Int × Int)) : (swp P).map (·.1) = P.map (·.2) := by simp [swp]
theorem findP_mem {x : Int} : ∀ {l : List (Int × Int)} {j : Nat} {p : Nat × Int}, findP x l j = some p → (x, p.2) ∈ l
 | [], _, _, h => by simp [findP] at h
 | (y, v) :: l, j, p, h => by
   unfold findP at h
   by_cases e : x = y
   · rw [if_pos e] at h; cases h; subst e; simp
   · rw [if_neg e] at h; simp [findP_mem h]
theorem findP_out {x : Int} {l : List (Int × Int)} (h : findP x l 0 = none) : x ∉ l.map (·.1) := fun hx => by
 obtain ⟨p, hp⟩ := findP_some (x := x) (l := l) (j := 0) hx
 rw [h] at hp; cases hp
theorem fst_inj {x y z : Int} : ∀ {P : List (Int × Int)}, (P.map (·.1)).Nodup → (x, y) ∈ P → (x, z) ∈ P → y = z
 | [], _, h, _ => by simp at h
 | p :: P, hn, h1, h2 => by
   rw [List.map_cons, List.nodup_cons] at hn
   rcases List.mem_cons.1 h1 with h1 | h1 <;> rcases List.mem_cons.1 h2 with h2 | h2
   · rw [← h1] at h2; cases h2; rfl
   · rw [← h1] at hn; exact absurd (List.mem_map_of_mem (f := (·.1)) h2) hn.1
   · rw [← h2] at hn; exact absurd (List.mem_map_of_mem (f := (·.1)) h1) hn.1
   · exact fst_inj hn.2 h1 h2
structure PF (P : List (Int × Int)) : Prop where
 f : (P.map (·.1)).Nodup
 b : (P.map (·.2)).Nodup
theorem PF.one {P : List (Int × Int)} (h : PF P) {x y z : Int} (h1 : (x, y) ∈ P) (h2 : (x, z) ∈ P) : y = z := fst_inj h.f h1 h2
theorem PF.two {P : List (Int × Int)} (h : PF P) {x y z : Int} (h1 : (y, x) ∈ P) (h2 : (z, x) ∈ P) : y = z := fst_inj (P := swp P) (by rw [swp_fst]; exact h.b) (swp_mem.2 h1) (swp_mem.2 h2)
theorem PF.snoc {P : List (Int × Int)} (h : PF P) {x y : Int} (h1 : x ∉ P.map (·.1)) (h2 : y ∉ P.map (·.2)) : PF (P ++ [(x, y)]) := by
 refine ⟨?_, ?_⟩
 · rw [List.map_append, List.nodup_append]
   exact ⟨h.f, by simp, fun a ha b hb e => by simp at hb; subst hb; subst e; exact h1 ha⟩
 · rw [List.map_append, List.nodup_append]
   exact ⟨h.b, by simp, fun a ha b hb e => by simp at hb; subst hb; subst e; exact h2 ha⟩
def PutQ (P T : List (Int × Int)) (x y : Int) (ok : Bool) (P' T' : List (Int × Int)) : Prop :=
 (P' = P ∧ T' = T ∧ (x = 0 ∨ y = 0) ∧ ok = decide (x = y)) ∨
 (P' = P ∧ T' = T ∧ ¬ x = 0 ∧ ¬ y = 0 ∧ (x ∈ P.map (·.1) ∨ y ∈ P.map (·.2)) ∧ ok = decide ((x, y) ∈ P)) ∨
 (P' = P ++ [(x, y)] ∧ T' = T ++ [(x, y)] ∧ ¬ x = 0 ∧ ¬ y = 0 ∧ x ∉ P.map (·.1) ∧ y ∉ P.map (·.2) ∧ ok = true)
section
variable {P T P' T' : List (Int × Int)} {x y : Int} {ok : Bool}
theorem PutQ.pf (h : PutQ P T x y ok P' T') (hP : PF P) : PF P' := by
 rcases h with ⟨rfl, _⟩ | ⟨rfl, _⟩ | ⟨rfl, _, _, _, h1, h2, _⟩
 · exact hP
 · exact hP
 · exact hP.snoc h1 h2
theorem PutQ.sub (h : PutQ P T x y ok P' T') : ∃ D, P' = P ++ D ∧ T' = T ++ D ∧ D.length ≤ 1 ∧ ∀ p ∈ D, p = (x, y) ∧ ¬ x = 0 ∧ ¬ y = 0 := by
 rcases h with ⟨rfl, rfl, _⟩ | ⟨rfl, rfl, _⟩ | ⟨rfl, rfl, h1, h2, _⟩
 · exact ⟨[], by simp, by simp, by simp, by simp⟩
 · exact ⟨[], by simp, by simp, by simp, by simp⟩
 · exact ⟨[(x, y)], rfl, rfl, by simp, fun p hp => ⟨by simpa using hp, h1, h2⟩⟩
theorem PutQ.good (h : PutQ P T x y ok P' T') (hk : ok = true) : x = 0 ∧ y = 0 ∨ (x, y) ∈ P' := by
 rcases h with ⟨_, _, h1, h2⟩ | ⟨rfl, _, _, _, _, h2⟩ | ⟨rfl, _⟩
 · rw [h2, decide_eq_true_eq] at hk; subst hk; exact .inl ⟨by omega, by omega⟩
 · rw [h2, decide_eq_true_eq] at hk; exact .inr hk
 · exact .inr (by simp)
structure Pairing (os os' : List O) (shapes : List (List Bool)) (R : Int → Int → Prop) : Prop where
 obj : ∀ x y, R x y → ∃ o o', at? os x = some o ∧ at? os' y = some o' ∧ o.shape = o'.shape ∧ o.f.length = o'.f.length ∧ o.tag = o'.tag ∧ ∀ (k : Nat) v w, o.f[k]? = some v → o'.f[k]? = some w → if refB shapes o k = true then (v = 0 ∧ w = 0) ∨ R v w else v = w
 one : ∀ x y z, R x y → R x z → y = z
 two : ∀ x y z, R y x → R z x → y = z
theorem PutQ.rel {os os' : List O} {shapes : List (List Bool)} {R : Int → Int → Prop} (h : PutQ P T x y ok P' T') (hR : Pairing os os' shapes R) (hs : ∀ p ∈ P, R p.1 p.2) (hx : x = 0 ∧ y = 0 ∨ R x y) : ok = true ∧ ∀ p ∈ P', R p.1 p.2 := by
 have nz : R x y → ¬ x = 0 ∧ ¬ y = 0 := fun hr => by
  obtain ⟨o, o', h1, h2, _⟩ := hR.obj x y hr
  have := at_pos (os := os) (r := x) (by rw [h1]; rfl)
  have := at_pos (os := os') (r := y) (by rw [h2]; rfl)
  omega
 rcases h with ⟨rfl, _, h1, h2⟩ | ⟨rfl, _, h0, h0', h1, h2⟩ | ⟨rfl, _, h0, h0', _, _, h2⟩
 · refine ⟨?_, hs⟩
   rcases hx with ⟨rfl, rfl⟩ | hx
   · rw [h2]; rfl
   · have := nz hx; omega
 · refine ⟨?_, hs⟩
   rcases hx with ⟨rfl, rfl⟩ | hx
   · exact absurd rfl h0
   · rw [h2, decide_eq_true_eq]
     rcases h1 with h1 | h1
     · obtain ⟨⟨a, b⟩, hp, rfl⟩ := List.mem_map.1 h1
       have := hR.one _ _ _ (hs _ hp) hx
       simp only at this
       rw [this] at hp; exact hp
     · obtain ⟨⟨a, b⟩, hp, rfl⟩ := List.mem_map.1 h1
       have := hR.two _ _ _ (hs _ hp) hx
       simp only at this
       rw [this] at hp; exact hp
 · refine ⟨h2, fun p hp => ?_⟩
   rcases List.mem_append.1 hp with hp | hp
   · exact hs p hp
   · simp at hp; subst hp
     exact hx.resolve_left fun h => h0 h.1
end
def meP (q : V → V → Option Bool) (z x y : V) (s : St) : Option (V × St) := eME q z (cV x) (cV y) kc0 e0 s
def esP (x y z : V) (s : St) : Option (V × St) := eES (cV x) (cV y) (cV z) kc0 e0 s
section
variable {g h i : E → V} {k : KC} {e : E} {s : St}
theorem eME_def (q : V → V → Option Bool) (z : V) : eME q z g h k e s = meP q z (g e) (h e) s := (rfl)
theorem eES_def : eES g h i k e s = esP (g e) (h e) (i e) s := (rfl)
end
theorem bIdxA_eq {n es b o : Nat} {j : Int} (h0 : 0 ≤ j) (h1 : j < n) : bIdxA n es (.ptr b o) (.i j) = some (.ptr b (o + j.toNat * es)) := by
 have e : bIdxA n es (.ptr b o) (.i j) = Bool.casesOn (motive := fun _ => Option V) (leI 0 j) none (Bool.casesOn (motive := fun _ => Option V) (Nat.blt j.toNat n) none (some (.ptr b (Nat.add o (Nat.mul j.toNat es))))) := rfl
 rw [e, leI_eq, decide_eq_true h0, nblt_eq, decide_eq_true (by omega)]; rfl
section
variable {s : St} {b : Nat} {es : List (V × V)} {bs : List Nat} {cl : Nat}
theorem eME_new {q : V → V → Option Bool} {z x : V} (hw : Wf s) (h : s.mp b = some (es, bs, cl)) (hf : findV q x es 0 = some none) :
 ∃ s', (meP q z (.map b) x s = some (.tup [z, .i (cl : Nat)], s')) ∧ s'.mp b = some (es ++ [(x, z)], bs ++ [cl], cl + 1) ∧ Fr s s' [b] ∧ s'.next = s.next := by
 obtain ⟨h1, h2, h3⟩ := put_mp hw h (es ++ [(x, z)]) (bs ++ [cl]) (cl + 1)
 refine ⟨_, ?_, h1, h2, h3⟩
 show (match s.heap.get b with
  | some (.map es bs cl) => (match findV q x es 0 with
    | some (some (j, v)) => (match bs[j]? with | some bn => some (V.tup [v, .i (Int.ofNat bn)], s.put b (.map (setAt x v es j) bs cl)) | none => none)
    | some none => some (V.tup [z, .i (Int.ofNat cl)], s.put b (.map (es ++ [(x, z)]) (bs ++ [cl]) (Nat.succ cl)))
    | none => none)
  | _ => none) = _
 rw [mp_inv h]; simp only
 rw [hf]; rfl
theorem idxB_last : ∀ (l : List Nat) (n i : Nat), n ∉ l → idxB n (l ++ [n]) i = some (i + l.length)
 | [], n, i, _ => by
   show Bool.casesOn (motive := fun _ => Option Nat) (Nat.beq n n) (idxB n [] (Nat.succ i)) (some i) = _
   rw [Nat.beq_refl]; rfl
 | a :: l, n, i, h => by
   simp only [List.mem_cons, not_or] at h
   have hb : Nat.beq a n = false := by
    cases c : Nat.beq a n with
    | false => rfl
    | true => exact absurd (Nat.eq_of_beq_eq_true c).symm h.1
   show Bool.casesOn (motive := fun _ => Option Nat) (Nat.beq a n) (idxB n (l ++ [n]) (Nat.succ i)) (some i) = _
   rw [hb]
   show idxB n (l ++ [n]) (i + 1) = _
   rw [idxB_last l n (i + 1) h.2]; simp; omega
theorem setW_last (v x z : V) : ∀ es : List (V × V), setW v (es ++ [(x, z)]) es.length = es ++ [(x, v)]
 | [] => rfl
 | p :: es => by
   show p :: setW v (es ++ [(x, z)]) es.length = _
   rw [setW_last v x z es]; rfl
theorem eES_last {n : Nat} {x z v : V} (hw : Wf s) (h : s.mp b = some (es ++ [(x, z)], bs ++ [n], cl)) (hl : bs.length = es.length) (hn : n ∉ bs) :
 ∃ s', (esP (.map b) (.i (n : Nat)) v s = some (.tup [], s')) ∧ s'.mp b = some (es ++ [(x, v)], bs ++ [n], cl) ∧ Fr s s' [b] ∧ s'.next = s.next := by
 obtain ⟨h1, h2, h3⟩ := put_mp hw h (es ++ [(x, v)]) (bs ++ [n]) cl
 refine ⟨_, ?_, h1, h2, h3⟩
 show (match s.heap.get b, V.i (Int.ofNat n) with
  | some (.map es bs cl), .i n => (match n with
    | .ofNat n => (match idxB n bs 0 with | some j => some (V.tup [], s.put b (.map (setW v es j) bs cl)) | none => none)
    | _ => none)
  | _, _ => none) = _
 rw [mp_inv h]; simp only
 rw [idxB_last _ _ _ hn, hl, Nat.zero_add]
 show some (V.tup [], s.put b (.map (setW v (es ++ [(x, z)]) es.length) (bs ++ [n]) cl)) = _
 rw [setW_last]
end
def flatQ (l : List (Int × Int)) : List V := l.flatMap fun p => [.i p.1, .i p.2]
theorem flatQ_snoc (l : List (Int × Int)) (x y : Int) : flatQ (l ++ [(x, y)]) = flatQ l ++ [.i x, .i y] := by simp [flatQ]
theorem flatQ_len : ∀ l : List (Int × Int), (flatQ l).length = l.length * 2
 | [] => rfl
 | p :: l => by
   have := flatQ_len l
   have e : flatQ (p :: l) = .i p.1 :: .i p.2 :: flatQ l := rfl
   rw [e]; simp; omega
def GQ (s : St) (v : V) (l : List (Int × Int)) : Prop := (l = [] ∧ v = .nils) ∨ ∃ b L, v = .slice b 0 l.length none 2 ∧ s.cl b = some L ∧ flatQ l <+: L
section
variable {s : St} {v : V} {l : List (Int × Int)}
theorem GQ.fr {s' : St} {L : List Nat} (h : GQ s v l) (hw : Wf s) (f : Fr s s' L) (hd : ∀ b, b ∈ blkV v → b ∉ L) : GQ s' v l := by
 rcases h with h | ⟨b, L', rfl, h2, h3⟩
 · exact .inl h
 · exact .inr ⟨b, L', rfl, f.cl hw h2 (hd b (by simp [blkV])), h3⟩
theorem GQ.one (h : GQ s v l) : v.one = true := by
 rcases h with ⟨_, rfl⟩ | ⟨b, L, rfl, _⟩ <;> rfl
theorem GQ.ne {b : Nat} {m : List (V × V) × List Nat × Nat} (h : GQ s v l) (hw : Wf s) (hm : s.mp b = some m) : ∀ c ∈ blkV v, c ≠ b := fun c hc => by
 rcases h with ⟨_, rfl⟩ | ⟨b1, L, rfl, h2, _⟩
 · simp [blkV] at hc
 · simp [blkV] at hc; subst hc; exact cl_mp_ne hw h2 hm
theorem GQ.push (hw : Wf s) (h : GQ s v l) (x y : Int) (hl : l.length ≤ 100000000) :
 ∃ s1 s2, s.new (.cells 2 (ofL [.i x, .i y])) = s1 ∧ (apP 2 v (.slice s.next 0 1 (some 1) 2) s1 = some (.slice (s.next + 1) 0 (l.length + 1) none 2, s2)) ∧
   GQ s2 (.slice (s.next + 1) 0 (l.length + 1) none 2) (l ++ [(x, y)]) ∧ Fr s s2 (blkV v) ∧ s2.next = s.next + 2 := by
 obtain ⟨s1, e1, c1, f1, n1⟩ := new_ex (s := s) (l := [V.i x, .i y]) (n := 2) hw rfl
 have hy : Src s1 2 (.slice s.next 0 1 (some 1) 2) 1 [.i x, .i y] := Src.full f1.wf c1 rfl (by intro v hv; simp at hv; rcases hv with rfl | rfl <;> rfl) (by omega)
 rcases h with ⟨rfl, rfl⟩ | ⟨b, L, rfl, h2, t, rfl⟩
 · obtain ⟨s2, e2, c2, f2, n2⟩ := eAp_nil f1.wf hy (by omega)
   rw [n1] at e2 c2
   exact ⟨s1, s2, e1, e2, .inr ⟨_, _, rfl, c2, List.prefix_refl _⟩, f1.trans f2, by omega⟩
 · have hb := cl_lt hw h2
   have hfl := flatQ_len l
   obtain ⟨s2, e2, c2, f2, n2⟩ := eAp_move (s := s1) (es := 2) (len := l.length) (o := 0) (b := b) f1.wf hy (by omega) hl (f1.cl hw h2 (by simp)) (by simp; omega)
   rw [n1] at e2 c2
   refine ⟨s1, s2, e1, e2, .inr ⟨s.next + 1, _, by simp, c2, ?_⟩, (f1.mono (by simp)).trans f2, by omega⟩
   rw [flatQ_snoc, List.drop_zero, List.take_left' hfl]
   exact List.prefix_refl _
theorem GQ.pop {x y : Int} (hw : Wf s) (h : GQ s v (l ++ [(x, y)])) : ∃ v' q, uLenS v = some (.i ((l.length + 1 : Nat) : Int)) ∧ slV 2 v none (some (.i (l.length : Nat))) none = some v' ∧ GQ s v' l ∧ blkV v' = blkV v ∧ bIdx 2 v (.i (l.length : Nat)) = some q ∧ ldNP 2 q s = some (.agg [.i x, .i y]) := by
 rcases h with ⟨h, _⟩ | ⟨b, L, rfl, h2, t, rfl⟩
 · simp at h
 · have hfl := flatQ_len l
   rw [flatQ_snoc, List.append_assoc] at h2
   refine ⟨.slice b 0 l.length none 2, .ptr b (0 + l.length * 2), by simp [uLenS], ?_, .inr ⟨b, _, rfl, h2, ?_⟩, rfl, ?_, ?_⟩
   · rw [pSl_hN (by omega) (by simp; omega)]
     simp
   · exact ⟨_, rfl⟩
   · rw [bIdx_eq (by omega) (by simp; omega)]; simp
   · rw [dLdN_eq hw h2 (by simp; omega), Nat.zero_add, ← hfl, List.drop_left]; rfl
end
end
end Go.Proofs.YtgkcpceppmppfaaLab
namespace Go.Proofs.YtgkcpceppmppfaaLab
open Go
set_option linter.all false
set_option maxRecDepth 10000
noncomputable section
structure PS (s0 s : St) (m mt mb pa pb : Nat) (P T : List (Int × Int)) : Prop where
 f : Fr s0 s []
 hm : s0.next ≤ m ∧ s0.next ≤ mt ∧ s0.next ≤ mb
 ne : mt ≠ mb
 ex : ∃ tv, s.cl m = some [.ptr pa 0, .ptr pb 0, .map mt, .map mb, tv] ∧ GQ s tv T ∧ ∀ b ∈ blkV tv, s0.next ≤ b ∧ b ≠ m
 m1 : s.mp mt = some (pairsI P, List.range P.length, P.length)
 m2 : s.mp mb = some (pairsI (swp P), List.range P.length, P.length)
theorem pairsI_snoc (P : List (Int × Int)) (x y : Int) : pairsI (P ++ [(x, y)]) = pairsI P ++ [(.i x, .i y)] := by simp [pairsI]
theorem swp_snoc (P : List (Int × Int)) (x y : Int) : swp (P ++ [(x, y)]) = swp P ++ [(y, x)] := by simp [swp]
section
variable {s0 s : St} {m mt mb pa pb : Nat} {P T : List (Int × Int)}
theorem PS.put (H : PS s0 s m mt mb pa pb P T) (hF : PF P) (d : Nat) (x y : Int) (hl : T.length ≤ 1000000) :
 ∃ ok P' T' s', (K (d + 1)).call 54 [.ptr m 0, .i x, .i y] s = some (.bool ok, s') ∧ PS s0 s' m mt mb pa pb P' T' ∧ PutQ P T x y ok P' T' := by
 obtain ⟨tv, h1, h2, h3⟩ := H.ex
 have hw := H.f.wf
 have m1 := H.m1
 have m2 := H.m2
 have n1 : m ≠ mt := cl_mp_ne hw h1 m1
 have n2 : m ≠ mb := cl_mp_ne hw h1 m2
 have n3 := H.ne
 rw [op54]
 by_cases x0 : x = 0
 · subst x0
   refine ⟨decide ((0 : Int) = y), P, T, s, ?_, H, .inl ⟨rfl, rfl, .inl rfl, rfl⟩⟩
   simp -implicitDefEqProofs (maxSteps := 5000000) (disch := first | assumption | omega | (simp only [dz, dl, Nat.zero_add, Nat.reduceAdd, Bool.and_self]; done) | (simp only [dl]; omega)) only [go_sem, eq_self]
 by_cases y0 : y = 0
 · subst y0
   refine ⟨decide (x = 0), P, T, s, ?_, H, .inl ⟨rfl, rfl, .inr rfl, rfl⟩⟩
   simp -implicitDefEqProofs (maxSteps := 5000000) (disch := first | assumption | omega | (simp only [dz, dl, Nat.zero_add, Nat.reduceAdd, Bool.and_self]; done) | (simp only [dl]; omega)) only [go_sem, x0, eq_self]
 cases hf1 : findP x P 0 with
 | none =>
   have o1 := findP_out hf1
   have e1 : findV eqKI (.i x) (pairsI P) 0 = some none := by rw [findV_pairsI, hf1]; rfl
   cases hf2 : findP y (swp P) 0 with
   | none =>
     have o2 := findP_out hf2
     rw [swp_fst] at o2
     have e2 : findV eqKI (.i y) (pairsI (swp P)) 0 = some none := by rw [findV_pairsI, hf2]; rfl
     obtain ⟨s1, p1, c1, f1, k1⟩ := eME_new (z := .i 0) hw m1 e1
     obtain ⟨s2, p2, c2, f2, k2⟩ := eES_last (v := .i y) f1.wf c1 (by simp [pairsI]) (by simp)
     have m2' := f2.mp f1.wf (f1.mp hw m2 (by simpa using n3.symm)) (by simpa using n3.symm)
     obtain ⟨s3, p3, c3, f3, k3⟩ := eME_new (z := .i 0) f2.wf m2' e2
     obtain ⟨s4, p4, c4, f4, k4⟩ := eES_last (v := .i x) f3.wf c3 (by simp [pairsI, swp]) (by simp)
     have F4 : Fr s s4 [mt, mb] := (f1.mono (by simp)).trans ((f2.mono (by simp)).trans ((f3.mono (by simp)).trans (f4.mono (by simp))))
     have h4 := F4.cl hw h1 (by simp [n1, n2])
     have g4 := h2.fr hw F4 (fun b hb => by simp [h2.ne hw m1 b hb, h2.ne hw m2 b hb])
     have t4 := f4.mp f3.wf (f3.mp f2.wf c2 (by simpa using n3)) (by simpa using n3)
     obtain ⟨s5, s6, p5, p6, g6', f6, k6⟩ := g4.push F4.wf x y (by omega)
     have nt : ∀ b, (b = mt ∨ b = mb) → b ∉ blkV tv := fun b hb hm => by
      rcases hb with rfl | rfl
      · exact h2.ne hw m1 b hm rfl
      · exact h2.ne hw m2 b hm rfl
     have h6 := f6.cl F4.wf h4 (fun hm => (h3 _ hm).2 rfl)
     have t6 := f6.mp F4.wf t4 (nt mt (.inl rfl))
     have b6 := f6.mp F4.wf c4 (nt mb (.inr rfl))
     obtain ⟨s7, p7, c7, f7, k7⟩ := eSt_ex (s := s6) (b := m) (o := 4) (v := .slice (s4.next + 1) 0 (T.length + 1) none 2) f6.wf h6 (by simp) rfl
     simp only [List.set_cons_zero, List.set_cons_succ] at c7
     have hml := cl_lt F4.wf h4
     have hx0 := F4.nx
     have hxs := H.f.nx
     have g7' := g6'.fr f6.wf f7 (fun b hb => by simp [blkV] at hb; subst hb; simp; omega)
     have t7 := f7.mp f6.wf t6 (by simpa using n1.symm)
     have b7 := f7.mp f6.wf b6 (by simpa using n2.symm)
     refine ⟨true, P ++ [(x, y)], T ++ [(x, y)], s7, ?_, ⟨?_, H.hm, n3, ⟨_, c7, g7', fun b hb => ?_⟩, ?_, ?_⟩, .inr (.inr ⟨rfl, rfl, x0, y0, o1, o2, rfl⟩)⟩
     · simp -implicitDefEqProofs (maxSteps := 5000000) (disch := first | assumption | omega | (simp only [dz, dl, Nat.zero_add, Nat.reduceAdd, Bool.and_self]; done) | (simp only [dl]; omega)) only [go_sem, eME_def, eES_def, x0, y0, dLd_at hw h1, dLk_eq m1, dLk_eq m2, lkV_none e1, lkV_none e2, p1, p2, p3, p4, dLd_at F4.wf h4, p5, p6, p7]
     · have := H.hm
       exact ((H.f.trans' F4 (fun b hb => .inr (by simp at hb; omega))).trans' f6 (fun b hb => .inr (h3 b hb).1)).trans' f7 (fun b hb => .inr (by simp at hb; omega))
     · simp [blkV] at hb; subst hb; omega
     · rw [t7, pairsI_snoc, List.length_append, List.length_singleton, List.range_succ]
     · rw [b7, swp_snoc, pairsI_snoc, List.length_append, List.length_singleton, List.range_succ]
   | some w =>
     have e2 : findV eqKI (.i y) (pairsI (swp P)) 0 = some (some (w.1, .i w.2)) := by rw [findV_pairsI, hf2]; rfl
     have hm2 := swp_mem.1 (findP_mem hf2)
     refine ⟨false, P, T, s, ?_, H, .inr (.inl ⟨rfl, rfl, x0, y0, .inr (List.mem_map.2 ⟨_, hm2, rfl⟩), ?_⟩)⟩
     · simp -implicitDefEqProofs (maxSteps := 5000000) (disch := first | assumption | omega | (simp only [dz, dl, Nat.zero_add, Nat.reduceAdd, Bool.and_self]; done) | (simp only [dl]; omega)) only [go_sem, x0, y0, dLd_at hw h1, dLk_eq m1, dLk_eq m2, lkV_none e1, lkV_some e2]
     · rw [eq_comm, decide_eq_false_iff_not]
       exact fun h => o1 (List.mem_map.2 ⟨_, h, rfl⟩)
 | some z =>
   have e1 : findV eqKI (.i x) (pairsI P) 0 = some (some (z.1, .i z.2)) := by rw [findV_pairsI, hf1]; rfl
   have hm1 := findP_mem hf1
   cases hf2 : findP y (swp P) 0 with
   | none =>
     have o2 := findP_out hf2
     rw [swp_fst] at o2
     have e2 : findV eqKI (.i y) (pairsI (swp P)) 0 = some none := by rw [findV_pairsI, hf2]; rfl
     refine ⟨false, P, T, s, ?_, H, .inr (.inl ⟨rfl, rfl, x0, y0, .inl (List.mem_map.2 ⟨_, hm1, rfl⟩), ?_⟩)⟩
     · simp -implicitDefEqProofs (maxSteps := 5000000) (disch := first | assumption | omega | (simp only [dz, dl, Nat.zero_add, Nat.reduceAdd, Bool.and_self]; done) | (simp only [dl]; omega)) only [go_sem, x0, y0, dLd_at hw h1, dLk_eq m1, dLk_eq m2, lkV_some e1, lkV_none e2]
     · rw [eq_comm, decide_eq_false_iff_not]
       exact fun h => o2 (List.mem_map.2 ⟨_, h, rfl⟩)
   | some w =>
     have e2 : findV eqKI (.i y) (pairsI (swp P)) 0 = some (some (w.1, .i w.2)) := by rw [findV_pairsI, hf2]; rfl
     have hm2 := swp_mem.1 (findP_mem hf2)
     by_cases c : z.2 = y
     · have cw : w.2 = x := by
        rw [c] at hm1
        exact hF.two hm2 hm1
       refine ⟨true, P, T, s, ?_, H, .inr (.inl ⟨rfl, rfl, x0, y0, .inl (List.mem_map.2 ⟨_, hm1, rfl⟩), ?_⟩)⟩
       · simp -implicitDefEqProofs (maxSteps := 5000000) (disch := first | assumption | omega | (simp only [dz, dl, Nat.zero_add, Nat.reduceAdd, Bool.and_self]; done) | (simp only [dl]; omega)) only [go_sem, x0, y0, dLd_at hw h1, dLk_eq m1, dLk_eq m2, lkV_some e1, lkV_some e2, c, cw, eq_self]
       · rw [eq_comm, decide_eq_true_eq]
         rw [c] at hm1; exact hm1
     · refine ⟨false, P, T, s, ?_, H, .inr (.inl ⟨rfl, rfl, x0, y0, .inl (List.mem_map.2 ⟨_, hm1, rfl⟩), ?_⟩)⟩
       · simp -implicitDefEqProofs (maxSteps := 5000000) (disch := first | assumption | omega | (simp only [dz, dl, Nat.zero_add, Nat.reduceAdd, Bool.and_self]; done) | (simp only [dl]; omega)) only [go_sem, x0, y0, dLd_at hw h1, dLk_eq m1, dLk_eq m2, lkV_some e1, lkV_some e2, c]
       · rw [eq_comm, decide_eq_false_iff_not]
         exact fun h => c (hF.one hm1 h)
end
end
end Go.Proofs.YtgkcpceppmppfaaLab
namespace Go.Proofs.YtgkcpceppmppfaaLab
open Go
set_option linter.all false
set_option maxRecDepth 10000
noncomputable section
theorem refB_shape {shapes : List (List Bool)} {o o' : O} (h : o.shape = o'.shape) (k : Nat) : refB shapes o k = refB shapes o' k := by unfold refB; rw [h]
def LikeP (s0 : St) (m mt mb a b : Nat) (os os' : List O) (shapes : List (List Bool)) (x y : Int) (o o' : O) (P T : List (Int × Int)) (v : V) (t : St) : Prop :=
 ∃ (ok : Bool) (D : List (Int × Int)), v = .bool ok ∧ PS s0 t m mt mb a b (P ++ D) (T ++ D) ∧ PF (P ++ D) ∧ D.length ≤ o.f.length ∧ (∀ p ∈ D, (at? os p.1).isSome ∧ (at? os' p.2).isSome) ∧
   (ok = true → o.tag = o'.tag ∧ ∀ (j : Nat) v, o.f[j]? = some v → refB shapes o j = true → v = 0 ∨ ∃ w, (v, w) ∈ P ++ D) ∧
   (∀ R, Pairing os os' shapes R → (∀ p ∈ P, R p.1 p.2) → R x y → ok = true ∧ ∀ p ∈ P ++ D, R p.1 p.2)
section
variable {s0 s : St} {m mt mb a b bwa bba na bma bwb bbb nb bmb : Nat} {os os' : List O} {za zb : List Int} {shapes : List (List Bool)} {Fa Fb : List Nat} {P T : List (Int × Int)} {x y : Int} {o o' : O}
theorem PS.like (Ha : HS s0 a bwa bba na os za shapes bma Fa) (Hb : HS s0 b bwb bbb nb os' zb shapes bmb Fb) (hRa : RefOk os shapes) (hRb : RefOk os' shapes) (H : PS s0 s m mt mb a b P T) (hF : PF P) (ho : at? os x = some o) (ho' : at? os' y = some o') (hl : T.length ≤ 100000) (d : Nat) :
 Ret ((K (d + 5)).call 55 [.ptr m 0, .i x, .i y] s) (LikeP s0 m mt mb a b os os' shapes x y o o' P T) := by
 have hol : o.f.length ≤ 20000 := by
  have := (lay_lt ho).2
  have hn : o.n = 3 + o.f.length := rfl
  have := Ha.lay_le
  omega
 have hw := H.f.wf
 obtain ⟨tv, h1, h2, h3⟩ := H.ex
 have Ha1 := Ha.fr H.f (by simp) (by simp) (by simp) (by simp) (by simp)
 have Hb1 := Hb.fr H.f (by simp) (by simp) (by simp) (by simp) (by simp)
 obtain ⟨sa, hA, hS⟩ := Ha1.H
 obtain ⟨sb, hB, hS'⟩ := Hb1.H
 have e1 := hA.shape (d + 2) x
 have e2 := hB.shape (d + 2) y
 have e3 := hA.len (d + 2) x
 have e4 := hB.len (d + 2) y
 have e5 := hA.tag (d + 2) x
 have e6 := hB.tag (d + 2) y
 rw [show shapeO os x = o.shape by unfold shapeO; rw [ho]] at e1
 rw [show shapeO os' y = o'.shape by unfold shapeO; rw [ho']] at e2
 rw [show lenO os x = (o.f.length : Nat) by unfold lenO; rw [ho]] at e3
 rw [show lenO os' y = (o'.f.length : Nat) by unfold lenO; rw [ho']] at e4
 rw [show tagO os x = o.tag by unfold tagO; rw [ho]] at e5
 rw [show tagO os' y = o'.tag by unfold tagO; rw [ho']] at e6
 have no : ¬ (o.shape = o'.shape ∧ o.f.length = o'.f.length ∧ o.tag = o'.tag) → LikeP s0 m mt mb a b os os' shapes x y o o' P T (.bool false) s := fun h => by
  refine ⟨false, [], rfl, by simpa using H, by simpa using hF, by simp, by simp, fun h => by simp at h, fun R hR hs hxy => ?_⟩
  obtain ⟨p, p', q1, q2, q3, q4, q5, _⟩ := hR.obj x y hxy
  rw [ho] at q1; cases q1
  rw [ho'] at q2; cases q2
  exact absurd ⟨q3, q4, q5⟩ h
 by_cases c1 : o.shape = o'.shape
 rotate_left
 · simp -implicitDefEqProofs (maxSteps := 5000000) (disch := first | assumption | omega | (simp only [dz, dl, Nat.zero_add, Nat.reduceAdd, Bool.and_self]; done) | (simp only [dl]; omega)) only [op55, go_sem, fAdd_eq, dLd_at hw h1, e1, e2, c1]
   exact no fun h => c1 h.1
 by_cases c2 : o.f.length = o'.f.length
 rotate_left
 · have c2' : ¬ ((o.f.length : Nat) : Int) = (o'.f.length : Nat) := by omega
   simp -implicitDefEqProofs (maxSteps := 5000000) (disch := first | assumption | omega | (simp only [dz, dl, Nat.zero_add, Nat.reduceAdd, Bool.and_self]; done) | (simp only [dl]; omega)) only [op55, go_sem, fAdd_eq, dLd_at hw h1, e1, e2, c1, eq_self, e3, e4, c2']
   exact no fun h => c2 h.2.1
 by_cases c3 : o.tag = o'.tag
 rotate_left
 · simp -implicitDefEqProofs (maxSteps := 5000000) (disch := first | assumption | omega | (simp only [dz, dl, Nat.zero_add, Nat.reduceAdd, Bool.and_self]; done) | (simp only [dl]; omega)) only [op55, go_sem, fAdd_eq, dLd_at hw h1, e1, e2, c1, eq_self, e3, e4, c2, e5, e6, c3]
   exact no fun h => c3 h.2.2
 rw [c1] at e1
 rw [← c2] at e4
 rw [c3] at e5
 simp -implicitDefEqProofs (maxSteps := 5000000) (disch := first | assumption | omega | (simp only [dz, dl, Nat.zero_add, Nat.reduceAdd, Bool.and_self]; done) | (simp only [dl]; omega)) only [op55, go_sem, fAdd_eq, dLd_at hw h1, e1, e2, eq_self, e3, e4, e5, e6]
 refine loop_at (Q := fun r => Ret (retR _ (seqR (blkR 0 r) _)) _) (fun q e t => ∃ (k : Nat) (D : List (Int × Int)), q = o.f.length - k ∧ k ≤ o.f.length ∧ PS s0 t m mt mb a b (P ++ D) (T ++ D) ∧ PF (P ++ D) ∧ D.length ≤ k ∧ (∀ p ∈ D, (at? os p.1).isSome ∧ (at? os' p.2).isSome) ∧ (∀ (j : Nat) v, j < k → o.f[j]? = some v → refB shapes o j = true → v = 0 ∨ ∃ w, (v, w) ∈ P ++ D) ∧ (∀ R, Pairing os os' shapes R → (∀ p ∈ P, R p.1 p.2) → R x y → ∀ p ∈ P ++ D, R p.1 p.2) ∧ g0 e = .ptr m 0 ∧ g1 e = .i x ∧ g2 e = .i y ∧ g61 e = .i (o.f.length : Nat) ∧ g62 e = .i k) ?_ (n := o.f.length) (by omega) ⟨0, [], by omega, by omega, by simpa using H, by simpa using hF, by simp, by simp, fun j v hj => by omega, fun R _ hs _ => by simpa using hs, (by first | trivial | rfl | assumption), (by first | trivial | rfl | assumption), (by first | trivial | rfl | assumption), (by first | trivial | rfl | assumption), (by first | trivial | rfl | assumption)⟩
 clear H h1 h2 h3 hA hB hS hS' Ha1 Hb1 hw e1 e2 e3 e4 e5 e6 no hF
 rintro q e t ⟨k, D, rfl, hk, H, hF, hDk, hDv, hdone, hRR, i0, i1, i2, i61, i62⟩
 replace i0 : e.a0.a0 = _ := i0
 replace i1 : e.a0.a1 = _ := i1
 replace i2 : e.a0.a2 = _ := i2
 replace i61 : e.a3.a13 = _ := i61
 replace i62 : e.a3.a14 = _ := i62
 by_cases c : (k : Int) < ((o.f.length : Nat) : Int)
 · have hkl : k < o.f.length := by omega
   have hkl' : k < o'.f.length := by omega
   obtain ⟨v, hv⟩ : ∃ x, o.f[k]? = some x := ⟨_, List.getElem?_eq_getElem hkl⟩
   obtain ⟨w, hw'⟩ : ∃ x, o'.f[k]? = some x := ⟨_, List.getElem?_eq_getElem hkl'⟩
   obtain ⟨tv, h1, h2, h3⟩ := H.ex
   have hwt := H.f.wf
   have Ha1 := Ha.fr H.f (by simp) (by simp) (by simp) (by simp) (by simp)
   have Hb1 := Hb.fr H.f (by simp) (by simp) (by simp) (by simp) (by simp)
   obtain ⟨sa, hA, hS⟩ := Ha1.H
   obtain ⟨sb, hB, hS'⟩ := Hb1.H
   have e1 := hA.isRef hS Ha1.ok d x (k : Nat)
   rw [refO_at (shapes := shapes) ho hkl] at e1
   have e2 := hB.isRef hS' Hb1.ok d y (k : Nat)
   rw [refO_at (shapes := shapes) ho' hkl', ← refB_shape c1] at e2
   have e3 := hA.get d x (k : Nat)
   rw [show getO os x (k : Nat) = some v by unfold getO; rw [ho]; simp only; rw [if_pos (by omega), Int.toNat_natCast]; exact hv] at e3
   have e4 := hB.get d y (k : Nat)
   rw [show getO os' y (k : Nat) = some w by unfold getO; rw [ho']; simp only; rw [if_pos (by omega), Int.toNat_natCast]; exact hw'] at e4
   simp only at e3 e4
   have hrel : ∀ R, Pairing os os' shapes R → R x y → if refB shapes o k = true then (v = 0 ∧ w = 0) ∨ R v w else v = w := fun R hR hxy => by
    obtain ⟨p, p', q1, q2, _, _, _, q6⟩ := hR.obj x y hxy
    rw [ho] at q1; cases q1
    rw [ho'] at q2; cases q2
    exact q6 k v w hv hw'
   cases hb : refB shapes o k with
   | false =>
     rw [hb] at e1 e2
     simp only [hb, Bool.false_eq_true, if_false] at hrel
     by_cases cv : v = w
     · simp -implicitDefEqProofs (maxSteps := 5000000) (disch := first | assumption | omega | (simp only [dz, dl, Nat.zero_add, Nat.reduceAdd, Bool.and_self]; done) | (simp only [dl]; omega)) only [go_sem, fAdd_eq, i0, i1, i2, i61, i62, c, dLd_at hwt h1, e1, e2, e3, e4, cv, eq_self]
       exact ⟨o.f.length - (k + 1), by omega, k + 1, D, rfl, by omega, H, hF, by omega, hDv, fun j u hj hu hbu => by
        by_cases ej : j = k
        · subst ej; rw [hb] at hbu; cases hbu
        · exact hdone j u (by omega) hu hbu, hRR, (by first | trivial | rfl | assumption), (by first | trivial | rfl | assumption), (by first | trivial | rfl | assumption), (by first | trivial | rfl | assumption), (by first | trivial | rfl | assumption)⟩
     · simp -implicitDefEqProofs (maxSteps := 5000000) (disch := first | assumption | omega | (simp only [dz, dl, Nat.zero_add, Nat.reduceAdd, Bool.and_self]; done) | (simp only [dl]; omega)) only [go_sem, fAdd_eq, i0, i1, i2, i61, i62, c, dLd_at hwt h1, e1, e2, e3, e4, cv, eq_self]
       exact ⟨false, D, rfl, H, hF, by omega, hDv, fun h => by simp at h, fun R hR _ hxy => absurd (hrel R hR hxy) cv⟩
   | true =>
     rw [hb] at e1 e2
     simp only [hb, if_true] at hrel
     obtain ⟨ok, P', T', t2, q1, H2, hQ⟩ := H.put hF (d + 3) v w (by simp; omega)
     have hF2 := hQ.pf hF
     have hgood := fun h => hQ.good h
     have hrl := fun R hR hs hx => hQ.rel (os := os) (os' := os') (shapes := shapes) (R := R) hR hs hx
     obtain ⟨D', rfl, rfl, hD1, hD2⟩ := hQ.sub
     have hval : ∀ p ∈ D ++ D', (at? os p.1).isSome ∧ (at? os' p.2).isSome := fun p hp => by
      rcases List.mem_append.1 hp with hp | hp
      · exact hDv p hp
      · obtain ⟨rfl, n1, n2⟩ := hD2 p hp
        exact ⟨(hRa x o ho k v hv hb).resolve_left n1, (hRb y o' ho' k w hw' (by rw [← refB_shape c1]; exact hb)).resolve_left n2⟩
     rw [List.append_assoc] at H2 hF2 hgood
     rw [List.append_assoc] at H2
     simp only [List.append_assoc] at hrl
     cases ok with
     | true =>
       simp -implicitDefEqProofs (maxSteps := 5000000) (disch := first | assumption | omega | (simp only [dz, dl, Nat.zero_add, Nat.reduceAdd, Bool.and_self]; done) | (simp only [dl]; omega)) only [go_sem, fAdd_eq, i0, i1, i2, i61, i62, c, dLd_at hwt h1, e1, e2, e3, e4, q1, eq_self]
       refine ⟨o.f.length - (k + 1), by omega, k + 1, D ++ D', rfl, by omega, H2, hF2, by simp; omega, hval, fun j u hj hu hbu => ?_, fun R hR hs hxy => (hrl R hR (hRR R hR hs hxy) (hrel R hR hxy)).2, (by first | trivial | rfl | assumption), (by first | trivial | rfl | assumption), (by first | trivial | rfl | assumption), (by first | trivial | rfl | assumption), (by first | trivial | rfl | assumption)⟩
       by_cases ej : j = k
       · subst ej
         rw [hv] at hu; cases hu
         rcases hgood rfl with h | h
         · exact .inl h.1
         · exact .inr ⟨_, h⟩
       · refine (hdone j u (by omega) hu hbu).imp_right fun ⟨w', h⟩ => ⟨w', ?_⟩
         rw [← List.append_assoc]; exact List.mem_append_left _ h
     | false =>
       simp -implicitDefEqProofs (maxSteps := 5000000) (disch := first | assumption | omega | (simp only [dz, dl, Nat.zero_add, Nat.reduceAdd, Bool.and_self]; done) | (simp only [dl]; omega)) only [go_sem, fAdd_eq, i0, i1, i2, i61, i62, c, dLd_at hwt h1, e1, e2, e3, e4, q1, eq_self]
       exact ⟨false, D ++ D', rfl, H2, hF2, by simp; omega, hval, fun h => by simp at h, fun R hR hs hxy => by
        have := (hrl R hR (hRR R hR hs hxy) (hrel R hR hxy)).1
        cases this⟩
 · have : k = o.f.length := by omega
   subst this
   simp -implicitDefEqProofs (maxSteps := 5000000) (disch := first | assumption | omega | (simp only [dz, dl, Nat.zero_add, Nat.reduceAdd, Bool.and_self]; done) | (simp only [dl]; omega)) only [go_sem, fAdd_eq, i0, i1, i2, i61, i62, c]
   exact ⟨true, D, rfl, H, hF, hDk, hDv, fun _ => ⟨c3, fun j v hv hb => hdone j v (List.getElem?_eq_some_iff.1 hv).1 hv hb⟩, fun R hR hs hxy => ⟨rfl, hRR R hR hs hxy⟩⟩
end
end
end Go.Proofs.YtgkcpceppmppfaaLab
namespace Go.Proofs.YtgkcpceppmppfaaLab
open Go
set_option linter.all false
set_option maxRecDepth 10000
noncomputable section
def DoneP (os os' : List O) (shapes : List (List Bool)) (P : List (Int × Int)) (p : Int × Int) : Prop :=
 ∃ o o', at? os p.1 = some o ∧ at? os' p.2 = some o' ∧ o.tag = o'.tag ∧ ∀ (j : Nat) v, o.f[j]? = some v → refB shapes o j = true → v = 0 ∨ ∃ w, (v, w) ∈ P
theorem DoneP.mono {os os' : List O} {shapes : List (List Bool)} {P D : List (Int × Int)} {p : Int × Int} (h : DoneP os os' shapes P p) : DoneP os os' shapes (P ++ D) p := by
 obtain ⟨o, o', h1, h2, h3, h4⟩ := h
 exact ⟨o, o', h1, h2, h3, fun j v hv hb => (h4 j v hv hb).imp_right fun ⟨w, h⟩ => ⟨w, List.mem_append_left _ h⟩⟩
def Paired (os os' : List O) (P : List (Int × Int)) : Prop := ∀ p ∈ P, (at? os p.1).isSome ∧ (at? os' p.2).isSome
def RootsP (ra rb : List Int) (R : Int → Int → Prop) : Prop := ∀ (i : Nat) x y, ra[i]? = some x → rb[i]? = some y → (x = 0 ∧ y = 0) ∨ R x y
theorem Paired.len {os os' : List O} {P : List (Int × Int)} (h : Paired os os' P) (hF : PF P) : P.length ≤ (lay os).length := by
 have h1 := nodup_len (l2 := (List.range (lay os).length).map fun i : Nat => ((i : Int) + 1)) hF.f fun x hx => by
  obtain ⟨p, hp, rfl⟩ := List.mem_map.1 hx
  have hb := obj_b (h p hp).1
  exact List.mem_map.2 ⟨(p.1 - 1).toNat, by simp; omega, by omega⟩
 simpa using h1
def LikeR (s : St) (os os' : List O) (shapes : List (List Bool)) (ra rb : List Int) (v : V) (t : St) : Prop :=
 Fr s t [] ∧ ∃ ok : Bool, v = .bool ok ∧ (ok = true → ∀ x, Reach os shapes ra x → ∃ y o o', at? os x = some o ∧ at? os' y = some o' ∧ o.tag = o'.tag) ∧
  (∀ R, Pairing os os' shapes R → RootsP ra rb R → ok = true)
theorem same_agg2 (x y : Int) : seesB (some (.agg [.i x, .i y])) (.agg [.i x, .i y]) = true := by
 refine sees_some ?_
 simp [sameV, sameL, eqI_self]
theorem GQ.see {s : St} {v : V} {l : List (Int × Int)} (h : GQ s v l) : seesB (some v) v = true := by
 rcases h with ⟨_, rfl⟩ | ⟨b, L, rfl, _⟩
 · exact same_nils
 · exact same_slice ..
section
variable {s : St} {a b bwa bba na bma bwb bbb nb bmb : Nat} {os os' : List O} {za zb : List Int} {shapes : List (List Bool)} {Fa Fb : List Nat} {ra rb : List Int} (Ha : HS s a bwa bba na os za shapes bma Fa) (Hb : HS s b bwb bbb nb os' zb shapes bmb Fb)
include Ha Hb
theorem like2 (hRa : RefOk os shapes) (hRb : RefOk os' shapes) {t : St} {m mt mb : Nat} {P : List (Int × Int)} (H : PS s t m mt mb a b P P) (hF : PF P) (hV : Paired os os' P) (hroot : ∀ x ∈ ra, x = 0 ∨ ∃ y, (x, y) ∈ P) (hR : ∀ R, Pairing os os' shapes R → RootsP ra rb R → ∀ p ∈ P, R p.1 p.2) (d : Nat) {e : E} (i9 : g9 e = .ptr m 0) :
 Ret (retR (resV [rT g8]) (p28_29 (K (d + 6)) e t)) (LikeR s os os' shapes ra rb) := by
 have hlay := Ha.lay_le
 replace i9 : e.a0.a9 = _ := i9
 simp -implicitDefEqProofs (maxSteps := 5000000) (disch := first | assumption | omega | (simp only [dz, dl, Nat.zero_add, Nat.reduceAdd, Bool.and_self]; done) | (simp only [dl]; omega)) only [go_sem, fAdd_eq, p28_29.eq_1]
 refine loop_at (Q := fun r => Ret (retR _ (seqR (blkR 2 r) _)) _) (fun q e t => ∃ (P T : List (Int × Int)), q = T.length + (lay os).length - P.length ∧ PS s t m mt mb a b P T ∧ PF P ∧ Paired os os' P ∧ T.length ≤ P.length ∧ (∀ p ∈ T, p ∈ P) ∧ (∀ p ∈ P, p ∈ T ∨ DoneP os os' shapes P p) ∧ (∀ x ∈ ra, x = 0 ∨ ∃ y, (x, y) ∈ P) ∧ (∀ R, Pairing os os' shapes R → RootsP ra rb R → ∀ p ∈ P, R p.1 p.2) ∧ g9 e = .ptr m 0) ?_ (n := (lay os).length) (by omega) ⟨P, P, by have := hV.len hF; omega, H, hF, hV, by omega, fun p h => h, fun p h => .inl h, hroot, hR, i9⟩
 clear i9 H hF hV hroot hR P e t
 rintro q e t ⟨P, T, rfl, H, hF, hV, hlT, hT, hD, hroot, hR, i9⟩
 replace i9 : e.a0.a9 = _ := i9
 obtain ⟨tv, h1, h2, h3⟩ := H.ex
 have hwt := H.f.wf
 have hPl := hV.len hF
 rcases List.eq_nil_or_concat T with rfl | ⟨rest, p, rfl⟩
 · have hlen : uLenS tv = some (.i 0) := by
    rcases h2 with ⟨_, rfl⟩ | ⟨b, L, rfl, _⟩ <;> rfl
   simp -implicitDefEqProofs (maxSteps := 5000000) (disch := first | assumption | omega | (simp only [dz, dl, Nat.zero_add, Nat.reduceAdd, Bool.and_self]; done) | (simp only [dl]; omega)) only [go_sem, fAdd_eq, i9, dLd_at hwt h1, hlen]
   refine ⟨H.f, true, rfl, fun _ x hx => ?_, fun _ _ _ => rfl⟩
   have hP : ∃ y, (x, y) ∈ P := by
    induction hx with
    | root h h0 => exact (hroot _ h).resolve_left h0
    | step _ ho hv hb h0 ih =>
      obtain ⟨y, hy⟩ := ih
      obtain ⟨o, o', q1, q2, q3, q4⟩ := (hD _ hy).resolve_left (by simp)
      rw [ho] at q1; cases q1
      exact (q4 _ _ hv hb).resolve_left h0
   obtain ⟨y, hy⟩ := hP
   obtain ⟨o, o', q1, q2, q3, _⟩ := (hD _ hy).resolve_left (by simp)
   exact ⟨y, o, o', q1, q2, q3⟩
 · obtain ⟨x, y⟩ := p
   rw [List.concat_eq_append] at *
   rw [List.length_append, List.length_singleton] at hlT
   obtain ⟨tv', qq, k1, k2, k3, k4, k5, k6⟩ := h2.pop hwt
   have em : ((rest.length + 1 : Nat) : Int) - 1 = (rest.length : Nat) := by omega
   have hrb : rest.length ≤ 100000 := by omega
   have c0 : (0 : Int) < ((rest.length + 1 : Nat) : Int) := by omega
   obtain ⟨t1, e1, c1, f1, n1⟩ := new_ex (s := t) (l := [V.i 0, .i 0]) (n := 2) hwt rfl
   obtain ⟨t2, p2, c2, f2, n2⟩ := eSt_exN (s := t1) (b := t.next) (o := 0) (vs := [V.i x, .i y]) (m := 2) f1.wf c1 rfl (by simp) (by intro v hv; simp at hv; rcases hv with rfl | rfl <;> rfl)
   have c2' : t2.cl t.next = some [V.i x, .i y] := by rw [c2]; simp [putL]
   have F2 : Fr t t2 [] := f1.trans' f2 (by simp)
   have h1' := F2.cl hwt h1 (by simp)
   obtain ⟨t3, p3, c3, f3, n3⟩ := eSt_ex (s := t2) (b := m) (o := 4) (v := tv') F2.wf h1' (by simp) k3.one
   simp only [List.set_cons_zero, List.set_cons_succ] at c3
   have hml := cl_lt hwt h1
   have m1 := F2.mp hwt H.m1 (by simp)
   have m2 := F2.mp hwt H.m2 (by simp)
   have x1 := cl_mp_ne F2.wf h1' m1
   have x2 := cl_mp_ne F2.wf h1' m2
   have H3 : PS s t3 m mt mb a b P rest := ⟨(H.f.trans F2).trans' f3 (fun b hb => .inr (by simp at hb; subst hb; exact H.hm.1)), H.hm, H.ne, ⟨tv', c3, (k3.fr hwt F2 (by simp)).fr F2.wf f3 (fun b hb => by rw [k4] at hb; simp; exact (h3 b hb).2), fun b hb => by rw [k4] at hb; exact h3 b hb⟩, f3.mp F2.wf m1 (by simpa using x1.symm), f3.mp F2.wf m2 (by simpa using x2.symm)⟩
   have cx := f3.cl F2.wf c2' (by simp; omega)
   have hxy : (x, y) ∈ P := hT _ (by simp)
   obtain ⟨o, ho⟩ := Option.isSome_iff_exists.1 (hV _ hxy).1
   obtain ⟨o', ho'⟩ := Option.isSome_iff_exists.1 (hV _ hxy).2
   obtain ⟨v, t4, e4, hlk⟩ := H3.like Ha Hb hRa hRb hF ho ho' (by omega) (d + 1)
   obtain ⟨ok, D, rfl, H4, hF4, hD1, hD2, hgood, hrel⟩ := hlk
   have hV4 : Paired os os' (P ++ D) := fun p hp => by
    rcases List.mem_append.1 hp with hp | hp
    · exact hV p hp
    · exact hD2 p hp
   have hPl4 := hV4.len hF4
   rw [List.length_append] at hPl4
   cases ok with
   | true =>
     simp -implicitDefEqProofs (maxSteps := 5000000) (disch := first | assumption | omega | (simp only [dz, dl, Nat.zero_add, Nat.reduceAdd, Bool.and_self]; done) | (simp only [dl]; omega)) only [go_sem, fAdd_eq, i9, dLd_at hwt h1, k1, c0, em, k5, k6, h2.see, same_agg2, aAl_eq, e1, p2, dLd_at F2.wf h1', k2, p3, bIdxA_eq, dLd_at f3.wf cx, e4]
     refine ⟨(rest ++ D).length + (lay os).length - (P ++ D).length, ?_, P ++ D, rest ++ D, rfl, H4, hF4, hV4, ?_, fun p hp => ?_, fun p hp => ?_, fun x hx => (hroot x hx).imp_right fun ⟨w, h⟩ => ⟨w, List.mem_append_left _ h⟩, fun R hR' hr => (hrel R hR' (hR R hR' hr) (hR R hR' hr _ hxy)).2, (by first | trivial | rfl | assumption)⟩
     · simp only [List.length_append, List.length_singleton]; omega
     · simp only [List.length_append]; omega
     · rcases List.mem_append.1 hp with hp | hp
       · exact List.mem_append_left _ (hT p (by simp [hp]))
       · exact List.mem_append_right _ hp
     · rcases List.mem_append.1 hp with hp | hp
       · rcases hD p hp with h | h
         · rcases List.mem_append.1 h with h | h
           · exact .inl (List.mem_append_left _ h)
           · simp at h; subst h
             obtain ⟨q1, q2⟩ := hgood rfl
             exact .inr ⟨o, o', ho, ho', q1, q2⟩
         · exact .inr h.mono
       · exact .inl (List.mem_append_right _ hp)
   | false =>
     simp -implicitDefEqProofs (maxSteps := 5000000) (disch := first | assumption | omega | (simp only [dz, dl, Nat.zero_add, Nat.reduceAdd, Bool.and_self]; done) | (simp only [dl]; omega)) only [go_sem, fAdd_eq, i9, dLd_at hwt h1, k1, c0, em, k5, k6, h2.see, same_agg2, aAl_eq, e1, p2, dLd_at F2.wf h1', k2, p3, bIdxA_eq, dLd_at f3.wf cx, e4]
     exact ⟨H4.f, false, rfl, fun h => by simp at h, fun R hR' hr => (hrel R hR' (hR R hR' hr) (hR R hR' hr _ hxy)).1⟩
theorem HS.like (hRa : RefOk os shapes) (hRb : RefOk os' shapes) {va vb : V} (hka : SL s va (ra.map .i)) (hkb : SL s vb (rb.map .i)) (hla : ra.length ≤ 1000) (hab : ra.length = rb.length) (hra : RootOk os ra) (hrb : RootOk os' rb) (d : Nat) :
 Ret ((K (d + 7)).call 28 [.ptr a 0, va, .ptr b 0, vb] s) (LikeR s os os' shapes ra rb) := by
 have hw := Ha.wf
 have hlena := hka.len
 have hlenb := hkb.len
 rw [List.length_map] at hlena hlenb
 rw [← hab] at hlenb
 obtain ⟨s1, e1, m1, f1, n1⟩ : ∃ s', s.new (.map [] [] 0) = s' ∧ s'.mp s.next = some ([], [], 0) ∧ Fr s s' [] ∧ s'.next = s.next + 1 :=
  ⟨_, rfl, by unfold St.mp; rw [new_at hw], ⟨hw.new trivial, Nat.le_succ _, fun j hj _ => new_ne (by omega)⟩, rfl⟩
 obtain ⟨s2, e2, m2, f2, n2⟩ : ∃ s', s1.new (.map [] [] 0) = s' ∧ s'.mp s1.next = some ([], [], 0) ∧ Fr s1 s' [] ∧ s'.next = s1.next + 1 :=
  ⟨_, rfl, by unfold St.mp; rw [new_at f1.wf], ⟨f1.wf.new trivial, Nat.le_succ _, fun j hj _ => new_ne (by omega)⟩, rfl⟩
 obtain ⟨s3, e3, c3, f3, n3⟩ := new_ex (s := s2) (l := [V.ptr a 0, .ptr b 0, .map s.next, .map s1.next, .nils]) (n := 5) f2.wf rfl
 have H0 : PS s s3 s2.next s.next s1.next a b [] [] := ⟨f1.trans (f2.trans f3), ⟨by omega, by omega, by omega⟩, by omega, ⟨.nils, c3, .inl ⟨rfl, rfl⟩, by simp [blkV]⟩, f3.mp f2.wf (f2.mp f1.wf m1 (by simp)) (by simp), f3.mp f2.wf m2 (by simp)⟩
 simp -implicitDefEqProofs (maxSteps := 5000000) (disch := first | assumption | omega | (simp only [dz, dl, Nat.zero_add, Nat.reduceAdd, Bool.and_self]; done) | (simp only [dl]; omega)) only [op28, go_sem, fAdd_eq, bNil_ptr, hlena, hlenb, eq_self, e1, e2, e3]
 refine loop_at (Q := fun r => Ret (retR _ (seqR (blkR 0 r) _)) _) (fun q e t => ∃ (j : Nat) (P : List (Int × Int)), q = ra.length - j ∧ j ≤ ra.length ∧ PS s t s2.next s.next s1.next a b P P ∧ PF P ∧ Paired os os' P ∧ P.length ≤ j ∧ (∀ (i : Nat) x, i < j → ra[i]? = some x → x = 0 ∨ ∃ y, (x, y) ∈ P) ∧ (∀ R, Pairing os os' shapes R → RootsP ra rb R → ∀ p ∈ P, R p.1 p.2) ∧ g0 e = .ptr a 0 ∧ g1 e = va ∧ g2 e = .ptr b 0 ∧ g3 e = vb ∧ g9 e = .ptr s2.next 0 ∧ g32 e = .i (ra.length : Nat) ∧ g33 e = .i j) ?_ (n := ra.length) (by omega) ⟨0, [], by omega, by omega, H0, ⟨List.nodup_nil, List.nodup_nil⟩, fun p hp => by simp at hp, by simp, fun i x hi => by omega, fun R _ _ p hp => by simp at hp, (by first | trivial | rfl | assumption), (by first | trivial | rfl | assumption), (by first | trivial | rfl | assumption), (by first | trivial | rfl | assumption), (by first | trivial | rfl | assumption), (by first | trivial | rfl | assumption), (by first | trivial | rfl | assumption)⟩
 rintro q e t ⟨j, P, rfl, hj, H, hF, hV, hPj, hroot, hR, i0, i1, i2, i3, i9, i32, i33⟩
 replace i0 : e.a0.a0 = _ := i0
 replace i1 : e.a0.a1 = _ := i1
 replace i2 : e.a0.a2 = _ := i2
 replace i3 : e.a0.a3 = _ := i3
 replace i9 : e.a0.a9 = _ := i9
 replace i32 : e.a2.a0 = _ := i32
 replace i33 : e.a2.a1 = _ := i33
 by_cases c : (j : Int) < ((ra.length : Nat) : Int)
 · obtain ⟨x, hx⟩ : ∃ x, ra[j]? = some x := ⟨_, List.getElem?_eq_getElem (by omega)⟩
   obtain ⟨y, hy⟩ : ∃ x, rb[j]? = some x := ⟨_, List.getElem?_eq_getElem (by omega)⟩
   have hwt := H.f.wf
   obtain ⟨q1, a1, a2⟩ := (hka.fr hw H.f (by simp)).at hwt (j := j) (x := .i x) (by rw [List.getElem?_map, hx]; rfl)
   obtain ⟨q2, b1, b2⟩ := (hkb.fr hw H.f (by simp)).at hwt (j := j) (x := .i y) (by rw [List.getElem?_map, hy]; rfl)
   have Ha1 := Ha.fr H.f (by simp) (by simp) (by simp) (by simp) (by simp)
   have Hb1 := Hb.fr H.f (by simp) (by simp) (by simp) (by simp) (by simp)
   have ea := Ha1.isN (d + 3) x
   have eb := Hb1.isN (d + 3) y
   rw [okRf_iff.2 (hra x (List.mem_of_getElem? hx))] at ea
   rw [okRf_iff.2 (hrb y (List.mem_of_getElem? hy))] at eb
   obtain ⟨ok, P', T', t2, e4, H2, hQ⟩ := H.put hF (d + 5) x y (by omega)
   have hF2 := hQ.pf hF
   have hgood := fun h => hQ.good h
   have hrl := fun R hR hs hx => hQ.rel (os := os) (os' := os') (shapes := shapes) (R := R) hR hs hx
   obtain ⟨D, rfl, rfl, hD1, hD2⟩ := hQ.sub
   have hV2 : Paired os os' (P ++ D) := fun p hp => by
    rcases List.mem_append.1 hp with hp | hp
    · exact hV p hp
    · obtain ⟨rfl, z1, z2⟩ := hD2 p hp
      exact ⟨(hra x (List.mem_of_getElem? hx)).resolve_left z1, (hrb y (List.mem_of_getElem? hy)).resolve_left z2⟩
   cases ok with
   | true =>
     simp -implicitDefEqProofs (maxSteps := 5000000) (disch := first | assumption | omega | (simp only [dz, dl, Nat.zero_add, Nat.reduceAdd, Bool.and_self]; done) | (simp only [dl]; omega)) only [go_sem, fAdd_eq, i0, i1, i2, i3, i9, i32, i33, c, a1, a2, b1, b2, ea, eb, e4]
     refine ⟨ra.length - (j + 1), by omega, j + 1, P ++ D, rfl, by omega, H2, hF2, hV2, by rw [List.length_append]; omega, fun i u hi hu => ?_, fun R hR' hr => (hrl R hR' (hR R hR' hr) (hr j x y hx hy)).2, (by first | trivial | rfl | assumption), (by first | trivial | rfl | assumption), (by first | trivial | rfl | assumption), (by first | trivial | rfl | assumption), (by first | trivial | rfl | assumption), (by first | trivial | rfl | assumption), (by first | trivial | rfl | assumption)⟩
     by_cases ei : i = j
     · subst ei
       rw [hx] at hu; cases hu
       rcases hgood rfl with h | h
       · exact .inl h.1
       · exact .inr ⟨_, h⟩
     · exact (hroot i u (by omega) hu).imp_right fun ⟨w, h⟩ => ⟨w, List.mem_append_left _ h⟩
   | false =>
     simp -implicitDefEqProofs (maxSteps := 5000000) (disch := first | assumption | omega | (simp only [dz, dl, Nat.zero_add, Nat.reduceAdd, Bool.and_self]; done) | (simp only [dl]; omega)) only [go_sem, fAdd_eq, i0, i1, i2, i3, i9, i32, i33, c, a1, a2, b1, b2, ea, eb, e4]
     exact ⟨H2.f, false, rfl, fun h => by simp at h, fun R hR' hr => (hrl R hR' (hR R hR' hr) (hr j x y hx hy)).1⟩
 · have : j = ra.length := by omega
   subst this
   simp -implicitDefEqProofs (maxSteps := 5000000) (disch := first | assumption | omega | (simp only [dz, dl, Nat.zero_add, Nat.reduceAdd, Bool.and_self]; done) | (simp only [dl]; omega)) only [go_sem, fAdd_eq, i0, i1, i2, i3, i9, i32, i33, c]
   exact like2 Ha Hb hRa hRb H hF hV (fun x hx => by
    obtain ⟨i, hi⟩ := List.getElem?_of_mem hx
    exact hroot i x (List.getElem?_eq_some_iff.1 hi).1 hi) hR d (by first | trivial | rfl | assumption)
end
end
end Go.Proofs.YtgkcpceppmppfaaLab
namespace Go.Proofs.YtgkcpceppmppfaaLab
open Go
set_option linter.all false
set_option maxRecDepth 10000
noncomputable section
theorem Pairing.swap {os os' : List O} {shapes : List (List Bool)} {R : Int → Int → Prop} (h : Pairing os os' shapes R) : Pairing os' os shapes fun x y => R y x := by
 refine ⟨fun x y hr => ?_, fun x y z h1 h2 => h.two _ _ _ h1 h2, fun x y z h1 h2 => h.one _ _ _ h1 h2⟩
 obtain ⟨o, o', h1, h2, h3, h4, h5, h6⟩ := h.obj y x hr
 refine ⟨o', o, h2, h1, h3.symm, h4.symm, h5.symm, fun k v w hv hw => ?_⟩
 have := h6 k w v hw hv
 rw [← refB_shape h3]
 by_cases c : refB shapes o k = true
 · rw [if_pos c] at this ⊢
   exact this.imp_left fun h => ⟨h.2, h.1⟩
 · rw [if_neg c] at this ⊢
   exact this.symm
theorem pair_self {os : List O} {shapes : List (List Bool)} (h : RefOk os shapes) : Pairing os os shapes fun x y => x = y ∧ (at? os x).isSome := by
 refine ⟨fun x y hr => ?_, fun x y z h1 h2 => h1.1.symm.trans h2.1, fun x y z h1 h2 => h1.1.trans h2.1.symm⟩
 obtain ⟨rfl, hs⟩ := hr
 obtain ⟨o, ho⟩ := Option.isSome_iff_exists.1 hs
 refine ⟨o, o, ho, ho, rfl, rfl, rfl, fun k v w hv hw => ?_⟩
 rw [hv] at hw; cases hw
 by_cases c : refB shapes o k = true
 · rw [if_pos c]
   rcases h x o ho k v hv c with h | h
   · exact .inl ⟨h, h⟩
   · exact .inr ⟨rfl, h⟩
 · rw [if_neg c]
theorem starts_ge : ∀ (l : List O) (a : Nat) (x : Int), x ∈ starts a l → (a : Int) ≤ x
 | [], a, x, h => by simp [starts] at h
 | o :: l, a, x, h => by
   rcases List.mem_cons.1 h with rfl | h
   · exact Int.le_refl _
   · have := starts_ge l (a + o.n) x h
     omega
theorem starts_rise : ∀ (l : List O) (a : Nat), (starts a l).Pairwise (· < ·)
 | [], a => List.Pairwise.nil
 | o :: l, a => List.Pairwise.cons (fun x hx => by
     have h1 := starts_ge l (a + o.n) x hx
     have : o.n = 3 + o.f.length := rfl
     omega) (starts_rise l (a + o.n))
theorem starts_mem {l : List O} {r : Int} : r ∈ starts 1 l ↔ (at? l r).isSome := by
 refine ⟨refs_root l r, fun h => ?_⟩
 obtain ⟨o, ho⟩ := Option.isSome_iff_exists.1 h
 obtain ⟨i, hi, rfl⟩ := at_index ho
 exact List.mem_of_getElem? (starts_get l 1 i (List.getElem?_eq_some_iff.1 hi).1)
section
variable {os : List O} {shapes : List (List Bool)} {keep : List Int}
theorem mv_zero : mv os keep 0 = 0 := by unfold mv; rw [if_pos rfl]
theorem pair_mv (ht : Tagged os) (hK : Kept os keep) (hC : Clo os shapes keep keep) : Pairing (slid os shapes keep) os shapes fun y x => x ∈ keep ∧ y = mv os keep x := by
 have at_mv : ∀ x ∈ keep, ∃ o, at? os x = some o ∧ at? (slid os shapes keep) (mv os keep x) = some (mvO os shapes keep o) := fun x hx => by
  obtain ⟨i, hi⟩ := List.getElem?_of_mem hx
  obtain ⟨o, h1, h2, _⟩ := slid_at (shapes := shapes) hK hi
  exact ⟨o, h1, h2⟩
 refine ⟨fun y x hr => ?_, fun y x z h1 h2 => ?_, fun x y z h1 h2 => h1.2.trans h2.2.symm⟩
 · obtain ⟨hx, rfl⟩ := hr
   obtain ⟨o, h1, h2⟩ := at_mv x hx
   refine ⟨_, o, h2, h1, rfl, mvO_len, rfl, fun k v w hv hw => ?_⟩
   rw [mvO_get hw] at hv
   have e : refB shapes (mvO os shapes keep o) k = refB shapes o k := rfl
   rw [e]
   cases hv
   unfold mvF
   by_cases c : refB shapes o k = true
   · rw [if_pos c, if_pos c]
     rcases hC x hx o h1 k w hw c with h | h
     · subst h; exact .inl ⟨mv_zero, rfl⟩
     · exact .inr ⟨h, rfl⟩
   · rw [if_neg c, if_neg c]
 · obtain ⟨hx, rfl⟩ := h1
   obtain ⟨hz, e⟩ := h2
   obtain ⟨o, q1, q2⟩ := at_mv x hx
   obtain ⟨o', r1, r2⟩ := at_mv z hz
   rw [e, r2] at q2
   have et : (mvO os shapes keep o').tag = (mvO os shapes keep o).tag := by rw [Option.some.inj q2]
   have et : o'.tag = o.tag := et
   rcases Int.lt_trichotomy x z with h | h | h
   · have := tag_lt ht q1 r1 h; omega
   · exact h
   · have := tag_lt ht r1 q1 h; omega
theorem slid_mem (hK : Kept os keep) {r : Int} (h : (at? (slid os shapes keep) r).isSome) : ∃ x ∈ keep, r = mv os keep x := by
 obtain ⟨o, ho⟩ := Option.isSome_iff_exists.1 h
 obtain ⟨i, hi, rfl⟩ := at_index ho
 have hil := (List.getElem?_eq_some_iff.1 hi).1
 have hsl : (slid os shapes keep).length = keep.length := by unfold slid; rw [List.length_map, objs_len hK.inn]
 obtain ⟨x, hx⟩ : ∃ x, keep[i]? = some x := ⟨_, List.getElem?_eq_getElem (by omega)⟩
 refine ⟨x, List.mem_of_getElem? hx, ?_⟩
 have h1 := mv_in hK hx
 rw [tos_get hK.inn (by omega)] at h1
 rw [slid_take hK.inn, lay_map_len]
 exact Option.some.inj h1
theorem reach_mv (hK : Kept os keep) {X : List Int} (hm : ∀ x, x ∈ keep ↔ Reach os shapes X x) {x : Int} (h : Reach os shapes X x) : Reach (slid os shapes keep) shapes (X.map (mv os keep)) (mv os keep x) := by
 have nz : ∀ {x : Int}, Reach os shapes X x → ¬ mv os keep x = 0 := fun {x} hx h0 => by
  have hk := (hm x).2 hx
  have h1 := (slid_tag (shapes := shapes) hK (.inr hk)).2.1 h0
  have h2 := at_pos (hK.inn x hk)
  omega
 induction h with
 | root h h0 => exact .root (List.mem_map.2 ⟨_, h, rfl⟩) (nz (.root h h0))
 | @step r o k v h ho hv hb h0 ih =>
   have hr := (hm r).2 h
   obtain ⟨i, hi⟩ := List.getElem?_of_mem hr
   obtain ⟨o', h1, h2, _⟩ := slid_at (shapes := shapes) hK hi
   rw [ho] at h1; cases h1
   refine .step ih h2 (k := k) (x := mv os keep v) ?_ hb (nz (.step h ho hv hb h0))
   rw [mvO_get hv]; unfold mvF; rw [if_pos hb]
theorem keep_all (hK : Kept os keep) {X : List Int} (hX : RootOk os X) (hRf : RefOk os shapes) (hm : ∀ x, x ∈ keep ↔ Reach os shapes X x) {keep2 : List Int} (hp2 : keep2.Pairwise (· < ·)) (hm2 : ∀ x, x ∈ keep2 ↔ Reach (slid os shapes keep) shapes (X.map (mv os keep)) x) (hR2 : RefOk (slid os shapes keep) shapes) (hX2 : RootOk (slid os shapes keep) (X.map (mv os keep))) : keep2 = starts 1 (slid os shapes keep) := by
 refine rising_eq hp2 (starts_rise _ _) fun x => ?_
 rw [hm2, starts_mem]
 refine ⟨fun h => h.isSome hR2 hX2, fun h => ?_⟩
 obtain ⟨y, hy, rfl⟩ := slid_mem hK h
 exact reach_mv hK hm ((hm y).1 hy)
end
theorem kept_starts (S : List O) : Kept S (starts 1 S) := ⟨refs_root S, starts_rise S 1⟩
theorem objs_starts (S : List O) : objs S (starts 1 S) = S := by
 refine List.ext_getElem? fun i => ?_
 cases h : (starts 1 S)[i]? with
 | none =>
   have h1 := List.getElem?_eq_none_iff.1 h
   rw [starts_len] at h1
   have h2 := objs_len (kept_starts S).inn
   rw [starts_len] at h2
   rw [List.getElem?_eq_none (by omega), List.getElem?_eq_none (by omega)]
 | some r =>
   obtain ⟨o, h1, h2⟩ := refs_at h
   rw [objs_get (kept_starts S).inn h, h1, h2]
theorem mv_starts (S : List O) {x : Int} (h : x = 0 ∨ (at? S x).isSome) : mv S (starts 1 S) x = x := by
 rcases h with rfl | h
 · exact mv_zero
 · obtain ⟨i, hi⟩ := List.getElem?_of_mem (starts_mem.2 h)
   have h1 := mv_in (kept_starts S) hi
   unfold tos at h1
   rw [objs_starts, hi] at h1
   exact (Option.some.inj h1).symm
theorem slid_starts_self {S : List O} {shapes : List (List Bool)} (h : RefOk S shapes) : slid S shapes (starts 1 S) = S := by
 have h1 : ∀ o ∈ S, mvO S shapes (starts 1 S) o = o := fun o ho => by
  obtain ⟨i, hi⟩ := List.getElem?_of_mem ho
  have hat := at_starts hi
  have hf : o.f.mapIdx (mvF S shapes (starts 1 S) o) = o.f := by
   refine List.ext_getElem? fun k => ?_
   rw [List.getElem?_mapIdx]
   cases hk : o.f[k]? with
   | none => rfl
   | some v =>
     simp only [Option.map_some, mvF]
     by_cases c : refB shapes o k = true
     · rw [if_pos c, mv_starts S (h _ o hat k v hk c)]
     · rw [if_neg c]
  unfold mvO
  rw [hf]
 unfold slid
 rw [objs_starts]
 conv => rhs; rw [← List.map_id S]
 exact List.map_congr_left h1
end
end Go.Proofs.YtgkcpceppmppfaaLab
namespace Go.Proofs.YtgkcpceppmppfaaLab
open Go Go.WideShapes Go.ChangeShapes
set_option linter.all false
set_option maxRecDepth 10000
noncomputable section
section
variable {H : Type} {enc : TypeId × Value → H} {W : World} {base b0 : Nat} {r : Go.Reach} {held : Bool}
theorem cells3 : Try.prog.cellsOf 3 = 1 := by kernel_rfl
theorem cells23 : Try.prog.cellsOf 23 = 1 := by kernel_rfl
theorem cells60 : Try.prog.cellsOf 60 = 3 := by kernel_rfl
theorem one_int3 {n : Nat} {u : Value} {y : DataW H × List MemPlace} (h : DataW.trod enc Try.prog W base (fun _ => true) held n 3 [u] = some y) : ∃ z : Int, u = .int .i64 z ∧ -9223372036854775808 ≤ z ∧ z < 9223372036854775808 := by
 obtain ⟨z, h1, _, h3⟩ := DataW.trod_int Try.underlying3 h
 cases h1
 exact ⟨z, rfl, ok_i64 h3⟩
def IsI (z : V) : Prop := ∃ n : Int, z = .i n ∧ -9223372036854775808 ≤ n ∧ n < 9223372036854775808
theorem el_int : ∀ n u y k', DataW.trod enc Try.prog W base (fun _ => true) held n 3 [u] = some y → (∃ l, impG W k' = some l) → ∃ z, imp W 1 k' u = some z ∧ IsI z := fun n u y k' h _ => by
 obtain ⟨z, rfl, h1⟩ := one_int3 h
 exact ⟨.i z, rfl, z, rfl, h1⟩
theorem ints_of : ∀ {l : List V}, (∀ z ∈ l, IsI z) → ∃ l' : List Int, l = l'.map V.i ∧ ∀ x ∈ l', -9223372036854775808 ≤ x ∧ x < 9223372036854775808
 | [], _ => ⟨[], rfl, by simp⟩
 | z :: l, h => by
   obtain ⟨n, rfl, hn⟩ := h z (by simp)
   obtain ⟨l', rfl, hl⟩ := ints_of (l := l) fun y hy => h y (by simp [hy])
   exact ⟨n :: l', rfl, fun x hx => by
    rcases List.mem_cons.1 hx with rfl | hx
    · exact hn
    · exact hl x hx⟩
theorem one_ints {n k : Nat} {u : Value} {y : DataW H × List MemPlace} (h : DataW.trod enc Try.prog W base (fun _ => true) held n 23 [u] = some y) (hk : ∃ l, impG W k = some l) : ∃ z, imp W 1 k u = some z ∧ ∃ l : List Int, SN (impS W 1) z (l.map .i) ∧ (∀ b ∈ blkV z, b < W.heap.size) ∧ ∀ x ∈ l, -9223372036854775808 ≤ x ∧ x < 9223372036854775808 := by
 obtain ⟨x, zs, h1, h2, h3, h4⟩ := in_slice1 Try.underlying23 cells3 hk _ el_int h
 obtain ⟨l, rfl, hl⟩ := ints_of h3
 exact ⟨x, h1, l, h2, h4, hl⟩
theorem one_node {n k : Nat} {cs : List Value} {y : DataW H × List MemPlace} (hl : cs.length = 3) (h : DataW.trod enc Try.prog W base (fun _ => true) held n 60 cs = some y) (hk : ∃ l, impG W k = some l) :
 ∃ a : Nd, NdOk (impS W 1) W.heap.size a ∧ ∀ (j : Nat) (u : Value), cs[j]? = some u → ∃ z, imp W 1 k u = some z ∧ a.cells[j]? = some z := by
 obtain ⟨xs, m, _, _, _, hxl, hf⟩ := DataW.trod_struct Try.underlying60 h
 match cs, hl with
 | [c0, c1, c2], _ =>
   have f0 : DataW.trod enc Try.prog W base (fun _ => true) held m 3 (([c0, c1, c2].drop 0).take (Try.prog.cellsOf 3)) = xs[0]? := hf 0 _ rfl
   rw [cells3] at f0
   replace f0 : DataW.trod enc Try.prog W base (fun _ => true) held m 3 [c0] = xs[0]? := f0
   have f1 : DataW.trod enc Try.prog W base (fun _ => true) held m 3 (([c0, c1, c2].drop 1).take (Try.prog.cellsOf 3)) = xs[1]? := hf 1 _ rfl
   rw [cells3] at f1
   replace f1 : DataW.trod enc Try.prog W base (fun _ => true) held m 3 [c1] = xs[1]? := f1
   have f2 : DataW.trod enc Try.prog W base (fun _ => true) held m 23 (([c0, c1, c2].drop 2).take (Try.prog.cellsOf 23)) = xs[2]? := hf 2 _ rfl
   rw [cells23] at f2
   replace f2 : DataW.trod enc Try.prog W base (fun _ => true) held m 23 [c2] = xs[2]? := f2
   have hxl : xs.length = 3 := hxl
   rw [List.getElem?_eq_getElem (by omega)] at f0 f1 f2
   obtain ⟨z0, rfl, b0⟩ := one_int3 f0
   obtain ⟨z1, rfl, b1⟩ := one_int3 f1
   obtain ⟨z2, e2, l2, s2, k2, w2⟩ := one_ints f2 hk
   refine ⟨⟨z0, z1, z2, l2⟩, ⟨s2.sl, k2, w2⟩, fun j u hj => ?_⟩
   match j with
   | 0 => simp at hj; subst hj; exact ⟨_, rfl, rfl⟩
   | 1 => simp at hj; subst hj; exact ⟨_, rfl, rfl⟩
   | 2 => simp at hj; subst hj; exact ⟨_, e2, rfl⟩
   | j + 3 => simp at hj
theorem arg_nodes {v : Value} {d : DataW H} {ps : List MemPlace} (hval : Value.okWide Try.prog W r b0 22 v) (h : DataW.Trod enc Try.prog W base (fun _ => true) held 22 v d ps) :
 ∃ (x : V) (l : List Nd), VR (impG W) x v ∧ NA (impS W 1) x l ∧ (∀ b ∈ blkV x, b < W.heap.size) ∧ ∀ a ∈ l, NdOk (impS W 1) W.heap.size a := by
 obtain ⟨fuel, hf⟩ := h
 obtain ⟨a, len, cap, rfl⟩ := okWide_slice Try.underlying22 hval
 have hf : DataW.trod enc Try.prog W base (fun _ => true) held fuel 22 [.slice a len cap] = some (d, ps) := hf
 rcases slice_elems Try.underlying22 cells60 hf with h0 | ⟨a', len', cap', h1, hl, hm, hcell⟩
 · cases h0
   exact ⟨.nils, [], .nils, .inl ⟨rfl, .inl rfl⟩, by simp [blkV], by simp⟩
 · cases h1
   obtain ⟨hsp, _, c, el, fz, hblk⟩ := ok_slice_blk Try.underlying22 hval
   have hg : impG W a'.block = some ⟨a'.block, 0, c.size⟩ := by unfold impG; rw [hblk]
   have hlt : a'.block < W.heap.size := (Array.getElem?_eq_some_iff.1 hblk).1
   obtain ⟨ab, ao, asp⟩ := a'
   simp only at hsp hblk hg hlt
   subst hsp
   have each : ∀ i, i < cap → ∃ a : Nd, NdOk (impS W 1) W.heap.size a ∧ ∀ j, j < 3 → ∃ u z, c[ao + i * 3 + j]? = some u ∧ imp W 1 ab u = some z ∧ a.cells[j]? = some z := fun i hi => by
    obtain ⟨cs, y, n', q1, q2, q3⟩ := hcell i hi
    obtain ⟨a, ha, hj⟩ := one_node (k := ab) q1 q3 ⟨_, hg⟩
    refine ⟨a, ha, fun j hj7 => ?_⟩
    have hc := q2 j hj7
    have hu : cs[j]? = some cs[j] := List.getElem?_eq_getElem (by omega)
    rw [hu] at hc
    obtain ⟨z, z1, z2⟩ := hj j _ hu
    rw [add_at] at hc
    unfold World.cell? at hc
    simp only [hblk] at hc
    exact ⟨cs[j], z, by rw [Nat.add_assoc]; simpa using hc, z1, z2⟩
   have htot : cap = 0 ∨ ao + cap * 3 ≤ c.size := by
    by_cases h0 : cap = 0
    · exact .inl h0
    · obtain ⟨a, _, hj⟩ := each (cap - 1) (by omega)
      obtain ⟨u, z, hu, _⟩ := hj 2 (by omega)
      have := (Array.getElem?_eq_some_iff.1 hu).1
      exact .inr (by omega)
   have hch : ∃ g : Nat → Nd, ∀ i, i < cap → NdOk (impS W 1) W.heap.size (g i) ∧ ∀ j, j < 3 → ∃ u z, c[ao + i * 3 + j]? = some u ∧ imp W 1 ab u = some z ∧ (g i).cells[j]? = some z := by
    refine ⟨fun i => if h : i < cap then (each i h).choose else ⟨0, 0, .nils, []⟩, fun i hi => ?_⟩
    simp only [dif_pos hi]
    exact (each i hi).choose_spec
   obtain ⟨g, hgs⟩ := hch
   refine ⟨.slice ab ao len none 3, (List.range len).map g, .slice _ _ _ _ _ _ ⟨ab, 0, c.size⟩ _ hg hl (fun k h => by cases h) (.inr (by simp)) (by simpa using htot), ?_, fun b hb => by simp [blkV] at hb; subst hb; exact hlt, fun a ha => ?_⟩
   · by_cases h0 : len = 0
     · subst h0; exact .inl ⟨by simp, .inr ⟨_, _, _, rfl⟩⟩
     · refine .inr ⟨ab, ao, none, _, _, by simp, impS_rd hblk, by simp; omega, fun i a hi j hj => ?_⟩
       have hil := (List.getElem?_eq_some_iff.1 hi).1
       simp at hil
       simp [hil] at hi
       subst hi
       obtain ⟨_, h2⟩ := hgs i (by omega)
       obtain ⟨u, z, u1, u2, u3⟩ := h2 j hj
       simp only [u1, u2, u3]
   · obtain ⟨i, hi, rfl⟩ := List.mem_map.1 ha
     simp at hi
     exact (hgs i (by omega)).1
end
end
end Go.Proofs.YtgkcpceppmppfaaLab
namespace Go.Proofs.YtgkcpceppmppfaaLab
open Go
set_option linter.all false
set_option maxRecDepth 10000
noncomputable section
theorem tagged_at {os : List O} (ht : Tagged os) (hl : os.length ≤ 30) {r : Int} {o : O} (h : at? os r = some o) : 1 ≤ o.tag ∧ o.tag ≤ 30 := by
 obtain ⟨i, hi, _⟩ := at_index h
 have := ht i o hi
 have := (List.getElem?_eq_some_iff.1 hi).1
 omega
section
variable {s t : St} {p bw bb n bm : Nat} {os os' : List O} {z : List Int} {shapes : List (List Bool)} {F : List Nat}
theorem LikeR.yes {ra rb : List Int} {v : V} (h : LikeR s os os' shapes ra rb v t) {R : Int → Int → Prop} (hR : Pairing os os' shapes R) (hr : RootsP ra rb R) : v = .bool true ∧ Fr s t [] := by
 obtain ⟨h1, ok, rfl, _, h3⟩ := h
 rw [h3 R hR hr]; exact ⟨rfl, h1⟩
theorem tagE_eq (H : HS s p bw bb n os z shapes bm F) (d : Nat) {r : Int} (v : Int) {o : O} (ho : at? os r = some o) : ∃ t1, (K (d + 2)).call 30 [.ptr p 0, .i r, .i v] s = some (.i 0, t1) ∧ HS t1 p bw bb n (turn (O.setTag v) os (r - 1)) z shapes bm F ∧ Fr s t1 [bw] := by
 obtain ⟨sh, hA, hS⟩ := H.H
 obtain ⟨t1, e1, _, f1, _⟩ := (hA.setTag d r v).2 o ho
 refine ⟨t1, e1, ?_, f1⟩
 refine H.turn (f1.mono (by simp)) (fun sh' h' => ?_) (H.ok.turn (g := O.setTag v) (fun o => ⟨rfl, rfl⟩) ho)
 obtain ⟨t1', e1', h1', _⟩ := (h'.setTag d r v).2 o ho
 rw [e1] at e1'; cases e1'; exact h1'
theorem reach_tag {X : List Int} {r v : Int} {o : O} (ho : at? os r = some o) {x : Int} (h : Reach os shapes X x) : Reach (turn (O.setTag v) os (r - 1)) shapes X x := by
 induction h with
 | root h h0 => exact .root h h0
 | @step y o' k w h ho' hw hb h0 ih =>
   have e := at_turn (g := O.setTag v) (fun o => rfl) ho y
   rw [ho'] at e
   by_cases c : y = r
   · simp only [Option.map_some, if_pos c] at e
     exact .step ih e (k := k) (x := w) hw hb h0
   · simp only [Option.map_some, if_neg c] at e
     exact .step ih e hw hb h0
theorem rootOk_tag {X : List Int} {r v : Int} {o : O} (ho : at? os r = some o) (h : RootOk os X) : RootOk (turn (O.setTag v) os (r - 1)) X := fun x hx => by
 refine (h x hx).imp_right fun hs => ?_
 rw [at_turn (g := O.setTag v) (fun o => rfl) ho]
 obtain ⟨o', h'⟩ := Option.isSome_iff_exists.1 hs
 rw [h']; rfl
end
theorem collectLike_run {s : St} (hw : Wf s) {v0 v1 : V} {l : List Nd} {rl : List Int} (a2 : Int) (hA : NA s v0 l) (hok : ∀ a ∈ l, NdOk s s.next a) (hlb : ∀ b ∈ blkV v0, b < s.next) (hr : SL s v1 (rl.map .i)) (d : Nat) : Ret ((K (d + 10)).call 6 [v0, v1, .i a2] s) fun v t => v = .bool true := by
 obtain ⟨r1, t1, e1, p1, rp1, bw1, bb1, n1, bm1, z1, F1, FO1, FS1, rv1, rfl, T1, hg1, f1, _⟩ := build_eq hA hok hw hlb (w := 400) (by omega) (by omega) (d + 3)
 have hn1 := f1.nx
 obtain ⟨r2, t2, e2, p2, rp2, bw2, bb2, n2, bm2, z2, F2, FO2, FS2, rv2, rfl, T2, hg2, f2, _⟩ := build_eq (hA.fr hw f1 (by simp)) (fun a ha => ⟨(hok a ha).to.fr hw f1 (by simp), fun b hb => by have := (hok a ha).bk b hb; omega, (hok a ha).i64⟩) f1.wf (fun b hb => by have := hlb b hb; omega) (w := 400) (by omega) (by omega) (d + 3)
 have hn2 := f2.nx
 obtain ⟨htag, hlen30⟩ := bld_facts 400 l
 have hRf := T1.rf
 generalize bld 400 l = os at *
 have A2 := T1.h.fr f2 (by simp) (by simp) (by simp) (by simp) (by simp)
 have B2 := T2.h
 have hlay := A2.lay_le
 have hos := lay_len3 os
 have lt1 := T1.lt
 have ge2 := fun b hb => (T2.dj b hb).1
 have p1lt := lt1 p1 (by simp)
 have w1lt := lt1 bw1 (by simp)
 have b1lt := lt1 bb1 (by simp)
 have p2ge := ge2 p2 (by simp)
 have w2ge := ge2 bw2 (by simp)
 have b2ge := ge2 bb2 (by simp)
 have m2ge := ge2 bm2 (by simp)
 have F2ge : ∀ b ∈ F2, t1.next ≤ b := fun b hb => ge2 b (by simp [hb])
 have hr1 := hg1.len
 have hr2 := hg2.len
 rw [List.length_map, starts_len] at hr1 hr2
 obtain ⟨xv, t3, e3, g3', f3, hxb⟩ := roots_eq f2.wf ((hr.fr hw f1 (by simp)).fr f1.wf f2 (by simp)) ((hg1.sl f1.wf).fr f1.wf f2 (by simp)) (by rw [starts_len]; omega) (d + 8)
 have hX := rootsL_ok os rl
 have hXl := rootsL_len rl (starts 1 os)
 generalize rootsL rl (starts 1 os) = X at *
 have A3 := A2.fr f3 (by simp) (by simp) (by simp) (by simp) (by simp)
 have B3 := B2.fr f3 (by simp) (by simp) (by simp) (by simp) (by simp)
 have x3 := g3'.sl f3.wf
 have hn3 := f3.nx
 have hxlt : ∀ b ∈ blkV xv, t2.next ≤ b ∧ b < t3.next := fun b hb => ⟨hxb b hb, blk_lt f3.wf g3' b hb⟩
 obtain ⟨v4, t4, e4, q4⟩ := A3.like B3 hRf hRf x3 x3 (by omega) rfl hX hX (d + 2)
 obtain ⟨rfl, f4⟩ := q4.yes (pair_self hRf) (fun i x y hx hy => by
  rw [hx] at hy; cases hy
  exact (hX x (List.mem_of_getElem? hx)).imp (fun h => ⟨h, h⟩) fun h => ⟨rfl, h⟩)
 have hn4 := f4.nx
 have A4 := A3.fr f4 (by simp) (by simp) (by simp) (by simp) (by simp)
 have B4 := B3.fr f4 (by simp) (by simp) (by simp) (by simp) (by simp)
 have x4 := x3.fr f3.wf f4 (by simp)
 obtain ⟨r5, t5, e5, keep, yv, steps, z5, hp, hm, rfl, y5, A5, f5, hyb, _⟩ := A4.run19 hRf x4 (fun b hb => ⟨by have := hxlt b hb; omega, by have := hxlt b hb; simp; omega⟩) (by omega) hX (d + 1)
 have hn5 := f5.nx
 obtain ⟨hK, hC⟩ := reach_kept hRf hX hp hm
 have hR2 := RefOk.slide (shapes := shapes0) hK hC
 have hpair := pair_mv htag hK hC
 have htg : ∀ {r : Int} {o : O}, at? (slid os shapes0 keep) r = some o → 1 ≤ o.tag ∧ o.tag ≤ 30 := fun {r o} ho => by
  obtain ⟨x, hx, rfl⟩ := slid_mem hK (by rw [ho]; rfl)
  obtain ⟨i, hi⟩ := List.getElem?_of_mem hx
  obtain ⟨o', h1, h2, _⟩ := slid_at (shapes := shapes0) hK hi
  rw [ho] at h2; cases h2
  have := tagged_at htag hlen30 h1
  exact this
 have hY : RootOk (slid os shapes0 keep) (X.map (mv os keep)) := fun y hy => by
  obtain ⟨x, hx, rfl⟩ := List.mem_map.1 hy
  by_cases h0 : x = 0
  · subst h0; exact .inl mv_zero
  · obtain ⟨i, hi⟩ := List.getElem?_of_mem ((hm x).2 (.root hx h0))
    obtain ⟨o', h1, h2, _⟩ := slid_at (shapes := shapes0) hK hi
    rw [h2]; exact .inr rfl
 have hRP : RootsP (X.map (mv os keep)) X fun y x => x ∈ keep ∧ y = mv os keep x := fun i y x hy hx => by
  rw [List.getElem?_map, hx] at hy; cases hy
  by_cases h0 : x = 0
  · subst h0; exact .inl ⟨mv_zero, rfl⟩
  · exact .inr ⟨(hm x).2 (.root (List.mem_of_getElem? hx) h0), rfl⟩
 have hsn : (slid os shapes0 keep).length ≤ 30 := by
  have h1 : (slid os shapes0 keep).length = keep.length := by unfold slid; rw [List.length_map, objs_len hK.inn]
  have h2 := objs_len hK.inn
  have h3 := hK.fits
  have h4 := lay_len3 (objs os keep)
  have h5 := nodup_len (l1 := keep) (l2 := starts 1 os) (hp.imp fun h => by omega) fun x hx => starts_mem.2 (hK.inn x hx)
  rw [starts_len] at h5
  omega
 have hall := fun keep2 a b => keep_all (shapes := shapes0) hK hX hRf hm (keep2 := keep2) a b hR2 hY
 have hreach : ∀ r, (at? (slid os shapes0 keep) r).isSome → Reach (slid os shapes0 keep) shapes0 (X.map (mv os keep)) r := fun r hr => by
  obtain ⟨x, hx, rfl⟩ := slid_mem hK hr
  exact reach_mv hK hm ((hm x).1 hx)
 have hYl : (X.map (mv os keep)).length = X.length := by simp
 generalize hS : slid os shapes0 keep = S at *
 generalize X.map (mv os keep) = Y at *
 have B5 := B4.fr f5 (by simp; omega) (by simp; omega) (by simp; omega) (by simp; omega) (fun b hb => by have := F2ge b hb; simp; omega)
 have x5 := x4.fr f4.wf f5 (fun b hb => by have := hxlt b hb; simp; omega)
 obtain ⟨t6, e6, c6, f6, n6⟩ := new_ex (s := t5) (l := [V.i 0, .i 0, .i 0, .i 0]) (n := 4) f5.wf rfl
 obtain ⟨t7, e7, c7, f7, n7⟩ := eSt_exN (s := t6) (b := t5.next) (o := 0) (vs := [V.i (keep.length : Nat), .i ((os.length : Nat) - (keep.length : Nat)), .i (wordsL os keep : Nat), .i (steps : Nat)]) (m := 4) f6.wf c6 rfl (by simp) (by intro v hv; simp at hv; rcases hv with rfl | rfl | rfl | rfl <;> rfl)
 have F57 : Fr t5 t7 [] := f6.trans' f7 (by simp)
 have hn7 := F57.nx
 have A7 := A5.fr F57 (by simp) (by simp) (by simp) (by simp) (by simp)
 have B7 := B5.fr F57 (by simp) (by simp) (by simp) (by simp) (by simp)
 have x7 := x5.fr f5.wf F57 (by simp)
 have y7 := y5.fr f5.wf F57 (by simp)
 obtain ⟨v8, t8, e8, q8⟩ := A7.like B7 hR2 hRf y7 x7 (by omega) hYl hY hX (d + 2)
 obtain ⟨rfl, f8⟩ := q8.yes hpair hRP
 have hn8 := f8.nx
 have A8 := A7.fr f8 (by simp) (by simp) (by simp) (by simp) (by simp)
 have B8 := B7.fr f8 (by simp) (by simp) (by simp) (by simp) (by simp)
 have x8 := x7.fr F57.wf f8 (by simp)
 have y8 := y7.fr F57.wf f8 (by simp)
 obtain ⟨v9, t9, e9, q9⟩ := B8.like A8 hRf hR2 x8 y8 (by omega) hYl.symm hX hY (d + 2)
 obtain ⟨rfl, f9⟩ := q9.yes hpair.swap (fun i x y hx hy => (hRP i y x hy hx).imp_left fun h => ⟨h.2, h.1⟩)
 have hn9 := f9.nx
 have A9 := A8.fr f9 (by simp) (by simp) (by simp) (by simp) (by simp)
 have B9 := B8.fr f9 (by simp) (by simp) (by simp) (by simp) (by simp)
 have x9 := x8.fr f8.wf f9 (by simp)
 have y9 := y8.fr f8.wf f9 (by simp)
 have hylt : ∀ b ∈ blkV yv, t4.next ≤ b ∧ b < t5.next := fun b hb => hyb b hb
 obtain ⟨r10, t10, e10, keep2, zv, steps2, z10, hp2, hm2, rfl, y10', A10, f10, hzb, _⟩ := A9.run19 hR2 y9 (fun b hb => ⟨by have := hylt b hb; omega, by have := hylt b hb; simp; omega⟩) (by omega) hY (d + 1)
 have hn10 := f10.nx
 have hk2 := hall keep2 hp2 hm2
 subst hk2
 rw [slid_starts_self hR2] at A10
 have hYm : Y.map (mv S (starts 1 S)) = Y := by
  conv => rhs; rw [← List.map_id Y]
  exact List.map_congr_left fun y hy => mv_starts S (hY y hy)
 rw [hYm] at y10'
 have B10 := B9.fr f10 (by simp; omega) (by simp; omega) (by simp; omega) (by simp; omega) (fun b hb => by have := F2ge b hb; simp; omega)
 have x10 := x9.fr f9.wf f10 (fun b hb => by have := hxlt b hb; simp; omega)
 have y10 := y9.fr f9.wf f10 (fun b hb => by have := hylt b hb; simp; omega)
 obtain ⟨t11, e11, c11, f11, n11⟩ := new_ex (s := t10) (l := [V.i 0, .i 0, .i 0, .i 0]) (n := 4) f10.wf rfl
 have eD : ((S.length : Nat) : Int) - ((starts 1 S).length : Nat) = 0 := by rw [starts_len]; omega
 obtain ⟨t12, e12, c12, f12, n12⟩ := eSt_exN (s := t11) (b := t10.next) (o := 0) (vs := [V.i ((starts 1 S).length : Nat), .i ((S.length : Nat) - ((starts 1 S).length : Nat)), .i (wordsL S (starts 1 S) : Nat), .i (steps2 : Nat)]) (m := 4) f11.wf c11 rfl (by simp) (by intro v hv; simp at hv; rcases hv with rfl | rfl | rfl | rfl <;> rfl)
 rw [eD] at e12 c12
 have c12' : t12.cl t10.next = some [V.i ((starts 1 S).length : Nat), .i 0, .i (wordsL S (starts 1 S) : Nat), .i (steps2 : Nat)] := by rw [c12]; simp [putL]
 have F12 : Fr t10 t12 [] := f11.trans' f12 (by simp)
 have A12 := A10.fr F12 (by simp) (by simp) (by simp) (by simp) (by simp)
 have B12 := B10.fr F12 (by simp) (by simp) (by simp) (by simp) (by simp)
 have x12 := x10.fr f10.wf F12 (by simp)
 have y12 := y10.fr f10.wf F12 (by simp)
 have z12 := y10'.fr f10.wf F12 (by simp)
 have esame := same_int F12.wf y12 z12 (by omega) (by omega) (d + 8)
 rw [decide_eq_true rfl] at esame
 obtain ⟨sh12, hA12, _⟩ := A12.H
 obtain ⟨av, t13, e13, g13', f13, _⟩ := hA12.all (d + 6)
 have hl13 := g13'.len
 rw [List.length_map, starts_len] at hl13
 have A13 := A12.fr f13 (by simp) (by simp) (by simp) (by simp) (by simp)
 have B13 := B12.fr f13 (by simp) (by simp) (by simp) (by simp) (by simp)
 have x13 := x12.fr F12.wf f13 (by simp)
 have y13 := y12.fr F12.wf f13 (by simp)
 by_cases c : ((S.length : Nat) : Int) = 0
 · have ek := op15 (d + 8) t13
   rw [c] at hl13
   simp -implicitDefEqProofs (maxSteps := 5000000) (disch := first | assumption | omega | (simp only [dz, dl, Nat.zero_add, Nat.reduceAdd, Bool.and_self]; done) | (simp only [dl]; omega)) only [op6, go_sem, fAdd_eq, e1, e2, bNil_ptr, hr1, hr2, e3, e4, e5, aAl_eq, e6, e7, e8, e9, e10, e11, eD, e12, esame, dLd_at F12.wf c12', e13, hl13, eq_self, ek]
 · have hw1 := withinI_le a2 0 ((S.length : Nat) - 1) (by omega)
   have ewi := within_eq t13 a2 0 ((S.length : Nat) - 1) (by omega) (by omega) (by omega) (d + 8)
   generalize withinI a2 0 ((S.length : Nat) - 1) = w at *
   obtain ⟨i, rfl⟩ : ∃ i : Nat, w = i := ⟨w.toNat, by omega⟩
   obtain ⟨r, hri⟩ : ∃ r, (starts 1 S)[i]? = some r := ⟨_, List.getElem?_eq_getElem (by rw [starts_len]; omega)⟩
   obtain ⟨o, _, ho⟩ := refs_at hri
   obtain ⟨qq, k1, k2⟩ := (g13'.sl f13.wf).at f13.wf (j := i) (x := .i r) (by rw [List.getElem?_map, hri]; rfl)
   obtain ⟨sh13, hA13, _⟩ := A13.H
   have et := hA13.tag (d + 7) r
   rw [show tagO S r = o.tag by unfold tagO; rw [ho]] at et
   have hto := htg ho
   obtain ⟨t14, e14, A14, f14⟩ := tagE_eq A13 (d + 7) (o.tag + 100) ho
   have B14 := B13.fr f14 (by simp; omega) (by simp; omega) (by simp; omega) (by simp; omega) (fun b hb => by have := F2ge b hb; simp; omega)
   have x14 := x13.fr f13.wf f14 (fun b hb => by have := hxlt b hb; simp; omega)
   have y14 := y13.fr f13.wf f14 (fun b hb => by have := hylt b hb; simp; omega)
   obtain ⟨v15, t15, e15, f15, ok, rfl, hq, _⟩ := A14.like B14 (hR2.setTag ho) hRf y14 x14 (by omega) hYl (rootOk_tag ho hY) hX (d + 2)
   have hno : ok = false := by
    rw [← Bool.not_eq_true]
    intro h
    obtain ⟨y, o1, o2, u1, u2, u3⟩ := hq h r (reach_tag ho (hreach r (by rw [ho]; rfl)))
    have e := at_turn (g := O.setTag (o.tag + 100)) (fun o => rfl) ho r
    rw [ho, u1] at e
    simp only [Option.map_some, if_true] at e
    cases e
    have h2 := tagged_at htag hlen30 u2
    have h3 : o.tag + 100 = o2.tag := u3
    omega
   subst hno
   have ek := op15 (d + 8) t15
   simp -implicitDefEqProofs (maxSteps := 5000000) (disch := first | assumption | omega | (simp only [dz, dl, Nat.zero_add, Nat.reduceAdd, Bool.and_self]; done) | (simp only [dl]; omega)) only [op6, go_sem, fAdd_eq, e1, e2, bNil_ptr, hr1, hr2, e3, e4, e5, aAl_eq, e6, e7, e8, e9, e10, e11, eD, e12, esame, dLd_at F12.wf c12', e13, hl13, eq_self, c, ewi, k1, k2, et, e14, e15, ek]
theorem collectLike_walk {W : World} {v0 v1 : Value} {x0 x1 : V} {l0 : List Nd} {l1 : List Int} (a2 : Int) (vr0 : VR (impG W) x0 v0) (na : NA (impS W 1) x0 l0) (bk0 : ∀ b ∈ blkV x0, b < W.heap.size) (ok : ∀ a ∈ l0, NdOk (impS W 1) W.heap.size a) (vr1 : VR (impG W) x1 v1) (sl1 : SL (impS W 1) x1 (l1.map V.i)) :
 Calls Try.prog 6 #[v0, v1, .int .i64 a2] W (fun e w' => e = .returned (.bool true) ∧ RowKit.Below W.heap.size W w') := by
 exact law_ro (fuel := 1000000) (n := 10) tblOk ((collectLike_run (impS_wf W 1) a2 na ok bk0 sl1 0).mono fun v s' h => h) (.cons _ _ _ _ vr0 (.cons _ _ _ _ vr1 (.cons _ _ _ _ (.i _) .nil)))
end
end Go.Proofs.YtgkcpceppmppfaaLab
