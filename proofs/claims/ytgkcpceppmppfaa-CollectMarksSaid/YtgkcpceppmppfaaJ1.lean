/- Parts of the proof: contracts of functions, joined. No condition on the program. -/
import Derived.Test.YtgkcpceppmppfaaJ0
import Derived.SizedLaws
import Derived.ChangeSlices
namespace Go.Proofs.YtgkcpceppmppfaaLab
open Go
set_option linter.all false
set_option maxRecDepth 10000
noncomputable section
theorem fOne_run {g : V → St → Option (V × St)} {k : KC} {x v : V} {s s' : St} (h : g x s = some (v, s')) : runF (fOne g) k [x] s = some (v, s') := by
 show (match (match g (Gt 0 (Ut 0 e0 x)) s with | some (v, s') => Res.nrm (Ut 0 (Ut 0 e0 x) v) s' | none => .bad) with
  | .nrm e' s' => (match resV [rT (Gt 0)] e' s' with | some v => some (v, s') | none => none)
  | .ret e' s' => (match resV [rT (Gt 0)] e' s' with | some v => some (v, s') | none => none)
  | _ => none) = _
 rw [Gt_Ut 0 0 (by omega) (by omega), if_pos rfl, h]
 simp only
 show some (Gt 0 (Ut 0 (Ut 0 e0 x) v), s') = _
 rw [Gt_Ut 0 0 (by omega) (by omega), if_pos rfl]
theorem keysI_metP : ∀ {l : List (Int × Int)}, (∀ p ∈ l, wfI p.1 = true) → keysI (pairsI l) = some (l.map (·.1))
 | [], _ => rfl
 | (x, y) :: l, h => by
   have ih := keysI_metP (l := l) fun p hp => h p (by simp [hp])
   have hx := h (x, y) (by simp)
   show (Bool.casesOn (motive := fun _ => Option (List Int)) (wfI x) none (match keysI (pairsI l) with | some r => some (x :: r) | none => none)) = _
   rw [hx, ih]; rfl
theorem incN_range : ∀ (n k m : Nat), k + n ≤ m → incN m (List.range' k n) = true
 | 0, k, m, h => rfl
 | 1, k, m, h => by
   show Nat.blt k m = true
   rw [nblt_eq, decide_eq_true (by omega)]
 | n + 2, k, m, h => by
   rw [List.range'_succ, List.range'_succ]
   show and (Nat.blt k (k + 1)) (incN m ((k + 1) :: List.range' (k + 1 + 1) n)) = true
   have := incN_range (n + 1) (k + 1) m (by omega)
   rw [List.range'_succ] at this
   rw [this, nblt_eq, decide_eq_true (by omega)]; rfl
theorem incI_of : ∀ {l : List Int}, l.Pairwise (· < ·) → incI l = true
 | [], _ => rfl
 | [x], _ => rfl
 | x :: y :: l, h => by
   rw [List.pairwise_cons] at h
   show and (ltI x y) (incI (y :: l)) = true
   rw [incI_of h.2, ltI_eq, decide_eq_true (h.1 y (by simp))]; rfl
theorem srtI_lt {l : List Int} (h : l.Nodup) : (srtI l).Pairwise (· < ·) := perm_lt (srtI_perm l) (srtI_sorted l) h
theorem rising_eq : ∀ {a b : List Int}, a.Pairwise (· < ·) → b.Pairwise (· < ·) → (∀ x, x ∈ a ↔ x ∈ b) → a = b
 | [], [], _, _, _ => rfl
 | [], y :: b, _, _, h => by have := (h y).2 (by simp); simp at this
 | x :: a, [], _, _, h => by have := (h x).1 (by simp); simp at this
 | x :: a, y :: b, ha, hb, h => by
   rw [List.pairwise_cons] at ha hb
   have e : x = y := by
    rcases List.mem_cons.1 ((h x).1 (by simp)) with e | h1
    · exact e
    · rcases List.mem_cons.1 ((h y).2 (by simp)) with e | h2
      · exact e.symm
      · have := hb.1 x h1; have := ha.1 y h2; omega
   subst e
   rw [rising_eq ha.2 hb.2 fun z => ?_]
   constructor
   · intro hz
     rcases List.mem_cons.1 ((h z).1 (by simp [hz])) with rfl | h1
     · have := ha.1 z hz; omega
     · exact h1
   · intro hz
     rcases List.mem_cons.1 ((h z).2 (by simp [hz])) with rfl | h1
     · have := hb.1 z hz; omega
     · exact h1
section
variable {s0 s : St} {m mb p : Nat} {met todo : List Int} {steps : Nat} (M : MK s0 s m mb p met todo steps)
include M
theorem MK.blk : ∃ (xs : T V) (tv : V), s.heap.get m = some (.cells 4 xs) ∧ xs.get 0 = some (.ptr p 0) ∧ xs.get 1 = some (.map mb) := by
 obtain ⟨tv, h1, _⟩ := M.ex
 obtain ⟨xs, q1, q2, _⟩ := cl_inv M.f.wf h1
 exact ⟨xs, tv, q1, q2 0 (by simp), q2 1 (by simp)⟩
theorem MK.metOf (hn : met.Nodup) (h64 : ∀ x ∈ met, 0 ≤ x ∧ x ≤ 1000000) (hl : met.length ≤ 1000000) : Go.Proofs.YtgkcpceppmppfaaLab.metOf 1 (.ptr m 0) s = some met := by
 obtain ⟨xs, tv, q1, q2, q3⟩ := M.blk
 have hk : keysI (metE met) = some met := by
  unfold metE
  rw [keysI_metP, metP_fst]
  intro y hy
  have : y.1 ∈ met := by rw [← metP_fst met]; exact List.mem_map.2 ⟨y, hy, rfl⟩
  have := h64 _ this
  unfold wfI
  rw [Bool.and_eq_true, ltI_eq, ltI_eq]
  simp; omega
 have hb : blkOf s m = some (4, xs) := by unfold blkOf; rw [q1]
 unfold Go.Proofs.YtgkcpceppmppfaaLab.metOf
 simp only [hb]
 have e1 : Nat.blt (Nat.add 0 1) 4 = true := rfl
 have q3' : xs.get (Nat.add 0 1) = some (.map mb) := q3
 rw [e1, q3']
 simp only [mp_inv M.mp, hk]
 rw [ble_true (by omega), incI_of (srtI_lt hn)]
 have := incN_range met.length 0 met.length (by omega)
 rw [← List.range_eq_range'] at this
 rw [this]; rfl
theorem MK.all (hn : met.Nodup) (h64 : ∀ x ∈ met, 0 ≤ x ∧ x ≤ 1000000) (hl : met.length ≤ 1000000) (d : Nat) : ∃ s', (K (d + 1)).call 44 [.ptr m 0] s = some (.slice s.next 0 met.length none 1, s') ∧ GL s' (.slice s.next 0 met.length none 1) ((srtI met).map .i) ∧ Fr s s' [] := by
 have hm := M.metOf hn h64 hl
 obtain ⟨s', e1, c1, f1, n1⟩ := new_ex (s := s) (l := (srtI met).map V.i) (n := met.length) M.f.wf (by rw [List.length_map, (srtI_perm met).length_eq])
 refine ⟨s', ?_, .inr ⟨s.next, ?_, c1⟩, f1⟩
 · rw [call44]
   refine fOne_run ?_
   unfold allV
   rw [hm]; simp only
   rw [e1]
 · rw [List.length_map, (srtI_perm met).length_eq]
end
section
variable {k k' : KC}
theorem p50_4_k (h : k.call 51 = k'.call 51) : p50_4 k = p50_4 k' := by
 funext e s; unfold p50_4; simp only [eCall_eq, h]
theorem p50_3_k (h : k.call 51 = k'.call 51) : p50_3 k = p50_3 k' := by
 funext e s
 show dSeq p50_4 p50_5 k e s = dSeq p50_4 p50_5 k' e s
 unfold dSeq; rw [p50_4_k h]; rfl
theorem p50_2_k (h : k.call 51 = k'.call 51) : p50_2 k = p50_2 k' := by
 funext e s
 show dSeq p50_3 p50_8 k e s = dSeq p50_3 p50_8 k' e s
 unfold dSeq; rw [p50_3_k h]; rfl
theorem p50_0_k (h : k.call 51 = k'.call 51) : p50_0 k = p50_0 k' := by
 funext e s
 show dSeq p50_1 p50_2 k e s = dSeq p50_1 p50_2 k' e s
 unfold dSeq; rw [p50_2_k h]; rfl
end
theorem k2_51 : (kc tblW 1152921504606846976 1).call 51 = (K 1).call 51 := by
 funext args s
 rw [call51, call_eq (F := F51) rfl]; rfl
theorem k2_50 (args : List V) (s : St) : k2.call 50 args s = (K 2).call 50 args s := by
 have h : F50.body (kc tblW 1152921504606846976 1) = F50.body (K 1) := p50_0_k k2_51
 rw [call50]
 show (kc tblW 1152921504606846976 (1 + 1)).call 50 args s = _
 rw [call_eq (F := F50) rfl]
 unfold runF
 rw [h]
def wordsL (os : List O) (l : List Int) : Nat := (l.map fun x => 3 + (lenO os x).toNat).sum
theorem wordsL_perm {os : List O} {a b : List Int} (h : a.Perm b) : wordsL os a = wordsL os b := by
 unfold wordsL
 exact (h.map _).sum_nat
theorem lenO_b (os : List O) (x : Int) : 0 ≤ lenO os x := by
 unfold lenO; cases at? os x <;> simp
section
variable {s0 s : St} {p bw bb n bm : Nat} {os : List O} {z : List Int} {shapes : List (List Bool)} {F : List Nat} {m mb : Nat} {met todo : List Int} {steps : Nat} (H : HS s p bw bb n os z shapes bm F) (M : MK s0 s m mb p met todo steps)
include H M
theorem MK.sumN : ∀ l : List Int, Go.Proofs.YtgkcpceppmppfaaLab.sumN k2 50 (.ptr p 0) s l = some (wordsL os l)
 | [] => rfl
 | x :: l => by
   have ih := MK.sumN l
   obtain ⟨sh, hA, _⟩ := H.H
   have e := hA.len 0 x
   have hb := lenO_b os x
   have hle : (lenO os x).toNat ≤ 1099511627776 := by
    have := H.lay_le
    unfold lenO
    cases ho : at? os x with
    | none => simp
    | some o =>
      have := (lay_lt ho).2
      have hn : o.n = 3 + o.f.length := rfl
      simp; omega
   have e2 : lenN k2 50 (.ptr p 0) s x = some (lenO os x).toNat := by
    unfold lenN
    rw [k2_50, e]
    obtain ⟨q, hq⟩ : ∃ q : Nat, lenO os x = Int.ofNat q := ⟨(lenO os x).toNat, by simp; omega⟩
    rw [hq] at hle ⊢
    simp only
    rw [ble_true (by simpa using hle)]; rfl
   unfold Go.Proofs.YtgkcpceppmppfaaLab.sumN
   rw [e2, ih]; rfl
end
end
end Go.Proofs.YtgkcpceppmppfaaLab
namespace Go.Proofs.YtgkcpceppmppfaaLab
open Go
set_option linter.all false
set_option maxRecDepth 10000
noncomputable section
theorem valsI_met : ∀ l : List (Int × Int), valsI (pairsI l) = true
 | [] => rfl
 | (x, y) :: l => valsI_met l
section
variable {s : St} {p bw bb n bm : Nat} {os : List O} {z : List Int} {shapes : List (List Bool)} {F : List Nat} (H : HS s p bw bb n os z shapes bm F)
include H
theorem MK.words {s0 : St} {m mb : Nat} {met todo : List Int} {steps : Nat} (M : MK s0 s m mb p met todo steps) (hn : met.Nodup) (h64 : ∀ x ∈ met, 0 ≤ x ∧ x ≤ 1000000) (hl : met.length ≤ 1000000) (d : Nat) : (K (d + 1)).call 47 [.ptr m 0] s = some (.i (wordsL os met : Nat), s) := by
 obtain ⟨xs, tv, q1, q2, q3⟩ := M.blk
 have hm := M.metOf hn h64 hl
 have hb : blkOf s m = some (4, xs) := by unfold blkOf; rw [q1]
 have hB : metB 1 (.ptr m 0) s = some true := by
  unfold metB
  simp only [hb]
  have q3' : xs.get (Nat.add 0 1) = some (.map mb) := q3
  rw [q3']
  simp only [mp_inv M.mp]
  unfold metE
  rw [valsI_met]
 rw [call47]
 refine fOne_run ?_
 unfold wordsV
 rw [hm, hB]
 simp only [hb, q2, M.sumN H met]
 rfl
def MarkedQ (s : St) (p : Nat) (os : List O) (shapes : List (List Bool)) (roots : List Int) (r : V) (t : St) : Prop :=
 (¬ RootOk os roots → r = .tup [.nilp, .bool false] ∧ Fr s t []) ∧
 (RootOk os roots → ∃ m mb met steps, r = .tup [.ptr m 0, .bool true] ∧ MK s t m mb p met [] steps ∧ met.Nodup ∧ (∀ x, x ∈ met ↔ Reach os shapes roots x) ∧ steps ≤ roots.length + 2 * (lay os).length ∧ met.length ≤ 90000)
theorem HS.marked (hRf : RefOk os shapes) {v : V} {roots : List Int} (hk : SL s v (roots.map .i)) (hl : roots.length ≤ 17592186044416) (d : Nat) : Ret ((K (d + 7)).call 43 [.ptr p 0, v] s) (MarkedQ s p os shapes roots) := by
 have hw := H.wf
 obtain ⟨s1, e1, c1, f1, n1⟩ := new_ex (s := s) (l := [V.ptr p 0]) (n := 1) hw rfl
 have H1 := H.fr f1 (by simp) (by simp) (by simp) (by simp) (by simp)
 have hc := H1.contains c1 (hk.fr hw f1 (by simp)) (by omega) d
 have hld := dLd_at f1.wf c1 (o := 0) (by simp)
 by_cases hr : RootOk os roots
 · rw [rootOk_iff.1 hr] at hc
   obtain ⟨s2, e2, m2, f2, n2⟩ : ∃ s', s1.new (.map [] [] 0) = s' ∧ s'.mp s1.next = some ([], [], 0) ∧ Fr s1 s' [] ∧ s'.next = s1.next + 1 :=
    ⟨_, rfl, by unfold St.mp; rw [new_at f1.wf], ⟨f1.wf.new trivial, Nat.le_succ _, fun j hj _ => new_ne (by omega)⟩, rfl⟩
   obtain ⟨s3, e3, c3, f3, n3⟩ := new_ex (s := s2) (l := [V.ptr p 0, .map s1.next, .nils, .i 0]) (n := 4) f2.wf rfl
   have M : MK s s3 s2.next s1.next p [] [] 0 := ⟨f1.trans (f2.trans f3), ⟨by omega, by omega⟩, ⟨.nils, c3, .inl ⟨rfl, rfl⟩, by simp [blkV]⟩, f3.mp f2.wf m2 (by simp)⟩
   obtain ⟨x, t, q1, rfl, met, steps, q2, q3, q4, q5, q6⟩ := M.run H hRf hr hk hl (d + 1)
   refine ⟨.tup [.ptr s2.next 0, .bool true], t, ?_, fun h => absurd hr h, fun _ => ⟨_, _, met, steps, rfl, q2, q3, q4, q5, q6⟩⟩
   rw [op43]
   simp -implicitDefEqProofs (maxSteps := 5000000) (disch := first | assumption | omega | (simp only [dz, dl, Nat.zero_add, Nat.reduceAdd, Bool.and_self]; done) | (simp only [dl]; omega)) only [go_sem, aBox_one, e1, hld, hc, e2, e3, q1, Bool.not_true]
 · have hr' : roots.all (okRf os) = false := by rw [← Bool.not_eq_true]; exact fun h => hr (rootOk_iff.2 h)
   rw [hr'] at hc
   refine ⟨.tup [.nilp, .bool false], s1, ?_, fun _ => ⟨rfl, f1⟩, fun h => absurd h hr⟩
   rw [op43]
   simp -implicitDefEqProofs (maxSteps := 5000000) (disch := first | assumption | omega | (simp only [dz, dl, Nat.zero_add, Nat.reduceAdd, Bool.and_self]; done) | (simp only [dl]; omega)) only [go_sem, aBox_one, e1, hld, hc, Bool.not_false]
theorem met64 {s0 : St} (hRf : RefOk os shapes) {met roots : List Int} (hr : RootOk os roots) (h : ∀ x, x ∈ met ↔ Reach os shapes roots x) : ∀ x ∈ met, 0 ≤ x ∧ x ≤ 1000000 := fun x hx => by
 have h1 := obj_b (((h x).1 hx).isSome hRf hr)
 have := H.lay_le
 omega
end
end
end Go.Proofs.YtgkcpceppmppfaaLab
namespace Go.Proofs.YtgkcpceppmppfaaLab
open Go
set_option linter.all false
set_option maxRecDepth 10000
noncomputable section
theorem ShOk.turn {os : List O} {shapes : List (List Bool)} (ok : ShOk os shapes) {g : O → O} (hg : ∀ o, (g o).f.length = o.f.length ∧ (g o).shape = o.shape) {r : Int} {o : O} (ho : at? os r = some o) : ShOk (turn g os (r - 1)) shapes := fun x hx => by
 obtain ⟨pre, post, rfl, hr⟩ := look_split ho
 rw [hr, turn_of] at hx
 rcases List.mem_append.1 hx with hx | hx
 · exact ok x (by simp [hx])
 · rcases List.mem_cons.1 hx with rfl | hx
   · rw [(hg o).1, (hg o).2]; exact ok o (by simp)
   · exact ok x (by simp [hx])
section
variable {b0 : Nat} {t : St} {p bw bb n bm rp : Nat} {os : List O} {z : List Int} {shapes : List (List Bool)} {F FO FS : List Nat} {w : Int} (T : Two b0 t p bw bb n bm rp os z shapes F FO FS w)
include T
theorem Two.off {t' : St} {L : List Nat} (f : Fr t t' L) (h1 : ∀ b ∈ p :: bw :: bb :: bm :: F, b ∉ L) (h2 : ∀ b ∈ rp :: (FO ++ FS), b ∉ L) : Two b0 t' p bw bb n bm rp os z shapes F FO FS w :=
 ⟨T.h.fr f (h1 _ (by simp)) (h1 _ (by simp)) (h1 _ (by simp)) (h1 _ (by simp)) (fun b hb => h1 b (by simp [hb])), T.r.fr f (h2 _ (by simp)) (fun b hb => h2 b (by simp [hb])) (fun b hb => h2 b (by simp [hb])), T.nw, T.rf, T.dj, T.dr⟩
theorem Two.arrayE (d : Nat) (b : Bool) (m : Nat) (hm : m ≤ 256) :
 (w < (lay os).length + 3 + m → (K (d + 3)).call 35 [.ptr p 0, .bool b, .i m] t = some (.tup [.i 0, .i 26], t) ∧ (K (d + 3)).call 36 [.ptr rp 0, .bool b, .i m] t = some (.tup [.i 0, .i 26], t)) ∧
 (((lay os).length + 3 + m : Int) ≤ w → ∃ t1 t2 z' FO', (K (d + 3)).call 35 [.ptr p 0, .bool b, .i m] t = some (.tup [.i ((1 + (lay os).length : Nat) : Int), .i 0], t1) ∧ Fr t t1 [p, bw, bb] ∧ (K (d + 3)).call 36 [.ptr rp 0, .bool b, .i m] t1 = some (.tup [.i ((1 + (lay os).length : Nat) : Int), .i 0], t2) ∧ Fr t1 t2 (rp :: FO) ∧ Two b0 t2 p bw bb n bm rp (os ++ [newO (if b then -2 else -1) m]) z' shapes F FO' FS w ∧ (∀ b ∈ FO', b ∈ FO ∨ t.next ≤ b)) := by
 obtain ⟨sh, hA, hS⟩ := T.h.H
 have hz := hA.size
 have hnw := T.nw
 have hw := T.wf
 refine ⟨fun c => ⟨(hA.array d b m).2.1 (by omega) (by omega) (by omega), (T.r.array d b m).2.1 (by omega) (by omega) (by omega)⟩, fun c => ?_⟩
 have c2 : (1 : Int) + (lay os).length + 3 + m ≤ (n : Int) := by omega
 obtain ⟨t1, e1, _, f1, _⟩ := (hA.array d b m).2.2 (by omega) (by omega) c2
 have h1 : HS t1 p bw bb n (os ++ [newO (if b then -2 else -1) m]) (z.drop (3 + m)) shapes bm F := by
  refine T.h.turn f1 (fun sh' h' => ?_) ?_
  · obtain ⟨t1', e1', h1', _⟩ := (h'.array d b m).2.2 (by omega) (by omega) c2
    rw [e1] at e1'; cases e1'
    rw [Int.toNat_natCast] at h1'
    exact h1'
  · intro o ho
    rcases List.mem_append.1 ho with ho | ho
    · exact T.h.ok o ho
    · simp at ho; subst ho
      cases b
      · exact .inl rfl
      · exact .inr (.inl rfl)
 obtain ⟨t2, FO', e2, r2, hO, f2⟩ := ((T.r1 f1 (by intro b hb; simp at hb ⊢; rcases hb with h | h | h <;> simp [h])).array d b m).2.2 (by omega) (by omega) (by omega)
 rw [Int.toNat_natCast] at r2
 exact ⟨t1, t2, _, _, e1, f1, e2, f2, T.addO f1 h1 f2 r2 hO, fun x hx => (hO x hx).imp_right fun h => Nat.le_trans f1.nx h⟩
theorem Two.objectE (d : Nat) (r : Int) (hsh : shapes.length < 100000) {l : List Bool} (h0 : 0 ≤ r) (hl : shapes[r.toNat]? = some l) (hln : l.length < 20000) :
 (w < (lay os).length + 3 + l.length → (K (d + 3)).call 37 [.ptr p 0, .i r] t = some (.tup [.i 0, .i 26], t) ∧ (K (d + 3)).call 38 [.ptr rp 0, .i r] t = some (.tup [.i 0, .i 26], t)) ∧
 (((lay os).length + 3 + l.length : Int) ≤ w → ∃ t1 t2 z' FO', (K (d + 3)).call 37 [.ptr p 0, .i r] t = some (.tup [.i ((1 + (lay os).length : Nat) : Int), .i 0], t1) ∧ Fr t t1 [p, bw, bb] ∧ (K (d + 3)).call 38 [.ptr rp 0, .i r] t1 = some (.tup [.i ((1 + (lay os).length : Nat) : Int), .i 0], t2) ∧ Fr t1 t2 (rp :: FO) ∧ Two b0 t2 p bw bb n bm rp (os ++ [newO r l.length]) z' shapes F FO' FS w ∧ (∀ b ∈ FO', b ∈ FO ∨ t.next ≤ b)) := by
 obtain ⟨sh, hA, hS⟩ := T.h.H
 have hz := hA.size
 have hnw := T.nw
 have hw := T.wf
 refine ⟨fun c => ⟨(T.h.object d r hsh).2.1 l h0 hl hln (by omega), (T.r.object d r hsh).2.1 l h0 hl hln (by omega)⟩, fun c => ?_⟩
 obtain ⟨t1, e1, h1, f1, _⟩ := (T.h.object d r hsh).2.2 l h0 hl hln (by omega)
 obtain ⟨t2, FO', e2, r2, hO, f2⟩ := ((T.r1 f1 (by intro b hb; simp at hb ⊢; rcases hb with h | h | h <;> simp [h])).object d r hsh).2.2 l h0 hl hln (by omega)
 exact ⟨t1, t2, _, _, e1, f1, e2, f2, T.addO f1 h1 f2 r2 hO, fun x hx => (hO x hx).imp_right fun h => Nat.le_trans f1.nx h⟩
theorem Two.setE (d : Nat) {r k v y : Int} (h64 : -9223372036854775808 ≤ v ∧ v < 9223372036854775808) (hg : getO os r k = some y) (hc : (refO os shapes r k && !(decide (v = 0) || (at? os v).isSome)) = false) : ∃ t1 t2, (K (d + 5)).call 41 [.ptr p 0, .i r, .i k, .i v] t = some (.i 0, t1) ∧ Fr t t1 [bw] ∧ (K (d + 5)).call 42 [.ptr rp 0, .i r, .i k, .i v] t1 = some (.i 0, t2) ∧ Fr t1 t2 FO ∧ Two b0 t2 p bw bb n bm rp (turn (O.setF k v) os (r - 1)) z shapes F FO FS w := by
 obtain ⟨sh, hA, hS⟩ := T.h.H
 have hw := T.wf
 obtain ⟨o, ho, _⟩ := getO_some hg
 obtain ⟨t1, e1, _, f1, _⟩ := (hA.set hS T.h.ok d r k v h64).2.2 y hg hc
 have ok' : ShOk (turn (O.setF k v) os (r - 1)) shapes := T.h.ok.turn (g := O.setF k v) (fun o => ⟨by simp [O.setF], rfl⟩) ho
 have h1 : HS t1 p bw bb n (turn (O.setF k v) os (r - 1)) z shapes bm F := by
  refine T.h.turn (f1.mono (by simp)) (fun sh' h' => ?_) ok'
  have h2 := h'.hr.hp
  rw [hA.hr.hp] at h2
  cases h2
  obtain ⟨t1', e1', h1', _⟩ := (h'.set hS T.h.ok d r k v h64).2.2 y hg hc
  rw [e1] at e1'; cases e1'; exact h1'
 obtain ⟨t2, e2, r2, f2, _⟩ := ((T.r1 f1 (by simp)).set T.h.ok (d + 2) r k v).2.2 y hg hc
 exact ⟨t1, t2, e1, f1, e2, f2, T.make f1 h1 (fun b hb => .inl hb) f2 (fun b hb => by simp [hb]) r2 (fun b hb => .inl hb) (fun b hb => .inl hb) (T.rf.set hg hc)⟩
theorem Two.setTagE (d : Nat) {r : Int} (v : Int) {o : O} (ho : at? os r = some o) : ∃ t1 t2, (K (d + 2)).call 30 [.ptr p 0, .i r, .i v] t = some (.i 0, t1) ∧ Fr t t1 [bw] ∧ (K (d + 2)).call 39 [.ptr rp 0, .i r, .i v] t1 = some (.i 0, t2) ∧ Fr t1 t2 FO ∧ Two b0 t2 p bw bb n bm rp (turn (O.setTag v) os (r - 1)) z shapes F FO FS w := by
 obtain ⟨sh, hA, hS⟩ := T.h.H
 have hw := T.wf
 obtain ⟨t1, e1, _, f1, _⟩ := (hA.setTag d r v).2 o ho
 have ok' : ShOk (turn (O.setTag v) os (r - 1)) shapes := T.h.ok.turn (g := O.setTag v) (fun o => ⟨rfl, rfl⟩) ho
 have h1 : HS t1 p bw bb n (turn (O.setTag v) os (r - 1)) z shapes bm F := by
  refine T.h.turn (f1.mono (by simp)) (fun sh' h' => ?_) ok'
  obtain ⟨t1', e1', h1', _⟩ := (h'.setTag d r v).2 o ho
  rw [e1] at e1'; cases e1'; exact h1'
 obtain ⟨t2, e2, r2, f2, _⟩ := ((T.r1 f1 (by simp)).setTag d r v).2 o ho
 exact ⟨t1, t2, e1, f1, e2, f2, T.make f1 h1 (fun b hb => .inl hb) f2 (fun b hb => by simp [hb]) r2 (fun b hb => .inl hb) (fun b hb => .inl hb) (T.rf.setTag ho)⟩
end
end
end Go.Proofs.YtgkcpceppmppfaaLab
namespace Go.Proofs.YtgkcpceppmppfaaLab
open Go
set_option linter.all false
set_option maxRecDepth 10000
noncomputable section
structure Nd where
 sh : Int
 ln : Int
 tv : V
 to : List Int
def Nd.cells (a : Nd) : List V := [.i a.sh, .i a.ln, a.tv]
def NA (s : St) (v : V) (l : List Nd) : Prop := (l = [] ∧ (v = .nils ∨ ∃ b o c, v = .slice b o 0 c 3)) ∨ ∃ b o c n f, v = .slice b o l.length c 3 ∧ rdOf s b = some (n, f) ∧ o + l.length * 3 ≤ n ∧ ∀ i a, l[i]? = some a → ∀ j, j < 3 → f (o + i * 3 + j) = a.cells[j]?
structure NdOk (s : St) (b0 : Nat) (a : Nd) : Prop where
 to : SL s a.tv (a.to.map .i)
 bk : ∀ b ∈ blkV a.tv, b < b0
 i64 : ∀ x ∈ a.to, -9223372036854775808 ≤ x ∧ x < 9223372036854775808
section
variable {s : St} {v : V} {l : List Nd}
theorem NA.len (h : NA s v l) : uLenS v = some (.i (l.length : Nat)) := by
 rcases h with ⟨rfl, rfl | ⟨b, o, c, rfl⟩⟩ | ⟨b, o, c, n, f, rfl, _⟩ <;> rfl
theorem NA.fr {s' : St} {L : List Nat} (h : NA s v l) (hw : Wf s) (f : Fr s s' L) (hd : ∀ b, b ∈ blkV v → b ∉ L) : NA s' v l := by
 rcases h with h | ⟨b, o, c, n, g, h1, h2, h3⟩
 · exact .inl h
 · subst h1; exact .inr ⟨b, o, c, n, g, rfl, (rd_same (f.same b (rd_lt hw h2) (hd b (by simp [blkV])))).trans h2, h3⟩
theorem NA.at (h : NA s v l) {i : Nat} {a : Nd} (hi : l[i]? = some a) : ∃ b o, bIdx 3 v (.i (i : Nat)) = some (.ptr b o) ∧ ldP (.ptr b o) s = some (.i a.sh) ∧ ldP (.ptr b (o + 1)) s = some (.i a.ln) ∧ ldP (.ptr b (o + 2)) s = some a.tv := by
 have hl := (List.getElem?_eq_some_iff.1 hi).1
 rcases h with ⟨rfl, _⟩ | ⟨b, o, c, n, f, rfl, h2, h3, h4⟩
 · simp at hi
 · have hi3 : i * 3 + 3 ≤ l.length * 3 := by omega
   refine ⟨b, o + i * 3, ?_, ?_, ?_, ?_⟩
   · rw [bIdx_eq (by omega) (by omega)]; simp
   · rw [dLd_rd h2 (by omega)]; exact h4 i a hi 0 (by omega)
   · rw [dLd_rd h2 (by omega)]; exact h4 i a hi 1 (by omega)
   · rw [dLd_rd h2 (by omega)]; exact h4 i a hi 2 (by omega)
end
def shapes0 : List (List Bool) := [[], [true], [true, false], [false, true, true]]
def ndS (a : Nd) : Int := if a.sh < 0 then (if a.sh = -2 then -2 else -1) else a.sh.tmod 4
def ndN (a : Nd) : Nat := if a.sh < 0 then (withinI a.ln 0 6).toNat else ((shapes0[(a.sh.tmod 4).toNat]?).getD []).length
def mkO (w : Int) : List Nd → Nat → List O → List O
 | [], _, os => os
 | a :: l, i, os => if ((lay os).length + 3 + ndN a : Int) ≤ w then mkO w l (i + 1) (os ++ [(newO (ndS a) (ndN a)).setTag ((i : Int) + 1)]) else os
def valS (os : List O) (refs : List Int) (r : Int) (k : Nat) (x : Int) : Int :=
 if refO os shapes0 r k then (if 0 ≤ x then (refs[(x.tmod (refs.length : Nat)).toNat]?).getD 0 else 0) else x
def rowS (refs : List Int) (a : Nd) (r : Int) : Nat → Nat → List O → List O
 | 0, _, os => os
 | f + 1, k, os => if (k : Int) < lenO os r then (match a.to[k]? with | some x => rowS refs a r f (k + 1) (turn (O.setF k (valS os refs r k x)) os (r - 1)) | none => os) else os
@[irreducible] def fuelR : Nat := 20001
theorem fuelR_eq : fuelR = 20001 := by unfold fuelR; rfl
def allS (refs : List Int) : List Nd → List Int → List O → List O
 | a :: l, r :: rs, os => allS refs l rs (rowS refs a r fuelR 0 os)
 | _, _, os => os
def bld (w : Int) (l : List Nd) : List O := allS (starts 1 (mkO w (l.take 30) 0 [])) (l.take 30) (starts 1 (mkO w (l.take 30) 0 [])) (mkO w (l.take 30) 0 [])
theorem starts_last (os : List O) (o : O) : starts 1 (os ++ [o]) = starts 1 os ++ [((1 + (lay os).length : Nat) : Int)] := by
 rw [starts_append]; rfl
theorem at_last (os : List O) (o : O) : at? (os ++ [o]) ((1 + (lay os).length : Nat) : Int) = some o := by
 unfold at?
 rw [show ((1 + (lay os).length : Nat) : Int) - 1 = ((lay os).length : Nat) by omega]
 exact look_of os o []
theorem turn_last (g : O → O) (os : List O) (o : O) : turn g (os ++ [o]) (((1 + (lay os).length : Nat) : Int) - 1) = os ++ [g o] := by
 rw [show ((1 + (lay os).length : Nat) : Int) - 1 = ((lay os).length : Nat) by omega]
 exact turn_of g os o []
theorem starts_turn {g : O → O} (hg : ∀ o, (g o).f.length = o.f.length) : ∀ (os : List O) (a : Nat) (r : Int), starts a (turn g os r) = starts a os
 | [], a, r => rfl
 | o :: os, a, r => by
   have hn : (g o).n = o.n := by simp [O.n, hg]
   unfold turn
   split
   · simp only [starts, hn]
   · simp only [starts, starts_turn hg os]
theorem turn_length (g : O → O) : ∀ (os : List O) (r : Int), (turn g os r).length = os.length
 | [], r => rfl
 | o :: os, r => by
   unfold turn
   split
   · simp
   · simp [turn_length g os]
theorem turn_get {g : O → O} : ∀ {os : List O} {r : Int} {i : Nat} {o' : O}, (turn g os r)[i]? = some o' → ∃ o, os[i]? = some o ∧ (o' = o ∨ o' = g o)
 | [], r, i, o', h => by unfold turn at h; simp at h
 | o :: os, r, i, o', h => by
   unfold turn at h
   split at h
   · cases i with
     | zero => simp at h; subst h; exact ⟨o, rfl, .inr rfl⟩
     | succ i => exact ⟨o', by simpa using h, .inl rfl⟩
   · cases i with
     | zero => simp at h; subst h; exact ⟨o, rfl, .inl rfl⟩
     | succ i =>
       have h' : (turn g os (r - (o.n : Nat)))[i]? = some o' := by simpa using h
       obtain ⟨x, hx, hc⟩ := turn_get h'
       exact ⟨x, by simpa using hx, hc⟩
def Tagged (os : List O) : Prop := ∀ (i : Nat) o, os[i]? = some o → o.tag = (i : Int) + 1
theorem mkO_tag (w : Int) : ∀ (l : List Nd) (i : Nat) (os : List O), os.length = i → Tagged os → Tagged (mkO w l i os) ∧ (mkO w l i os).length ≤ i + l.length
 | [], i, os, hi, h => ⟨h, by simp [mkO]; omega⟩
 | a :: l, i, os, hi, h => by
   unfold mkO
   split
   · have := mkO_tag w l (i + 1) (os ++ [(newO (ndS a) (ndN a)).setTag ((i : Int) + 1)]) (by simp [hi]) (fun j o hj => by
      by_cases c : j < os.length
      · rw [List.getElem?_append_left c] at hj; exact h j o hj
      · have hl := (List.getElem?_eq_some_iff.1 hj).1
        simp at hl
        have : j = os.length := by omega
        subst this
        simp at hj; subst hj
        rw [hi]; rfl)
     exact ⟨this.1, by simp; omega⟩
   · exact ⟨h, by simp; omega⟩
theorem rowS_keep (refs : List Int) (a : Nd) (r : Int) : ∀ (f k : Nat) (os : List O), starts 1 (rowS refs a r f k os) = starts 1 os ∧ (rowS refs a r f k os).length = os.length ∧ (Tagged os → Tagged (rowS refs a r f k os))
 | 0, k, os => ⟨rfl, rfl, fun h => h⟩
 | f + 1, k, os => by
   unfold rowS
   split
   · split
     · rename_i x hx
       obtain ⟨h1, h2, h3⟩ := rowS_keep refs a r f (k + 1) (turn (O.setF k (valS os refs r k x)) os (r - 1))
       refine ⟨h1.trans (starts_turn (fun o => by simp [O.setF]) os 1 _), h2.trans (turn_length _ _ _), fun h => h3 fun i o hi => ?_⟩
       obtain ⟨o2, ho2, hc⟩ := turn_get hi
       rcases hc with rfl | rfl
       · exact h i _ ho2
       · exact h i o2 ho2
     · exact ⟨rfl, rfl, fun h => h⟩
   · exact ⟨rfl, rfl, fun h => h⟩
theorem allS_keep (refs : List Int) : ∀ (l : List Nd) (rs : List Int) (os : List O), starts 1 (allS refs l rs os) = starts 1 os ∧ (allS refs l rs os).length = os.length ∧ (Tagged os → Tagged (allS refs l rs os))
 | [], rs, os => by unfold allS; exact ⟨rfl, rfl, fun h => h⟩
 | a :: l, [], os => by unfold allS; exact ⟨rfl, rfl, fun h => h⟩
 | a :: l, r :: rs, os => by
   unfold allS
   obtain ⟨h1, h2, h3⟩ := rowS_keep refs a r fuelR 0 os
   obtain ⟨k1, k2, k3⟩ := allS_keep refs l rs (rowS refs a r fuelR 0 os)
   exact ⟨k1.trans h1, k2.trans h2, fun h => k3 (h3 h)⟩
end
end Go.Proofs.YtgkcpceppmppfaaLab
namespace Go.Proofs.YtgkcpceppmppfaaLab
open Go
set_option linter.all false
set_option maxRecDepth 10000
noncomputable section
def BuildQ (s : St) (w : Int) (l : List Nd) (r : V) (t : St) : Prop := ∃ p rp bw bb n bm z F FO FS rv, r = .tup [.ptr p 0, .ptr rp 0, rv] ∧ Two s.next t p bw bb n bm rp (bld w l) z shapes0 F FO FS w ∧ GL t rv ((starts 1 (bld w l)).map .i) ∧ Fr s t [] ∧ ∀ b ∈ blkV rv, s.next ≤ b ∧ b ∉ p :: bw :: bb :: bm :: F ∧ b ∉ rp :: (FO ++ FS)
theorem refs_at {os : List O} {i : Nat} {r : Int} (h : (starts 1 os)[i]? = some r) : ∃ o, os[i]? = some o ∧ at? os r = some o := by
 have hl := (List.getElem?_eq_some_iff.1 h).1
 rw [starts_len] at hl
 have ho : os[i]? = some os[i] := List.getElem?_eq_getElem hl
 rw [starts_get _ _ _ hl] at h
 cases h
 exact ⟨_, ho, at_starts ho⟩
theorem refs_root (os : List O) : ∀ r ∈ starts 1 os, (at? os r).isSome := fun r hr => by
 obtain ⟨i, hi⟩ := List.getElem?_of_mem hr
 obtain ⟨o, _, ho⟩ := refs_at hi
 rw [ho]; rfl
section
variable {s : St} {l : List Nd} {w : Int} {lv : V} (hA : NA s lv l) (hok : ∀ a ∈ l, NdOk s s.next a) (hw : Wf s) (hlb : ∀ b ∈ blkV lv, b < s.next)
include hA hok hw hlb
theorem build_row {t : St} {p rp bw bb n bm : Nat} {z : List Int} {F FO FS : List Nat} {os : List O} {refs : List Int} {rv : V} (T : Two s.next t p bw bb n bm rp os z shapes0 F FO FS w) (hf : Fr s t []) (hrefs : starts 1 os = refs) (hg : GL t rv (refs.map .i)) (hoff : ∀ b ∈ blkV rv, s.next ≤ b ∧ b ∉ p :: bw :: bb :: bm :: F ∧ b ∉ rp :: (FO ++ FS)) {i : Nat} {a : Nd} (hai : l[i]? = some a) {r : Int} (hri : refs[i]? = some r) (d : Nat) {e : E} (i0 : g0 e = lv) (i7 : g7 e = .ptr p 0) (i9 : g9 e = .ptr rp 0) (i12 : g12 e = rv) (i17 : g17 e = .i i) :
 rnd (p8_78 (K (d + 5)) e t) (fun e' t' => Two s.next t' p bw bb n bm rp (rowS refs a r 20001 0 os) z shapes0 F FO FS w ∧ Fr s t' [] ∧ GL t' rv (refs.map .i) ∧ g0 e' = lv ∧ g7 e' = .ptr p 0 ∧ g9 e' = .ptr rp 0 ∧ g12 e' = rv ∧ g17 e' = .i i) (fun _ => False) := by
 replace i0 : e.a0.a0 = _ := i0
 replace i7 : e.a0.a7 = _ := i7
 replace i9 : e.a0.a9 = _ := i9
 replace i12 : e.a0.a12 = _ := i12
 replace i17 : e.a1.a1 = _ := i17
 simp -implicitDefEqProofs (maxSteps := 5000000) (disch := first | assumption | omega | (simp only [dz, dl, Nat.zero_add, Nat.reduceAdd, Bool.and_self]; done) | (simp only [dl]; omega)) only [go_sem, fAdd_eq, p8_78.eq_1]
 refine loop_at (Q := fun r => rnd (blkR 5 (blkR 6 r)) _ _) (fun q e' t' => ∃ (k : Nat) (os' : List O), q = 20001 - k ∧ k ≤ 20001 ∧ Two s.next t' p bw bb n bm rp os' z shapes0 F FO FS w ∧ Fr s t' [] ∧ GL t' rv (refs.map .i) ∧ starts 1 os' = refs ∧ rowS refs a r (20001 - k) k os' = rowS refs a r 20001 0 os ∧ g0 e' = lv ∧ g7 e' = .ptr p 0 ∧ g9 e' = .ptr rp 0 ∧ g12 e' = rv ∧ g17 e' = .i i ∧ g18 e' = .i k) ?_ (n := 20001) (by omega) ⟨0, os, by omega, by omega, T, hf, hg, hrefs, rfl, i0, i7, i9, i12, i17, (by first | trivial | rfl | assumption)⟩
 clear i0 i7 i9 i12 i17 T hf hg hrefs e
 rintro q e t1 ⟨k, os', rfl, hk, T, hf, hg, hrefs, hrow, i0, i7, i9, i12, i17, i18⟩
 replace i0 : e.a0.a0 = _ := i0
 replace i7 : e.a0.a7 = _ := i7
 replace i9 : e.a0.a9 = _ := i9
 replace i12 : e.a0.a12 = _ := i12
 replace i17 : e.a1.a1 = _ := i17
 replace i18 : e.a1.a2 = _ := i18
 have hwt := hf.wf
 obtain ⟨q, a1, a2⟩ := (hg.sl hwt).at hwt (j := i) (x := .i r) (by rw [List.getElem?_map, hri]; rfl)
 have elen := T.r.len (d + 3) r
 obtain ⟨b, o, b1, _, _, b2⟩ := (hA.fr hw hf (by simp)).at hai
 have hna := hok a (List.mem_of_getElem? hai)
 have hto := hna.to.fr hw hf (by simp)
 have htl := hto.len
 rw [List.length_map] at htl
 obtain ⟨ob, hob, hat⟩ := refs_at (hrefs ▸ hri)
 have hlenO : lenO os' r = (ob.f.length : Nat) := by unfold lenO; rw [hat]
 have hlay := T.h.lay_le
 have hobn : ob.n ≤ 20000 := by have := lay_lt hat; omega
 have hrl : refs.length ≤ 20000 := by
  have := lay_len3 os'
  rw [← hrefs, starts_len]; omega
 have hgl := hg.len
 rw [List.length_map] at hgl
 by_cases c1 : (k : Int) < lenO os' r
 · have hk999 : k < 20001 := by
    have hn : ob.n = 3 + ob.f.length := rfl
    omega
   by_cases c2 : (k : Int) < ((a.to.length : Nat) : Int)
   · obtain ⟨x, hx⟩ : ∃ x, a.to[k]? = some x := ⟨_, List.getElem?_eq_getElem (by omega)⟩
     obtain ⟨qx, x1, x2⟩ := hto.at hwt (j := k) (x := .i x) (by rw [List.getElem?_map, hx]; rfl)
     have erf := T.r.isRef T.h.ok (d + 3) r (k : Nat)
     have hx64 := hna.i64 x (List.mem_of_getElem? hx)
     have hstep : rowS refs a r (20001 - k) k os' = rowS refs a r (20001 - (k + 1)) (k + 1) (turn (O.setF k (valS os' refs r k x)) os' (r - 1)) := by
      rw [show 20001 - k = (20001 - (k + 1)) + 1 by omega, rowS, if_pos c1, hx]
     have hgk : getO os' r (k : Nat) = some (ob.f[k]'(by omega)) := by
      unfold getO; rw [hat]; simp only
      rw [if_pos (by omega), Int.toNat_natCast]; exact List.getElem?_eq_getElem _
     have fin : ∀ v, v = valS os' refs r k x → -9223372036854775808 ≤ v ∧ v < 9223372036854775808 → (refO os' shapes0 r k && !(decide (v = 0) || (at? os' v).isSome)) = false → ∃ t2 t3, (K (d + 5)).call 41 [.ptr p 0, .i r, .i (k : Nat), .i v] t1 = some (.i 0, t2) ∧ bIdx 1 rv (.i (i : Nat)) = some q ∧ ldP q t2 = some (.i r) ∧ (K (d + 5)).call 42 [.ptr rp 0, .i r, .i (k : Nat), .i v] t2 = some (.i 0, t3) ∧ ∃ m, m < 20001 - k ∧ ∃ (k' : Nat) (os'' : List O), m = 20001 - k' ∧ k' ≤ 20001 ∧ Two s.next t3 p bw bb n bm rp os'' z shapes0 F FO FS w ∧ Fr s t3 [] ∧ GL t3 rv (refs.map .i) ∧ starts 1 os'' = refs ∧ rowS refs a r (20001 - k') k' os'' = rowS refs a r 20001 0 os ∧ k' = k + 1 := fun v hv h64 hc => by
      obtain ⟨t2, t3, e1, f1, e2, f2, T3⟩ := T.setE d h64 hgk hc
      have hn1 := hf.nx
      have g2' := hg.fr hwt f1 (fun b hb => by have := (hoff b hb).2.1; simp at this ⊢; exact this.2.1)
      have g3' := g2'.fr f1.wf f2 (fun b hb => by have := (hoff b hb).2.2; simp at this ⊢; exact this.2.1)
      obtain ⟨q', a1', a2'⟩ := (g2'.sl f1.wf).at f1.wf (j := i) (x := .i r) (by rw [List.getElem?_map, hri]; rfl)
      rw [a1] at a1'; cases a1'
      have F3 : Fr s t3 [] := (hf.trans' f1 (fun b hb => .inr (by simp at hb; subst hb; exact (T.dj b (by simp)).1))).trans' f2 (fun b hb => .inr (T.dr b (by simp [hb])))
      exact ⟨t2, t3, e1, a1, a2', e2, 20001 - (k + 1), by omega, k + 1, _, rfl, by omega, T3, F3, g3', (starts_turn (fun o => by simp [O.setF]) os' 1 _).trans hrefs, by rw [← hrow, hstep, hv], rfl⟩
     cases hb : refO os' shapes0 r (k : Nat) with
     | false =>
       rw [hb] at erf
       obtain ⟨t2, t3, w1, _, w3, w4, m, m1, k', os'', m2, m3, m4, m5, m6, m7, m8, rfl⟩ := fin x (by unfold valS; rw [hb]; rfl) hx64 (by rw [hb]; rfl)
       simp -implicitDefEqProofs (maxSteps := 5000000) (disch := first | assumption | omega | (simp only [dz, dl, Nat.zero_add, Nat.reduceAdd, Bool.and_self]; done) | (simp only [dl]; omega)) only [go_sem, fAdd_eq, i0, i7, i9, i12, i17, i18, a1, a2, elen, c1, b1, b2, htl, c2, x1, x2, erf, w1, w3, w4]
       exact ⟨m, m1, k + 1, os'', m2, m3, m4, m5, m6, m7, m8, (by first | trivial | rfl | assumption), (by first | trivial | rfl | assumption), (by first | trivial | rfl | assumption), (by first | trivial | rfl | assumption), (by first | trivial | rfl | assumption), (by first | trivial | rfl | assumption)⟩
     | true =>
       rw [hb] at erf
       have hr0 : 0 < refs.length := by have := (List.getElem?_eq_some_iff.1 hri).1; omega
       by_cases c0 : 0 ≤ x
       · obtain ⟨ix, hix⟩ : ∃ ix : Nat, x.tmod (refs.length : Nat) = ix := ⟨(x.tmod (refs.length : Nat)).toNat, by have := Int.tmod_nonneg (refs.length : Int) c0; omega⟩
         have hlt := Int.tmod_lt_of_pos x (show (0 : Int) < (refs.length : Nat) by omega)
         rw [hix] at hlt
         obtain ⟨y, hy⟩ : ∃ y, refs[ix]? = some y := ⟨_, List.getElem?_eq_getElem (by omega)⟩
         obtain ⟨qy, y1, y2⟩ := (hg.sl hwt).at hwt (j := ix) (x := .i y) (by rw [List.getElem?_map, hy]; rfl)
         have hys := refs_root os' y (hrefs ▸ List.mem_of_getElem? hy)
         have hyb := obj_b hys
         obtain ⟨t2, t3, w1, _, w3, w4, m, m1, k', os'', m2, m3, m4, m5, m6, m7, m8, rfl⟩ := fin y (by unfold valS; rw [hb, hix, Int.toNat_natCast, hy]; simp [c0]) (by omega) (by rw [hb, hys]; simp)
         have cne : ¬ ((refs.length : Nat) : Int) = 0 := by omega
         simp -implicitDefEqProofs (maxSteps := 5000000) (disch := first | assumption | omega | (simp only [dz, dl, Nat.zero_add, Nat.reduceAdd, Bool.and_self]; done) | (simp only [dl]; omega)) only [go_sem, fAdd_eq, i0, i7, i9, i12, i17, i18, a1, a2, elen, c1, b1, b2, htl, c2, x1, x2, erf, c0, hgl, cne, hix, y1, y2, w1, w3, w4]
         exact ⟨m, m1, k + 1, os'', m2, m3, m4, m5, m6, m7, m8, (by first | trivial | rfl | assumption), (by first | trivial | rfl | assumption), (by first | trivial | rfl | assumption), (by first | trivial | rfl | assumption), (by first | trivial | rfl | assumption), (by first | trivial | rfl | assumption)⟩
       · obtain ⟨t2, t3, w1, _, w3, w4, m, m1, k', os'', m2, m3, m4, m5, m6, m7, m8, rfl⟩ := fin 0 (by unfold valS; rw [hb]; simp [c0]) (by omega) (by rw [hb]; simp)
         simp -implicitDefEqProofs (maxSteps := 5000000) (disch := first | assumption | omega | (simp only [dz, dl, Nat.zero_add, Nat.reduceAdd, Bool.and_self]; done) | (simp only [dl]; omega)) only [go_sem, fAdd_eq, i0, i7, i9, i12, i17, i18, a1, a2, elen, c1, b1, b2, htl, c2, x1, x2, erf, c0, w1, w3, w4]
         exact ⟨m, m1, k + 1, os'', m2, m3, m4, m5, m6, m7, m8, (by first | trivial | rfl | assumption), (by first | trivial | rfl | assumption), (by first | trivial | rfl | assumption), (by first | trivial | rfl | assumption), (by first | trivial | rfl | assumption), (by first | trivial | rfl | assumption)⟩
   · have hnone : a.to[k]? = none := List.getElem?_eq_none (by omega)
     have hend : rowS refs a r (20001 - k) k os' = os' := by
      rw [show 20001 - k = (20001 - (k + 1)) + 1 by omega, rowS, if_pos c1, hnone]
     simp -implicitDefEqProofs (maxSteps := 5000000) (disch := first | assumption | omega | (simp only [dz, dl, Nat.zero_add, Nat.reduceAdd, Bool.and_self]; done) | (simp only [dl]; omega)) only [go_sem, fAdd_eq, i0, i7, i9, i12, i17, i18, a1, a2, elen, c1, b1, b2, htl, c2]
     exact ⟨by rw [← hrow, hend]; exact T, hf, hg, (by first | trivial | rfl | assumption), (by first | trivial | rfl | assumption), (by first | trivial | rfl | assumption), (by first | trivial | rfl | assumption), (by first | trivial | rfl | assumption)⟩
 · have hend : rowS refs a r (20001 - k) k os' = os' := by
    cases h : 20001 - k with
    | zero => rfl
    | succ f => rw [rowS, if_neg c1]
   simp -implicitDefEqProofs (maxSteps := 5000000) (disch := first | assumption | omega | (simp only [dz, dl, Nat.zero_add, Nat.reduceAdd, Bool.and_self]; done) | (simp only [dl]; omega)) only [go_sem, fAdd_eq, i0, i7, i9, i12, i17, i18, a1, a2, elen, c1]
   exact ⟨by rw [← hrow, hend]; exact T, hf, hg, (by first | trivial | rfl | assumption), (by first | trivial | rfl | assumption), (by first | trivial | rfl | assumption), (by first | trivial | rfl | assumption), (by first | trivial | rfl | assumption)⟩
end
end
end Go.Proofs.YtgkcpceppmppfaaLab
namespace Go.Proofs.YtgkcpceppmppfaaLab
open Go
set_option linter.all false
set_option maxRecDepth 10000
noncomputable section
theorem rnd_seq {r : Res} {B : E → St → Res} {N N' : E → St → Prop} {Q : Res → Prop} (h : rnd r N' fun _ => False) (hN : ∀ e s, N' e s → rnd (B e s) N Q) : rnd (seqR r B) N Q := by
 obtain ⟨e, s, rfl, h⟩ := rnd_inv h
 exact hN e s h
section
variable {s : St} {l : List Nd} {w : Int} {lv : V} (hA : NA s lv l) (hok : ∀ a ∈ l, NdOk s s.next a) (hw : Wf s) (hlb : ∀ b ∈ blkV lv, b < s.next)
include hA hok hw hlb
theorem build_sets {t : St} {p rp bw bb n bm : Nat} {z : List Int} {F FO FS : List Nat} {rv : V} (T : Two s.next t p bw bb n bm rp (mkO w (l.take 30) 0 []) z shapes0 F FO FS w) (hf : Fr s t []) (hg : GL t rv ((starts 1 (mkO w (l.take 30) 0 [])).map .i)) (hoff : ∀ b ∈ blkV rv, s.next ≤ b ∧ b ∉ p :: bw :: bb :: bm :: F ∧ b ∉ rp :: (FO ++ FS)) (d : Nat) {e : E} (i0 : g0 e = lv) (i7 : g7 e = .ptr p 0) (i9 : g9 e = .ptr rp 0) (i12 : g12 e = rv) :
 Ret (retR (resV [rT g4, rT g5, rT g6]) (p8_68 (K (d + 5)) e t)) (BuildQ s w l) := by
 have hlenR : (mkO w (l.take 30) 0 []).length ≤ (l.take 30).length := by
  have := (mkO_tag w (l.take 30) 0 [] rfl (fun i o h => by simp at h)).2
  omega
 have hbld : bld w l = allS (starts 1 (mkO w (l.take 30) 0 [])) (l.take 30) (starts 1 (mkO w (l.take 30) 0 [])) (mkO w (l.take 30) 0 []) := rfl
 have hkeep := (allS_keep (starts 1 (mkO w (l.take 30) 0 [])) (l.take 30) (starts 1 (mkO w (l.take 30) 0 [])) (mkO w (l.take 30) 0 [])).1
 generalize hos : mkO w (l.take 30) 0 [] = os at *
 generalize hrs : starts 1 os = refs at *
 have hrl : refs.length = os.length := by rw [← hrs, starts_len]
 have hl30 : (l.take 30).length ≤ 30 := by simp; omega
 replace i0 : e.a0.a0 = _ := i0
 replace i7 : e.a0.a7 = _ := i7
 replace i9 : e.a0.a9 = _ := i9
 replace i12 : e.a0.a12 = _ := i12
 have hgl := hg.len
 rw [List.length_map] at hgl
 simp -implicitDefEqProofs (maxSteps := 5000000) (disch := first | assumption | omega | (simp only [dz, dl, Nat.zero_add, Nat.reduceAdd, Bool.and_self]; done) | (simp only [dl]; omega)) only [go_sem, fAdd_eq, p8_68.eq_1]
 refine loop_at (Q := fun r => Ret (retR _ (seqR (blkR 4 r) _)) _) (fun q e' t' => ∃ (i : Nat) (os' : List O), q = refs.length - i ∧ i ≤ refs.length ∧ Two s.next t' p bw bb n bm rp os' z shapes0 F FO FS w ∧ Fr s t' [] ∧ GL t' rv (refs.map .i) ∧ starts 1 os' = refs ∧ allS refs ((l.take 30).drop i) (refs.drop i) os' = bld w l ∧ g0 e' = lv ∧ g7 e' = .ptr p 0 ∧ g9 e' = .ptr rp 0 ∧ g12 e' = rv ∧ g17 e' = .i i) ?_ (n := refs.length) (by omega) ⟨0, os, by omega, by omega, T, hf, hg, hrs, by rw [List.drop_zero, List.drop_zero, hbld], i0, i7, i9, i12, (by first | trivial | rfl | assumption)⟩
 clear i0 i7 i9 i12 T hf hg hrs e hgl
 rintro q e t1 ⟨i, os', rfl, hi, T, hf, hg, hrs, hall, i0, i7, i9, i12, i17⟩
 replace i0 : e.a0.a0 = _ := i0
 replace i7 : e.a0.a7 = _ := i7
 replace i9 : e.a0.a9 = _ := i9
 replace i12 : e.a0.a12 = _ := i12
 replace i17 : e.a1.a1 = _ := i17
 have hgl := hg.len
 rw [List.length_map] at hgl
 by_cases c : (i : Int) < ((refs.length : Nat) : Int)
 · obtain ⟨r, hr⟩ : ∃ r, refs[i]? = some r := ⟨_, List.getElem?_eq_getElem (by omega)⟩
   obtain ⟨a, ha⟩ : ∃ a, (l.take 30)[i]? = some a := ⟨_, List.getElem?_eq_getElem (by omega)⟩
   have hal : l[i]? = some a := by
    rw [List.getElem?_take] at ha
    split at ha
    · exact ha
    · cases ha
   have hstep : allS refs ((l.take 30).drop i) (refs.drop i) os' = allS refs ((l.take 30).drop (i + 1)) (refs.drop (i + 1)) (rowS refs a r fuelR 0 os') := by
    rw [List.drop_eq_getElem_cons (show i < (l.take 30).length by omega), List.drop_eq_getElem_cons (show i < refs.length by omega), (List.getElem?_eq_some_iff.1 ha).2, (List.getElem?_eq_some_iff.1 hr).2]
    rfl
   have hst : starts 1 (rowS refs a r fuelR 0 os') = refs := (rowS_keep refs a r fuelR 0 os').1.trans hrs
   rw [fuelR_eq] at hstep hst
   simp -implicitDefEqProofs (maxSteps := 5000000) (disch := first | assumption | omega | (simp only [dz, dl, Nat.zero_add, Nat.reduceAdd, Bool.and_self]; done) | (simp only [dl]; omega)) only [go_sem, fAdd_eq, i0, i7, i9, i12, i17, hgl, c]
   refine rnd_seq (build_row hA hok hw hlb T hf hrs hg hoff hal hr d (by first | trivial | rfl | assumption) (by first | trivial | rfl | assumption) (by first | trivial | rfl | assumption) (by first | trivial | rfl | assumption) (by first | trivial | rfl | assumption)) ?_
   rintro e' t' ⟨T', hf', hg', j0, j7, j9, j12, j17⟩
   replace j0 : e'.a0.a0 = _ := j0
   replace j7 : e'.a0.a7 = _ := j7
   replace j9 : e'.a0.a9 = _ := j9
   replace j12 : e'.a0.a12 = _ := j12
   replace j17 : e'.a1.a1 = _ := j17
   simp -implicitDefEqProofs (maxSteps := 5000000) (disch := first | assumption | omega | (simp only [dz, dl, Nat.zero_add, Nat.reduceAdd, Bool.and_self]; done) | (simp only [dl]; omega)) only [go_sem, fAdd_eq, j0, j7, j9, j12, j17]
   exact ⟨refs.length - (i + 1), by omega, i + 1, _, rfl, by omega, T', hf', hg', hst, by rw [← hall, hstep], (by first | trivial | rfl | assumption), (by first | trivial | rfl | assumption), (by first | trivial | rfl | assumption), (by first | trivial | rfl | assumption), (by first | trivial | rfl | assumption)⟩
 · have : i = refs.length := by omega
   subst this
   have hend : allS refs ((l.take 30).drop refs.length) (refs.drop refs.length) os' = os' := by
    rw [List.drop_eq_nil_of_le (Nat.le_refl refs.length)]
    cases (l.take 30).drop refs.length <;> rfl
   rw [hend] at hall
   subst hall
   simp -implicitDefEqProofs (maxSteps := 5000000) (disch := first | assumption | omega | (simp only [dz, dl, Nat.zero_add, Nat.reduceAdd, Bool.and_self]; done) | (simp only [dl]; omega)) only [go_sem, fAdd_eq, i0, i7, i9, i12, i17, hgl, c]
   exact ⟨p, rp, bw, bb, n, bm, z, F, FO, FS, rv, (by first | trivial | rfl | assumption), T, by rw [hrs]; exact hg, hf, hoff⟩
end
end
end Go.Proofs.YtgkcpceppmppfaaLab
namespace Go.Proofs.YtgkcpceppmppfaaLab
open Go
set_option linter.all false
set_option maxRecDepth 10000
noncomputable section
theorem shapes0_at {r : Int} (h0 : 0 ≤ r) (h1 : r < 4) : ∃ l, shapes0[r.toNat]? = some l ∧ l.length ≤ 3 := by
 have : r = 0 ∨ r = 1 ∨ r = 2 ∨ r = 3 := by omega
 rcases this with rfl | rfl | rfl | rfl
 · exact ⟨_, rfl, by simp⟩
 · exact ⟨_, rfl, by simp⟩
 · exact ⟨_, rfl, by simp⟩
 · exact ⟨_, rfl, by simp⟩
section
variable {s : St} {l : List Nd} {w : Int} {lv : V} (hA : NA s lv l) (hok : ∀ a ∈ l, NdOk s s.next a) (hw : Wf s) (hlb : ∀ b ∈ blkV lv, b < s.next)
include hA hok hw hlb
theorem build_objs {t : St} {p rp bw bb n bm : Nat} {z : List Int} {F FO FS : List Nat} (T : Two s.next t p bw bb n bm rp [] z shapes0 F FO FS w) (hf : Fr s t []) (d : Nat) {e : E} (i0 : g0 e = lv) (i7 : g7 e = .ptr p 0) (i9 : g9 e = .ptr rp 0) :
 Ret (retR (resV [rT g4, rT g5, rT g6]) (p8_29 (K (d + 5)) e t)) (BuildQ s w l) := by
 have hlen := hA.len
 have hl30 : (l.take 30).length = min 30 l.length := by simp
 generalize hos0 : mkO w (l.take 30) 0 [] = os0 at *
 replace i0 : e.a0.a0 = _ := i0
 replace i7 : e.a0.a7 = _ := i7
 replace i9 : e.a0.a9 = _ := i9
 simp -implicitDefEqProofs (maxSteps := 5000000) (disch := first | assumption | omega | (simp only [dz, dl, Nat.zero_add, Nat.reduceAdd, Bool.and_self]; done) | (simp only [dl]; omega)) only [go_sem, fAdd_eq, p8_29.eq_1]
 refine loop_at (Q := fun r => Ret (retR _ (seqR (blkR 2 r) _)) _) (fun q e' t' => ∃ (i : Nat) (os : List O) (z' : List Int) (FO' : List Nat) (rv : V), q = (l.take 30).length - i ∧ i ≤ (l.take 30).length ∧ Two s.next t' p bw bb n bm rp os z' shapes0 F FO' FS w ∧ Fr s t' [] ∧ os.length = i ∧ GL t' rv ((starts 1 os).map .i) ∧ (∀ b ∈ blkV rv, s.next ≤ b ∧ b ∉ p :: bw :: bb :: bm :: F ∧ b ∉ rp :: (FO' ++ FS)) ∧ mkO w ((l.take 30).drop i) i os = os0 ∧ g0 e' = lv ∧ g7 e' = .ptr p 0 ∧ g9 e' = .ptr rp 0 ∧ g12 e' = rv ∧ g13 e' = .i i) ?_ (n := (l.take 30).length) (by omega) ⟨0, [], z, FO, .nils, by omega, by omega, T, hf, rfl, .inl ⟨rfl, rfl⟩, by simp [blkV], by rw [List.drop_zero]; exact hos0, i0, i7, i9, (by first | trivial | rfl | assumption), (by first | trivial | rfl | assumption)⟩
 clear i0 i7 i9 T hf e
 rintro q e t1 ⟨i, os, z', FO', rv, rfl, hi, T, hf, hol, hg, hoff, hmk, i0, i7, i9, i12, i13⟩
 replace i0 : e.a0.a0 = _ := i0
 replace i7 : e.a0.a7 = _ := i7
 replace i9 : e.a0.a9 = _ := i9
 replace i12 : e.a0.a12 = _ := i12
 replace i13 : e.a0.a13 = _ := i13
 have hwt := hf.wf
 have fin : os = os0 → ∀ {e : E}, g0 e = lv → g7 e = .ptr p 0 → g9 e = .ptr rp 0 → g12 e = rv → Ret (retR (resV [rT g4, rT g5, rT g6]) (p8_68 (K (d + 5)) e t1)) (BuildQ s w l) := fun he e j0 j7 j9 j12 => by
  subst he
  rw [← hos0] at T hg
  exact build_sets hA hok hw hlb T hf hg hoff d j0 j7 j9 j12
 by_cases cl : (i : Int) < ((l.length : Nat) : Int)
 · by_cases c30 : (i : Int) < 30
   · obtain ⟨a, ha⟩ : ∃ a, (l.take 30)[i]? = some a := ⟨_, List.getElem?_eq_getElem (by omega)⟩
     have hal : l[i]? = some a := by
      rw [List.getElem?_take] at ha
      split at ha
      · exact ha
      · cases ha
     have hdrop : (l.take 30).drop i = a :: (l.take 30).drop (i + 1) := by
      rw [List.drop_eq_getElem_cons (show i < (l.take 30).length by omega), (List.getElem?_eq_some_iff.1 ha).2]
     rw [hdrop] at hmk
     have hNt := hA.fr hw hf (by simp)
     obtain ⟨b, o, b1, b2, b3, _⟩ := hNt.at hal
     have ew := within_eq t1 a.ln 0 6 (by omega) (by omega) (by omega) (d + 4)
     have hwi := withinI_le a.ln 0 6 (by omega)
     obtain ⟨m, hm⟩ : ∃ m : Nat, withinI a.ln 0 6 = m := ⟨(withinI a.ln 0 6).toNat, by omega⟩
     rw [hm] at ew hwi
     have hlay := T.h.lay_le
     have hf0 := hf.nx
     have step : ∀ (t2 t3 : St) (z2 : List Int) (FO2 : List Nat), Fr t1 t2 [p, bw, bb] → Fr t2 t3 (rp :: FO') → Two s.next t3 p bw bb n bm rp (os ++ [newO (ndS a) (ndN a)]) z2 shapes0 F FO2 FS w → (∀ b ∈ FO2, b ∈ FO' ∨ t1.next ≤ b) → ((lay os).length + 3 + ndN a : Int) ≤ w → ∃ t4 t5 t6 t7, (K (d + 5)).call 30 [.ptr p 0, .i ((1 + (lay os).length : Nat) : Int), .i ((i : Int) + 1)] t3 = some (.i 0, t4) ∧ (K (d + 5)).call 39 [.ptr rp 0, .i ((1 + (lay os).length : Nat) : Int), .i ((i : Int) + 1)] t4 = some (.i 0, t5) ∧ t5.new (.cells 1 (ofL [V.i ((1 + (lay os).length : Nat) : Int)])) = t6 ∧ apP 1 rv (.slice t5.next 0 1 (some 1) 1) t6 = some (.slice (t5.next + 1) 0 (os.length + 1) none 1, t7) ∧ ∃ m, m < (l.take 30).length - i ∧ ∃ (i' : Nat) (os' : List O) (z' : List Int) (FO' : List Nat) (rv' : V), m = (l.take 30).length - i' ∧ i' ≤ (l.take 30).length ∧ Two s.next t7 p bw bb n bm rp os' z' shapes0 F FO' FS w ∧ Fr s t7 [] ∧ os'.length = i' ∧ GL t7 rv' ((starts 1 os').map .i) ∧ (∀ b ∈ blkV rv', s.next ≤ b ∧ b ∉ p :: bw :: bb :: bm :: F ∧ b ∉ rp :: (FO' ++ FS)) ∧ mkO w ((l.take 30).drop i') i' os' = os0 ∧ i' = i + 1 ∧ rv' = .slice (t5.next + 1) 0 (os.length + 1) none 1 := by
      intro t2 t3 z2 FO2 f2 f3 T3 hO2 hfit
      obtain ⟨t4, t5, e4, f4, e5, f5, T5⟩ := T3.setTagE (d + 3) ((i : Int) + 1) (at_last os _)
      rw [turn_last] at T5
      have hmk' : mkO w ((l.take 30).drop (i + 1)) (i + 1) (os ++ [(newO (ndS a) (ndN a)).setTag ((i : Int) + 1)]) = os0 := by
       rw [← hmk, mkO, if_pos hfit]
      have g2' := hg.fr hwt f2 (fun b hb => by have := (hoff b hb).2.1; simp at this ⊢; exact ⟨this.1, this.2.1, this.2.2.1⟩)
      have g3' := g2'.fr f2.wf f3 (fun b hb => by have := (hoff b hb).2.2; simp at this ⊢; exact ⟨this.1, this.2.1⟩)
      have hrvlt : ∀ b ∈ blkV rv, b < t1.next := fun b hb => blk_lt hwt hg b hb
      have hnF2 : ∀ b ∈ blkV rv, b ∉ FO2 := fun b hb hm => by
       rcases hO2 b hm with h | h
       · exact (hoff b hb).2.2 (by simp [h])
       · have := hrvlt b hb; omega
      have g4' := g3'.fr f3.wf f4 (fun b hb => by have := (hoff b hb).2.1; simp at this ⊢; exact this.2.1)
      have g5' := g4'.fr f4.wf f5 (fun b hb => hnF2 b hb)
      obtain ⟨t6, t7, e6, e7, hg7, f7, n7⟩ := g5'.push f5.wf (x := .i ((1 + (lay os).length : Nat) : Int)) rfl (fun y hy => by obtain ⟨a, _, rfl⟩ := List.mem_map.1 hy; rfl) (by rw [List.length_map, starts_len]; omega)
      rw [List.length_map, starts_len] at e7 hg7
      have hoff5 : ∀ b ∈ blkV rv, s.next ≤ b ∧ b ∉ p :: bw :: bb :: bm :: F ∧ b ∉ rp :: (FO2 ++ FS) := fun b hb => ⟨(hoff b hb).1, (hoff b hb).2.1, fun hm => by
       simp only [List.mem_cons, List.mem_append] at hm
       rcases hm with h | h | h
       · exact (hoff b hb).2.2 (by simp [h])
       · exact hnF2 b hb h
       · exact (hoff b hb).2.2 (by simp [h])⟩
      have T7 : Two s.next t7 p bw bb n bm rp (os ++ [(newO (ndS a) (ndN a)).setTag ((i : Int) + 1)]) z2 shapes0 F FO2 FS w := by
       refine T5.off f7 ?_ ?_
       · exact fun b hb hm => (hoff5 b hm).2.1 hb
       · exact fun b hb hm => (hoff5 b hm).2.2 hb
      have hn5 : t1.next ≤ t5.next := by have := f2.nx; have := f3.nx; have := f4.nx; have := f5.nx; omega
      have F7 : Fr s t7 [] := ((((hf.trans' f2 (fun b hb => .inr (by simp at hb; exact (T.dj b (by simp; rcases hb with h | h | h <;> simp [h])).1))).trans' f3 (fun b hb => .inr (T.dr b (by simp at hb ⊢; rcases hb with h | h <;> simp [h])))).trans' f4 (fun b hb => .inr (by simp at hb; subst hb; exact (T.dj b (by simp)).1))).trans' f5 (fun b hb => .inr (T3.dr b (by simp [hb])))).trans' f7 (fun b hb => .inr (hoff b hb).1)
      refine ⟨t4, t5, t6, t7, e4, e5, e6, e7, (l.take 30).length - (i + 1), by omega, i + 1, _, z2, FO2, _, rfl, by omega, T7, F7, by simp [hol], ?_, fun b hb => ?_, hmk', rfl, rfl⟩
      · rw [starts_last, List.map_append]
        have e : (starts 1 (os ++ [(newO (ndS a) (ndN a)).setTag ((i : Int) + 1)])).length = os.length + 1 := by rw [starts_len]; simp
        exact hg7
      · simp [blkV] at hb; subst hb
        refine ⟨by omega, fun hm => ?_, fun hm => ?_⟩
        · have := T5.lt _ hm; omega
        · have := T5.ltR _ hm; omega
     by_cases cs : a.sh < 0
     · have hS : ndS a = if a.sh = -2 then -2 else -1 := by unfold ndS; rw [if_pos cs]
       have hN : ndN a = m := by unfold ndN; rw [if_pos cs, hm]; simp
       obtain ⟨q1, q2⟩ := T.arrayE (d + 2) (decide (a.sh = -2)) m (by omega)
       by_cases cf : ((lay os).length + 3 + m : Int) ≤ w
       · obtain ⟨t2, t3, z2, FO2, e2, f2, e3, f3, T3, hO2⟩ := q2 cf
         have hif : (if decide (a.sh = -2) = true then (-2 : Int) else -1) = ndS a := by rw [hS]; by_cases h : a.sh = -2 <;> simp [h]
         rw [hif, ← hN] at T3
         have hNt2 := hNt.fr hwt f2 (fun b hb hm => by
          have := hlb b hb
          have : s.next ≤ b := (T.dj b (by simp at hm ⊢; rcases hm with h | h | h <;> simp [h])).1
          omega)
         obtain ⟨b', o', b1', b2', _⟩ := hNt2.at hal
         rw [b1] at b1'; cases b1'
         obtain ⟨t4, t5, t6, t7, w4, w5, w6, w7, mm, m1, i', os', z3, FO3, rv3, m2, m3, m4, m5, m6, m7, m8, m9, rfl, rfl⟩ := step t2 t3 z2 FO2 f2 f3 T3 hO2 (by rw [hN]; exact cf)
         simp -implicitDefEqProofs (maxSteps := 5000000) (disch := first | assumption | omega | (simp only [dz, dl, Nat.zero_add, Nat.reduceAdd, Bool.and_self]; done) | (simp only [dl]; omega)) only [go_sem, fAdd_eq, i0, i7, i9, i12, i13, hlen, cl, c30, b1, b2, b3, ew, cs, e2, b2', e3, eq_self, w4, w5, w6, w7]
         exact ⟨mm, m1, i + 1, os', z3, FO3, _, m2, m3, m4, m5, m6, m7, m8, m9, (by first | trivial | rfl | assumption), (by first | trivial | rfl | assumption), (by first | trivial | rfl | assumption), rfl, (by first | trivial | rfl | assumption)⟩
       · obtain ⟨e2, e3⟩ := q1 (by omega)
         have c26 : ¬ (26 : Int) = 0 := by omega
         have he : os = os0 := by rw [← hmk, mkO, if_neg (by rw [hN]; exact cf)]
         simp -implicitDefEqProofs (maxSteps := 5000000) (disch := first | assumption | omega | (simp only [dz, dl, Nat.zero_add, Nat.reduceAdd, Bool.and_self]; done) | (simp only [dl]; omega)) only [go_sem, fAdd_eq, i0, i7, i9, i12, i13, hlen, cl, c30, b1, b2, b3, ew, cs, e2, e3, c26]
         exact fin he (by first | trivial | rfl | assumption) (by first | trivial | rfl | assumption) (by first | trivial | rfl | assumption) (by first | trivial | rfl | assumption)
     · have h4 : 0 ≤ a.sh.tmod 4 ∧ a.sh.tmod 4 < 4 := ⟨Int.tmod_nonneg 4 (by omega), Int.tmod_lt_of_pos a.sh (by omega)⟩
       obtain ⟨ls, hls, hls3⟩ := shapes0_at h4.1 h4.2
       have hS : ndS a = a.sh.tmod 4 := by unfold ndS; rw [if_neg cs]
       have hN : ndN a = ls.length := by unfold ndN; rw [if_neg cs, hls]; rfl
       obtain ⟨q1, q2⟩ := T.objectE (d + 2) (a.sh.tmod 4) (by simp [shapes0]) h4.1 hls (by omega)
       have c4 : ¬ (4 : Int) = 0 := by omega
       by_cases cf : ((lay os).length + 3 + ls.length : Int) ≤ w
       · obtain ⟨t2, t3, z2, FO2, e2, f2, e3, f3, T3, hO2⟩ := q2 cf
         rw [← hS, ← hN] at T3
         have hNt2 := hNt.fr hwt f2 (fun b hb hm => by
          have := hlb b hb
          have : s.next ≤ b := (T.dj b (by simp at hm ⊢; rcases hm with h | h | h <;> simp [h])).1
          omega)
         obtain ⟨b', o', b1', b2', _⟩ := hNt2.at hal
         rw [b1] at b1'; cases b1'
         obtain ⟨t4, t5, t6, t7, w4, w5, w6, w7, mm, m1, i', os', z3, FO3, rv3, m2, m3, m4, m5, m6, m7, m8, m9, rfl, rfl⟩ := step t2 t3 z2 FO2 f2 f3 T3 hO2 (by rw [hN]; exact cf)
         simp -implicitDefEqProofs (maxSteps := 5000000) (disch := first | assumption | omega | (simp only [dz, dl, Nat.zero_add, Nat.reduceAdd, Bool.and_self]; done) | (simp only [dl]; omega)) only [go_sem, fAdd_eq, i0, i7, i9, i12, i13, hlen, cl, c30, b1, b2, b3, ew, cs, c4, e2, b2', e3, eq_self, w4, w5, w6, w7]
         exact ⟨mm, m1, i + 1, os', z3, FO3, _, m2, m3, m4, m5, m6, m7, m8, m9, (by first | trivial | rfl | assumption), (by first | trivial | rfl | assumption), (by first | trivial | rfl | assumption), rfl, (by first | trivial | rfl | assumption)⟩
       · obtain ⟨e2, e3⟩ := q1 (by omega)
         have c26 : ¬ (26 : Int) = 0 := by omega
         have he : os = os0 := by rw [← hmk, mkO, if_neg (by rw [hN]; exact cf)]
         simp -implicitDefEqProofs (maxSteps := 5000000) (disch := first | assumption | omega | (simp only [dz, dl, Nat.zero_add, Nat.reduceAdd, Bool.and_self]; done) | (simp only [dl]; omega)) only [go_sem, fAdd_eq, i0, i7, i9, i12, i13, hlen, cl, c30, b1, b2, b3, ew, cs, c4, e2, e3, c26]
         exact fin he (by first | trivial | rfl | assumption) (by first | trivial | rfl | assumption) (by first | trivial | rfl | assumption) (by first | trivial | rfl | assumption)
   · have hend : i = (l.take 30).length := by omega
     have he : os = os0 := by rw [← hmk, hend, List.drop_length]; rfl
     simp -implicitDefEqProofs (maxSteps := 5000000) (disch := first | assumption | omega | (simp only [dz, dl, Nat.zero_add, Nat.reduceAdd, Bool.and_self]; done) | (simp only [dl]; omega)) only [go_sem, fAdd_eq, i0, i7, i9, i12, i13, hlen, cl, c30]
     exact fin he (by first | trivial | rfl | assumption) (by first | trivial | rfl | assumption) (by first | trivial | rfl | assumption) (by first | trivial | rfl | assumption)
 · have hend : i = (l.take 30).length := by omega
   have he : os = os0 := by rw [← hmk, hend, List.drop_length]; rfl
   simp -implicitDefEqProofs (maxSteps := 5000000) (disch := first | assumption | omega | (simp only [dz, dl, Nat.zero_add, Nat.reduceAdd, Bool.and_self]; done) | (simp only [dl]; omega)) only [go_sem, fAdd_eq, i0, i7, i9, i12, i13, hlen, cl]
   exact fin he (by first | trivial | rfl | assumption) (by first | trivial | rfl | assumption) (by first | trivial | rfl | assumption) (by first | trivial | rfl | assumption)
end
end
end Go.Proofs.YtgkcpceppmppfaaLab
namespace Go.Proofs.YtgkcpceppmppfaaLab
open Go
set_option linter.all false
set_option maxRecDepth 10000
noncomputable section
section
variable {b0 : Nat} {t : St} {p bw bb n bm rp : Nat} {os : List O} {z : List Int} {shapes : List (List Bool)} {F FO FS : List Nat} {w : Int} (T : Two b0 t p bw bb n bm rp os z shapes F FO FS w)
include T
theorem Two.shapeE (d : Nat) {v : V} {l : List Bool} (h : SL t v (l.map .bool)) (hv : ∀ b ∈ blkV v, b < t.next ∧ b ∉ p :: bw :: bb :: bm :: F) (hb : l.length ≤ 1000) (hsh : shapes.length ≤ 1000) (hi : idxL l shapes = none) :
 ∃ t1 t2 x F' FS', (K (d + 2)).call 33 [.ptr p 0, v] t = some (.i x, t1) ∧ Fr t t1 (p :: bm :: F) ∧ (K (d + 2)).call 34 [.ptr rp 0, v] t1 = some (.i x, t2) ∧ Fr t1 t2 (rp :: FS) ∧ Two b0 t2 p bw bb n bm rp os z (shapes ++ [l]) F' FO FS' w ∧ (∀ b ∈ F', b ∈ F ∨ t.next ≤ b) ∧ (∀ b ∈ FS', b ∈ FS ∨ t.next ≤ b) := by
 have hw := T.wf
 have hne : ∀ b ∈ blkV v, ∀ x ∈ p :: bw :: bb :: bm :: F, b ≠ x := fun b hb x hx e => (hv b hb).2 (e ▸ hx)
 obtain ⟨x1, t1, e1, hq⟩ := T.h.shape h (fun b hb => ⟨(hv b hb).1, hne b hb p (by simp), hne b hb bm (by simp), fun hm => hne b hb b (by simp [hm]) rfl⟩) (by omega) (by omega) d
 unfold ShapeQ at hq
 rw [hi] at hq
 obtain ⟨rfl, ⟨F', h1, hF⟩, f1⟩ := hq
 have R1 := T.r1 f1 (by intro b hb; simp only [List.mem_cons] at hb ⊢; rcases hb with h | h | h <;> simp [h])
 obtain ⟨x2, t2, e2, hq2⟩ := R1.shapeN (h.fr hw f1 (fun b hb hm => by simp only [List.mem_cons] at hm; rcases hm with h | h | h; exact hne b hb p (by simp) h; exact hne b hb bm (by simp) h; exact hne b hb b (by simp [h]) rfl)) (by omega) (by omega) (d + 1)
 rw [hi] at hq2
 obtain ⟨rfl, FS', r2, hS2, f2⟩ := hq2
 exact ⟨t1, t2, _, F', FS', e1, f1, e2, f2, T.make f1 h1 hF f2 (by intro b hb; simp only [List.mem_cons, List.mem_append] at hb ⊢; exact hb.elim .inl (fun h => .inr (.inr h))) r2 (fun b hb => .inl hb) hS2 (T.rf.more T.h.ok l), hF, fun b hb => (hS2 b hb).imp_right fun h => Nat.le_trans f1.nx h⟩
end
theorem lit0 (id : Nat) : bslP 0 1 [] [] id = some (.slice id 0 0 (some 0) 1, .cells 0 (ofL [])) := rfl
theorem lit2 (id : Nat) : bslP 2 1 [.bool false, .bool false] [(0, 1, .bool true), (1, 1, .bool false)] id = some (.slice id 0 2 (some 2) 1, .cells 2 (ofL [.bool true, .bool false])) := rfl
theorem lit3 (id : Nat) : bslP 3 1 [.bool false, .bool false, .bool false] [(0, 1, .bool false), (1, 1, .bool true), (2, 1, .bool true)] id = some (.slice id 0 3 (some 3) 1, .cells 3 (ofL [.bool false, .bool true, .bool true])) := rfl
theorem lit4 (id a b c d : Nat) : bslP 4 1 [.nils, .nils, .nils, .nils] [(0, 1, .slice a 0 0 (some 0) 1), (1, 1, .slice b 0 1 (some 1) 1), (2, 1, .slice c 0 2 (some 2) 1), (3, 1, .slice d 0 3 (some 3) 1)] id = some (.slice id 0 4 (some 4) 1, .cells 4 (ofL [.slice a 0 0 (some 0) 1, .slice b 0 1 (some 1) 1, .slice c 0 2 (some 2) 1, .slice d 0 3 (some 3) 1])) := rfl
def svs (y : Nat) : List V := [.slice y 0 0 (some 0) 1, .slice (y + 1) 0 1 (some 1) 1, .slice (y + 2) 0 2 (some 2) 1, .slice (y + 3) 0 3 (some 3) 1]
structure Lits (s : St) (y : Nat) : Prop where
 l : s.cl (y + 4) = some (svs y)
 a : s.cl y = some []
 b : s.cl (y + 1) = some [.bool true]
 c : s.cl (y + 2) = some [.bool true, .bool false]
 d : s.cl (y + 3) = some [.bool false, .bool true, .bool true]
theorem Lits.fr {s s' : St} {y : Nat} {L : List Nat} (h : Lits s y) (hw : Wf s) (f : Fr s s' L) (hd : ∀ b ∈ L, b < y ∨ y + 5 ≤ b) : Lits s' y :=
 ⟨f.cl hw h.l (fun hm => by have := hd _ hm; omega), f.cl hw h.a (fun hm => by have := hd _ hm; omega), f.cl hw h.b (fun hm => by have := hd _ hm; omega), f.cl hw h.c (fun hm => by have := hd _ hm; omega), f.cl hw h.d (fun hm => by have := hd _ hm; omega)⟩
theorem Lits.at {s : St} {y : Nat} (h : Lits s y) (hw : Wf s) {j : Nat} (hj : j < 4) : ∃ v l, bIdx 1 (.slice (y + 4) 0 4 (some 4) 1) (.i (j : Nat)) = some (.ptr (y + 4) j) ∧ ldP (.ptr (y + 4) j) s = some v ∧ shapes0[j]? = some l ∧ SL s v (l.map .bool) ∧ (∀ b ∈ blkV v, y ≤ b ∧ b < y + 5) ∧ l.length ≤ 3 ∧ idxL l (shapes0.take j) = none := by
 have hb : bIdx 1 (.slice (y + 4) 0 4 (some 4) 1) (.i (j : Nat)) = some (.ptr (y + 4) j) := by rw [bIdx1_eq (by omega) (by omega)]; simp
 have hld : ∀ v, (svs y)[j]? = some v → ldP (.ptr (y + 4) j) s = some v := fun v hv => dLd_eq hw h.l hv
 have : j = 0 ∨ j = 1 ∨ j = 2 ∨ j = 3 := by omega
 rcases this with rfl | rfl | rfl | rfl
 · exact ⟨_, [], hb, hld _ rfl, rfl, .inl ⟨rfl, .inr ⟨_, _, _, rfl⟩⟩, by simp [blkV], by simp, rfl⟩
 · exact ⟨_, [true], hb, hld _ rfl, rfl, SL.of hw h.b (by simp) (fun i hi => by rw [Nat.zero_add]; rfl), by simp [blkV], by simp, rfl⟩
 · exact ⟨_, [true, false], hb, hld _ rfl, rfl, SL.of hw h.c (by simp) (fun i hi => by rw [Nat.zero_add]; rfl), by simp [blkV], by simp, rfl⟩
 · exact ⟨_, [false, true, true], hb, hld _ rfl, rfl, SL.of hw h.d (by simp) (fun i hi => by rw [Nat.zero_add]; rfl), by simp [blkV], by simp, rfl⟩
theorem build_eq {s : St} {l : List Nd} {lv : V} (hA : NA s lv l) (hok : ∀ a ∈ l, NdOk s s.next a) (hw : Wf s) (hlb : ∀ b ∈ blkV lv, b < s.next) {w : Int} (h1 : 1 ≤ w) (h2 : w ≤ 16384) (d : Nat) :
 Ret ((K (d + 6)).call 8 [lv, .i w] s) (BuildQ s w l) := by
 obtain ⟨s1, e1, hA1, f1, n1, m1⟩ := new_heap hw (d + 4) w h1 h2
 obtain ⟨s2, e2, hR, f2, n2⟩ := new_ref f1.wf (d + 4) w h1 h2
 have H2 := hA1.fr f2 (by simp) (by simp) (by simp)
 have m2 := f2.mp f1.wf m1 (by simp)
 have T0 : Two s.next s2 (s.next + 3) s.next (s.next + 1) (w.toNat + 1) (s.next + 2) s1.next [] (List.replicate w.toNat 0) [] [] [] [] w := by
  refine ⟨⟨⟨_, H2, .inl ⟨rfl, rfl⟩⟩, ⟨_, _, m2⟩, fun o ho => (by cases ho), fun b hb => (by cases hb)⟩, hR, by omega, fun r o ho => (by cases ho), ?_, ?_⟩
  · intro b hb
    simp only [List.mem_cons, List.not_mem_nil, or_false, List.append_nil] at hb ⊢
    omega
  · intro b hb
    simp only [List.mem_cons, List.not_mem_nil, or_false, List.append_nil] at hb
    omega
 have hsep : ∀ b ∈ (s.next + 3) :: s.next :: (s.next + 1) :: (s.next + 2) :: s1.next :: [], b < s2.next := fun b hb => by simp at hb; omega
 obtain ⟨s3, a3, c3, f3, n3⟩ := new_ex (s := s2) (l := []) (n := 0) f2.wf rfl
 obtain ⟨s4, a4, c4, f4, n4⟩ := new_ex (s := s3) (l := [V.bool true]) (n := 1) f3.wf rfl
 obtain ⟨s5, a5, c5, f5, n5⟩ := new_ex (s := s4) (l := [V.bool true, .bool false]) (n := 2) f4.wf rfl
 obtain ⟨s6, a6, c6, f6, n6⟩ := new_ex (s := s5) (l := [V.bool false, .bool true, .bool true]) (n := 3) f5.wf rfl
 generalize hy : s2.next = y at *
 rw [n3] at n4 c4
 rw [n4] at n5 c5
 rw [n5] at n6 c6
 obtain ⟨s7, a7, c7, f7, n7⟩ := new_ex (s := s6) (l := svs y) (n := 4) f6.wf rfl
 rw [n6] at n7 c7
 have hL : Lits s7 y := ⟨c7, f7.cl f6.wf (f6.cl f5.wf (f5.cl f4.wf (f4.cl f3.wf c3 (by simp)) (by simp)) (by simp)) (by simp), f7.cl f6.wf (f6.cl f5.wf (f5.cl f4.wf c4 (by simp)) (by simp)) (by simp), f7.cl f6.wf (f6.cl f5.wf c5 (by simp)) (by simp), f7.cl f6.wf c6 (by simp)⟩
 have T7 := ((((T0.fr f3).fr f4).fr f5).fr f6).fr f7
 have F7 : Fr s s7 [] := ((((f1.trans f2).trans f3).trans f4).trans (f5.trans f6)).trans f7
 clear T0 H2 m2 hA1 m1
 have hrp : (s1.next : Nat) < y := hsep _ (by simp)
 have hp3 : s.next + 3 < y := hsep _ (by simp)
 have hp2 : s.next + 2 < y := hsep _ (by simp)
 have hp1 : s.next + 1 < y := hsep _ (by simp)
 have hp0 : s.next < y := hsep _ (by simp)
 have hl4 : uLenS (.slice (y + 4) 0 4 (some 4) 1) = some (.i 4) := rfl
 generalize s.next + 3 = p at *
 generalize s.next + 2 = bm at *
 generalize s.next + 1 = bb at *
 generalize hbw : s.next = bw at *
 generalize s1.next = rp at *
 have a7' : s6.new (.cells 4 (ofL [V.slice y 0 0 (some 0) 1, .slice (y + 1) 0 1 (some 1) 1, .slice (y + 2) 0 2 (some 2) 1, .slice (y + 3) 0 3 (some 3) 1])) = s7 := a7
 have nn4 : s4.next = y + 2 := n4
 have nn5 : s5.next = y + 3 := n5
 have nn6 : s6.next = y + 4 := n6
 simp -implicitDefEqProofs (maxSteps := 5000000) (disch := first | assumption | omega | (simp only [dz, dl, Nat.zero_add, Nat.reduceAdd, Bool.and_self]; done) | (simp only [dl]; omega)) only [op8, go_sem, fAdd_eq, e1, e2, eq_self, hy, lit0, a3, n3, aBSl_one, a4, nn4, lit2, a5, nn5, lit3, a6, nn6, lit4, a7']
 refine loop_at (Q := fun r => Ret (retR _ (seqR (blkR 0 r) _)) _) (fun q e' t => ∃ (j : Nat) (F FO FS : List Nat), q = 4 - j ∧ j ≤ 4 ∧ Two bw t p bw bb (w.toNat + 1) bm rp [] (List.replicate w.toNat 0) (shapes0.take j) F FO FS w ∧ Lits t y ∧ Fr s t [] ∧ (∀ b ∈ p :: bw :: bb :: bm :: F, b < y ∨ y + 5 ≤ b) ∧ (∀ b ∈ rp :: (FO ++ FS), b < y ∨ y + 5 ≤ b) ∧ g0 e' = lv ∧ g7 e' = .ptr p 0 ∧ g9 e' = .ptr rp 0 ∧ g10 e' = .slice (y + 4) 0 4 (some 4) 1 ∧ g11 e' = .i j) ?_ (n := 4) (by omega) ⟨0, [], [], [], by omega, by omega, T7, hL, F7, fun b hb => .inl ?_, fun b hb => .inl ?_, (by first | trivial | rfl | assumption), (by first | trivial | rfl | assumption), (by first | trivial | rfl | assumption), (by first | trivial | rfl | assumption), (by first | trivial | rfl | assumption)⟩
 · rintro q e t ⟨j, F, FO, FS, rfl, hj, T, hLt, hf, hs1, hs2, i0, i7, i9, i10, i11⟩
   replace i0 : e.a0.a0 = _ := i0
   replace i7 : e.a0.a7 = _ := i7
   replace i9 : e.a0.a9 = _ := i9
   replace i10 : e.a0.a10 = _ := i10
   replace i11 : e.a0.a11 = _ := i11
   have hwt := hf.wf
   by_cases c : (j : Int) < 4
   · obtain ⟨v, ls, b1, b2, b3, b4, b5, b6, b7⟩ := hLt.at hwt (j := j) (by omega)
     have hyt := cl_lt hwt hLt.l
     obtain ⟨t1, t2, x, F', FS', q1, g1', q2, g2', T2, hF, hFS⟩ := T.shapeE (d + 3) b4 (fun b hb => ⟨by have := b5 b hb; omega, fun hm => by have := hs1 b hm; have := b5 b hb; omega⟩) (by omega) (by simp [shapes0]; omega) b7
     have hLt1 := hLt.fr hwt g1' (fun b hb => hs1 b (by simp at hb ⊢; rcases hb with h | h | h <;> simp [h]))
     have hLt2 := hLt1.fr g1'.wf g2' (fun b hb => hs2 b (by simp at hb ⊢; rcases hb with h | h <;> simp [h]))
     obtain ⟨v', ls', b1', b2', b3', _⟩ := hLt1.at g1'.wf (j := j) (by omega)
     have hvv : v' = v := by
      have h1 := hLt.l
      have h2 := hLt1.l
      rw [dLd_at hwt h1 (by simp [svs]; omega)] at b2
      rw [dLd_at g1'.wf h2 (by simp [svs]; omega), b2] at b2'
      cases b2'; rfl
     subst hvv
     have F2 : Fr s t2 [] := (hf.trans' g1' (fun b hb => .inr (by rw [hbw]; exact (T.dj b (by simp at hb ⊢; rcases hb with h | h | h <;> simp [h])).1))).trans' g2' (fun b hb => .inr (by rw [hbw]; exact T.dr b (by simp at hb ⊢; rcases hb with h | h <;> simp [h])))
     have htk : shapes0.take j ++ [ls] = shapes0.take (j + 1) := by rw [List.take_succ, b3]; rfl
     rw [htk] at T2
     simp -implicitDefEqProofs (maxSteps := 5000000) (disch := first | assumption | omega | (simp only [dz, dl, Nat.zero_add, Nat.reduceAdd, Bool.and_self]; done) | (simp only [dl]; omega)) only [go_sem, fAdd_eq, i0, i7, i9, i10, i11, c, hl4, b1, b2, q1, b2', q2]
     refine ⟨4 - (j + 1), by omega, j + 1, F', FO, FS', rfl, by omega, T2, hLt2, F2, fun b hb => ?_, fun b hb => ?_, (by first | trivial | rfl | assumption), (by first | trivial | rfl | assumption), (by first | trivial | rfl | assumption), (by first | trivial | rfl | assumption), (by first | trivial | rfl | assumption)⟩
     · simp only [List.mem_cons] at hb
       rcases hb with h | h | h | h | h
       · exact hs1 b (by simp [h])
       · exact hs1 b (by simp [h])
       · exact hs1 b (by simp [h])
       · exact hs1 b (by simp [h])
       · rcases hF b h with h | h
         · exact hs1 b (by simp [h])
         · exact .inr (by omega)
     · simp only [List.mem_cons, List.mem_append] at hb
       rcases hb with h | h | h
       · exact hs2 b (by simp [h])
       · exact hs2 b (by simp [h])
       · rcases hFS b h with h | h
         · exact hs2 b (by simp [h])
         · exact .inr (by omega)
   · have : j = 4 := by omega
     subst this
     have T' : Two s.next t p bw bb (w.toNat + 1) bm rp [] (List.replicate w.toNat 0) shapes0 F FO FS w := by rw [hbw]; exact T
     simp -implicitDefEqProofs (maxSteps := 5000000) (disch := first | assumption | omega | (simp only [dz, dl, Nat.zero_add, Nat.reduceAdd, Bool.and_self]; done) | (simp only [dl]; omega)) only [go_sem, fAdd_eq, i0, i7, i9, i10, i11, c, hl4]
     exact build_objs hA (by rw [hbw]; exact hok) hw (by rw [hbw]; exact hlb) T' hf d (by first | trivial | rfl | assumption) (by first | trivial | rfl | assumption) (by first | trivial | rfl | assumption)
 · simp only [List.mem_cons, List.not_mem_nil, or_false] at hb
   omega
 · simp only [List.mem_cons, List.not_mem_nil, or_false, List.append_nil] at hb
   omega
end
end Go.Proofs.YtgkcpceppmppfaaLab
namespace Go.Proofs.YtgkcpceppmppfaaLab
open Go
set_option linter.all false
set_option maxRecDepth 10000
noncomputable section
def rootV (refs : List Int) (x : Int) : Int := if x < 0 ∨ refs.length = 0 then 0 else (refs[(x.tmod (refs.length : Nat)).toNat]?).getD 0
def rootsL (l refs : List Int) : List Int := (l.take 12).map (rootV refs)
theorem rootV_at {refs : List Int} {x : Int} (h : ¬(x < 0 ∨ refs.length = 0)) : ∃ ix y : Nat, ∃ z, x.tmod (refs.length : Nat) = (ix : Nat) ∧ refs[ix]? = some z ∧ rootV refs x = z := by
 have h0 : 0 ≤ x := by omega
 have hl : 0 < refs.length := by omega
 obtain ⟨ix, hix⟩ : ∃ ix : Nat, x.tmod (refs.length : Nat) = ix := ⟨(x.tmod (refs.length : Nat)).toNat, by have := Int.tmod_nonneg (refs.length : Int) h0; omega⟩
 have hlt := Int.tmod_lt_of_pos x (show (0 : Int) < (refs.length : Nat) by omega)
 rw [hix] at hlt
 refine ⟨ix, 0, _, hix, List.getElem?_eq_getElem (by omega), ?_⟩
 unfold rootV
 rw [if_neg h, hix, Int.toNat_natCast, List.getElem?_eq_getElem (by omega)]; rfl
theorem rootsL_ok (os : List O) (l : List Int) : RootOk os (rootsL l (starts 1 os)) := fun r hr => by
 obtain ⟨x, _, rfl⟩ := List.mem_map.1 hr
 by_cases h : x < 0 ∨ (starts 1 os).length = 0
 · exact .inl (by unfold rootV; rw [if_pos h])
 · obtain ⟨ix, _, z, _, hz, e⟩ := rootV_at h
   rw [e]
   exact .inr (refs_root os z (List.mem_of_getElem? hz))
theorem rootsL_len (l refs : List Int) : (rootsL l refs).length ≤ 12 := by simp [rootsL]; omega
theorem roots_eq {s : St} (hw : Wf s) {rv fv : V} {l refs : List Int} (hr : SL s rv (l.map .i)) (hf : SL s fv (refs.map .i)) (hfl : refs.length ≤ 100000) (d : Nat) : Ret ((K (d + 1)).call 9 [rv, fv] s) fun v t => GL t v ((rootsL l refs).map .i) ∧ Fr s t [] ∧ ∀ b ∈ blkV v, s.next ≤ b := by
 have h1 := hr.len
 have h2 := hf.len
 rw [List.length_map] at h1 h2
 have h12 : (l.take 12).length = min 12 l.length := by simp
 simp -implicitDefEqProofs (maxSteps := 5000000) (disch := first | assumption | omega | (simp only [dz, dl, Nat.zero_add, Nat.reduceAdd, Bool.and_self]; done) | (simp only [dl]; omega)) only [op9, go_sem, fAdd_eq, h1]
 refine loop_at (Q := fun r => Ret (retR _ (seqR (blkR 0 r) _)) _) (fun q e t => ∃ (j : Nat) (v : V), q = (l.take 12).length - j ∧ j ≤ (l.take 12).length ∧ Fr s t [] ∧ GL t v ((((l.take 12).take j).map (rootV refs)).map .i) ∧ (∀ b ∈ blkV v, s.next ≤ b) ∧ g0 e = rv ∧ g1 e = fv ∧ g5 e = v ∧ g6 e = .i j) ?_ (n := (l.take 12).length) (by omega) ⟨0, .nils, by omega, by omega, Fr.refl hw _, .inl ⟨rfl, rfl⟩, by simp [blkV], (by first | trivial | rfl | assumption), (by first | trivial | rfl | assumption), (by first | trivial | rfl | assumption), (by first | trivial | rfl | assumption)⟩
 rintro q e t ⟨j, v, rfl, hj, ft, hg, hb, i0, i1, i5, i6⟩
 replace i0 : e.a0.a0 = _ := i0
 replace i1 : e.a0.a1 = _ := i1
 replace i5 : e.a0.a5 = _ := i5
 replace i6 : e.a0.a6 = _ := i6
 have hwt := ft.wf
 have fin : j = (l.take 12).length → GL t v ((rootsL l refs).map .i) := fun h => by
  rw [h, List.take_length] at hg; exact hg
 by_cases cl : (j : Int) < ((l.length : Nat) : Int)
 · by_cases c12 : (j : Int) < 12
   · obtain ⟨x, hx⟩ : ∃ x, (l.take 12)[j]? = some x := ⟨_, List.getElem?_eq_getElem (by omega)⟩
     have hxl : l[j]? = some x := by
      rw [List.getElem?_take] at hx
      split at hx
      · exact hx
      · cases hx
     obtain ⟨q, a1, a2⟩ := (hr.fr hw ft (by simp)).at hwt (j := j) (x := .i x) (by rw [List.getElem?_map, hxl]; rfl)
     have hts := take_snoc hx
     have hjl : (((l.take 12).take j).map (rootV refs)).length = j := by simp; omega
     have hnx := ft.nx
     have next : ∀ y, y = rootV refs x → ∃ s1 s2, t.new (.cells 1 (ofL [V.i y])) = s1 ∧ apP 1 v (.slice t.next 0 1 (some 1) 1) s1 = some (.slice (t.next + 1) 0 ((((l.take 12).take j).map (rootV refs)).length + 1) none 1, s2) ∧ ∃ m, m < (l.take 12).length - j ∧ ∃ (j' : Nat) (v' : V), m = (l.take 12).length - j' ∧ j' ≤ (l.take 12).length ∧ Fr s s2 [] ∧ GL s2 v' ((((l.take 12).take j').map (rootV refs)).map .i) ∧ (∀ b ∈ blkV v', s.next ≤ b) ∧ j' = j + 1 ∧ v' = .slice (t.next + 1) 0 ((((l.take 12).take j).map (rootV refs)).length + 1) none 1 := fun y hy => by
      obtain ⟨s1, s2, p1, p2, hg2, f2, n2⟩ := hg.push hwt (x := .i y) rfl (fun z hz => by obtain ⟨a, _, rfl⟩ := List.mem_map.1 hz; rfl) (by rw [List.length_map, hjl]; omega)
      rw [List.length_map] at p2 hg2
      refine ⟨s1, s2, p1, p2, (l.take 12).length - (j + 1), by omega, j + 1, _, rfl, by omega, ft.trans' f2 (fun b hb' => .inr (hb b hb')), ?_, fun b hb' => ?_, rfl, rfl⟩
      · rw [hts, List.map_append, List.map_append, List.map_cons, List.map_nil, List.map_cons, List.map_nil, ← hy]; exact hg2
      · simp [blkV] at hb'; omega
     by_cases c0 : x < 0
     · obtain ⟨s1, s2, p1, p2, m, m1, j', v', m2, m3, m4, m5, m6, rfl, rfl⟩ := next 0 (by unfold rootV; rw [if_pos (.inl c0)])
       simp -implicitDefEqProofs (maxSteps := 5000000) (disch := first | assumption | omega | (simp only [dz, dl, Nat.zero_add, Nat.reduceAdd, Bool.and_self]; done) | (simp only [dl]; omega)) only [go_sem, fAdd_eq, i0, i1, i5, i6, h1, cl, c12, a1, a2, c0, p1, p2]
       exact ⟨m, m1, j + 1, _, m2, m3, m4, m5, m6, (by first | trivial | rfl | assumption), (by first | trivial | rfl | assumption), rfl, (by first | trivial | rfl | assumption)⟩
     · by_cases cr : refs.length = 0
       · obtain ⟨s1, s2, p1, p2, m, m1, j', v', m2, m3, m4, m5, m6, rfl, rfl⟩ := next 0 (by unfold rootV; rw [if_pos (.inr cr)])
         have h2' : uLenS fv = some (.i 0) := by rw [h2, cr]; rfl
         simp -implicitDefEqProofs (maxSteps := 5000000) (disch := first | assumption | omega | (simp only [dz, dl, Nat.zero_add, Nat.reduceAdd, Bool.and_self]; done) | (simp only [dl]; omega)) only [go_sem, fAdd_eq, i0, i1, i5, i6, h1, cl, c12, a1, a2, c0, h2', eq_self, p1, p2]
         exact ⟨m, m1, j + 1, _, m2, m3, m4, m5, m6, (by first | trivial | rfl | assumption), (by first | trivial | rfl | assumption), rfl, (by first | trivial | rfl | assumption)⟩
       · obtain ⟨ix, _, y, hix, hy, hv⟩ := rootV_at (refs := refs) (x := x) (by simp [c0, cr])
         obtain ⟨qy, y1, y2⟩ := (hf.fr hw ft (by simp)).at hwt (j := ix) (x := .i y) (by rw [List.getElem?_map, hy]; rfl)
         obtain ⟨s1, s2, p1, p2, m, m1, j', v', m2, m3, m4, m5, m6, rfl, rfl⟩ := next y hv.symm
         have cne : ¬ ((refs.length : Nat) : Int) = 0 := by omega
         simp -implicitDefEqProofs (maxSteps := 5000000) (disch := first | assumption | omega | (simp only [dz, dl, Nat.zero_add, Nat.reduceAdd, Bool.and_self]; done) | (simp only [dl]; omega)) only [go_sem, fAdd_eq, i0, i1, i5, i6, h1, cl, c12, a1, a2, c0, h2, cne, hix, y1, y2, p1, p2]
         exact ⟨m, m1, j + 1, _, m2, m3, m4, m5, m6, (by first | trivial | rfl | assumption), (by first | trivial | rfl | assumption), rfl, (by first | trivial | rfl | assumption)⟩
   · simp -implicitDefEqProofs (maxSteps := 5000000) (disch := first | assumption | omega | (simp only [dz, dl, Nat.zero_add, Nat.reduceAdd, Bool.and_self]; done) | (simp only [dl]; omega)) only [go_sem, fAdd_eq, i0, i1, i5, i6, h1, cl, c12]
     exact ⟨fin (by omega), ft, hb⟩
 · simp -implicitDefEqProofs (maxSteps := 5000000) (disch := first | assumption | omega | (simp only [dz, dl, Nat.zero_add, Nat.reduceAdd, Bool.and_self]; done) | (simp only [dl]; omega)) only [go_sem, fAdd_eq, i0, i1, i5, i6, h1, cl]
   exact ⟨fin (by omega), ft, hb⟩
end
end Go.Proofs.YtgkcpceppmppfaaLab
namespace Go.Proofs.YtgkcpceppmppfaaLab
open Go
set_option linter.all false
set_option maxRecDepth 10000
noncomputable section
end
end Go.Proofs.YtgkcpceppmppfaaLab
namespace Go.Proofs.YtgkcpceppmppfaaLab
open Go
set_option linter.all false
set_option maxRecDepth 10000
noncomputable section
theorem reach_kept {os : List O} {shapes : List (List Bool)} {roots keep : List Int} (hRf : RefOk os shapes) (hr : RootOk os roots) (hp : keep.Pairwise (· < ·)) (hm : ∀ x, x ∈ keep ↔ Reach os shapes roots x) : Kept os keep ∧ Clo os shapes keep keep := by
 refine ⟨⟨fun r hr' => ((hm r).1 hr').isSome hRf hr, hp⟩, fun r hr' o ho k x hx hb => ?_⟩
 by_cases h0 : x = 0
 · exact .inl h0
 · exact .inr ((hm x).2 (.step ((hm r).1 hr') ho hx hb h0))
section
variable {s : St} {p bw bb n bm : Nat} {os : List O} {z : List Int} {shapes : List (List Bool)} {F : List Nat} (H : HS s p bw bb n os z shapes bm F)
include H
end
end
end Go.Proofs.YtgkcpceppmppfaaLab
namespace Go.Proofs.YtgkcpceppmppfaaLab
open Go
set_option linter.all false
set_option maxRecDepth 10000
noncomputable section
theorem wordsL_lay {os : List O} : ∀ {l : List Int}, (∀ r ∈ l, (at? os r).isSome) → wordsL os l = (lay (objs os l)).length
 | [], _ => rfl
 | x :: l, h => by
   have ih := wordsL_lay (l := l) fun r hr => h r (by simp [hr])
   have hx := h x (by simp)
   obtain ⟨o, ho⟩ := Option.isSome_iff_exists.1 hx
   have hob : objs os (x :: l) = o :: objs os l := by simp [objs, ho]
   rw [hob]
   show _ = (o.ws ++ lay (objs os l)).length
   rw [List.length_append, O.ws_len, ← ih]
   have hl : lenO os x = (o.f.length : Nat) := by unfold lenO; rw [ho]
   simp [wordsL, hl, O.n]
section
variable {t : St} {p bw bb n bm rp : Nat} {os : List O} {z : List Int} {shapes : List (List Bool)} {F FO FS : List Nat} {w : Int} (H : HS t p bw bb n os z shapes bm F) (R : RR t rp w os shapes FO FS)
include H R
end
end
end Go.Proofs.YtgkcpceppmppfaaLab
namespace Go.Proofs.YtgkcpceppmppfaaLab
open Go
set_option linter.all false
set_option maxRecDepth 10000
noncomputable section
section
variable {s : St} {p bw bb n bm : Nat} {os : List O} {z : List Int} {shapes : List (List Bool)} {F : List Nat} (H : HS s p bw bb n os z shapes bm F)
include H
theorem HS.mark10 (hRf : RefOk os shapes) {v : V} {roots : List Int} (hk : SL s v (roots.map .i)) (hl : roots.length ≤ 17592186044416) (d : Nat) : Ret ((K (d + 8)).call 10 [.ptr p 0, v] s) fun r t =>
 (¬ RootOk os roots → r = .tup [.nils, .i 1] ∧ Fr s t []) ∧
 (RootOk os roots → ∃ (x : V) (l : List Int), r = .tup [x, .i 0] ∧ GL t x (l.map .i) ∧ Fr s t [] ∧ (∀ b ∈ blkV x, s.next ≤ b) ∧ l.Pairwise (· < ·) ∧ ∀ y, y ∈ l ↔ Reach os shapes roots y) := by
 obtain ⟨r, t, e1, q1, q2⟩ := H.marked hRf hk hl d
 by_cases hr : RootOk os roots
 · obtain ⟨m, mb, met, steps, rfl, M, hn, hm, _, hlm⟩ := q2 hr
   have h64 := met64 H (s0 := s) hRf hr hm
   obtain ⟨t2, e2, g2', f2⟩ := M.all hn h64 (by omega) (d + 6)
   refine ⟨.tup [.slice t.next 0 met.length none 1, .i 0], t2, ?_, fun h => absurd hr h, fun _ => ⟨_, srtI met, rfl, g2', M.f.trans f2, fun b hb => ?_, srtI_lt hn, fun y => ?_⟩⟩
   · rw [op10]
     simp -implicitDefEqProofs (maxSteps := 5000000) (disch := first | assumption | omega | (simp only [dz, dl, Nat.zero_add, Nat.reduceAdd, Bool.and_self]; done) | (simp only [dl]; omega)) only [go_sem, e1, e2]
   · simp [blkV] at hb; subst hb; exact M.f.nx
   · rw [(srtI_perm met).mem_iff]; exact hm y
 · obtain ⟨rfl, f⟩ := q1 hr
   refine ⟨.tup [.nils, .i 1], t, ?_, fun _ => ⟨rfl, f⟩, fun h => absurd h hr⟩
   rw [op10]
   simp -implicitDefEqProofs (maxSteps := 5000000) (disch := first | assumption | omega | (simp only [dz, dl, Nat.zero_add, Nat.reduceAdd, Bool.and_self]; done) | (simp only [dl]; omega)) only [go_sem, e1]
theorem HS.size12 (hRf : RefOk os shapes) {v : V} {roots : List Int} (hk : SL s v (roots.map .i)) (hl : roots.length ≤ 17592186044416) (hr : RootOk os roots) {l : List Int} (hp : l.Pairwise (· < ·)) (hm' : ∀ y, y ∈ l ↔ Reach os shapes roots y) (d : Nat) : Ret ((K (d + 8)).call 12 [.ptr p 0, v] s) fun r t => r = .tup [.i (wordsL os l : Nat), .i 0] ∧ Fr s t [] := by
 obtain ⟨r, t, e1, _, q2⟩ := H.marked hRf hk hl d
 obtain ⟨m, mb, met, steps, rfl, M, hn, hm, _, hlm⟩ := q2 hr
 have h64 := met64 H (s0 := s) hRf hr hm
 have Ht := H.fr M.f (by simp) (by simp) (by simp) (by simp) (by simp)
 have e2 := M.words Ht hn h64 (by omega) (d + 6)
 have he : srtI met = l := rising_eq (srtI_lt hn) hp fun y => by rw [(srtI_perm met).mem_iff, hm, hm']
 have hw : wordsL os met = wordsL os l := by rw [← he]; exact wordsL_perm (srtI_perm met).symm
 rw [hw] at e2
 refine ⟨_, t, ?_, rfl, M.f⟩
 rw [op12]
 simp -implicitDefEqProofs (maxSteps := 5000000) (disch := first | assumption | omega | (simp only [dz, dl, Nat.zero_add, Nat.reduceAdd, Bool.and_self]; done) | (simp only [dl]; omega)) only [go_sem, e1, e2]
end
end
end Go.Proofs.YtgkcpceppmppfaaLab
namespace Go.Proofs.YtgkcpceppmppfaaLab
open Go Go.WideShapes Go.ChangeShapes
set_option linter.all false
set_option maxRecDepth 10000
noncomputable section
section
variable {H : Type} {enc : TypeId × Value → H} {W : World} {base b0 : Nat} {r : Go.Reach} {held : Bool}
theorem cells3 : Try.prog.cellsOf 3 = 1 := by kernel_rfl
theorem cells23 : Try.prog.cellsOf 23 = 1 := by kernel_rfl
theorem cells60 : Try.prog.cellsOf 60 = 3 := by kernel_rfl
theorem one_int3 {n : Nat} {u : Value} {y : DataW H × List MemPlace} (h : DataW.trod enc Try.prog W base (fun _ => true) held n 3 [u] = some y) : ∃ z : Int, u = .int .i64 z ∧ -9223372036854775808 ≤ z ∧ z < 9223372036854775808 := by
 obtain ⟨z, h1, _, h3⟩ := DataW.trod_int Try.underlying3 h
 cases h1
 exact ⟨z, rfl, ok_i64 h3⟩
def IsI (z : V) : Prop := ∃ n : Int, z = .i n ∧ -9223372036854775808 ≤ n ∧ n < 9223372036854775808
theorem el_int : ∀ n u y k', DataW.trod enc Try.prog W base (fun _ => true) held n 3 [u] = some y → (∃ l, impG W k' = some l) → ∃ z, imp W 1 k' u = some z ∧ IsI z := fun n u y k' h _ => by
 obtain ⟨z, rfl, h1⟩ := one_int3 h
 exact ⟨.i z, rfl, z, rfl, h1⟩
theorem ints_of : ∀ {l : List V}, (∀ z ∈ l, IsI z) → ∃ l' : List Int, l = l'.map V.i ∧ ∀ x ∈ l', -9223372036854775808 ≤ x ∧ x < 9223372036854775808
 | [], _ => ⟨[], rfl, by simp⟩
 | z :: l, h => by
   obtain ⟨n, rfl, hn⟩ := h z (by simp)
   obtain ⟨l', rfl, hl⟩ := ints_of (l := l) fun y hy => h y (by simp [hy])
   exact ⟨n :: l', rfl, fun x hx => by
    rcases List.mem_cons.1 hx with rfl | hx
    · exact hn
    · exact hl x hx⟩
theorem one_ints {n k : Nat} {u : Value} {y : DataW H × List MemPlace} (h : DataW.trod enc Try.prog W base (fun _ => true) held n 23 [u] = some y) (hk : ∃ l, impG W k = some l) : ∃ z, imp W 1 k u = some z ∧ ∃ l : List Int, SN (impS W 1) z (l.map .i) ∧ (∀ b ∈ blkV z, b < W.heap.size) ∧ ∀ x ∈ l, -9223372036854775808 ≤ x ∧ x < 9223372036854775808 := by
 obtain ⟨x, zs, h1, h2, h3, h4⟩ := in_slice1 Try.underlying23 cells3 hk _ el_int h
 obtain ⟨l, rfl, hl⟩ := ints_of h3
 exact ⟨x, h1, l, h2, h4, hl⟩
theorem one_node {n k : Nat} {cs : List Value} {y : DataW H × List MemPlace} (hl : cs.length = 3) (h : DataW.trod enc Try.prog W base (fun _ => true) held n 60 cs = some y) (hk : ∃ l, impG W k = some l) :
 ∃ a : Nd, NdOk (impS W 1) W.heap.size a ∧ ∀ (j : Nat) (u : Value), cs[j]? = some u → ∃ z, imp W 1 k u = some z ∧ a.cells[j]? = some z := by
 obtain ⟨xs, m, _, _, _, hxl, hf⟩ := DataW.trod_struct Try.underlying60 h
 match cs, hl with
 | [c0, c1, c2], _ =>
   have f0 : DataW.trod enc Try.prog W base (fun _ => true) held m 3 (([c0, c1, c2].drop 0).take (Try.prog.cellsOf 3)) = xs[0]? := hf 0 _ rfl
   rw [cells3] at f0
   replace f0 : DataW.trod enc Try.prog W base (fun _ => true) held m 3 [c0] = xs[0]? := f0
   have f1 : DataW.trod enc Try.prog W base (fun _ => true) held m 3 (([c0, c1, c2].drop 1).take (Try.prog.cellsOf 3)) = xs[1]? := hf 1 _ rfl
   rw [cells3] at f1
   replace f1 : DataW.trod enc Try.prog W base (fun _ => true) held m 3 [c1] = xs[1]? := f1
   have f2 : DataW.trod enc Try.prog W base (fun _ => true) held m 23 (([c0, c1, c2].drop 2).take (Try.prog.cellsOf 23)) = xs[2]? := hf 2 _ rfl
   rw [cells23] at f2
   replace f2 : DataW.trod enc Try.prog W base (fun _ => true) held m 23 [c2] = xs[2]? := f2
   have hxl : xs.length = 3 := hxl
   rw [List.getElem?_eq_getElem (by omega)] at f0 f1 f2
   obtain ⟨z0, rfl, b0⟩ := one_int3 f0
   obtain ⟨z1, rfl, b1⟩ := one_int3 f1
   obtain ⟨z2, e2, l2, s2, k2, w2⟩ := one_ints f2 hk
   refine ⟨⟨z0, z1, z2, l2⟩, ⟨s2.sl, k2, w2⟩, fun j u hj => ?_⟩
   match j with
   | 0 => simp at hj; subst hj; exact ⟨_, rfl, rfl⟩
   | 1 => simp at hj; subst hj; exact ⟨_, rfl, rfl⟩
   | 2 => simp at hj; subst hj; exact ⟨_, e2, rfl⟩
   | j + 3 => simp at hj
theorem arg_nodes {v : Value} {d : DataW H} {ps : List MemPlace} (hval : Value.okWide Try.prog W r b0 22 v) (h : DataW.Trod enc Try.prog W base (fun _ => true) held 22 v d ps) :
 ∃ (x : V) (l : List Nd), VR (impG W) x v ∧ NA (impS W 1) x l ∧ (∀ b ∈ blkV x, b < W.heap.size) ∧ ∀ a ∈ l, NdOk (impS W 1) W.heap.size a := by
 obtain ⟨fuel, hf⟩ := h
 obtain ⟨a, len, cap, rfl⟩ := okWide_slice Try.underlying22 hval
 have hf : DataW.trod enc Try.prog W base (fun _ => true) held fuel 22 [.slice a len cap] = some (d, ps) := hf
 rcases slice_elems Try.underlying22 cells60 hf with h0 | ⟨a', len', cap', h1, hl, hm, hcell⟩
 · cases h0
   exact ⟨.nils, [], .nils, .inl ⟨rfl, .inl rfl⟩, by simp [blkV], by simp⟩
 · cases h1
   obtain ⟨hsp, _, c, el, fz, hblk⟩ := ok_slice_blk Try.underlying22 hval
   have hg : impG W a'.block = some ⟨a'.block, 0, c.size⟩ := by unfold impG; rw [hblk]
   have hlt : a'.block < W.heap.size := (Array.getElem?_eq_some_iff.1 hblk).1
   obtain ⟨ab, ao, asp⟩ := a'
   simp only at hsp hblk hg hlt
   subst hsp
   have each : ∀ i, i < cap → ∃ a : Nd, NdOk (impS W 1) W.heap.size a ∧ ∀ j, j < 3 → ∃ u z, c[ao + i * 3 + j]? = some u ∧ imp W 1 ab u = some z ∧ a.cells[j]? = some z := fun i hi => by
    obtain ⟨cs, y, n', q1, q2, q3⟩ := hcell i hi
    obtain ⟨a, ha, hj⟩ := one_node (k := ab) q1 q3 ⟨_, hg⟩
    refine ⟨a, ha, fun j hj7 => ?_⟩
    have hc := q2 j hj7
    have hu : cs[j]? = some cs[j] := List.getElem?_eq_getElem (by omega)
    rw [hu] at hc
    obtain ⟨z, z1, z2⟩ := hj j _ hu
    rw [add_at] at hc
    unfold World.cell? at hc
    simp only [hblk] at hc
    exact ⟨cs[j], z, by rw [Nat.add_assoc]; simpa using hc, z1, z2⟩
   have htot : cap = 0 ∨ ao + cap * 3 ≤ c.size := by
    by_cases h0 : cap = 0
    · exact .inl h0
    · obtain ⟨a, _, hj⟩ := each (cap - 1) (by omega)
      obtain ⟨u, z, hu, _⟩ := hj 2 (by omega)
      have := (Array.getElem?_eq_some_iff.1 hu).1
      exact .inr (by omega)
   have hch : ∃ g : Nat → Nd, ∀ i, i < cap → NdOk (impS W 1) W.heap.size (g i) ∧ ∀ j, j < 3 → ∃ u z, c[ao + i * 3 + j]? = some u ∧ imp W 1 ab u = some z ∧ (g i).cells[j]? = some z := by
    refine ⟨fun i => if h : i < cap then (each i h).choose else ⟨0, 0, .nils, []⟩, fun i hi => ?_⟩
    simp only [dif_pos hi]
    exact (each i hi).choose_spec
   obtain ⟨g, hgs⟩ := hch
   refine ⟨.slice ab ao len none 3, (List.range len).map g, .slice _ _ _ _ _ _ ⟨ab, 0, c.size⟩ _ hg hl (fun k h => by cases h) (.inr (by simp)) (by simpa using htot), ?_, fun b hb => by simp [blkV] at hb; subst hb; exact hlt, fun a ha => ?_⟩
   · by_cases h0 : len = 0
     · subst h0; exact .inl ⟨by simp, .inr ⟨_, _, _, rfl⟩⟩
     · refine .inr ⟨ab, ao, none, _, _, by simp, impS_rd hblk, by simp; omega, fun i a hi j hj => ?_⟩
       have hil := (List.getElem?_eq_some_iff.1 hi).1
       simp at hil
       simp [hil] at hi
       subst hi
       obtain ⟨_, h2⟩ := hgs i (by omega)
       obtain ⟨u, z, u1, u2, u3⟩ := h2 j hj
       simp only [u1, u2, u3]
   · obtain ⟨i, hi, rfl⟩ := List.mem_map.1 ha
     simp at hi
     exact (hgs i (by omega)).1
end
end
end Go.Proofs.YtgkcpceppmppfaaLab
namespace Go.Proofs.YtgkcpceppmppfaaLab
open Go
set_option linter.all false
set_option maxRecDepth 10000
noncomputable section
theorem wordsL_snoc (os : List O) (l : List Int) (x : Int) : wordsL os (l ++ [x]) = wordsL os l + (3 + (lenO os x).toNat) := by simp [wordsL]
theorem wordsL_take (os : List O) (l : List Int) (j : Nat) : wordsL os (l.take j) ≤ wordsL os l := by
 have : wordsL os l = wordsL os (l.take j) + wordsL os (l.drop j) := by
  conv => lhs; rw [← List.take_append_drop j l]
  simp only [wordsL, List.map_append, List.sum_append]
 omega
theorem collectMarks_run {s : St} (hw : Wf s) {v0 v1 v2 : V} {l : List Nd} {rl raw : List Int} (hA : NA s v0 l) (hok : ∀ a ∈ l, NdOk s s.next a) (hlb : ∀ b ∈ blkV v0, b < s.next) (hr : SL s v1 (rl.map .i)) (hraw : SL s v2 (raw.map .i)) (hrw : raw.length ≤ 17592186044416) (d : Nat) : Ret ((K (d + 10)).call 3 [v0, v1, v2] s) fun v t => v = .bool true := by
 obtain ⟨r1, t1, e1, p, rp, bw, bb, n, bm, z, F, FO, FS, rv, rfl, T, hg, f1, _⟩ := build_eq hA hok hw hlb (w := 400) (by omega) (by omega) (d + 3)
 generalize bld 400 l = os at *
 have hw1 := f1.wf
 have hlay := T.h.lay_le
 have hos := lay_len3 os
 obtain ⟨xv, t2, e2, g2', f2, _⟩ := roots_eq hw1 (hr.fr hw f1 (by simp)) (hg.sl hw1) (by rw [starts_len]; omega) (d + 8)
 have hX := rootsL_ok os rl
 have hXl := rootsL_len rl (starts 1 os)
 generalize rootsL rl (starts 1 os) = X at *
 have T2 := T.fr f2
 have hRf := T.rf
 have x2 := g2'.sl f2.wf
 have w2 := (hraw.fr hw f1 (by simp)).fr hw1 f2 (by simp)
 obtain ⟨r3, t3, e3, _, q3⟩ := T2.h.mark10 hRf x2 (by omega) (d + 1)
 obtain ⟨av, la, rfl, ga, f3, hab, hpa, hma⟩ := q3 hX
 have T3 := T2.fr f3
 have x3 := x2.fr f2.wf f3 (by simp)
 obtain ⟨r4, t4, e4, _, q4⟩ := T3.r.mark T3.h.ok hRf x3 (by omega) (d + 6)
 obtain ⟨bv, lb, rfl, gb, f4, hbb, hpb, hmb⟩ := q4 hX
 obtain rfl : la = lb := rising_eq hpa hpb fun y => by rw [hma, hmb]
 have T4 := T3.fr f4
 have x4 := x3.fr f3.wf f4 (by simp)
 obtain ⟨r5, t5, e5, rfl, f5⟩ := T4.h.size12 hRf x4 (by omega) hX hpa hma (d + 1)
 have T5 := T4.fr f5
 have a5 := ((ga.sl f3.wf).fr f3.wf f4 (by simp)).fr f4.wf f5 (by simp)
 have b5 := (gb.sl f4.wf).fr f4.wf f5 (by simp)
 have w5 := ((w2.fr f2.wf f3 (by simp)).fr f3.wf f4 (by simp)).fr f4.wf f5 (by simp)
 obtain ⟨hK, _⟩ := reach_kept hRf hX hpa hma
 have hwl : wordsL os la ≤ (lay os).length := by rw [wordsL_lay hK.inn]; exact hK.fits
 have hbl := b5.len
 rw [List.length_map] at hbl
 have hll : la.length ≤ (lay os).length := by
  have h1 := objs_len hK.inn
  have h2 := hK.fits
  have h3 := lay_len3 (objs os la)
  omega
 simp -implicitDefEqProofs (maxSteps := 5000000) (disch := first | assumption | omega | (simp only [dz, dl, Nat.zero_add, Nat.reduceAdd, Bool.and_self]; done) | (simp only [dl]; omega)) only [op3, go_sem, fAdd_eq, e1, bNil_ptr, e2, e3, e4, e5]
 refine loop_at (Q := fun r => Ret (retR _ (seqR (blkR 0 r) _)) _) (fun q e t => ∃ j : Nat, q = la.length - j ∧ j ≤ la.length ∧ t = t5 ∧ g2 e = v2 ∧ g7 e = .ptr p 0 ∧ g8 e = .ptr rp 0 ∧ g11 e = av ∧ g12 e = .i 0 ∧ g13 e = bv ∧ g14 e = .bool true ∧ g15 e = .i (wordsL os la : Nat) ∧ g16 e = .i 0 ∧ g17 e = .i (wordsL os (la.take j) : Nat) ∧ g18 e = .i j) ?_ (n := la.length) (by omega) ⟨0, by omega, by omega, rfl, (by first | trivial | rfl | assumption), (by first | trivial | rfl | assumption), (by first | trivial | rfl | assumption), (by first | trivial | rfl | assumption), (by first | trivial | rfl | assumption), (by first | trivial | rfl | assumption), (by first | trivial | rfl | assumption), (by first | trivial | rfl | assumption), (by first | trivial | rfl | assumption), (by first | trivial | rfl | assumption), (by first | trivial | rfl | assumption)⟩
 rintro q e t ⟨j, rfl, hj, rfl, i2, i7, i8, i11, i12, i13, i14, i15, i16, i17, i18⟩
 replace i2 : e.a0.a2 = _ := i2
 replace i7 : e.a0.a7 = _ := i7
 replace i8 : e.a0.a8 = _ := i8
 replace i11 : e.a0.a11 = _ := i11
 replace i12 : e.a0.a12 = _ := i12
 replace i13 : e.a0.a13 = _ := i13
 replace i14 : e.a0.a14 = _ := i14
 replace i15 : e.a0.a15 = _ := i15
 replace i16 : e.a1.a0 = _ := i16
 replace i17 : e.a1.a1 = _ := i17
 replace i18 : e.a1.a2 = _ := i18
 have hwt := f5.wf
 by_cases c : (j : Int) < ((la.length : Nat) : Int)
 · obtain ⟨x, hx⟩ : ∃ x, la[j]? = some x := ⟨_, List.getElem?_eq_getElem (by omega)⟩
   obtain ⟨qq, k1, k2⟩ := b5.at hwt (j := j) (x := .i x) (by rw [List.getElem?_map, hx]; rfl)
   have el := T5.r.len (d + 7) x
   have hts := take_snoc hx
   have hsn := wordsL_snoc os (la.take j) x
   rw [← hts] at hsn
   have htk := wordsL_take os la (j + 1)
   have hl0 : 0 ≤ lenO os x := by unfold lenO; split <;> omega
   have es : ((wordsL os (la.take j) : Nat) : Int) + 3 + lenO os x = (wordsL os (la.take (j + 1)) : Nat) := by omega
   simp -implicitDefEqProofs (maxSteps := 5000000) (disch := first | assumption | omega | (simp only [dz, dl, Nat.zero_add, Nat.reduceAdd, Bool.and_self]; done) | (simp only [dl]; omega)) only [go_sem, fAdd_eq, i2, i7, i8, i11, i12, i13, i14, i15, i16, i17, i18, hbl, c, k1, k2, el, es]
   exact ⟨la.length - (j + 1), by omega, j + 1, rfl, by omega, (by first | trivial | rfl | assumption), (by first | trivial | rfl | assumption), (by first | trivial | rfl | assumption), (by first | trivial | rfl | assumption), (by first | trivial | rfl | assumption), (by first | trivial | rfl | assumption), (by first | trivial | rfl | assumption), (by first | trivial | rfl | assumption), (by first | trivial | rfl | assumption), (by first | trivial | rfl | assumption), (by first | trivial | rfl | assumption), (by first | trivial | rfl | assumption)⟩
 · have hjl : j = la.length := by omega
   subst hjl
   rw [List.take_length] at i17
   obtain ⟨r6, t6, e6, n6, q6⟩ := T5.h.mark10 hRf w5 hrw (d + 1)
   by_cases ho : RootOk os raw
   · obtain ⟨cv, lc, rfl, gc, f6, _, hpc, hmc⟩ := q6 ho
     have T6 := T5.fr f6
     have w6 := w5.fr hwt f6 (by simp)
     obtain ⟨r7, t7, e7, _, q7⟩ := T6.r.mark T6.h.ok hRf w6 hrw (d + 6)
     obtain ⟨dv, ld, rfl, gd, f7, _, hpd, hmd⟩ := q7 ho
     obtain rfl : lc = ld := rising_eq hpc hpd fun y => by rw [hmc, hmd]
     obtain ⟨hK2, _⟩ := reach_kept hRf ho hpc hmc
     have hlc : lc.length ≤ (lay os).length := by
      have h1 := objs_len hK2.inn
      have h2 := hK2.fits
      have h3 := lay_len3 (objs os lc)
      omega
     have eab := same_int f7.wf ((a5.fr hwt f6 (by simp)).fr f6.wf f7 (by simp)) ((b5.fr hwt f6 (by simp)).fr f6.wf f7 (by simp)) (by omega) (by omega) (d + 8)
     have ecd := same_int f7.wf ((gc.sl f6.wf).fr f6.wf f7 (by simp)) (gd.sl f7.wf) (by omega) (by omega) (d + 8)
     rw [decide_eq_true rfl] at eab ecd
     have ek := op15 (d + 8) t7
     simp -implicitDefEqProofs (maxSteps := 5000000) (disch := first | assumption | omega | (simp only [dz, dl, Nat.zero_add, Nat.reduceAdd, Bool.and_self]; done) | (simp only [dl]; omega)) only [go_sem, fAdd_eq, p3_33.eq_1, i2, i7, i8, i11, i12, i13, i14, i15, i16, i17, i18, hbl, c, e6, e7, eab, ecd, eq_self, ek]
   · obtain ⟨rfl, f6⟩ := n6 ho
     have T6 := T5.fr f6
     have w6 := w5.fr hwt f6 (by simp)
     obtain ⟨r7, t7, e7, n7, _⟩ := T6.r.mark T6.h.ok hRf w6 hrw (d + 6)
     obtain ⟨rfl, f7⟩ := n7 ho
     have eab := same_int f7.wf ((a5.fr hwt f6 (by simp)).fr f6.wf f7 (by simp)) ((b5.fr hwt f6 (by simp)).fr f6.wf f7 (by simp)) (by omega) (by omega) (d + 8)
     have ecd := same_int (s := t7) (v1 := .nils) (v2 := .nils) (l1 := []) (l2 := []) f7.wf (.inl ⟨rfl, .inl rfl⟩) (.inl ⟨rfl, .inl rfl⟩) (by simp) (by simp) (d + 8)
     rw [decide_eq_true rfl] at eab ecd
     have ek := op15 (d + 8) t7
     simp -implicitDefEqProofs (maxSteps := 5000000) (disch := first | assumption | omega | (simp only [dz, dl, Nat.zero_add, Nat.reduceAdd, Bool.and_self]; done) | (simp only [dl]; omega)) only [go_sem, fAdd_eq, p3_33.eq_1, i2, i7, i8, i11, i12, i13, i14, i15, i16, i17, i18, hbl, c, e6, e7, eab, ecd, eq_self, ek]
theorem collectMarks_walk {W : World} {v0 v1 v2 : Value} {x0 x1 x2 : V} {l0 : List Nd} {l1 l2 : List Int} (vr0 : VR (impG W) x0 v0) (na : NA (impS W 1) x0 l0) (bk0 : ∀ b ∈ blkV x0, b < W.heap.size) (ok : ∀ a ∈ l0, NdOk (impS W 1) W.heap.size a) (vr1 : VR (impG W) x1 v1) (sl1 : SL (impS W 1) x1 (l1.map V.i)) (vr2 : VR (impG W) x2 v2) (sl2 : SL (impS W 1) x2 (l2.map V.i)) (hl2 : l2.length ≤ 17592186044416) :
 Calls Try.prog 3 #[v0, v1, v2] W (fun e w' => e = .returned (.bool true) ∧ RowKit.Below W.heap.size W w') := by
 exact law_ro (fuel := 1152921504606846976) (n := 10) tblOk ((collectMarks_run (impS_wf W 1) na ok bk0 sl1 sl2 hl2 0).mono fun v s' h => h) (.cons _ _ _ _ vr0 (.cons _ _ _ _ vr1 (.cons _ _ _ _ vr2 .nil)))
end
end Go.Proofs.YtgkcpceppmppfaaLab
namespace Go.Proofs.YtgkcpceppmppfaaLab
open Go Go.WideShapes Go.ChangeShapes
set_option linter.all false
noncomputable section
theorem len_of {G : Pl} {s : St} {x : V} {l : List V} {a : Option Addr} {len cap : Nat} (vr : VR G x (.slice a len cap)) (sl : SL s x l) : l.length = len := by
 rcases sl with ⟨rfl, rfl | ⟨b, o, c, rfl⟩⟩ | ⟨b, o, c, n, g, rfl, _⟩
 · cases vr; rfl
 · obtain ⟨_, a', c', hax, _⟩ := vr.slice_inv
   cases hax; rfl
 · obtain ⟨_, a', c', hax, _⟩ := vr.slice_inv
   cases hax; rfl
theorem weigh_ints {H : Type} {enc : TypeId × Value → H} {P : Program} {W : World} {base : Nat} {spare : Nat → Bool} {held : Bool} {t e : TypeId} {a : Option Addr} {len cap : Nat} {d : DataW H} {ps : List MemPlace} {ts : List TypeId} {ds : List (DataW H)} {j : Nat}
 (hw : (DataW.weightsEach P ts ds).all (· ≤ reachBytes) = true) (ht : ts[j]? = some t) (hd : ds[j]? = some d) (hu : P.underlying t = some (.slice e)) (he : P.underlying e = some (.int .i64)) (hc : P.cellsOf e = 1) (hB : P.bytesOf e = 8)
 (h : DataW.Trod enc P W base spare held t (.slice a len cap) d ps) : len * 8 ≤ 140737488351232 := by
 obtain ⟨fuel, hf⟩ := h
 rcases open_ints hu he hc hf with ⟨hcs, _⟩ | ⟨x, l, c, zs, hcs, _, hl, _, hz, hx, _, _⟩
 · simp [Value.cells] at hcs
   obtain ⟨rfl, rfl, rfl⟩ := hcs
   simp
 · simp [Value.cells] at hcs
   obtain ⟨rfl, rfl, rfl⟩ := hcs
   obtain ⟨hx, _⟩ := Prod.mk.inj hx
   subst hx
   have z := sized_slice hw ht hd hu
   rw [hB] at z
   have hn : len ≤ zs.length := by
    rw [hz]; split
    · exact hl
    · exact Nat.le_refl _
   have hs : (lits (H := H) .i64 (zs.take len)).length + (lits (H := H) .i64 (zs.drop len)).length = zs.length := by
    simp [lits]; omega
   rw [hs] at z
   exact Nat.le_trans (Nat.mul_le_mul_right _ hn) z
end
end Go.Proofs.YtgkcpceppmppfaaLab
