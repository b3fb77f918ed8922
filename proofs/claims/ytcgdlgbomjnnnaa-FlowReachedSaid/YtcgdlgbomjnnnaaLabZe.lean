/- The lab: a function of one number, text or struct, by closed runs at some arguments, as one step of ours. No condition on the program. Pruned. -/
import Derived.Test.YtcgdlgbomjnnnaaLm5
namespace Go.Proofs.YtcgdlgbomjnnnaaLab
open Go
set_option linter.all false
noncomputable section
theorem SR.wider {G : Pl} {s : St} {w w' : World} (hs : SR G s w) (hw : RowKit.Below w.heap.size w w') : SR G s w' ∧ GoS G s w G s w' := by
 refine ⟨⟨⟨fun b o hb => ?_, hs.r.inj⟩, hs.fresh, fun b l hb => ?_⟩, ⟨⟨Pl.le_refl G, hw.os, hw.tape, hw.output, hw.size, fun m k' hk' => .inl hk', fun k' hk' _ => hw.block k' hk', ?_⟩, Nat.le_refl _, fun _ _ h => h⟩⟩
 · exact (hs.r.ob b o hb).other (Pl.le_refl G) (fun m hm _ => hw.block _ (hs.dom b m hm).2)
 · have := hs.dom b l hb; have := hw.size; omega
 · exact Rows.of hw.block
def flat1 : V → Bool | .bool _ | .i _ | .int _ _ | .str _ => true | _ => false
def flatL : List V → Bool | [] => true | v :: l => and (flat1 v) (flatL l)
def flatV : V → Bool | .agg l => flatL l | v => flat1 v
theorem flat1_ok {G G' : Pl} {v : V} {v' : Value} (h : flat1 v = true) (hv : VR G v v') : VR G' v v' := by
 cases hv <;> first | (cases h; done) | constructor
theorem flatL_ok {G G' : Pl} : ∀ {l : List V} {l' : List Value}, flatL l = true → VRs G l l' → VRs G' l l'
 | [], _, _, .nil => .nil
 | v :: l, _, h, .cons _ _ _ _ hx hl => by
   have h : and (flat1 v) (flatL l) = true := h
   rw [Bool.and_eq_true] at h
   exact .cons _ _ _ _ (flat1_ok h.1 hx) (flatL_ok h.2 hl)
theorem flatV_ok {G G' : Pl} {v : V} {v' : Value} (h : flatV v = true) (hv : VR G v v') : VR G' v v' := by
 cases hv with
 | agg l l' hl => exact .agg _ _ (flatL_ok h hl)
 | undef v => cases h
 | bool b => exact .bool b
 | i n => exact .i n
 | int k n => exact .int k n
 | str s => exact .str s
 | rem m t n hn => cases h
 | nilp => cases h
 | ptr b o l hl => cases h
 | nils => cases h
 | slice b o len es c cap l a h1 h2 h3 h4 h5 => cases h
 | nilm => cases h
 | map b l hl => cases h
 | func f x y x' y' hx hy => cases h
 | nilf => cases h
 | iface t v v' hv => cases h
 | nili => cases h
 | tup l l' hl => cases h
theorem law_val {P : Program} {tbl : T FDen} (ht : T.All (FRun P []) tbl) {fuel n f : Nat} {args : List V} {args' : List Value} {v : V} {s' : St} (hv : flat1 v = true) (hr : (kc tbl fuel n).call f args s0 = some (v, s')) (hargs : VRs (fun _ => none) args args') (w : World) :
 Calls P f ⟨args'⟩ w (fun e w' => (∃ v', e = .returned v' ∧ VR (fun _ => none) v v') ∧ RowKit.Below w.heap.size w w') := by
 have hs : SR (fun _ => none) s0 w := ⟨⟨(fun b o hb => by cases hb), (fun b b' o o' l l' hb => by cases hb)⟩, (fun b _ => rfl), (fun b l hb => by cases hb)⟩
 refine (kc_run ht fuel n f args s0 _ _ hr _ w args' (fun g hg => by cases hg) hargs hs).mono ?_
 intro e w' he
 match e, he with
 | .returned v', ⟨G', g1, g2, g3⟩ =>
   refine ⟨⟨v', rfl, flat1_ok hv g3⟩, g1.go.os, g1.go.tape, g1.go.output, g1.go.size, fun k hk => g1.go.same k hk ?_⟩
   rintro ⟨b, o, l, hb, _⟩
   cases hb
def fOf1 (look : V → Option V) : FDen := ⟨[Ut 0], fun _ e s => match look (Gt 0 e) with | some v => .nrm (Ut 0 e v) s | none => .bad, resV [rT (Gt 0)]⟩
theorem fOf1_inv {look : V → Option V} {k : KC} {args : List V} {s s' : St} {v : V} (h : runF (fOf1 look) k args s = some (v, s')) : ∃ x, args = [x] ∧ look x = some v ∧ s' = s := by
 unfold runF fOf1 at h
 simp only at h
 split at h
 · rename_i e he
   match args, he with
   | [x], he =>
     cases he
     rw [Gt_Ut 0 0 (by omega) (by omega), if_pos rfl] at h
     refine ⟨x, rfl, ?_⟩
     cases hg : look x with
     | none => rw [hg] at h; cases h
     | some v1 =>
       rw [hg] at h
       simp only [resV, rT] at h
       rw [Gt_Ut 0 0 (by omega) (by omega), if_pos rfl] at h
       cases h
       exact ⟨rfl, rfl⟩
 · cases h
theorem fOf1_call {look : V → Option V} {tbl : T FDen} {fuel n f : Nat} {s : St} {x v : V} (h : tbl.get f = some (fOf1 look)) (hv : look x = some v) : (kc tbl fuel (n + 1)).call f [x] s = some (v, s) := by
 show (match tbl.get f with | some F => runF F (kc tbl fuel n) [x] s | none => none) = _
 rw [h]
 show (match (match look (Gt 0 (Ut 0 e0 x)) with | some v => Res.nrm (Ut 0 (Ut 0 e0 x) v) s | none => .bad) with
  | .nrm e' s' => (match resV [rT (Gt 0)] e' s' with | some v => some (v, s') | none => none)
  | .ret e' s' => (match resV [rT (Gt 0)] e' s' with | some v => some (v, s') | none => none)
  | _ => none) = _
 rw [Gt_Ut 0 0 (by omega) (by omega), if_pos rfl, hv]
 simp only [resV, rT]
 rw [Gt_Ut 0 0 (by omega) (by omega), if_pos rfl]
theorem FRun.of1 {P : Program} {gl : List Nat} {f : Nat} {look : V → Option V} {tbl : T FDen} (ht : T.All (FRun P []) tbl) {fuel n : Nat} (hC : ∀ x v, look x = some v → flatV x = true ∧ flat1 v = true ∧ ∃ s', (kc tbl fuel n).call f [x] s0 = some (v, s')) : FRun P gl f (fOf1 look) := by
 intro k hk args s v s' hr G w args' hgl hargs hs
 obtain ⟨x, rfl, hx, rfl⟩ := fOf1_inv hr
 obtain ⟨h1, h2, t, h3⟩ := hC x v hx
 cases hargs with
 | cons _ x' _ l' hx' hl =>
   cases hl
   refine (law_val ht h2 h3 (.cons _ _ _ _ (flatV_ok h1 hx') .nil) w).mono ?_
   rintro e w' ⟨⟨v', rfl, hv⟩, hw⟩
   obtain ⟨q1, q2⟩ := hs.wider hw
   exact ⟨G, q2, q1, flat1_ok h2 hv⟩
/-! Tables -/
def lookI (lo hi : Int) (g : Int → V) (x : V) : Option V := match x with | .i n => Bool.casesOn (motive := fun _ => Option V) (and (leI lo n) (ltI n hi)) none (some (g n)) | _ => none
theorem lookI_eq {lo hi n : Int} {g : Int → V} (h1 : lo ≤ n) (h2 : n < hi) : lookI lo hi g (.i n) = some (g n) := by
 show Bool.casesOn (motive := fun _ => Option V) (and (leI lo n) (ltI n hi)) none (some (g n)) = _
 rw [leI_eq, ltI_eq, decide_eq_true h1, decide_eq_true h2]; rfl
theorem lookI_inv {lo hi : Int} {g : Int → V} {x v : V} (h : lookI lo hi g x = some v) : ∃ n, x = .i n ∧ lo ≤ n ∧ n < hi ∧ v = g n := by
 unfold lookI at h
 split at h
 · rename_i n
   cases hc : and (leI lo n) (ltI n hi) with
   | false => rw [hc] at h; cases h
   | true =>
     rw [hc] at h; cases h
     rw [Bool.and_eq_true, leI_eq, ltI_eq, decide_eq_true_eq, decide_eq_true_eq] at hc
     exact ⟨n, rfl, hc.1, hc.2, rfl⟩
 · cases h
def isB (b : Bool) (r : Option (V × St)) : Bool := match r with | some (.bool c, _) => Bool.casesOn (motive := fun _ => Bool) b (not c) c | _ => false
def isI (n : Int) (r : Option (V × St)) : Bool := match r with | some (.i m, _) => eqI m n | _ => false
theorem isB_ok {b : Bool} {r : Option (V × St)} (h : isB b r = true) : ∃ s', r = some (.bool b, s') := by
 unfold isB at h
 split at h
 · rename_i c s'; refine ⟨s', ?_⟩; cases b <;> cases c <;> first | rfl | cases h
 · cases h
theorem isI_ok {n : Int} {r : Option (V × St)} (h : isI n r = true) : ∃ s', r = some (.i n, s') := by
 unfold isI at h
 split at h
 · rename_i m s'
   rw [eqI_eq] at h
   have : m = n := by simpa using h
   exact ⟨s', by rw [this]⟩
 · cases h
def allN (p : Int → Bool) : Nat → Bool | 0 => true | n + 1 => Bool.casesOn (motive := fun _ => Bool) (p (.ofNat n)) false (allN p n)
theorem allN_ok {p : Int → Bool} : ∀ {n : Nat}, allN p n = true → ∀ i : Int, 0 ≤ i → i < n → p i = true
 | 0, _, i, h0, h1 => by omega
 | n + 1, h, i, h0, h1 => by
   have h : Bool.casesOn (motive := fun _ => Bool) (p (.ofNat n)) false (allN p n) = true := h
   cases hp : p (.ofNat n) with
   | false => rw [hp] at h; cases h
   | true =>
     rw [hp] at h
     by_cases e : i = (n : Nat)
     · subst e; exact hp
     · exact allN_ok (n := n) h i h0 (by omega)
theorem FRun.ofB {P : Program} {gl : List Nat} {f : Nat} {g : Int → Bool} {tbl : T FDen} (ht : T.All (FRun P []) tbl) {fuel n m : Nat} (h : allN (fun i => isB (g i) ((kc tbl fuel n).call f [.i i] s0)) m = true) : FRun P gl f (fOf1 (lookI 0 m fun i => .bool (g i))) :=
 FRun.of1 ht fun x v hv => by
  obtain ⟨i, rfl, h1, h2, rfl⟩ := lookI_inv hv
  exact ⟨rfl, rfl, isB_ok (allN_ok h i h1 h2)⟩
theorem FRun.ofI {P : Program} {gl : List Nat} {f : Nat} {g : Int → Int} {tbl : T FDen} (ht : T.All (FRun P []) tbl) {fuel n m : Nat} (h : allN (fun i => isI (g i) ((kc tbl fuel n).call f [.i i] s0)) m = true) : FRun P gl f (fOf1 (lookI 0 m fun i => .i (g i))) :=
 FRun.of1 ht fun x v hv => by
  obtain ⟨i, rfl, h1, h2, rfl⟩ := lookI_inv hv
  exact ⟨rfl, rfl, isI_ok (allN_ok h i h1 h2)⟩
structure Cst where
 k : Int
 n : Int
 a : List Nat
 b : List Nat
 c : List Nat
def Cst.v (x : Cst) : V := .agg [.i x.k, .int .i32 x.n, .str x.a, .str x.b, .str x.c]
def Cst.is (x y : Cst) : Bool := and (eqI x.k y.k) (and (eqI x.n y.n) (and (eqL x.a y.a) (and (eqL x.b y.b) (eqL x.c y.c))))
theorem Cst.is_eq {x y : Cst} (h : x.is y = true) : x = y := by
 cases x; cases y
 simp only [Cst.is, Bool.and_eq_true, eqI_eq, eqL_eq, beq_iff_eq, decide_eq_true_eq] at h
 obtain ⟨h1, h2, h3, h4, h5⟩ := h
 simp_all
theorem Cst.is_self (x : Cst) : x.is x = true := by
 simp [Cst.is, eqI_eq, eqL_eq]
def memC (x : Cst) : List Cst → Bool | [] => false | y :: l => Bool.casesOn (motive := fun _ => Bool) (x.is y) (memC x l) true
theorem memC_iff {x : Cst} : ∀ {l : List Cst}, memC x l = true ↔ x ∈ l
 | [] => by simp [memC]
 | y :: l => by
   show Bool.casesOn (motive := fun _ => Bool) (x.is y) (memC x l) true = true ↔ _
   cases hq : x.is y with
   | true => exact ⟨fun _ => by rw [Cst.is_eq hq]; simp, fun _ => rfl⟩
   | false =>
     refine ⟨fun h => List.mem_cons_of_mem _ (memC_iff.1 h), fun h => ?_⟩
     rcases List.mem_cons.1 h with rfl | h
     · rw [Cst.is_self] at hq; cases hq
     · exact memC_iff.2 h
def lookC (l : List Cst) (x : V) : Option V := match x with
 | .agg [.i k, .int .i32 n, .str a, .str b, .str c] => Bool.casesOn (motive := fun _ => Option V) (memC ⟨k, n, a, b, c⟩ l) none (some (.bool true))
 | _ => none
theorem lookC_eq {l : List Cst} {x : Cst} (h : x ∈ l) : lookC l x.v = some (.bool true) := by
 show Bool.casesOn (motive := fun _ => Option V) (memC x l) none (some (.bool true)) = _
 rw [memC_iff.2 h]
theorem FRun.ofC {P : Program} {gl : List Nat} {f : Nat} {l : List Cst} {tbl : T FDen} (ht : T.All (FRun P []) tbl) {fuel n : Nat} (h : l.all (fun x => isB true ((kc tbl fuel n).call f [x.v] s0)) = true) : FRun P gl f (fOf1 (lookC l)) :=
 FRun.of1 ht fun x v hv => by
  unfold lookC at hv
  split at hv
  · rename_i k n a b c
    cases hm : memC ⟨k, n, a, b, c⟩ l with
    | false => rw [hm] at hv; cases hv
    | true =>
      rw [hm] at hv; cases hv
      exact ⟨rfl, rfl, isB_ok (List.all_eq_true.1 h _ (memC_iff.1 hm))⟩
  · cases hv
end
end Go.Proofs.YtcgdlgbomjnnnaaLab
