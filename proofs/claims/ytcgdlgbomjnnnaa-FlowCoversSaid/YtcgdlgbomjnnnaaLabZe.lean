/- The lab: a function of one number, text or struct, by closed runs at some arguments, as one step of ours. No condition on the program. Pruned. -/
import Derived.Test.YtcgdlgbomjnnnaaLm5
namespace Go.Proofs.YtcgdlgbomjnnnaaLab
open Go
set_option linter.all false
noncomputable section
theorem SR.wider {G : Pl} {s : St} {w w' : World} (hs : SR G s w) (hw : RowKit.Below w.heap.size w w') : SR G s w' ∧ fH G s w G s w' := by
 refine ⟨⟨⟨fun b o hb => ?_, hs.r.inj⟩, hs.fresh, fun b l hb => ?_⟩, ⟨⟨Pl.le_refl G, hw.os, hw.tape, hw.output, hw.size, fun m k' hk' => .inl hk', fun k' hk' _ => hw.block k' hk', ?_⟩, Nat.le_refl _, fun _ _ h => h⟩⟩
 · exact (hs.r.ob b o hb).other (Pl.le_refl G) (fun m hm _ => hw.block _ (hs.dom b m hm).2)
 · have := hs.dom b l hb; have := hw.size; omega
 · exact Rows.of hw.block
def rq : V → Bool | .bool _ | .i _ | .int _ _ | .str _ => true | _ => false
def xD : List V → Bool | [] => true | v :: l => and (rq v) (xD l)
def Rp : V → Bool | .agg l => xD l | v => rq v
theorem ou {G G' : Pl} {v : V} {v' : Value} (h : rq v = true) (hv : VR G v v') : VR G' v v' := by
 cases hv <;> first | (cases h; done) | constructor
theorem ua {G G' : Pl} : ∀ {l : List V} {l' : List Value}, xD l = true → dV G l l' → dV G' l l'
 | [], _, _, .nil => .nil
 | v :: l, _, h, .cons _ _ _ _ hx hl => by
   have h : and (rq v) (xD l) = true := h
   rw [Bool.and_eq_true] at h
   exact .cons _ _ _ _ (ou h.1 hx) (ua h.2 hl)
theorem B_ {G G' : Pl} {v : V} {v' : Value} (h : Rp v = true) (hv : VR G v v') : VR G' v v' := by
 cases hv with
 | agg l l' hl => exact .agg _ _ (ua h hl)
 | undef v => cases h
 | bool b => exact .bool b
 | i n => exact .i n
 | int k n => exact .int k n
 | str s => exact .str s
 | rem m t n hn => cases h
 | jB => cases h
 | ptr b o l hl => cases h
 | ax => cases h
 | slice b o len es c cap l a h1 h2 h3 h4 h5 => cases h
 | lu => cases h
 | map b l hl => cases h
 | func f x y x' y' hx hy => cases h
 | qv => cases h
 | iface t v v' hv => cases h
 | qz => cases h
 | bz l l' hl => cases h
theorem MZ {P : Program} {dM : T aY} (ht : T.qH (aI P []) dM) {fuel n f : Nat} {args : List V} {args' : List Value} {v : V} {s' : St} (hv : rq v = true) (hr : (kc dM fuel n).call f args s0 = some (v, s')) (hargs : dV (fun _ => none) args args') (w : World) :
 Calls P f ⟨args'⟩ w (fun e w' => (∃ v', e = .returned v' ∧ VR (fun _ => none) v v') ∧ RowKit.Below w.heap.size w w') := by
 have hs : SR (fun _ => none) s0 w := ⟨⟨(fun b o hb => by cases hb), (fun b b' o o' l l' hb => by cases hb)⟩, (fun b _ => rfl), (fun b l hb => by cases hb)⟩
 refine (sX ht fuel n f args s0 _ _ hr _ w args' (fun g hg => by cases hg) hargs hs).mono ?_
 intro e w' he
 match e, he with
 | .returned v', ⟨G', g1, g2, g3⟩ =>
   refine ⟨⟨v', rfl, ou hv g3⟩, g1.go.os, g1.go.tape, g1.go.output, g1.go.size, fun k hk => g1.go.same k hk ?_⟩
   rintro ⟨b, o, l, hb, _⟩
   cases hb
def iF (look : V → Option V) : aY := ⟨[Ut 0], fun _ e s => match look (Gt 0 e) with | some v => .au (Ut 0 e v) s | none => .bad, aM [rT (Gt 0)]⟩
theorem FQ {look : V → Option V} {k : KC} {args : List V} {s s' : St} {v : V} (h : bD (iF look) k args s = some (v, s')) : ∃ x, args = [x] ∧ look x = some v ∧ s' = s := by
 unfold bD iF at h
 simp only at h
 split at h
 · rename_i e he
   match args, he with
   | [x], he =>
     cases he
     rw [iN 0 0 (by omega) (by omega), if_pos rfl] at h
     refine ⟨x, rfl, ?_⟩
     cases hg : look x with
     | none => rw [hg] at h; cases h
     | some v1 =>
       rw [hg] at h
       simp only [aM, rT] at h
       rw [iN 0 0 (by omega) (by omega), if_pos rfl] at h
       cases h
       exact ⟨rfl, rfl⟩
 · cases h
theorem fE {look : V → Option V} {dM : T aY} {fuel n f : Nat} {s : St} {x v : V} (h : dM.get f = some (iF look)) (hv : look x = some v) : (kc dM fuel (n + 1)).call f [x] s = some (v, s) := by
 show (match dM.get f with | some F => bD F (kc dM fuel n) [x] s | none => none) = _
 rw [h]
 show (match (match look (Gt 0 (Ut 0 e0 x)) with | some v => aB.au (Ut 0 (Ut 0 e0 x) v) s | none => .bad) with
  | .au e' s' => (match aM [rT (Gt 0)] e' s' with | some v => some (v, s') | none => none)
  | .ret e' s' => (match aM [rT (Gt 0)] e' s' with | some v => some (v, s') | none => none)
  | _ => none) = _
 rw [iN 0 0 (by omega) (by omega), if_pos rfl, hv]
 simp only [aM, rT]
 rw [iN 0 0 (by omega) (by omega), if_pos rfl]
theorem aI.of1 {P : Program} {gl : List Nat} {f : Nat} {look : V → Option V} {dM : T aY} (ht : T.qH (aI P []) dM) {fuel n : Nat} (hC : ∀ x v, look x = some v → Rp x = true ∧ rq v = true ∧ ∃ s', (kc dM fuel n).call f [x] s0 = some (v, s')) : aI P gl f (iF look) := by
 intro k hk args s v s' hr G w args' hgl hargs hs
 obtain ⟨x, rfl, hx, rfl⟩ := FQ hr
 obtain ⟨h1, h2, t, h3⟩ := hC x v hx
 cases hargs with
 | cons _ x' _ l' hx' hl =>
   cases hl
   refine (MZ ht h2 h3 (.cons _ _ _ _ (B_ h1 hx') .nil) w).mono ?_
   rintro e w' ⟨⟨v', rfl, hv⟩, hw⟩
   obtain ⟨q1, q2⟩ := hs.wider hw
   exact ⟨G, q2, q1, ou h2 hv⟩
/-! Tables -/
def fO (lo hi : Int) (g : Int → V) (x : V) : Option V := match x with | .i n => Bool.casesOn (motive := fun _ => Option V) (and (nQ lo n) (ux n hi)) none (some (g n)) | _ => none
theorem ig {lo hi n : Int} {g : Int → V} (h1 : lo ≤ n) (h2 : n < hi) : fO lo hi g (.i n) = some (g n) := by
 show Bool.casesOn (motive := fun _ => Option V) (and (nQ lo n) (ux n hi)) none (some (g n)) = _
 rw [fR, iu, decide_eq_true h1, decide_eq_true h2]; rfl
theorem m4 {lo hi : Int} {g : Int → V} {x v : V} (h : fO lo hi g x = some v) : ∃ n, x = .i n ∧ lo ≤ n ∧ n < hi ∧ v = g n := by
 unfold fO at h
 split at h
 · rename_i n
   cases hc : and (nQ lo n) (ux n hi) with
   | false => rw [hc] at h; cases h
   | true =>
     rw [hc] at h; cases h
     rw [Bool.and_eq_true, fR, iu, decide_eq_true_eq, decide_eq_true_eq] at hc
     exact ⟨n, rfl, hc.1, hc.2, rfl⟩
 · cases h
def Mt (b : Bool) (r : Option (V × St)) : Bool := match r with | some (.bool c, _) => Bool.casesOn (motive := fun _ => Bool) b (not c) c | _ => false
def o_ (n : Int) (r : Option (V × St)) : Bool := match r with | some (.i m, _) => jU m n | _ => false
theorem EO {b : Bool} {r : Option (V × St)} (h : Mt b r = true) : ∃ s', r = some (.bool b, s') := by
 unfold Mt at h
 split at h
 · rename_i c s'; refine ⟨s', ?_⟩; cases b <;> cases c <;> first | rfl | cases h
 · cases h
theorem Bd {n : Int} {r : Option (V × St)} (h : o_ n r = true) : ∃ s', r = some (.i n, s') := by
 unfold o_ at h
 split at h
 · rename_i m s'
   rw [eD] at h
   have : m = n := by simpa using h
   exact ⟨s', by rw [this]⟩
 · cases h
def fX (p : Int → Bool) : Nat → Bool | 0 => true | n + 1 => Bool.casesOn (motive := fun _ => Bool) (p (.ofNat n)) false (fX p n)
theorem cX {p : Int → Bool} : ∀ {n : Nat}, fX p n = true → ∀ i : Int, 0 ≤ i → i < n → p i = true
 | 0, _, i, h0, h1 => by omega
 | n + 1, h, i, h0, h1 => by
   have h : Bool.casesOn (motive := fun _ => Bool) (p (.ofNat n)) false (fX p n) = true := h
   cases hp : p (.ofNat n) with
   | false => rw [hp] at h; cases h
   | true =>
     rw [hp] at h
     by_cases e : i = (n : Nat)
     · subst e; exact hp
     · exact cX (n := n) h i h0 (by omega)
theorem aI.YW {P : Program} {gl : List Nat} {f : Nat} {g : Int → Bool} {dM : T aY} (ht : T.qH (aI P []) dM) {fuel n m : Nat} (h : fX (fun i => Mt (g i) ((kc dM fuel n).call f [.i i] s0)) m = true) : aI P gl f (iF (fO 0 m fun i => .bool (g i))) :=
 aI.of1 ht fun x v hv => by
  obtain ⟨i, rfl, h1, h2, rfl⟩ := m4 hv
  exact ⟨rfl, rfl, EO (cX h i h1 h2)⟩
theorem aI.ofI {P : Program} {gl : List Nat} {f : Nat} {g : Int → Int} {dM : T aY} (ht : T.qH (aI P []) dM) {fuel n m : Nat} (h : fX (fun i => o_ (g i) ((kc dM fuel n).call f [.i i] s0)) m = true) : aI P gl f (iF (fO 0 m fun i => .i (g i))) :=
 aI.of1 ht fun x v hv => by
  obtain ⟨i, rfl, h1, h2, rfl⟩ := m4 hv
  exact ⟨rfl, rfl, Bd (cX h i h1 h2)⟩
structure e_ where
 k : Int
 n : Int
 a : List Nat
 b : List Nat
 c : List Nat
def e_.v (x : e_) : V := .agg [.i x.k, .int .i32 x.n, .str x.a, .str x.b, .str x.c]
def e_.is (x y : e_) : Bool := and (jU x.k y.k) (and (jU x.n y.n) (and (iK x.a y.a) (and (iK x.b y.b) (iK x.c y.c))))
theorem e_.Yr {x y : e_} (h : x.is y = true) : x = y := by
 cases x; cases y
 simp only [e_.is, Bool.and_eq_true, eD, pg, beq_iff_eq, decide_eq_true_eq] at h
 obtain ⟨h1, h2, h3, h4, h5⟩ := h
 simp_all
theorem e_.MR (x : e_) : x.is x = true := by
 simp [e_.is, eD, pg]
def vm (x : e_) : List e_ → Bool | [] => false | y :: l => Bool.casesOn (motive := fun _ => Bool) (x.is y) (vm x l) true
theorem bH {x : e_} : ∀ {l : List e_}, vm x l = true ↔ x ∈ l
 | [] => by simp [vm]
 | y :: l => by
   show Bool.casesOn (motive := fun _ => Bool) (x.is y) (vm x l) true = true ↔ _
   cases hq : x.is y with
   | true => exact ⟨fun _ => by rw [e_.Yr hq]; simp, fun _ => rfl⟩
   | false =>
     refine ⟨fun h => List.mem_cons_of_mem _ (bH.1 h), fun h => ?_⟩
     rcases List.mem_cons.1 h with rfl | h
     · rw [e_.MR] at hq; cases hq
     · exact bH.2 h
def uB (l : List e_) (x : V) : Option V := match x with
 | .agg [.i k, .int .i32 n, .str a, .str b, .str c] => Bool.casesOn (motive := fun _ => Option V) (vm ⟨k, n, a, b, c⟩ l) none (some (.bool true))
 | _ => none
theorem GY {l : List e_} {x : e_} (h : x ∈ l) : uB l x.v = some (.bool true) := by
 show Bool.casesOn (motive := fun _ => Option V) (vm x l) none (some (.bool true)) = _
 rw [bH.2 h]
theorem aI.ofC {P : Program} {gl : List Nat} {f : Nat} {l : List e_} {dM : T aY} (ht : T.qH (aI P []) dM) {fuel n : Nat} (h : l.all (fun x => Mt true ((kc dM fuel n).call f [x.v] s0)) = true) : aI P gl f (iF (uB l)) :=
 aI.of1 ht fun x v hv => by
  unfold uB at hv
  split at hv
  · rename_i k n a b c
    cases hm : vm ⟨k, n, a, b, c⟩ l with
    | false => rw [hm] at hv; cases hv
    | true =>
      rw [hm] at hv; cases hv
      exact ⟨rfl, rfl, EO (List.all_eq_true.1 h _ (bH.1 hm))⟩
  · cases hv
end
end Go.Proofs.YtcgdlgbomjnnnaaLab
