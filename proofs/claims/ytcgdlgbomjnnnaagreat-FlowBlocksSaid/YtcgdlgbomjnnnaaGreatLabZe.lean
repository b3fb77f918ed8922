/- The lab: a function of one number, text or struct, by closed runs at some arguments, as one step of ours. No condition on the program. Pruned. -/
import Derived.Test.YtcgdlgbomjnnnaaGreatLm5
namespace Go.Proofs.YtcgdlgbomjnnnaaGreatLab
open Go
set_option linter.all false
noncomputable section
theorem SR.wider {G : Pl} {s : St} {w w' : World} (hs : SR G s w) (hw : RowKit.Below w.heap.size w w') : SR G s w' ∧ fD G s w G s w' := by
 refine ⟨⟨⟨fun b o hb => ?_, hs.r.inj⟩, hs.fresh, fun b l hb => ?_⟩, ⟨⟨Pl.le_refl G, hw.os, hw.tape, hw.output, hw.size, fun m k' hk' => .inl hk', fun k' hk' _ => hw.block k' hk', ?_⟩, Nat.le_refl _, fun _ _ h => h⟩⟩
 · exact (hs.r.ob b o hb).other (Pl.le_refl G) (fun m hm _ => hw.block _ (hs.dom b m hm).2)
 · have := hs.dom b l hb; have := hw.size; omega
 · exact Rows.of hw.block
def rX : V → Bool | .bool _ | .i _ | .int _ _ | .str _ => true | _ => false
def yu : List V → Bool | [] => true | v :: l => and (rX v) (yu l)
def Uq : V → Bool | .agg l => yu l | v => rX v
theorem qN {G G' : Pl} {v : V} {v' : Value} (h : rX v = true) (hv : VR G v v') : VR G' v v' := by
 cases hv <;> first | (cases h; done) | constructor
theorem uU {G G' : Pl} : ∀ {l : List V} {l' : List Value}, yu l = true → ew G l l' → ew G' l l'
 | [], _, _, .nil => .nil
 | v :: l, _, h, .cons _ _ _ _ hx hl => by
   have h : and (rX v) (yu l) = true := h
   rw [Bool.and_eq_true] at h
   exact .cons _ _ _ _ (qN h.1 hx) (uU h.2 hl)
theorem BW {G G' : Pl} {v : V} {v' : Value} (h : Uq v = true) (hv : VR G v v') : VR G' v v' := by
 cases hv with
 | agg l l' hl => exact .agg _ _ (uU h hl)
 | undef v => cases h
 | bool b => exact .bool b
 | i n => exact .i n
 | int k n => exact .int k n
 | str s => exact .str s
 | rem m t n hn => cases h
 | jQ => cases h
 | ptr b o l hl => cases h
 | ay => cases h
 | slice b o len es c cap l a h1 h2 h3 h4 h5 => cases h
 | lY => cases h
 | map b l hl => cases h
 | func f x y x' y' hx hy => cases h
 | rj => cases h
 | iface t v v' hv => cases h
 | rz => cases h
 | bH l l' hl => cases h
theorem PB {P : Program} {dS : T aX} (ht : T.rM (aI P []) dS) {fuel n f : Nat} {args : List V} {args' : List Value} {v : V} {s' : St} (hv : rX v = true) (hr : (kc dS fuel n).call f args s0 = some (v, s')) (hargs : ew (fun _ => none) args args') (w : World) :
 Calls P f ⟨args'⟩ w (fun e w' => (∃ v', e = .returned v' ∧ VR (fun _ => none) v v') ∧ RowKit.Below w.heap.size w w') := by
 have hs : SR (fun _ => none) s0 w := ⟨⟨(fun b o hb => by cases hb), (fun b b' o o' l l' hb => by cases hb)⟩, (fun b _ => rfl), (fun b l hb => by cases hb)⟩
 refine (sX ht fuel n f args s0 _ _ hr _ w args' (fun g hg => by cases hg) hargs hs).mono ?_
 intro e w' he
 match e, he with
 | .returned v', ⟨G', g1, g2, g3⟩ =>
   refine ⟨⟨v', rfl, qN hv g3⟩, g1.go.os, g1.go.tape, g1.go.output, g1.go.size, fun k hk => g1.go.same k hk ?_⟩
   rintro ⟨b, o, l, hb, _⟩
   cases hb
def iC (look : V → Option V) : aX := ⟨[Ut 0], fun _ e s => match look (Gt 0 e) with | some v => .au (Ut 0 e v) s | none => .bad, aL [rT (Gt 0)]⟩
theorem HO {look : V → Option V} {k : KC} {args : List V} {s s' : St} {v : V} (h : bA (iC look) k args s = some (v, s')) : ∃ x, args = [x] ∧ look x = some v ∧ s' = s := by
 unfold bA iC at h
 simp only at h
 split at h
 · rename_i e he
   match args, he with
   | [x], he =>
     cases he
     rw [iT 0 0 (by omega) (by omega), if_pos rfl] at h
     refine ⟨x, rfl, ?_⟩
     cases hg : look x with
     | none => rw [hg] at h; cases h
     | some v1 =>
       rw [hg] at h
       simp only [aL, rT] at h
       rw [iT 0 0 (by omega) (by omega), if_pos rfl] at h
       cases h
       exact ⟨rfl, rfl⟩
 · cases h
theorem gm {look : V → Option V} {dS : T aX} {fuel n f : Nat} {s : St} {x v : V} (h : dS.get f = some (iC look)) (hv : look x = some v) : (kc dS fuel (n + 1)).call f [x] s = some (v, s) := by
 show (match dS.get f with | some F => bA F (kc dS fuel n) [x] s | none => none) = _
 rw [h]
 show (match (match look (Gt 0 (Ut 0 e0 x)) with | some v => aE.au (Ut 0 (Ut 0 e0 x) v) s | none => .bad) with
  | .au e' s' => (match aL [rT (Gt 0)] e' s' with | some v => some (v, s') | none => none)
  | .ret e' s' => (match aL [rT (Gt 0)] e' s' with | some v => some (v, s') | none => none)
  | _ => none) = _
 rw [iT 0 0 (by omega) (by omega), if_pos rfl, hv]
 simp only [aL, rT]
 rw [iT 0 0 (by omega) (by omega), if_pos rfl]
theorem aI.of1 {P : Program} {gl : List Nat} {f : Nat} {look : V → Option V} {dS : T aX} (ht : T.rM (aI P []) dS) {fuel n : Nat} (hC : ∀ x v, look x = some v → Uq x = true ∧ rX v = true ∧ ∃ s', (kc dS fuel n).call f [x] s0 = some (v, s')) : aI P gl f (iC look) := by
 intro k hk args s v s' hr G w args' hgl hargs hs
 obtain ⟨x, rfl, hx, rfl⟩ := HO hr
 obtain ⟨h1, h2, t, h3⟩ := hC x v hx
 cases hargs with
 | cons _ x' _ l' hx' hl =>
   cases hl
   refine (PB ht h2 h3 (.cons _ _ _ _ (BW h1 hx') .nil) w).mono ?_
   rintro e w' ⟨⟨v', rfl, hv⟩, hw⟩
   obtain ⟨q1, q2⟩ := hs.wider hw
   exact ⟨G, q2, q1, qN h2 hv⟩
/-! Tables -/
def fN (lo hi : Int) (g : Int → V) (x : V) : Option V := match x with | .i n => Bool.casesOn (motive := fun _ => Option V) (and (oK lo n) (uu n hi)) none (some (g n)) | _ => none
theorem jv {lo hi n : Int} {g : Int → V} (h1 : lo ≤ n) (h2 : n < hi) : fN lo hi g (.i n) = some (g n) := by
 show Bool.casesOn (motive := fun _ => Option V) (and (oK lo n) (uu n hi)) none (some (g n)) = _
 rw [fL, iA, decide_eq_true h1, decide_eq_true h2]; rfl
theorem nr {lo hi : Int} {g : Int → V} {x v : V} (h : fN lo hi g x = some v) : ∃ n, x = .i n ∧ lo ≤ n ∧ n < hi ∧ v = g n := by
 unfold fN at h
 split at h
 · rename_i n
   cases hc : and (oK lo n) (uu n hi) with
   | false => rw [hc] at h; cases h
   | true =>
     rw [hc] at h; cases h
     rw [Bool.and_eq_true, fL, iA, decide_eq_true_eq, decide_eq_true_eq] at hc
     exact ⟨n, rfl, hc.1, hc.2, rfl⟩
 · cases h
def OA (b : Bool) (r : Option (V × St)) : Bool := match r with | some (.bool c, _) => Bool.casesOn (motive := fun _ => Bool) b (not c) c | _ => false
def qy (n : Int) (r : Option (V × St)) : Bool := match r with | some (.i m, _) => j7 m n | _ => false
theorem Ax {b : Bool} {r : Option (V × St)} (h : OA b r = true) : ∃ s', r = some (.bool b, s') := by
 unfold OA at h
 split at h
 · rename_i c s'; refine ⟨s', ?_⟩; cases b <;> cases c <;> first | rfl | cases h
 · cases h
theorem Hr {n : Int} {r : Option (V × St)} (h : qy n r = true) : ∃ s', r = some (.i n, s') := by
 unfold qy at h
 split at h
 · rename_i m s'
   rw [eP] at h
   have : m = n := by simpa using h
   exact ⟨s', by rw [this]⟩
 · cases h
def gn (p : Int → Bool) : Nat → Bool | 0 => true | n + 1 => Bool.casesOn (motive := fun _ => Bool) (p (.ofNat n)) false (gn p n)
theorem dc {p : Int → Bool} : ∀ {n : Nat}, gn p n = true → ∀ i : Int, 0 ≤ i → i < n → p i = true
 | 0, _, i, h0, h1 => by omega
 | n + 1, h, i, h0, h1 => by
   have h : Bool.casesOn (motive := fun _ => Bool) (p (.ofNat n)) false (gn p n) = true := h
   cases hp : p (.ofNat n) with
   | false => rw [hp] at h; cases h
   | true =>
     rw [hp] at h
     by_cases e : i = (n : Nat)
     · subst e; exact hp
     · exact dc (n := n) h i h0 (by omega)
theorem aI.ofB {P : Program} {gl : List Nat} {f : Nat} {g : Int → Bool} {dS : T aX} (ht : T.rM (aI P []) dS) {fuel n m : Nat} (h : gn (fun i => OA (g i) ((kc dS fuel n).call f [.i i] s0)) m = true) : aI P gl f (iC (fN 0 m fun i => .bool (g i))) :=
 aI.of1 ht fun x v hv => by
  obtain ⟨i, rfl, h1, h2, rfl⟩ := nr hv
  exact ⟨rfl, rfl, Ax (dc h i h1 h2)⟩
theorem aI.ofI {P : Program} {gl : List Nat} {f : Nat} {g : Int → Int} {dS : T aX} (ht : T.rM (aI P []) dS) {fuel n m : Nat} (h : gn (fun i => qy (g i) ((kc dS fuel n).call f [.i i] s0)) m = true) : aI P gl f (iC (fN 0 m fun i => .i (g i))) :=
 aI.of1 ht fun x v hv => by
  obtain ⟨i, rfl, h1, h2, rfl⟩ := nr hv
  exact ⟨rfl, rfl, Hr (dc h i h1 h2)⟩
structure fc where
 k : Int
 n : Int
 a : List Nat
 b : List Nat
 c : List Nat
def fc.v (x : fc) : V := .agg [.i x.k, .int .i32 x.n, .str x.a, .str x.b, .str x.c]
def fc.is (x y : fc) : Bool := and (j7 x.k y.k) (and (j7 x.n y.n) (and (iM x.a y.a) (and (iM x.b y.b) (iM x.c y.c))))
theorem fc.abk {x y : fc} (h : x.is y = true) : x = y := by
 cases x; cases y
 simp only [fc.is, Bool.and_eq_true, eP, pH, beq_iff_eq, decide_eq_true_eq] at h
 obtain ⟨h1, h2, h3, h4, h5⟩ := h
 simp_all
theorem fc.O2 (x : fc) : x.is x = true := by
 simp [fc.is, eP, pH]
def vV (x : fc) : List fc → Bool | [] => false | y :: l => Bool.casesOn (motive := fun _ => Bool) (x.is y) (vV x l) true
theorem bU {x : fc} : ∀ {l : List fc}, vV x l = true ↔ x ∈ l
 | [] => by simp [vV]
 | y :: l => by
   show Bool.casesOn (motive := fun _ => Bool) (x.is y) (vV x l) true = true ↔ _
   cases hq : x.is y with
   | true => exact ⟨fun _ => by rw [fc.abk hq]; simp, fun _ => rfl⟩
   | false =>
     refine ⟨fun h => List.mem_cons_of_mem _ (bU.1 h), fun h => ?_⟩
     rcases List.mem_cons.1 h with rfl | h
     · rw [fc.O2] at hq; cases hq
     · exact bU.2 h
def uI (l : List fc) (x : V) : Option V := match x with
 | .agg [.i k, .int .i32 n, .str a, .str b, .str c] => Bool.casesOn (motive := fun _ => Option V) (vV ⟨k, n, a, b, c⟩ l) none (some (.bool true))
 | _ => none
theorem KO {l : List fc} {x : fc} (h : x ∈ l) : uI l x.v = some (.bool true) := by
 show Bool.casesOn (motive := fun _ => Option V) (vV x l) none (some (.bool true)) = _
 rw [bU.2 h]
theorem aI.ofC {P : Program} {gl : List Nat} {f : Nat} {l : List fc} {dS : T aX} (ht : T.rM (aI P []) dS) {fuel n : Nat} (h : l.all (fun x => OA true ((kc dS fuel n).call f [x.v] s0)) = true) : aI P gl f (iC (uI l)) :=
 aI.of1 ht fun x v hv => by
  unfold uI at hv
  split at hv
  · rename_i k n a b c
    cases hm : vV ⟨k, n, a, b, c⟩ l with
    | false => rw [hm] at hv; cases hv
    | true =>
      rw [hm] at hv; cases hv
      exact ⟨rfl, rfl, Ax (List.all_eq_true.1 h _ (bU.1 hm))⟩
  · cases hv
end
end Go.Proofs.YtcgdlgbomjnnnaaGreatLab
