/- The lab: slices of slices and texts; lengths; the lesser and the greater; structs and arrays put together. No condition on the program. -/
import Derived.Test.YtjipdnfaokdkbaaLab5
namespace Go.Proofs.YtjipdnfaokdkbaaLab
open Go
set_option linter.unusedVariables false
noncomputable section

/-! ### Bounds of slices -/
/-- A bound that stands there. -/
def bnd (x : V) : Option Nat := match asN x with | some n => Bool.casesOn (motive := fun _ => Option Nat) (leI 0 n) none (some n.toNat) | none => none
def bndO (d : Nat) : Option V → Option Nat | none => some d | some x => bnd x
theorem bnd_run {P : Program} {w : World} {G : Pl} {x : V} {x' : Value} {n y : Nat} {c : BoundsCode} (h : bnd x = some n) (hx : VR G x x') (hn : n ≤ y) : (Instr.sliceBound x' y c).run P w = .ok n w := by
  unfold bnd at h
  split at h
  · rename_i m h1
    cases e : leI 0 m with
    | false => rw [e] at h; cases h
    | true =>
      rw [e] at h; cases h
      rw [leI_eq] at e
      have i0 : 0 ≤ m := of_decide_eq_true e
      obtain ⟨k, rfl⟩ := asN_ok h1 hx
      have : 0 ≤ m ∧ m ≤ (y : Int) := by omega
      simp [Instr.sliceBound, asIntOf, this]
  · cases h
def evO (g : Option (E → V)) (e : E) : Option V := match g with | some g => some (g e) | none => none
def opdO (gl : List Nat) : Option Operand → Option (Option (E → V)) | none => some none | some x => (opd gl x).map some
theorem opdO_ok {nt : Nat} {gl : List Nat} {x : Option Operand} {g : Option (E → V)} (h : opdO gl x = some g) {G : Pl} {e : E} {a : Act} (he : EnvR nt gl G e a) :
    (x = none ∧ evO g e = none) ∨ ∃ y v, x = some y ∧ evO g e = some v ∧ VR G v (a.eval y) := by
  cases x with
  | none => cases h; exact .inl ⟨rfl, rfl⟩
  | some y =>
    change Option.map some (opd gl y) = some g at h
    cases h1 : opd gl y with
    | none => rw [h1] at h; cases h
    | some g' => rw [h1] at h; cases h; exact .inr ⟨y, _, rfl, rfl, opd_ok h1 he⟩

/-- The bounds of a slice expression: from, to, the room's end; as the model reckons them, by the length and the room (or the length, where the room isn't known). -/
def bnds (len top : Nat) (lo hi mx : Option V) : Option (Nat × Nat × Nat) :=
  match bndO top mx with
  | none => none
  | some m => match bndO len hi with
    | none => none
    | some h => match bndO 0 lo with
      | none => none
      | some l => Bool.casesOn (motive := fun _ => Option (Nat × Nat × Nat)) (Nat.ble m top) none (Bool.casesOn (motive := fun _ => Option (Nat × Nat × Nat)) (Nat.ble h m) none (Bool.casesOn (motive := fun _ => Option (Nat × Nat × Nat)) (Nat.ble l h) none (some (l, h, m))))
theorem bnds_inv {len top : Nat} {lo hi mx : Option V} {l h m : Nat} (hb : bnds len top lo hi mx = some (l, h, m)) : bndO top mx = some m ∧ bndO len hi = some h ∧ bndO 0 lo = some l ∧ m ≤ top ∧ h ≤ m ∧ l ≤ h := by
  unfold bnds at hb
  split at hb
  · cases hb
  · rename_i m' h1
    split at hb
    · cases hb
    · rename_i h' h2
      split at hb
      · cases hb
      · rename_i l' h3
        rw [nble_eq, nble_eq, nble_eq] at hb
        by_cases a1 : m' ≤ top
        · by_cases a2 : h' ≤ m'
          · by_cases a3 : l' ≤ h'
            · simp only [a1, a2, a3, decide_true] at hb
              cases hb
              exact ⟨h1, h2, h3, a1, a2, a3⟩
            · simp only [a1, a2, a3, decide_true, decide_false] at hb; cases hb
          · simp only [a1, a2, decide_true, decide_false] at hb; cases hb
        · simp only [a1, decide_false] at hb; cases hb

/-- Where the model's room is 'cap' and ours 'top' is that, or less without a bound of its own. -/
theorem bnds_run {P : Program} {w : World} {G : Pl} {sl : Bool} {len top cap : Nat} {lo hi mx : Option V} {lo' hi' mx' : Option Value} {l h m : Nat} (hb : bnds len top lo hi mx = some (l, h, m)) (htop : top ≤ cap)
    (hlo : (lo = none ∧ lo' = none) ∨ ∃ u u', lo = some u ∧ lo' = some u' ∧ VR G u u') (hhi : (hi = none ∧ hi' = none) ∨ ∃ u u', hi = some u ∧ hi' = some u' ∧ VR G u u') (hmx : (mx = none ∧ mx' = none) ∨ ∃ u u', mx = some u ∧ mx' = some u' ∧ VR G u u')
    (hm : mx' = none ∨ hi' ≠ none) : ∃ cm, (Instr.sliceBounds sl len cap lo' hi' mx').run P w = .ok (l, h, cm) w ∧ (mx = none → cm = cap) ∧ (mx ≠ none → cm = m) := by
  obtain ⟨b1, b2, b3, b4, b5, b6⟩ := bnds_inv hb
  rcases hmx with ⟨rfl, rfl⟩ | ⟨u, u', rfl, rfl, hu⟩
  · refine ⟨cap, ?_, (fun _ => rfl), (fun h => absurd rfl h)⟩
    cases b1
    rcases hhi with ⟨rfl, rfl⟩ | ⟨v, v', rfl, rfl, hv⟩
    · cases b2
      rcases hlo with ⟨rfl, rfl⟩ | ⟨x, x', rfl, rfl, hx⟩
      · cases b3; simp [Instr.sliceBounds]
      · simp [Instr.sliceBounds, bnd_run b3 hx b6]
    · have b2' := bnd_run (P := P) (w := w) (y := cap) (c := if sl then .sliceAcap else .sliceAlen) b2 hv (by omega)
      rcases hlo with ⟨rfl, rfl⟩ | ⟨x, x', rfl, rfl, hx⟩
      · cases b3; simp [Instr.sliceBounds, b2']
      · simp [Instr.sliceBounds, b2', bnd_run b3 hx b6]
  · refine ⟨m, ?_, (fun h => by cases h), fun _ => rfl⟩
    have b1' := bnd_run (P := P) (w := w) (y := cap) (c := if sl then .slice3Acap else .slice3Alen) b1 hu (by omega)
    rcases hhi with ⟨rfl, rfl⟩ | ⟨v, v', rfl, rfl, hv⟩
    · rcases hm with hm | hm
      · cases hm
      · exact absurd rfl hm
    · rcases hlo with ⟨rfl, rfl⟩ | ⟨x, x', rfl, rfl, hx⟩
      · cases b3; simp [Instr.sliceBounds, b1', bnd_run b2 hv b5]
      · simp [Instr.sliceBounds, b1', bnd_run b2 hv b5, bnd_run b3 hx b6]

/-- The room that is known, or else the length. -/
def topOf (len : Nat) : Option Nat → Nat | some c => c | none => len
def capOf (l m : Nat) (cap : Option Nat) : Option V → Option Nat | some _ => some (Nat.sub m l) | none => match cap with | some c => some (Nat.sub c l) | none => none
/-- A slice of a slice. -/
def slV (es : Nat) (x : V) (lo hi mx : Option V) : Option V := match x with
  | .slice b o len cap es' => Bool.casesOn (motive := fun _ => Option V) (Nat.beq es' es) none
      (match bnds len (topOf len cap) lo hi mx with
       | some (l, h, m) => some (.slice b (Nat.add o (Nat.mul l es)) (Nat.sub h l) (capOf l m cap mx) es)
       | none => none)
  | .nils => match bnds 0 0 lo hi mx with | some _ => some .nils | none => none
  | _ => none
def pSl (es : Nat) (g : E → V) (lo hi mx : Option (E → V)) (e : E) : Option V := slV es (g e) (evO lo e) (evO hi e) (evO mx e)
/-- A piece of a text. -/
def slS (x : V) (lo hi : Option V) : Option V := match x with
  | .str s => match bnds s.length s.length lo hi none with | some (l, h, _) => some (.str ((s.drop l).take (Nat.sub h l))) | none => none
  | _ => none
def pSlS (g : E → V) (lo hi : Option (E → V)) (e : E) : Option V := slS (g e) (evO lo e) (evO hi e)

section
variable {P : Program} {tt : TT} (H : TOk P tt) {nt : Nat} {gl : List Nat} {o : Oper} {x y : Operand} {g h : E → V}
theorem opdO_pair {nt : Nat} {gl : List Nat} {x : Option Operand} {g : Option (E → V)} (h : opdO gl x = some g) {G : Pl} {e : E} {a : Act} (he : EnvR nt gl G e a) :
    (evO g e = none ∧ x.map a.eval = none) ∨ ∃ u u', evO g e = some u ∧ x.map a.eval = some u' ∧ VR G u u' := by
  rcases opdO_ok h he with ⟨rfl, h2⟩ | ⟨y, v, rfl, h2, h3⟩
  · exact .inl ⟨h2, rfl⟩
  · exact .inr ⟨v, _, h2, rfl, h3⟩
include H in
theorem pSl_ok {t el es : Nat} {lo hi mx : Option Operand} {glo ghi gmx : Option (E → V)} (ho : o.op = .slice t x lo hi mx) (ht : tt.ud t = some (.slice el)) (hz : tt.sz el = some es) (hmx : mx = none ∨ hi ≠ none)
    (hg : opd gl x = some g) (h1 : opdO gl lo = some glo) (h2 : opdO gl hi = some ghi) (h3 : opdO gl mx = some gmx) : OPs P o nt gl (pSl es g glo ghi gmx) := by
  intro G e a w v hv he
  have hx := opd_ok hg he
  have k1 := opdO_pair h1 he
  have k2 := opdO_pair h2 he
  have k3 := opdO_pair h3 he
  have hm : mx.map a.eval = none ∨ hi.map a.eval ≠ none := by
    rcases hmx with rfl | hmx
    · exact .inl rfl
    · right; cases hi with
      | none => exact absurd rfl hmx
      | some y => simp
  unfold pSl slV at hv
  split at hv
  · rename_i b o' len cap es' hge
    rw [hge] at hx
    obtain ⟨l, ad, c, hx', hl, hc, hcap, ha, htot⟩ := hx.slice_inv
    cases e1 : Nat.beq es' es with
    | false => rw [e1] at hv; cases hv
    | true =>
      rw [e1] at hv
      have := Nat.eq_of_beq_eq_true e1
      subst this
      simp only at hv
      split at hv
      · rename_i lo' h' m hb
        have htop : topOf len cap ≤ c := by
          cases cap with
          | none => exact hc
          | some k => exact Nat.le_of_eq (hcap k rfl).symm
        obtain ⟨cm, hr, hc1, hc2⟩ := bnds_run (P := P) (w := w) (G := G) (sl := true) hb htop k1 k2 k3 hm
        obtain ⟨b1, b2, b3, b4, b5, b6⟩ := bnds_inv hb
        have hrun : (execOp a.eval o).run P w = .ok (.value (Value.slice (some (if cm = lo' then ad else ad.add (lo' * es'))) (h' - lo') (cm - lo'))) w := by
          simp only [execOp, ho, hx', Instr.sliceAt, Sem.run_bind, ud_run H w ht, Result.andThen_ok, Instr.slice, hr, sz_run H w hz]
          by_cases hq : cm = lo' <;> simp [hq]
        refine ⟨_, hrun, ?_⟩
        have hcm : cm ≤ c := by
          by_cases hq : evO gmx e = none
          · rw [hc1 hq]; omega
          · rw [hc2 hq]; omega
        have hml : h' ≤ cm := by
          by_cases hq : evO gmx e = none
          · rw [hc1 hq]; omega
          · rw [hc2 hq]; omega
        have hcap' : ∀ k, capOf lo' m cap (evO gmx e) = some k → cm - lo' = k := by
          intro k hk
          cases hq : evO gmx e with
          | none =>
            rw [hq] at hk
            rw [hc1 hq]
            cases cap with
            | none => cases hk
            | some k' => have := hcap k' rfl; subst this; exact Option.some.inj hk
          | some u =>
            rw [hq] at hk
            rw [hc2 (by rw [hq]; simp)]
            exact Option.some.inj hk
        cases hv
        refine .slice _ _ _ _ _ _ l _ hl (by simp only [Nat.sub_eq]; omega) hcap' ?_ ?_
        · by_cases hq : cm - lo' = 0
          · exact .inl hq
          · right
            rw [if_neg (by omega), ha.resolve_left (by omega), add_at]
            simp only [Nat.add_eq, Nat.mul_eq, Nat.add_assoc]
        · by_cases hq : cm - lo' = 0
          · exact .inl hq
          · right
            have h4 := htot.resolve_left (by omega)
            have h5 : (lo' + (cm - lo')) * es' ≤ c * es' := Nat.mul_le_mul_right _ (by omega)
            rw [Nat.add_mul] at h5
            simp only [Nat.add_eq, Nat.mul_eq]
            omega
      · cases hv
  · rename_i hge
    rw [hge] at hx
    generalize hx0 : a.eval x = x' at hx
    cases hx
    split at hv
    · rename_i p hb
      obtain ⟨lo', h', m⟩ := p
      cases hv
      obtain ⟨cm, hr, hc1, hc2⟩ := bnds_run (P := P) (w := w) (G := G) (sl := true) hb (Nat.le_refl 0) k1 k2 k3 hm
      obtain ⟨b1, b2, b3, b4, b5, b6⟩ := bnds_inv hb
      have e0 : m = 0 ∧ h' = 0 ∧ lo' = 0 := by omega
      obtain ⟨rfl, rfl, rfl⟩ := e0
      have e1 : cm = 0 := by
        by_cases hq : evO gmx e = none
        · exact hc1 hq
        · exact hc2 hq
      subst e1
      refine ⟨.slice none 0 0, ?_, .nils⟩
      simp only [execOp, ho, hx0, Instr.sliceAt, Sem.run_bind, ud_run H w ht, Result.andThen_ok, Instr.slice, hr, sz_run H w hz]
      simp
    · cases hv
  · cases hv
include H in
theorem pSlS_ok {t : Nat} {lo hi : Option Operand} {glo ghi : Option (E → V)} (ho : o.op = .slice t x lo hi none) (ht : tt.ud t = some .string)
    (hg : opd gl x = some g) (h1 : opdO gl lo = some glo) (h2 : opdO gl hi = some ghi) : OPs P o nt gl (pSlS g glo ghi) := by
  intro G e a w v hv he
  have hx := opd_ok hg he
  have k1 := opdO_pair h1 he
  have k2 := opdO_pair h2 he
  unfold pSlS slS at hv
  split at hv
  · rename_i s hge
    rw [hge] at hx
    obtain ⟨bs, hx', rfl⟩ := hx.str_inv
    split at hv
    · rename_i lo' h' m hb
      cases hv
      have hsz : (bs.data.toList.map UInt8.toNat).length = bs.size := by rw [List.length_map, Array.length_toList]; rfl
      rw [hsz] at hb
      obtain ⟨cm, hr, _, _⟩ := bnds_run (P := P) (w := w) (G := G) (sl := false) hb (Nat.le_refl _) k1 k2 (.inl ⟨rfl, rfl⟩) (.inl rfl)
      obtain ⟨b1, b2, b3, b4, b5, b6⟩ := bnds_inv hb
      refine ⟨.string (bs.extract lo' h'), ?_, VR.str_of ?_⟩
      · simp only [execOp, ho, hx', Instr.sliceAt, Sem.run_bind, ud_run H w ht, Result.andThen_ok, Instr.slice, Option.map_none]
        simp [hr]
      · rw [← List.map_drop, ← List.map_take]
        congr 1
        have hm : m ≤ bs.size := b4
        simp [ByteArray.data_extract, Array.toList_extract, List.take_drop]
    · cases hv
  · cases hv

/-! ### Lengths -/
def uLenS : V → Option V | .slice _ _ n _ _ => some (.i (Int.ofNat n)) | .nils => some (.i 0) | _ => none
def uLenT : V → Option V | .str l => some (.i (Int.ofNat l.length)) | _ => none
def uLenA (n : Nat) (_ : V) : Option V := some (.i (Int.ofNat n))
def uCap : V → Option V | .slice _ _ _ (some n) _ => some (.i (Int.ofNat n)) | .nils => some (.i 0) | _ => none
/-- A call of a builtin of one argument. -/
def isB1 (o : Oper) (b : Builtin) (t : Nat) (x : Operand) : Prop := o.op = .call { callee := .builtin b, args := #[x], argTypes := #[t] }
include H in
theorem uLenS_ok {t el : Nat} (ho : isB1 o .len t x) (ht : tt.ud t = some (.slice el)) (hg : opd gl x = some g) : OPs P o nt gl (pUn uLenS g) := by
  refine un_of hg _ (fun v => Builtin.len_ #[t] o.type #[v]) (fun a => by simp [execOp, isB1] at *; simp [ho, resolve, invoke, builtin]) ?_
  intro G u x' v w hv hx
  unfold uLenS at hv
  split at hv
  · cases hv
    obtain ⟨l, ad, c, rfl, _⟩ := hx.slice_inv
    exact ⟨_, by simp [Builtin.len_, ud_run H w ht, goInt], .i _⟩
  · cases hv; cases hx
    exact ⟨_, by simp [Builtin.len_, ud_run H w ht, goInt], .i _⟩
  · cases hv
include H in
theorem uLenT_ok {t : Nat} (ho : isB1 o .len t x) (ht : tt.ud t = some .string) (hg : opd gl x = some g) : OPs P o nt gl (pUn uLenT g) := by
  refine un_of hg _ (fun v => Builtin.len_ #[t] o.type #[v]) (fun a => by simp [execOp, isB1] at *; simp [ho, resolve, invoke, builtin]) ?_
  intro G u x' v w hv hx
  unfold uLenT at hv
  split at hv
  · cases hv
    obtain ⟨s, rfl, rfl⟩ := hx.str_inv
    refine ⟨.int .i64 s.size, by simp [Builtin.len_, ud_run H w ht, goInt], ?_⟩
    have : (s.data.toList.map UInt8.toNat).length = s.size := by rw [List.length_map, Array.length_toList]; rfl
    rw [this]; exact .i _
  · cases hv
include H in
theorem uLenA_ok {t n el : Nat} (ho : isB1 o .len t x) (ht : tt.ud t = some (.array n el)) (hg : opd gl x = some g) : OPs P o nt gl (pUn (uLenA n) g) := by
  refine un_of hg _ (fun v => Builtin.len_ #[t] o.type #[v]) (fun a => by simp [execOp, isB1] at *; simp [ho, resolve, invoke, builtin]) ?_
  intro G u x' v w hv hx
  cases hv
  exact ⟨.int .i64 n, by simp [Builtin.len_, ud_run H w ht, goInt], .i _⟩
include H in
theorem uLenAp_ok {t ar n el : Nat} (ho : isB1 o .len t x) (ht : tt.ud t = some (.pointer ar)) (ha : tt.ud ar = some (.array n el)) (hg : opd gl x = some g) : OPs P o nt gl (pUn (uLenA n) g) := by
  refine un_of hg _ (fun v => Builtin.len_ #[t] o.type #[v]) (fun a => by simp [execOp, isB1] at *; simp [ho, resolve, invoke, builtin]) ?_
  intro G u x' v w hv hx
  cases hv
  exact ⟨.int .i64 n, by simp [Builtin.len_, ud_run H w ht, ud_run H w ha, goInt], .i _⟩
include H in
theorem uCap_ok {t el : Nat} (ho : isB1 o .cap t x) (ht : tt.ud t = some (.slice el)) (hg : opd gl x = some g) : OPs P o nt gl (pUn uCap g) := by
  refine un_of hg _ (fun v => Builtin.cap_ #[t] o.type #[v]) (fun a => by simp [execOp, isB1] at *; simp [ho, resolve, invoke, builtin]) ?_
  intro G u x' v w hv hx
  unfold uCap at hv
  split at hv
  · cases hv
    obtain ⟨l, ad, c, rfl, _, _, hc, _⟩ := hx.slice_inv
    have := hc _ rfl
    subst this
    exact ⟨_, by simp [Builtin.cap_, ud_run H w ht, goInt], .i _⟩
  · cases hv; cases hx
    exact ⟨_, by simp [Builtin.cap_, ud_run H w ht, goInt], .i _⟩
  · cases hv

/-- The lesser, the greater of two numbers. -/
def mnF (k : IntKind) (a b : Int) : V := mkI k (Bool.casesOn (motive := fun _ => Int) (ltI b a) a b)
def mxF (k : IntKind) (a b : Int) : V := mkI k (Bool.casesOn (motive := fun _ => Int) (ltI a b) a b)
def isB2 (o : Oper) (b : Builtin) (t1 t2 : Nat) (x y : Operand) : Prop := o.op = .call { callee := .builtin b, args := #[x, y], argTypes := #[t1, t2] }
theorem mn_ok {t1 t2 : Nat} {k : IntKind} (ho : isB2 o .min t1 t2 x y) (hg : opd gl x = some g) (hh : opd gl y = some h) : OPs P o nt gl (pBin (b2 k (mnF k)) g h) := by
  refine bi_of hg hh _ (fun u v => Builtin.min_ #[t1, t2] o.type #[u, v]) (fun a => by simp [execOp, isB2] at *; simp [ho, resolve, invoke, builtin]) ?_
  intro G u u' x' y' v w hv hx hy
  obtain ⟨m, n, rfl, rfl, rfl⟩ := b2_ok hv hx hy
  refine ⟨.int k (if n < m then n else m), by simp [Builtin.min_, Builtin.min2], ?_⟩
  have : mnF k m n = mkI k (if n < m then n else m) := by unfold mnF; rw [ltI_eq]; by_cases hq : n < m <;> simp [hq]
  rw [this]; exact mkI_ok G k _
theorem mx_ok {t1 t2 : Nat} {k : IntKind} (ho : isB2 o .max t1 t2 x y) (hg : opd gl x = some g) (hh : opd gl y = some h) : OPs P o nt gl (pBin (b2 k (mxF k)) g h) := by
  refine bi_of hg hh _ (fun u v => Builtin.max_ #[t1, t2] o.type #[u, v]) (fun a => by simp [execOp, isB2] at *; simp [ho, resolve, invoke, builtin]) ?_
  intro G u u' x' y' v w hv hx hy
  obtain ⟨m, n, rfl, rfl, rfl⟩ := b2_ok hv hx hy
  refine ⟨.int k (if m < n then n else m), by simp [Builtin.max_, Builtin.max2], ?_⟩
  have : mxF k m n = mkI k (if m < n then n else m) := by unfold mxF; rw [ltI_eq]; by_cases hq : m < n <;> simp [hq]
  rw [this]; exact mkI_ok G k _
end
end
end Go.Proofs.YtjipdnfaokdkbaaLab
