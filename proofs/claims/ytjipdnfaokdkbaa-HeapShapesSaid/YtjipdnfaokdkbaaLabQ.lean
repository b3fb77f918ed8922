/- The lab: lowering, more. No condition on the program. -/
import Derived.Test.YtjipdnfaokdkbaaLabE
namespace Go.Proofs.YtjipdnfaokdkbaaLab
open Go
set_option linter.unusedVariables false
noncomputable section

def lowNewB (tt : TT) (gl : List Nat) (b : Builtin) (args : List Operand) (ats : List Nat) : Option LO :=
  match b, args, ats with
  | .clear, [x], [t] => (match tt.ud t with
    | some (.slice el) => (match zeroOf tt el with
      | some z0 => (match cellsV z0 with | some z => if allOne z then (lowOd gl x).map (.clr z) else none | none => none)
      | none => none)
    | _ => none)
  | .append, [x, y], [t, t2] => (match tt.ud t, tt.ud t2 with
    | some (.slice el), some (.int _) => (match tt.ti el, tt.sz el, zeroOf tt el with
      | some ti, some es, some z0 => (match ti.zero, cellsV z0 with
        | some zv, some z => if zv.cells.size = es ∧ 0 < es ∧ 0 < ti.bytes ∧ allOne z = true ∧ z ≠ [] then (lowOd gl x).bind fun a => (lowOd gl y).map fun b => .apZ es ti.bytes z a b else none
        | _, _ => none)
      | _, _, _ => none)
    | _, _ => none)
  | .copy, [x, y], [t, _] => (match tt.ud t with
    | some (.slice el) => (match tt.sz el with | some es => (lowOd gl x).bind fun a => (lowOd gl y).map fun b => .cpy es a b | none => none)
    | _ => none)
  | _, _, _ => none
def T.cnt {α : Type} : T α → Nat | .nil => 0 | .node _ l r => Nat.succ (Nat.add (T.cnt l) (T.cnt r))
def lowNew (tt : TT) (gl : List Nat) (fok : T Bool) (o : Oper) : Option LO := match o.op with
  | .makeSlice t x y => (match tt.ud t with
    | some (.slice el) => (match tt.ti el, tt.sz el, zeroOf tt el with
      | some ti, some es, some z0 => (match cellsV z0 with | some z => if allOne z && (Nat.beq es 0 || !isNil z) then (lowOd gl x).bind fun a => (lowOd gl y).map fun b => .mkS es ti.bytes z a b else none | none => none)
      | _, _, _ => none)
    | _ => none)
  | .range t x => (match tt.ud t with | some (.map _ _) => (lowOd gl x).map .rng | _ => none)
  | .next x false => (lowOd gl x).map .nx
  | .entry x => (lowOd gl x).map .ent
  | .call c => (match c.callee with
    | .builtin b => lowNewB tt gl b c.args.toList c.argTypes.toList
    | .invoke x name => (lowOd gl x).bind fun a => (lowOds gl c.args.toList).map fun l => .inv (invMs tt fok name (List.range (T.cnt tt))) a l
    | _ => none)
  | .convert s d x => (match tt.ud s, tt.ud d with
    | some (.slice el), some .string => (match tt.ud el with | some (.int .u8) => (lowOd gl x).map .bstr | _ => none)
    | _, _ => none)
  | .mapEntry t x y => (match tt.ud t with
    | some (.map kt el) => (match tt.ud kt, zeroOf tt el with
      | some d, some z => (match eqK d with | some _ => (lowOd gl x).bind fun a => (lowOd gl y).map fun b => .mE d z a b | none => none)
      | _, _ => none)
    | _ => none)
  | .binOp op t x y _ => (match ckT tt t, op with
    | some ks, .eql => (lowOd gl x).bind fun a => (lowOd gl y).map fun b => .strE false ks a b
    | some ks, .neq => (lowOd gl x).bind fun a => (lowOd gl y).map fun b => .strE true ks a b
    | _, _ => none)
  | .lookup t x y ok => (match tt.ud t with
    | some (.map kt el) => (match ckT tt kt, zeroOf tt el with
      | some ks, some z => (lowOd gl x).bind fun a => (lowOd gl y).map fun b => .lkS ks z ok a b
      | _, _ => none)
    | _ => none)
  | .mapUpdate t x y z | .insert t x y z => (match tt.ud t with
    | some (.map kt _) => (match ckT tt kt with
      | some ks => (lowOd gl x).bind fun a => (lowOd gl y).bind fun b => (lowOd gl z).map fun c => .muS ks a b c
      | none => none)
    | _ => none)
  | .slice t x lo hi none => (match tt.ud t with
    | some (.array n el) => (match tt.sz el with
      | some es => (lowOd gl x).bind fun a => (lowOdO gl lo).bind fun l => (lowOdO gl hi).map fun h => .slA n es a l h
      | none => none)
    | _ => none)
  | .entryStore _ x y z => (lowOd gl x).bind fun a => (lowOd gl y).bind fun b => (lowOd gl z).map fun c => .eS a b c
  | _ => none
/-- From any operation. -/
def lowOpS (tt : TT) (gl : List Nat) (fok : T Bool) (o : Oper) : LO := match lowOp tt gl fok o with
  | some l => (match denLO fok l with | some _ => l | none => (match lowNew tt gl fok o with | some l => l | none => .stuck))
  | none => (match lowNew tt gl fok o with | some l => l | none => .stuck)

section
variable {P : Program} {tt : TT} (H : TOk P tt) {nt : Nat} {gl : List Nat} {o : Oper} {fok : T Bool} (hfok : ∀ f, fok.get f = some true → FOk P f)
theorem stuck_ok {od : OD} (hd : denLO fok .stuck = some od) : OdOk P nt gl o od := by
  cases hd
  intro G e a w v hv
  cases hv
include H in
theorem lowNewB_ok {c : Call} {b : Builtin} {l : LO} {od : OD} (ho : o.op = .call c) (hc : c.callee = .builtin b) (h : lowNewB tt gl b c.args.toList c.argTypes.toList = some l) (hd : denLO fok l = some od) : OdOk P nt gl o od := by
  obtain ⟨cal, args, ats⟩ := c
  simp only at hc h
  subst hc
  unfold lowNewB at h
  split at h
  · rename_i x t h1 h2
    have e1 : args = #[x] := by rw [← Array.toArray_toList (xs := args), h1]
    have e2 : ats = #[t] := by rw [← Array.toArray_toList (xs := ats), h2]
    subst e1; subst e2
    split at h
    · rename_i el ht
      split at h
      · rename_i z0 hz
        split at h
        · rename_i z hzc
          split at h
          · rename_i h1
            rw [Option.map_eq_some_iff] at h
            obtain ⟨a, ha, rfl⟩ := h; cases hd
            obtain ⟨ti, zv, z1, z2, z3⟩ := zeroOf_inv hz
            exact eClr_ok H ho ht z1 z2 z3 hzc h1 (lowOd_ok ha)
          · cases h
        · cases h
      · cases h
    · cases h
  · rename_i x y t t2 h1 h2
    have e1 : args = #[x, y] := by rw [← Array.toArray_toList (xs := args), h1]
    have e2 : ats = #[t, t2] := by rw [← Array.toArray_toList (xs := ats), h2]
    subst e1; subst e2
    split at h
    · rename_i el kk ht ht2
      split at h
      · rename_i ti es z0 hti hn hz
        split at h
        · rename_i zv z hzv hzc
          split at h
          · rename_i hc
            obtain ⟨c1, c2, c3, c4, c5⟩ := hc
            simp only [Option.map_eq_some_iff, Option.bind_eq_some_iff] at h
            obtain ⟨a, ha, b, hb, rfl⟩ := h; cases hd
            obtain ⟨ti', zv', z1, z2, z3⟩ := zeroOf_inv hz
            rw [hti] at z1; cases z1
            rw [hzv] at z2; cases z2
            exact aApZ_ok H ho ht ht2 hti hzv z3 hzc c4 hn c1 c2 c3 c5 (lowOd_ok ha) (lowOd_ok hb)
          · cases h
        · cases h
      · cases h
    · cases h
  · rename_i x y t t2 h1 h2
    have e1 : args = #[x, y] := by rw [← Array.toArray_toList (xs := args), h1]
    have e2 : ats = #[t, t2] := by rw [← Array.toArray_toList (xs := ats), h2]
    subst e1; subst e2
    split at h
    · rename_i el ht
      split at h
      · rename_i es hn
        simp only [Option.map_eq_some_iff, Option.bind_eq_some_iff] at h
        obtain ⟨a, ha, b, hb, rfl⟩ := h; cases hd
        exact eCp_ok H ho ht hn (lowOd_ok ha) (lowOd_ok hb)
      · cases h
    · cases h
  · cases h
include H hfok in
theorem lowNew_ok {l : LO} {od : OD} (h : lowNew tt gl fok o = some l) (hd : denLO fok l = some od) : OdOk P nt gl o od := by
  unfold lowNew at h
  split at h
  · rename_i t x y ho
    split at h
    · rename_i el ht
      split at h
      · rename_i ti es z0 hti hn hz
        split at h
        · rename_i z hzc
          split at h
          · rename_i h1
            simp only [Option.map_eq_some_iff, Option.bind_eq_some_iff] at h
            obtain ⟨a, ha, b, hb, rfl⟩ := h; cases hd
            obtain ⟨ti', zv, z1, z2, z3⟩ := zeroOf_inv hz
            rw [hti] at z1; cases z1
            rw [Bool.and_eq_true, Bool.or_eq_true] at h1
            refine aMkS_ok H ho ht hti z2 z3 hzc h1.1 hn ?_ (lowOd_ok ha) (lowOd_ok hb)
            rcases h1.2 with h2 | h2
            · exact .inl (Nat.eq_of_beq_eq_true h2)
            · exact .inr (fun e => by rw [e] at h2; cases h2)
          · cases h
        · cases h
      · cases h
    · cases h
  · rename_i t x ho
    split at h
    · rename_i kt el ht
      rw [Option.map_eq_some_iff] at h
      obtain ⟨a, ha, rfl⟩ := h; cases hd
      exact eRng_ok H ho ht (lowOd_ok ha)
    · cases h
  · rename_i x ho
    rw [Option.map_eq_some_iff] at h
    obtain ⟨a, ha, rfl⟩ := h; cases hd
    exact eNx_ok ho (lowOd_ok ha)
  · rename_i x ho
    rw [Option.map_eq_some_iff] at h
    obtain ⟨a, ha, rfl⟩ := h; cases hd
    exact dEnt_ok ho (lowOd_ok ha)
  · rename_i c ho
    split at h
    · rename_i b hc
      exact lowNewB_ok H ho hc h hd
    · rename_i x name hc
      simp only [Option.map_eq_some_iff, Option.bind_eq_some_iff] at h
      obtain ⟨a, ha, b, hb, rfl⟩ := h; cases hd
      obtain ⟨cal, args, ats⟩ := c
      simp only at hc hb
      subst hc
      exact eInv_ok H hfok ho (lowOd_ok ha) (lowOds_ok hb)
    · cases h
  · rename_i s d x ho
    split at h
    · rename_i el hs hdd
      split at h
      · rename_i hk
        rw [Option.map_eq_some_iff] at h
        obtain ⟨a, ha, rfl⟩ := h; cases hd
        exact dBStr_ok H ho hs hdd hk (lowOd_ok ha)
      · cases h
    · cases h
  · rename_i t x y ho
    split at h
    · rename_i kt el ht
      split at h
      · rename_i d z hk hz
        split at h
        · rename_i q hq
          simp only [Option.map_eq_some_iff, Option.bind_eq_some_iff] at h
          obtain ⟨a, ha, b, hb, rfl⟩ := h
          simp only [denLO, hq] at hd
          cases hd
          obtain ⟨ti', zv, z1, z2, z3⟩ := zeroOf_inv hz
          exact eME_ok H ho ht hk hq z1 z2 z3 (lowOd_ok ha) (lowOd_ok hb)
        · cases h
      · cases h
    · cases h
  · rename_i op t x y yt ho
    split at h
    · rename_i ks hk
      simp only [Option.map_eq_some_iff, Option.bind_eq_some_iff] at h
      obtain ⟨a, ha, b, hb, rfl⟩ := h; cases hd
      exact bStr_ok H (ng := false) (by simpa using ho) (ckT_ok H hk) (lowOd_ok ha) (lowOd_ok hb)
    · rename_i ks hk
      simp only [Option.map_eq_some_iff, Option.bind_eq_some_iff] at h
      obtain ⟨a, ha, b, hb, rfl⟩ := h; cases hd
      exact bStr_ok H (ng := true) (by simpa using ho) (ckT_ok H hk) (lowOd_ok ha) (lowOd_ok hb)
    · cases h
  · rename_i t x y ok ho
    split at h
    · rename_i kt el ht
      split at h
      · rename_i ks z hk hz
        simp only [Option.map_eq_some_iff, Option.bind_eq_some_iff] at h
        obtain ⟨a, ha, b, hb, rfl⟩ := h; cases hd
        obtain ⟨ti', zv, z1, z2, z3⟩ := zeroOf_inv hz
        exact dLkS_ok H ho ht (ckT_ok H hk) z1 z2 z3 (lowOd_ok ha) (lowOd_ok hb)
      · cases h
    · cases h
  · rename_i t x y z ho
    split at h
    · rename_i kt _ ht
      split at h
      · rename_i ks hk
        simp only [Option.map_eq_some_iff, Option.bind_eq_some_iff] at h
        obtain ⟨a, ha, b, hb, c, hc, rfl⟩ := h; cases hd
        exact eMuS_ok H (.inl ho) ht (ckT_ok H hk) (lowOd_ok ha) (lowOd_ok hb) (lowOd_ok hc)
      · cases h
    · cases h
  · rename_i t x y z ho
    split at h
    · rename_i kt _ ht
      split at h
      · rename_i ks hk
        simp only [Option.map_eq_some_iff, Option.bind_eq_some_iff] at h
        obtain ⟨a, ha, b, hb, c, hc, rfl⟩ := h; cases hd
        exact eMuS_ok H (.inr ho) ht (ckT_ok H hk) (lowOd_ok ha) (lowOd_ok hb) (lowOd_ok hc)
      · cases h
    · cases h
  · rename_i t x lo hi ho
    split at h
    · rename_i n el ht
      split at h
      · rename_i es hz
        simp only [Option.map_eq_some_iff, Option.bind_eq_some_iff] at h
        obtain ⟨a, ha, l, hl, hh, hhh, rfl⟩ := h; cases hd
        exact dSlA_ok H ho ht hz (lowOd_ok ha) (lowOdO_ok hl) (lowOdO_ok hhh)
      · cases h
    · cases h
  · rename_i t x y z ho
    simp only [Option.map_eq_some_iff, Option.bind_eq_some_iff] at h
    obtain ⟨a, ha, b, hb, c, hc, rfl⟩ := h; cases hd
    exact eES_ok ho (lowOd_ok ha) (lowOd_ok hb) (lowOd_ok hc)
  · cases h
include H hfok in
theorem lowOpS_ok {od : OD} (hd : denLO fok (lowOpS tt gl fok o) = some od) : OdOk P nt gl o od := by
  unfold lowOpS at hd
  split at hd
  · rename_i l hl
    split at hd
    · exact lowOp_ok H hfok hl hd
    · split at hd
      · rename_i l hl
        exact lowNew_ok H hfok hl hd
      · exact stuck_ok hd
  · split at hd
    · rename_i l hl
      exact lowNew_ok H hfok hl hd
    · exact stuck_ok hd
end
end
end Go.Proofs.YtjipdnfaokdkbaaLab
