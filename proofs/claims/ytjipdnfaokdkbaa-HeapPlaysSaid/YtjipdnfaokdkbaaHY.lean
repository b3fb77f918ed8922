/- The program's heap and the document's, side by side: stores, slides. No condition on the program. -/
import Derived.Test.YtjipdnfaokdkbaaHX
namespace Go.Proofs.YtjipdnfaokdkbaaLab
open Go
set_option linter.all false
set_option maxRecDepth 10000
noncomputable section
theorem ShOk.turn {os : List O} {shapes : List (List Bool)} (ok : ShOk os shapes) {g : O → O} (hg : ∀ o, (g o).f.length = o.f.length ∧ (g o).shape = o.shape) {r : Int} {o : O} (ho : at? os r = some o) : ShOk (turn g os (r - 1)) shapes := fun x hx => by
  obtain ⟨pre, post, rfl, hr⟩ := look_split ho
  rw [hr, turn_of] at hx
  rcases List.mem_append.1 hx with hx | hx
  · exact ok x (by simp [hx])
  · rcases List.mem_cons.1 hx with rfl | hx
    · rw [(hg o).1, (hg o).2]; exact ok o (by simp)
    · exact ok x (by simp [hx])
section
variable {b0 : Nat} {t : St} {p bw bb n bm rp : Nat} {os : List O} {z : List Int} {shapes : List (List Bool)} {F FO FS : List Nat} {w : Int} (T : Two b0 t p bw bb n bm rp os z shapes F FO FS w)
include T
theorem Two.set (d : Nat) (r k v : Int) (h64 : -9223372036854775808 ≤ v ∧ v < 9223372036854775808) : ∃ t1 t2 y, (K (d + 5)).call 10 [.ptr p 0, .i r, .i k, .i v] t = some (.i y, t1) ∧ Fr t t1 [bw] ∧ (K (d + 5)).call 32 [.ptr rp 0, .i r, .i k, .i v] t1 = some (.i y, t2) ∧ Fr t1 t2 FO ∧ ∃ os', Two b0 t2 p bw bb n bm rp os' z shapes F FO FS w := by
  obtain ⟨sh, hA, hS⟩ := T.h.H
  have hw := T.wf
  cases hg : getO os r k with
  | none => exact ⟨t, t, _, (hA.set hS T.h.ok d r k v h64).1 hg, Fr.refl hw _, (T.r.set T.h.ok (d + 2) r k v).1 hg, Fr.refl hw _, _, T⟩
  | some x =>
    cases hc : (refO os shapes r k && !(decide (v = 0) || (at? os v).isSome)) with
    | true => exact ⟨t, t, _, (hA.set hS T.h.ok d r k v h64).2.1 x hg hc, Fr.refl hw _, (T.r.set T.h.ok (d + 2) r k v).2.1 x hg hc, Fr.refl hw _, _, T⟩
    | false =>
      obtain ⟨o, ho, _⟩ := getO_some hg
      obtain ⟨t1, e1, _, f1, _⟩ := (hA.set hS T.h.ok d r k v h64).2.2 x hg hc
      have ok' : ShOk (turn (O.setF k v) os (r - 1)) shapes := T.h.ok.turn (g := O.setF k v) (fun o => ⟨by simp [O.setF], rfl⟩) ho
      have h1 : HS t1 p bw bb n (turn (O.setF k v) os (r - 1)) z shapes bm F := by
        refine T.h.turn (f1.mono (by simp)) (fun sh' h' => ?_) ok'
        have h2 := h'.hr.hp
        rw [hA.hr.hp] at h2
        cases h2
        obtain ⟨t1', e1', h1', _⟩ := (h'.set hS T.h.ok d r k v h64).2.2 x hg hc
        rw [e1] at e1'; cases e1'; exact h1'
      obtain ⟨t2, e2, r2, f2, _⟩ := ((T.r1 f1 (by simp)).set T.h.ok (d + 2) r k v).2.2 x hg hc
      exact ⟨t1, t2, _, e1, f1, e2, f2, _, T.make f1 h1 (fun b hb => .inl hb) f2 (fun b hb => by simp [hb]) r2 (fun b hb => .inl hb) (fun b hb => .inl hb) (T.rf.set hg hc)⟩
theorem Two.setTag (d : Nat) (r v : Int) : ∃ t1 t2 y, (K (d + 2)).call 23 [.ptr p 0, .i r, .i v] t = some (.i y, t1) ∧ Fr t t1 [bw] ∧ (K (d + 2)).call 33 [.ptr rp 0, .i r, .i v] t1 = some (.i y, t2) ∧ Fr t1 t2 FO ∧ ∃ os', Two b0 t2 p bw bb n bm rp os' z shapes F FO FS w := by
  obtain ⟨sh, hA, hS⟩ := T.h.H
  have hw := T.wf
  cases ho : at? os r with
  | none => exact ⟨t, t, _, (hA.setTag d r v).1 ho, Fr.refl hw _, (T.r.setTag d r v).1 ho, Fr.refl hw _, _, T⟩
  | some o =>
    obtain ⟨t1, e1, _, f1, _⟩ := (hA.setTag d r v).2 o ho
    have ok' : ShOk (turn (O.setTag v) os (r - 1)) shapes := T.h.ok.turn (g := O.setTag v) (fun o => ⟨rfl, rfl⟩) ho
    have h1 : HS t1 p bw bb n (turn (O.setTag v) os (r - 1)) z shapes bm F := by
      refine T.h.turn (f1.mono (by simp)) (fun sh' h' => ?_) ok'
      obtain ⟨t1', e1', h1', _⟩ := (h'.setTag d r v).2 o ho
      rw [e1] at e1'; cases e1'; exact h1'
    obtain ⟨t2, e2, r2, f2, _⟩ := ((T.r1 f1 (by simp)).setTag d r v).2 o ho
    exact ⟨t1, t2, _, e1, f1, e2, f2, _, T.make f1 h1 (fun b hb => .inl hb) f2 (fun b hb => by simp [hb]) r2 (fun b hb => .inl hb) (fun b hb => .inl hb) (T.rf.setTag ho)⟩
theorem Two.slide (d : Nat) {kv : V} {keep : List Int} (hk : SL t kv (keep.map .i)) (hl : keep.length ≤ 100000) (hkb : ∀ b ∈ blkV kv, b < t.next ∧ b ∉ [p, bw, bb]) :
    ∃ t1 t2 x x2 y, (K (d + 6)).call 22 [.ptr p 0, kv] t = some (.tup [x, .i y], t1) ∧ Fr t t1 [p, bw, bb] ∧ (K (d + 6)).call 35 [.ptr rp 0, kv] t1 = some (.tup [x2, .i y], t2) ∧ Fr t1 t2 [rp] ∧ (∃ l : List Int, SL t2 x (l.map .i) ∧ SL t2 x2 (l.map .i) ∧ l.length ≤ 100000) ∧ ∃ os' z' FO', Two b0 t2 p bw bb n bm rp os' z' shapes F FO' FS w := by
  have hw := T.wf
  obtain ⟨r1, t1, e1, q1, q2⟩ := T.h.slide hk hl hkb d
  have hltR := T.ltR
  by_cases c : Kept os keep ∧ Clo os shapes keep keep
  · obtain ⟨tv, z', rfl, hg, h1, f1, hbt⟩ := q2 c
    have R1 := T.r1 f1 (by intro b hb; simp at hb ⊢; rcases hb with h | h | h <;> simp [h])
    obtain ⟨r2, t2, e2, _, q4⟩ := R1.slide T.h.ok (hk.fr hw f1 (fun b hb => (hkb b hb).2)) hl (fun b hb => Nat.lt_of_lt_of_le (hkb b hb).1 f1.nx) (d + 3)
    obtain ⟨tv2, FO', rfl, hg2, r2, hO, f2, hbt2⟩ := q4 c
    have hrp := hltR rp (by simp)
    refine ⟨t1, t2, tv, tv2, 0, e1, f1, e2, f2, ⟨_, (hg.fr f1.wf f2 (fun b hb => by have := hbt b hb; simp; omega)).sl f2.wf, hg2.sl f2.wf, by rw [tos_len c.1.inn]; exact hl⟩, _, _, _, T.make f1 h1 (fun b hb => .inl hb) f2 (by simp) r2 (fun b hb => .inr (hO b hb)) (fun b hb => .inl hb) (RefOk.slide c.1 c.2)⟩
  · obtain ⟨rfl, f1⟩ := q1 c
    have T1 := T.fr f1
    obtain ⟨r2, t2, e2, q3, _⟩ := T1.r.slide T.h.ok (hk.fr hw f1 (by simp)) hl (fun b hb => Nat.lt_of_lt_of_le (hkb b hb).1 f1.nx) (d + 3)
    obtain ⟨rfl, rfl⟩ := q3 c
    exact ⟨_, _, _, _, 1, e1, f1.mono (by simp), e2, Fr.refl f1.wf _, ⟨[], .inl ⟨rfl, .inl rfl⟩, .inl ⟨rfl, .inl rfl⟩, by simp⟩, _, _, _, T1⟩
theorem Two.mark (d : Nat) {kv : V} {keep : List Int} (hk : SL t kv (keep.map .i)) (hl : keep.length ≤ 50000) (hr : RootOk os keep) :
    ∃ (t1 : St) (x : V) (l : List Int), (K (d + 3)).call 34 [.ptr rp 0, kv] t = some (.tup [x, .bool true], t1) ∧ Fr t t1 [] ∧ SL t1 x (l.map .i) ∧ (∀ b ∈ blkV x, t.next ≤ b ∧ b < t1.next) ∧ l.length ≤ 100000 := by
  obtain ⟨v, t1, e1, _, q⟩ := T.r.mark T.h.ok T.rf hk hl d
  obtain ⟨x, l, rfl, h1, f1, hb, hp, hl'⟩ := q hr
  have hK : Kept os l := ⟨fun r hr' => ((hl' r).1 hr').isSome T.rf hr, hp⟩
  have h2 := hK.fits
  have h3 := objs_len hK.inn
  have h4 := lay_len3 (objs os l)
  have h5 := T.size
  exact ⟨t1, x, l, e1, f1, h1.sl f1.wf, fun b hb' => ⟨hb b hb', blk_lt f1.wf h1 b hb'⟩, by omega⟩
end
/-! ### Questions -/
structure Ask where
  kind : Int
  n : Int
  of : Int
  to : Int
  refs : V
  v : Int
  bits : V
def Ask.cells (a : Ask) : List V := [.i a.kind, .i a.n, .i a.of, .i a.to, a.refs, .i a.v, a.bits]
/-- A list of questions. -/
def SA (s : St) (v : V) (l : List Ask) : Prop := (l = [] ∧ (v = .nils ∨ ∃ b o c, v = .slice b o 0 c 7)) ∨ ∃ b o c n f, v = .slice b o l.length c 7 ∧ rdOf s b = some (n, f) ∧ o + l.length * 7 ≤ n ∧ ∀ i a, l[i]? = some a → ∀ j, j < 7 → f (o + i * 7 + j) = a.cells[j]?
section
variable {s : St} {v : V} {l : List Ask}
theorem SA.len (h : SA s v l) : uLenS v = some (.i (l.length : Nat)) := by
  rcases h with ⟨rfl, rfl | ⟨b, o, c, rfl⟩⟩ | ⟨b, o, c, n, g, rfl, h2⟩ <;> rfl
theorem SA.fr {s' : St} {L : List Nat} (h : SA s v l) (hw : Wf s) (f : Fr s s' L) (hd : ∀ b, b ∈ blkV v → b ∉ L) : SA s' v l := by
  rcases h with h | ⟨b, o, c, n, g, h1, h2, h3⟩
  · exact .inl h
  · subst h1; exact .inr ⟨b, o, c, n, g, rfl, (rd_same (f.same b (rd_lt hw h2) (hd b (by simp [blkV])))).trans h2, h3⟩
theorem SA.at (h : SA s v l) {i : Nat} {a : Ask} (hi : l[i]? = some a) : ∃ q, bIdx 7 v (.i (i : Nat)) = some q ∧ ldNP 7 q s = some (.agg a.cells) := by
  have hl := (List.getElem?_eq_some_iff.1 hi).1
  rcases h with ⟨rfl, _⟩ | ⟨b, o, c, n, g, rfl, h2, h3, h4⟩
  · simp at hl
  · refine ⟨_, bIdx_eq (by omega) (by omega), ?_⟩
    show (match rdOf s b with | some (n, xs) => Bool.casesOn (motive := fun _ => Option V) (Nat.ble (Nat.add (o + ((i : Nat) : Int).toNat * 7) 7) n) none (match ldc xs 7 (o + ((i : Nat) : Int).toNat * 7) with | some l => some (.agg l) | none => none) | none => none) = _
    rw [h2]; simp only
    rw [Int.toNat_natCast]
    have e1 : Nat.ble (Nat.add (o + i * 7) 7) n = true := ble_true (show o + i * 7 + 7 ≤ n by omega)
    have e2 : ldc g 7 (o + i * 7) = some a.cells := ldc_list rfl (fun j hj => h4 i a hi j hj)
    rw [e1, e2]
end
end
end Go.Proofs.YtjipdnfaokdkbaaLab
