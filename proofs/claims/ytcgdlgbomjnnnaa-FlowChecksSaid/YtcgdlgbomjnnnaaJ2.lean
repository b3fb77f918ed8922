/- Parts of the proof: contracts of functions, joined. No condition on the program. -/
import Derived.Test.YtcgdlgbomjnnnaaJ1
import Derived.SizedLaws
import Derived.ChangeSlices
namespace Go.Proofs.YtcgdlgbomjnnnaaLab
open Go Go.WideShapes Go.ChangeShapes
set_option linter.all false
set_option maxRecDepth 10000
noncomputable section
theorem len_of {G : Pl} {s : St} {x : V} {l : List V} {a : Option Addr} {len cap : Nat} (vr : VR G x (.slice a len cap)) (sl : SL s x l) : l.length = len := by
 rcases sl with ⟨rfl, rfl | ⟨b, o, c, rfl⟩⟩ | ⟨b, o, c, n, g, rfl, _⟩
 · cases vr; rfl
 · obtain ⟨_, a', c', hax, _⟩ := vr.slice_inv
   cases hax; rfl
 · obtain ⟨_, a', c', hax, _⟩ := vr.slice_inv
   cases hax; rfl
theorem weigh_ints {H : Type} {enc : TypeId × Value → H} {P : Program} {W : World} {base : Nat} {spare : Nat → Bool} {held : Bool} {t e : TypeId} {a : Option Addr} {len cap : Nat} {d : DataW H} {ps : List MemPlace} {ts : List TypeId} {ds : List (DataW H)} {j : Nat}
 (hw : (DataW.weightsEach P ts ds).all (· ≤ reachBytes) = true) (ht : ts[j]? = some t) (hd : ds[j]? = some d) (hu : P.underlying t = some (.slice e)) (he : P.underlying e = some (.int .i64)) (hc : P.cellsOf e = 1) (hB : P.bytesOf e = 8)
 (h : DataW.Trod enc P W base spare held t (.slice a len cap) d ps) : len * 8 ≤ 140737488351232 := by
 obtain ⟨fuel, hf⟩ := h
 rcases open_ints hu he hc hf with ⟨hcs, _⟩ | ⟨x, l, c, zs, hcs, _, hl, _, hz, hx, _, _⟩
 · simp [Value.cells] at hcs
   obtain ⟨rfl, rfl, rfl⟩ := hcs
   simp
 · simp [Value.cells] at hcs
   obtain ⟨rfl, rfl, rfl⟩ := hcs
   obtain ⟨hx, _⟩ := Prod.mk.inj hx
   subst hx
   have z := sized_slice hw ht hd hu
   rw [hB] at z
   have hn : len ≤ zs.length := by
    rw [hz]; split
    · exact hl
    · exact Nat.le_refl _
   have hs : (lits (H := H) .i64 (zs.take len)).length + (lits (H := H) .i64 (zs.drop len)).length = zs.length := by
    simp [lits]; omega
   rw [hs] at z
   exact Nat.le_trans (Nat.mul_le_mul_right _ hn) z
theorem RN.sl {s : St} {v : V} {l : List V} (h : RN 1 s v (l.map fun x => [x])) : SL s v l := by
 rcases h.2 with ⟨h0, h1⟩ | ⟨b, o, c, n, f, h1, h2, h3, h4⟩
 · exact .inl ⟨by simpa using h0, h1⟩
 · rw [List.length_map] at h1 h3
   refine .inr ⟨b, o, c, n, f, h1, h2, by omega, fun i hi => ?_⟩
   have := h4 i [l[i]] (by rw [List.getElem?_map, List.getElem?_eq_getElem hi]; rfl) 0 (by omega)
   rw [show o + i * 1 + 0 = o + i by omega] at this
   rw [this, List.getElem?_eq_getElem hi]; rfl
section
variable {H : Type} {enc : TypeId × Value → H} {W : World} {base b0 : Nat} {r : Go.Reach} {held : Bool}
theorem arg_rows {t e : TypeId} {es : Nat} (h0 : 0 < es) (ht : Try.prog.underlying t = some (.slice e)) (hc : Try.prog.cellsOf e = es) (P : List V → Prop) (hP : ∀ x, P x → Row es x)
 (one : ∀ (n k : Nat) (cs : List Value) (y : DataW H × List MemPlace), cs.length = es → DataW.trod enc Try.prog W base (fun _ => true) held n e cs = some y → (∃ l, impG W k = some l) → ∃ x : List V, P x ∧ ∀ (j : Nat) (u : Value), cs[j]? = some u → ∃ z, imp W 1 k u = some z ∧ x[j]? = some z)
 {v : Value} {d : DataW H} {ps : List MemPlace} (hval : Value.okWide Try.prog W r b0 t v) (h : DataW.Trod enc Try.prog W base (fun _ => true) held t v d ps) :
 ∃ (x : V) (l : List (List V)), VR (impG W) x v ∧ RN es (impS W 1) x l ∧ (x = .nils ∨ ∃ b o, x = .slice b o l.length none es) ∧ (∀ b ∈ blkV x, b < W.heap.size) ∧ (∀ x ∈ l, P x) ∧ l.length ≤ maxLen := by
 obtain ⟨fuel, hf⟩ := h
 obtain ⟨a, len, cap, rfl⟩ := okWide_slice ht hval
 have hf : DataW.trod enc Try.prog W base (fun _ => true) held fuel t [.slice a len cap] = some (d, ps) := hf
 rcases slice_elems ht hc hf with h0' | ⟨a', len', cap', h1, hl, hm, hcell⟩
 · cases h0'
   exact ⟨.nils, [], .nils, ⟨by simp, .inl ⟨rfl, .inl rfl⟩⟩, .inl rfl, by simp [blkV], by simp, by simp⟩
 · cases h1
   obtain ⟨hsp, _, c, el, fz, hblk⟩ := ok_slice_blk ht hval
   have hg : impG W a'.block = some ⟨a'.block, 0, c.size⟩ := by unfold impG; rw [hblk]
   have hlt : a'.block < W.heap.size := (Array.getElem?_eq_some_iff.1 hblk).1
   obtain ⟨ab, ao, asp⟩ := a'
   simp only at hsp hblk hg hlt
   subst hsp
   have each : ∀ i, i < cap → ∃ x : List V, P x ∧ ∀ j, j < es → ∃ u z, c[ao + i * es + j]? = some u ∧ imp W 1 ab u = some z ∧ x[j]? = some z := fun i hi => by
    obtain ⟨cs, y, n', q1, q2, q3⟩ := hcell i hi
    obtain ⟨a, ha, hj⟩ := one n' ab cs y q1 q3 ⟨_, hg⟩
    refine ⟨a, ha, fun j hj7 => ?_⟩
    have hc := q2 j hj7
    have hu : cs[j]? = some cs[j] := List.getElem?_eq_getElem (by omega)
    rw [hu] at hc
    obtain ⟨z, z1, z2⟩ := hj j _ hu
    rw [add_at] at hc
    unfold World.cell? at hc
    simp only [hblk] at hc
    exact ⟨cs[j], z, by rw [Nat.add_assoc]; simpa using hc, z1, z2⟩
   have htot : cap = 0 ∨ ao + cap * es ≤ c.size := by
    by_cases h0' : cap = 0
    · exact .inl h0'
    · obtain ⟨a, _, hj⟩ := each (cap - 1) (by omega)
      obtain ⟨u, z, hu, _⟩ := hj (es - 1) (by omega)
      have := (Array.getElem?_eq_some_iff.1 hu).1
      have hmul : cap * es = (cap - 1) * es + es := by rw [← Nat.succ_mul]; congr 1; omega
      exact .inr (by omega)
   have hch : ∃ g : Nat → List V, ∀ i, i < cap → P (g i) ∧ ∀ j, j < es → ∃ u z, c[ao + i * es + j]? = some u ∧ imp W 1 ab u = some z ∧ (g i)[j]? = some z := by
    refine ⟨fun i => if h : i < cap then (each i h).choose else [], fun i hi => ?_⟩
    simp only [dif_pos hi]
    exact (each i hi).choose_spec
   obtain ⟨g, hgs⟩ := hch
   have hrow : ∀ x ∈ (List.range len).map g, P x := fun x hx => by
    obtain ⟨i, hi, rfl⟩ := List.mem_map.1 hx
    simp at hi
    exact (hgs i (by omega)).1
   refine ⟨.slice ab ao len none es, (List.range len).map g, .slice _ _ _ _ _ _ ⟨ab, 0, c.size⟩ _ hg hl (fun k h => by cases h) (.inr (by simp)) (by simpa using htot), ⟨fun x hx => hP x (hrow x hx), ?_⟩, .inr ⟨ab, ao, by simp⟩, fun b hb => by simp [blkV] at hb; subst hb; exact hlt, hrow, by simp; omega⟩
   by_cases h0' : len = 0
   · subst h0'; exact .inl ⟨by simp, .inr ⟨_, _, _, rfl⟩⟩
   · have hmul : len * es ≤ cap * es := Nat.mul_le_mul_right _ hl
     refine .inr ⟨ab, ao, none, _, _, by simp, impS_rd hblk, by simp; omega, fun i a hi j hj => ?_⟩
     have hil := (List.getElem?_eq_some_iff.1 hi).1
     simp at hil
     simp [hil] at hi
     subst hi
     obtain ⟨_, h2⟩ := hgs i (by omega)
     obtain ⟨u, z, u1, u2, u3⟩ := h2 j hj
     simp only [u1, u2, u3]
theorem cells3 : Try.prog.cellsOf 3 = 1 := by kernel_rfl
theorem cells5 : Try.prog.cellsOf 5 = 1 := by kernel_rfl
theorem cells9 : Try.prog.cellsOf 9 = 1 := by kernel_rfl
theorem cells30 : Try.prog.cellsOf 30 = 4 := by kernel_rfl
theorem cells32 : Try.prog.cellsOf 32 = 1 := by kernel_rfl
theorem cells34 : Try.prog.cellsOf 34 = 3 := by kernel_rfl
theorem one_int3 {n : Nat} {u : Value} {y : DataW H × List MemPlace} (h : DataW.trod enc Try.prog W base (fun _ => true) held n 3 [u] = some y) : ∃ z : Int, u = .int .i64 z ∧ -9223372036854775808 ≤ z ∧ z < 9223372036854775808 := by
 obtain ⟨z, h1, _, h3⟩ := DataW.trod_int Try.underlying3 h
 cases h1
 exact ⟨z, rfl, ok_i64 h3⟩
theorem one_str9 {n : Nat} {u : Value} {y : DataW H × List MemPlace} (h : DataW.trod enc Try.prog W base (fun _ => true) held n 9 [u] = some y) : ∃ z : ByteArray, u = .string z := by
 obtain ⟨z, h1, _⟩ := DataW.trod_string Try.underlying9 h
 cases h1
 exact ⟨z, rfl⟩
theorem one_strs {n k : Nat} {u : Value} {y : DataW H × List MemPlace} (h : DataW.trod enc Try.prog W base (fun _ => true) held n 32 [u] = some y) (hk : ∃ l, impG W k = some l) : ∃ z, imp W 1 k u = some z ∧ z.one = true := by
 obtain ⟨v, zs, h1, h2, _⟩ := in_slice1 Try.underlying32 cells9 hk (fun _ => True) (fun n u y k' h _ => by
  obtain ⟨z, rfl⟩ := one_str9 h
  exact ⟨.str (nats z), rfl, trivial⟩) h
 refine ⟨v, h1, ?_⟩
 rcases h2 with ⟨_, rfl | ⟨b, o, rfl⟩⟩ | ⟨b, o, n, f, rfl, _⟩ <;> rfl
theorem one_byte {n k : Nat} {cs : List Value} {y : DataW H × List MemPlace} (hl : cs.length = 1) (h : DataW.trod enc Try.prog W base (fun _ => true) held n 5 cs = some y) (hk : ∃ l, impG W k = some l) :
 ∃ x : List V, (∃ m, m < 256 ∧ x = [byteV m]) ∧ ∀ (j : Nat) (u : Value), cs[j]? = some u → ∃ z, imp W 1 k u = some z ∧ x[j]? = some z := by
 obtain ⟨z, rfl, _, h3⟩ := DataW.trod_int Try.underlying5 h
 simp [Lit.wf, IntKind.min, IntKind.max, IntKind.bits, IntKind.signed] at h3
 refine ⟨[byteV z.toNat], ⟨z.toNat, by omega, rfl⟩, fun j u hj => ?_⟩
 match j with
 | 0 =>
   simp at hj; subst hj
   refine ⟨_, rfl, ?_⟩
   show some (V.int .u8 ((z.toNat : Nat) : Int)) = _
   rw [show ((z.toNat : Nat) : Int) = z by omega]
 | j + 1 => simp at hj
theorem one_hd {n k : Nat} {cs : List Value} {y : DataW H × List MemPlace} (hl : cs.length = 4) (h : DataW.trod enc Try.prog W base (fun _ => true) held n 30 cs = some y) (hk : ∃ l, impG W k = some l) :
 ∃ x : List V, (∃ a : Hd, x = a.cells) ∧ ∀ (j : Nat) (u : Value), cs[j]? = some u → ∃ z, imp W 1 k u = some z ∧ x[j]? = some z := by
 obtain ⟨xs, m, _, _, _, hxl, hf⟩ := DataW.trod_struct Try.underlying30 h
 match cs, hl with
 | [c0, c1, c2, c3], _ =>
   have f0 : DataW.trod enc Try.prog W base (fun _ => true) held m 3 (([c0, c1, c2, c3].drop 0).take (Try.prog.cellsOf 3)) = xs[0]? := hf 0 _ rfl
   rw [cells3] at f0
   replace f0 : DataW.trod enc Try.prog W base (fun _ => true) held m 3 [c0] = xs[0]? := f0
   have f1 : DataW.trod enc Try.prog W base (fun _ => true) held m 3 (([c0, c1, c2, c3].drop 1).take (Try.prog.cellsOf 3)) = xs[1]? := hf 1 _ rfl
   rw [cells3] at f1
   replace f1 : DataW.trod enc Try.prog W base (fun _ => true) held m 3 [c1] = xs[1]? := f1
   have f2 : DataW.trod enc Try.prog W base (fun _ => true) held m 3 (([c0, c1, c2, c3].drop 2).take (Try.prog.cellsOf 3)) = xs[2]? := hf 2 _ rfl
   rw [cells3] at f2
   replace f2 : DataW.trod enc Try.prog W base (fun _ => true) held m 3 [c2] = xs[2]? := f2
   have f3 : DataW.trod enc Try.prog W base (fun _ => true) held m 9 (([c0, c1, c2, c3].drop 3).take (Try.prog.cellsOf 9)) = xs[3]? := hf 3 _ rfl
   rw [cells9] at f3
   replace f3 : DataW.trod enc Try.prog W base (fun _ => true) held m 9 [c3] = xs[3]? := f3
   have hxl : xs.length = 4 := hxl
   rw [List.getElem?_eq_getElem (by omega)] at f0 f1 f2 f3
   obtain ⟨z0, rfl, _⟩ := one_int3 f0
   obtain ⟨z1, rfl, _⟩ := one_int3 f1
   obtain ⟨z2, rfl, _⟩ := one_int3 f2
   obtain ⟨z3, rfl⟩ := one_str9 f3
   refine ⟨_, ⟨⟨z0, z1, z2, nats z3⟩, rfl⟩, fun j u hj => ?_⟩
   match j with
   | 0 => simp at hj; subst hj; exact ⟨_, rfl, rfl⟩
   | 1 => simp at hj; subst hj; exact ⟨_, rfl, rfl⟩
   | 2 => simp at hj; subst hj; exact ⟨_, rfl, rfl⟩
   | 3 => simp at hj; subst hj; exact ⟨_, rfl, rfl⟩
   | j + 4 => simp at hj
theorem one_fm {n k : Nat} {cs : List Value} {y : DataW H × List MemPlace} (hl : cs.length = 3) (h : DataW.trod enc Try.prog W base (fun _ => true) held n 34 cs = some y) (hk : ∃ l, impG W k = some l) :
 ∃ x : List V, (∃ a : Fm, x = a.cells ∧ a.x.one = true ∧ a.y.one = true) ∧ ∀ (j : Nat) (u : Value), cs[j]? = some u → ∃ z, imp W 1 k u = some z ∧ x[j]? = some z := by
 obtain ⟨xs, m, _, _, _, hxl, hf⟩ := DataW.trod_struct Try.underlying34 h
 match cs, hl with
 | [c0, c1, c2], _ =>
   have f0 : DataW.trod enc Try.prog W base (fun _ => true) held m 3 (([c0, c1, c2].drop 0).take (Try.prog.cellsOf 3)) = xs[0]? := hf 0 _ rfl
   rw [cells3] at f0
   replace f0 : DataW.trod enc Try.prog W base (fun _ => true) held m 3 [c0] = xs[0]? := f0
   have f1 : DataW.trod enc Try.prog W base (fun _ => true) held m 32 (([c0, c1, c2].drop 1).take (Try.prog.cellsOf 32)) = xs[1]? := hf 1 _ rfl
   rw [cells32] at f1
   replace f1 : DataW.trod enc Try.prog W base (fun _ => true) held m 32 [c1] = xs[1]? := f1
   have f2 : DataW.trod enc Try.prog W base (fun _ => true) held m 32 (([c0, c1, c2].drop 2).take (Try.prog.cellsOf 32)) = xs[2]? := hf 2 _ rfl
   rw [cells32] at f2
   replace f2 : DataW.trod enc Try.prog W base (fun _ => true) held m 32 [c2] = xs[2]? := f2
   have hxl : xs.length = 3 := hxl
   rw [List.getElem?_eq_getElem (by omega)] at f0 f1 f2
   obtain ⟨z0, rfl, _⟩ := one_int3 f0
   obtain ⟨z1, e1, o1⟩ := one_strs f1 hk
   obtain ⟨z2, e2, o2⟩ := one_strs f2 hk
   refine ⟨_, ⟨⟨z0, z1, z2⟩, rfl, o1, o2⟩, fun j u hj => ?_⟩
   match j with
   | 0 => simp at hj; subst hj; exact ⟨_, rfl, rfl⟩
   | 1 => simp at hj; subst hj; exact ⟨_, e1, rfl⟩
   | 2 => simp at hj; subst hj; exact ⟨_, e2, rfl⟩
   | j + 3 => simp at hj
theorem list_cells {α : Type} {f : α → List V} : ∀ {l : List (List V)}, (∀ x ∈ l, ∃ a, x = f a) → ∃ l' : List α, l = l'.map f
 | [], _ => ⟨[], rfl⟩
 | x :: l, h => by
   obtain ⟨a, rfl⟩ := h x (by simp)
   obtain ⟨l', rfl⟩ := list_cells (l := l) fun y hy => h y (by simp [hy])
   exact ⟨a :: l', rfl⟩
theorem list_bytes : ∀ {l : List (List V)}, (∀ x ∈ l, ∃ m, m < 256 ∧ x = [byteV m]) → ∃ l' : List Nat, l = (l'.map byteV).map (fun x => [x]) ∧ ∀ n ∈ l', n < 256
 | [], _ => ⟨[], rfl, by simp⟩
 | x :: l, h => by
   obtain ⟨a, ha, rfl⟩ := h x (by simp)
   obtain ⟨l', rfl, h2⟩ := list_bytes (l := l) fun y hy => h y (by simp [hy])
   exact ⟨a :: l', rfl, fun n hn => by
    rcases List.mem_cons.1 hn with rfl | hn
    · exact ha
    · exact h2 n hn⟩
theorem arg_bytes {v : Value} {d : DataW H} {ps : List MemPlace} (hval : Value.okWide Try.prog W r b0 41 v) (h : DataW.Trod enc Try.prog W base (fun _ => true) held 41 v d ps) :
 ∃ (x : V) (l : List Nat), VR (impG W) x v ∧ SL (impS W 1) x (l.map byteV) ∧ (∀ n ∈ l, n < 256) ∧ (∀ b ∈ blkV x, b < W.heap.size) ∧ l.length ≤ maxLen := by
 obtain ⟨x, l, h1, h2, h3, h4, h5, h6⟩ := arg_rows (by omega) Try.underlying41 cells5 (fun x => ∃ m, m < 256 ∧ x = [byteV m]) (fun x hx => by obtain ⟨m, _, rfl⟩ := hx; exact ⟨rfl, by intro v hv; simp at hv; subst hv; rfl⟩) (fun n k cs y => one_byte) hval h
 obtain ⟨l', rfl, hl⟩ := list_bytes h5
 exact ⟨x, l', h1, RN.sl h2, hl, h4, by simpa using h6⟩
theorem arg_hds {v : Value} {d : DataW H} {ps : List MemPlace} (hval : Value.okWide Try.prog W r b0 31 v) (h : DataW.Trod enc Try.prog W base (fun _ => true) held 31 v d ps) :
 ∃ (x : V) (l : List Hd), VR (impG W) x v ∧ RN 4 (impS W 1) x (l.map Hd.cells) ∧ (x = .nils ∨ ∃ b o, x = .slice b o (l.map Hd.cells).length none 4) ∧ (∀ b ∈ blkV x, b < W.heap.size) ∧ l.length ≤ maxLen := by
 obtain ⟨x, l, h1, h2, h3, h4, h5, h6⟩ := arg_rows (by omega) Try.underlying31 cells30 (fun x => ∃ a : Hd, x = a.cells) (fun x hx => by obtain ⟨a, rfl⟩ := hx; exact a.row) (fun n k cs y => one_hd) hval h
 obtain ⟨l', rfl⟩ := list_cells h5
 exact ⟨x, l', h1, h2, h3, h4, by simpa using h6⟩
theorem arg_fms {v : Value} {d : DataW H} {ps : List MemPlace} (hval : Value.okWide Try.prog W r b0 35 v) (h : DataW.Trod enc Try.prog W base (fun _ => true) held 35 v d ps) :
 ∃ (x : V) (l : List Fm), VR (impG W) x v ∧ RN 3 (impS W 1) x (l.map Fm.cells) ∧ (x = .nils ∨ ∃ b o, x = .slice b o (l.map Fm.cells).length none 3) ∧ (∀ b ∈ blkV x, b < W.heap.size) ∧ l.length ≤ maxLen := by
 obtain ⟨x, l, h1, h2, h3, h4, h5, h6⟩ := arg_rows (by omega) Try.underlying35 cells34 (fun x => ∃ a : Fm, x = a.cells ∧ a.x.one = true ∧ a.y.one = true) (fun x hx => by obtain ⟨a, rfl, o1, o2⟩ := hx; exact ⟨rfl, by intro v hv; simp [Fm.cells] at hv; rcases hv with rfl | rfl | rfl <;> first | rfl | assumption⟩) (fun n k cs y => one_fm) hval h
 obtain ⟨l', rfl⟩ := list_cells (f := Fm.cells) fun x hx => by obtain ⟨a, ha, _⟩ := h5 x hx; exact ⟨a, ha⟩
 exact ⟨x, l', h1, h2, h3, h4, by simpa using h6⟩
end
theorem SL.one {s : St} {v : V} {l : List V} (h : SL s v l) : v.one = true := by rcases h with ⟨_, rfl | ⟨b, o, c, rfl⟩⟩ | ⟨b, o, c, n, f, rfl, _⟩ <;> rfl
theorem flowChecks_walk {W : World} {v0 v1 v2 v3 : Value} {x0 x1 x2 x3 : V} {l0 : List Nat} {l1 : List Int} {l2 : List Hd} {l3 : List Fm} (a4 : Int) (vr0 : VR (impG W) x0 v0) (s0 : SL (impS W 1) x0 (l0.map byteV)) (b0 : ∀ n ∈ l0, n < 256) (k0 : ∀ b ∈ blkV x0, b < W.heap.size) (z0 : l0.length ≤ maxLen)
 (vr1 : VR (impG W) x1 v1) (s1 : SL (impS W 1) x1 (l1.map V.i)) (k1 : ∀ b ∈ blkV x1, b < W.heap.size) (w1 : ∀ n ∈ l1, -9223372036854775808 ≤ n ∧ n < 9223372036854775808) (z1 : l1.length ≤ 17592186044416)
 (vr2 : VR (impG W) x2 v2) (s2 : RN 4 (impS W 1) x2 (l2.map Hd.cells)) (f2 : x2 = .nils ∨ ∃ b o, x2 = .slice b o (l2.map Hd.cells).length none 4) (z2 : l2.length ≤ maxLen)
 (vr3 : VR (impG W) x3 v3) (s3 : RN 3 (impS W 1) x3 (l3.map Fm.cells)) (f3 : x3 = .nils ∨ ∃ b o, x3 = .slice b o (l3.map Fm.cells).length none 3) (z3 : l3.length ≤ maxLen) :
 Calls Try.prog 4 #[v0, v1, v2, v3, .int .i64 a4] W (fun e w' => e = .returned (.bool true) ∧ RowKit.Below W.heap.size W w') := by
 have hm : maxLen ≤ 9223372036854775807 := by decide
 have hn : (impS W 1).next = W.heap.size := rfl
 obtain ⟨t, e⟩ := run4_eq (impS_wf W 1) s0 b0 (by omega) k0 s1 s1.one (fun x hx => w1 x hx) z1 k1 s2 f2 (by omega) s3 f3 (by omega) a4 (m := 40) (by omega)
 exact law_ro (fuel := 1152921504606846976) (n := 40) tblOk ⟨_, _, e, rfl⟩ (.cons _ _ _ _ vr0 (.cons _ _ _ _ vr1 (.cons _ _ _ _ vr2 (.cons _ _ _ _ vr3 (.cons _ _ _ _ (.i _) .nil)))))
end
end Go.Proofs.YtcgdlgbomjnnnaaLab
