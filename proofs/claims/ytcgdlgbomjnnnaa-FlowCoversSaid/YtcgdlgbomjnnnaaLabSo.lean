/- The lab: a slice of numbers sorted by the library, by its contract. No condition on the program. Pruned. -/
import Derived.Test.YtcgdlgbomjnnnaaChecked
import Derived.Test.YtcgdlgbomjnnnaaLabZe
import Derived.Ground.NamesProg
import Derived.Shelf.Slices.In.SortNone
import Derived.Lib.SortBridge
import Derived.Sort.OwnSortedInts
import Derived.Sort.EveryDepth
import Derived.KernelRfl
namespace Go.Proofs
open Go.Shelf
def Try.rR : Go.Shelf.Ren := ⟨fun | 189 => 26 | 125 => 44 | 257 => 43 | 128 => 61 | 129 => 62 | 294 => 53 | 295 => 54 | 296 => 55 | 297 => 56 | 298 => 57 | 299 => 58 | 216 => 51 | 300 => 59 | 301 => 60 | 328 => 69 | 329 => 70 | 330 => 71 | 331 => 72 | 332 => 73 | 215 => 45 | 343 => 85 | n => n, fun | 28 => 37 | 3 => 3 | 46 => 87 | 0 => 0 | 51 => 108 | 53 => 110 | 4 => 4 | 183 => 102 | 182 => 101 | 131 => 60 | 5 => 5 | 9 => 9 | 218 => 120 | 222 => 124 | 228 => 142 | 229 => 44 | n => n, fun | n => n⟩
theorem Try.tS : Go.Proofs.Lays.n189 Try.prog Try.rR := {
 mixed := by kernel_rfl
 f125 := Try.func44.trans (congrArg some (by kernel_rfl))
 f128 := Try.func61.trans (congrArg some (by kernel_rfl))
 f129 := Try.func62.trans (congrArg some (by kernel_rfl))
 f189 := Try.func26.trans (congrArg some (by kernel_rfl))
 f215 := Try.func45.trans (congrArg some (by kernel_rfl))
 f216 := Try.func51.trans (congrArg some (by kernel_rfl))
 f257 := Try.func43.trans (congrArg some (by kernel_rfl))
 f294 := Try.func53.trans (congrArg some (by kernel_rfl))
 f295 := Try.func54.trans (congrArg some (by kernel_rfl))
 f296 := Try.func55.trans (congrArg some (by kernel_rfl))
 f297 := Try.func56.trans (congrArg some (by kernel_rfl))
 f298 := Try.func57.trans (congrArg some (by kernel_rfl))
 f299 := Try.func58.trans (congrArg some (by kernel_rfl))
 f300 := Try.func59.trans (congrArg some (by kernel_rfl))
 f301 := Try.func60.trans (congrArg some (by kernel_rfl))
 f328 := Try.func69.trans (congrArg some (by kernel_rfl))
 f329 := Try.func70.trans (congrArg some (by kernel_rfl))
 f330 := Try.func71.trans (congrArg some (by kernel_rfl))
 f331 := Try.func72.trans (congrArg some (by kernel_rfl))
 f332 := Try.func73.trans (congrArg some (by kernel_rfl))
 f343 := Try.func85.trans (congrArg some (by kernel_rfl))
 t0 := Try.underlying0
 a0 := Try.isAgg0
 z0 := Try.sizeOf0
 v0 := Try.zeroValue0
 t3 := Try.underlying3
 a3 := Try.isAgg3
 z3 := Try.sizeOf3
 v3 := Try.zeroValue3
 t4 := Try.underlying4
 a4 := Try.isAgg4
 z4 := Try.sizeOf4
 v4 := Try.zeroValue4
 t5 := Try.underlying5
 a5 := Try.isAgg5
 z5 := Try.sizeOf5
 v5 := Try.zeroValue5
 t9 := Try.underlying9
 a9 := Try.isAgg9
 z9 := Try.sizeOf9
 v9 := Try.zeroValue9
 t28 := Try.underlying37
 a28 := Try.isAgg37
 z28 := Try.sizeOf37
 v28 := Try.zeroValue37
 t46 := Try.underlying87
 a46 := Try.isAgg87
 z46 := Try.sizeOf87
 v46 := Try.zeroValue87
 t51 := Try.underlying108
 a51 := Try.isAgg108
 z51 := Try.sizeOf108
 v51 := Try.zeroValue108
 t53 := Try.underlying110
 a53 := Try.isAgg110
 z53 := Try.sizeOf110
 v53 := Try.zeroValue110
 t131 := Try.underlying60
 a131 := Try.isAgg60
 z131 := Try.sizeOf60
 v131 := Try.zeroValue60
 t182 := Try.underlying101
 a182 := Try.isAgg101
 z182 := Try.sizeOf101
 v182 := Try.zeroValue101
 t183 := Try.underlying102
 a183 := Try.isAgg102
 z183 := Try.sizeOf102
 v183 := Try.zeroValue102
 t218 := Try.underlying120
 a218 := Try.isAgg120
 z218 := Try.sizeOf120
 v218 := Try.zeroValue120
 t222 := Try.underlying124
 a222 := Try.isAgg124
 z222 := Try.sizeOf124
 v222 := Try.zeroValue124
 t228 := Try.underlying142
 a228 := Try.isAgg142
 z228 := Try.sizeOf142
 v228 := Try.zeroValue142
 t229 := Try.underlying44
 a229 := Try.isAgg44
 z229 := Try.sizeOf44
 v229 := Try.zeroValue44 }
end Go.Proofs
namespace Go.Proofs.YtcgdlgbomjnnnaaLab
open Go Go.Proofs Go.RowKit Go.Sort Go.Shelf
set_option linter.all false
noncomputable section
def uQ (x : Int) : List Int → List Int | [] => [x] | y :: l => Bool.casesOn (motive := fun _ => List Int) (ux y x) (x :: y :: l) (y :: uQ x l)
def fq : List Int → List Int | [] => [] | x :: l => uQ x (fq l)
theorem nc (x : Int) : ∀ l, (uQ x l).Perm (x :: l)
 | [] => .refl _
 | y :: l => by
   unfold uQ
   cases ux y x with
   | false => exact .refl _
   | true => exact ((nc x l).cons y).trans (.swap x y l)
theorem dZ : ∀ l, (fq l).Perm l
 | [] => .refl _
 | x :: l => (nc x _).trans ((dZ l).cons x)
theorem nA (x : Int) : ∀ l : List Int, l.Pairwise (· ≤ ·) → (uQ x l).Pairwise (· ≤ ·)
 | [], _ => List.pairwise_singleton _ _
 | y :: l, h => by
   rw [List.pairwise_cons] at h
   unfold uQ
   cases hq : ux y x with
   | false =>
     rw [iu] at hq
     have hq : ¬ y < x := by simpa using hq
     refine List.pairwise_cons.2 ⟨fun z hz => ?_, List.pairwise_cons.2 h⟩
     rcases List.mem_cons.1 hz with rfl | hz
     · omega
     · have := h.1 z hz; omega
   | true =>
     rw [iu] at hq
     have hq : y < x := by simpa using hq
     refine List.pairwise_cons.2 ⟨fun z hz => ?_, nA x l h.2⟩
     rcases List.mem_cons.1 ((nc x l).mem_iff.1 hz) with rfl | hz
     · omega
     · exact h.1 z hz
theorem iO : ∀ l, (fq l).Pairwise (· ≤ ·)
 | [] => .nil
 | x :: l => nA x _ (iO l)
theorem N6 {l ss : List Int} (h : ss.Perm l) : ss.mergeSort (fun x y => decide (x ≤ y)) = fq l := by
 have tr : ∀ a b c : Int, decide (a ≤ b) = true → decide (b ≤ c) = true → decide (a ≤ c) = true := fun a b c h1 h2 => by simp only [decide_eq_true_eq] at *; exact Int.le_trans h1 h2
 have to : ∀ a b : Int, (decide (a ≤ b) || decide (b ≤ a)) = true := fun a b => by simp only [Bool.or_eq_true, decide_eq_true_eq]; exact Int.le_total a b
 refine List.Perm.eq_of_pairwise (le := fun a b => decide (a ≤ b) = true) (fun a b _ _ h1 h2 => ?_) (List.pairwise_mergeSort tr to ss) ((iO l).imp fun h => by simpa using h) (((List.mergeSort_perm ss _).trans h).trans (dZ l).symm)
 simp only [decide_eq_true_eq] at h1 h2
 exact Int.le_antisymm h1 h2
def mc : List V → Option (List Int)
 | [] => some []
 | v :: l => match v with
   | .i n => (match mc l with | some r => some (n :: r) | none => none)
   | _ => none
theorem qN (l : List Int) : mc (l.map V.i) = some l := by
 induction l with
 | nil => rfl
 | cons x l ih => show (match mc (l.map V.i) with | some r => some (x :: r) | none => none) = _; rw [ih]
def sL (x : V) (s : St) : Option (V × St) := match x with
 | .ax => some (.bz [], s)
 | .slice b o len _ es => Bool.casesOn (motive := fun _ => Option (V × St)) (and (Nat.beq es 1) (Nat.ble len 100000000)) none (Nat.casesOn (motive := fun _ => Option (V × St)) len (some (.bz [], s)) fun _ => match fD s b with
   | some (n, xs) => Bool.casesOn (motive := fun _ => Option (V × St)) (Nat.ble (Nat.add o len) n) none (match pM xs.get len o with
     | some vs => (match mc vs with
       | some l => some (.bz [], s.put b (.cells n (gG xs o ((fq l).map V.i))))
       | none => none)
     | none => none)
   | none => none)
 | _ => none
theorem l_ {l : List Int} {j : Nat} (h : j < l.length) : l.toArray[j]! = l[j] := by simp [h]
theorem yO {G : Pl} {s : St} {w : World} (hs : SR G s w) {b n : Nat} {xs : T V} (hb : s.heap.get b = some (.cells n xs)) {lc : Loc} (hl : G b = some lc) {o : Nat} {vs : List V} {l : List Int} {m : Nat} (hv : pM xs.get m o = some vs) (hi : mc vs = some l) (hm : o + m ≤ n) :
 Holds (Value.int .i64) w lc.blk (lc.base + o) l.toArray ∧ l.length = m := by
 obtain ⟨l2, c, el, fz, h1, h2, h3, h4, h5, h6⟩ := hs.r.ob b _ hb
 rw [hl] at h1; cases h1
 obtain ⟨hlen, hget⟩ := ox hv
 have key : ∀ (vs : List V) (l : List Int), mc vs = some l → l.length = vs.length ∧ ∀ (j : Nat) (z : Int), l[j]? = some z → vs[j]? = some (.i z) := by
  intro vs
  induction vs with
  | nil => intro l h; cases h; exact ⟨rfl, fun j z h => by simp at h⟩
  | cons v vs ih =>
    intro l h
    unfold mc at h
    split at h
    · split at h
      · rename_i r hr
        cases h
        obtain ⟨a1, a2⟩ := ih r hr
        refine ⟨by simp [a1], fun j z hj => ?_⟩
        cases j with
        | zero => simp at hj; subst hj; rfl
        | succ j => simp at hj ⊢; exact a2 j z hj
      · cases h
    · cases h
 obtain ⟨k1, k2⟩ := key vs l hi
 refine ⟨fun j hj => ?_, by omega⟩
 have hj' : j < l.length := by simpa using hj
 have q := k2 j l[j] (List.getElem?_eq_getElem hj')
 obtain ⟨x, b1, b2⟩ := hget j (by omega)
 rw [q] at b1; cases b1
 obtain ⟨x', c1, c2, c3⟩ := h6 (o + j) _ (by omega) b2
 cases c2
 refine ⟨?_, ?_⟩
 · rw [l_ hj']
   simp only [World.cell?, h2]
   simp only [Option.isSome_none, Bool.false_eq_true, if_false]
   rw [Nat.add_assoc]; exact c1
 · simp only [World.frozen?, h2]
   rcases h3 with rfl | h3
   · simp
   · have := (Array.getElem?_eq_some_iff.1 c1).1
     simp; omega
theorem qk (w : World) (blk : Nat) (f : Array Value → Array Value) : Touch blk w (mapBlock w blk f) := by
 refine ⟨rfl, rfl, rfl, by simp [mapBlock], fun j hj => ?_, fun j d el fz hd => ?_⟩
 · simp only [mapBlock, Array.getElem?_modify]
   rw [if_neg (Ne.symm hj)]
 · simp only [mapBlock, Array.getElem?_modify]
   by_cases e : blk = j
   · rw [if_pos e, hd]; exact ⟨f d, rfl⟩
   · rw [if_neg e, hd]; exact ⟨d, rfl⟩
theorem uP {G : Pl} {s : St} {w : World} (hs : SR G s w) {b n : Nat} {xs : T V} (hb : s.heap.get b = some (.cells n xs)) {lc : Loc} (hl : G b = some lc) {o : Nat} {l : List Int} (hm : o + l.length ≤ n) (k : Nat) (os : Array Obj) :
 SR G (s.put b (.cells n (gG xs o (l.map V.i)))) (grow (putRow (Value.int .i64) (Sort.ahead w k) lc.blk (lc.base + o) l.toArray) os) ∧ fH G s w G (s.put b (.cells n (gG xs o (l.map V.i)))) (grow (putRow (Value.int .i64) (Sort.ahead w k) lc.blk (lc.base + o) l.toArray) os) := by
 obtain ⟨l2, c, el, fz, h1, h2, h3, h4, h5, h6⟩ := hs.r.ob b _ hb
 rw [hl] at h1; cases h1
 have hsa : SR G s (Sort.ahead w k) := hs.drew
 have hT := qk (Sort.ahead w k) lc.blk (putCells (Value.int .i64) (lc.base + o) l.toArray)
 have hnew : (mapBlock (Sort.ahead w k) lc.blk (putCells (Value.int .i64) (lc.base + o) l.toArray)).heap[lc.blk]? = some (.cells (putCells (Value.int .i64) (lc.base + o) l.toArray c) el fz) := by
  simp only [mapBlock, Array.getElem?_modify, if_true, Sort.heap_ahead, h2]
  rfl
 have hsz : (putCells (Value.int .i64) (lc.base + o) l.toArray c).size = c.size := by simp [putCells]
 obtain ⟨q1, q2⟩ := hsa.yw (o' := .cells n (gG xs o (l.map V.i))) hb rfl hl hT ⟨lc, _, el, fz, hl, hnew, by rw [hsz]; exact h3, by rw [hsz]; exact h4, h5, fun i x hi hx => by
  have hci : lc.base + i < c.size := by omega
  have e0 : (putCells (Value.int .i64) (lc.base + o) l.toArray c)[lc.base + i]? = some (if lc.base + o ≤ lc.base + i ∧ lc.base + i < lc.base + o + l.toArray.size then Value.int .i64 (l.toArray[lc.base + i - (lc.base + o)]!) else c[lc.base + i]) := by
   simp [putCells, hci]
  rcases mH hx with ⟨b1, b2, b3⟩ | ⟨b1, b2⟩
  · rw [List.length_map] at b2
    rw [List.getElem?_map] at b3
    have hio : i - o < l.length := by omega
    rw [List.getElem?_eq_getElem hio] at b3
    cases b3
    refine ⟨_, e0, ?_, ?_⟩
    · rw [if_pos ⟨by omega, by simp; omega⟩, show lc.base + i - (lc.base + o) = i - o by omega, l_ hio]; exact .i _
    · rw [if_pos ⟨by omega, by simp; omega⟩]; rfl
  · rw [List.length_map] at b1
    obtain ⟨x', c1, c2, c3⟩ := h6 i x hi b2
    refine ⟨x', ?_, c2, c3⟩
    rw [e0, if_neg (by simp; omega), ← c1]
    exact (Array.getElem?_eq_getElem hci).symm⟩
 have hB : RowKit.Below (putRow (Value.int .i64) (Sort.ahead w k) lc.blk (lc.base + o) l.toArray).heap.size (putRow (Value.int .i64) (Sort.ahead w k) lc.blk (lc.base + o) l.toArray) (grow (putRow (Value.int .i64) (Sort.ahead w k) lc.blk (lc.base + o) l.toArray) os) :=
  ⟨rfl, rfl, rfl, by simp, fun j hj => by
   show ((putRow (Value.int .i64) (Sort.ahead w k) lc.blk (lc.base + o) l.toArray).heap ++ os)[j]? = _
   rw [Array.getElem?_append_left hj]⟩
 obtain ⟨r1, r2⟩ := SR.wider (show SR G _ (putRow (Value.int .i64) (Sort.ahead w k) lc.blk (lc.base + o) l.toArray) from q1) hB
 exact ⟨r1, (fH.drew (show fH G s { w with drawn := w.drawn + k } G _ _ from q2)).trans r2⟩
theorem xW (blk off cap : Nat) (zs : List Int) (w : World) (hH : Holds (Value.int .i64) w blk off zs.toArray) (hblk : blk < w.heap.size) (hsz : zs.length < 4611686018427387904) :
 Calls Try.prog 26 #[.slice (some ⟨blk, off, none⟩) zs.length cap] w fun e w' => e = .returned (.tuple #[]) ∧ ∃ n os, w' = grow (putRow (Value.int .i64) (Sort.ahead w n) blk off (zs.mergeSort fun x y => decide (x ≤ y)).toArray) os :=
 calls_of_every_depth fun D => AnyS.slices_Sort_int_alone Try.tS D blk off cap zs w hH hblk hsz
theorem uH (p : Option Addr) (cap : Nat) (w : World) : Calls Try.prog 26 #[.slice p 0 cap] w fun e w' => e = .returned (.tuple #[]) ∧ w' = w := Any.slices_Sort_int_none Try.tS p cap w
def Ay : aY := ⟨[Ut 0], fun _ e s => match sL (Gt 0 e) s with | some (v, s') => .au (Ut 0 e v) s' | none => .bad, aM []⟩
theorem Kn {k : KC} {args : List V} {s s' : St} {v : V} (h : bD Ay k args s = some (v, s')) : ∃ x u, args = [x] ∧ sL x s = some (u, s') ∧ v = .bz [] := by
 unfold bD Ay at h
 simp only at h
 split at h
 · rename_i e he
   match args, he with
   | [x], he =>
     cases he
     rw [iN 0 0 (by omega) (by omega), if_pos rfl] at h
     refine ⟨x, ?_⟩
     cases hg : sL x s with
     | none => rw [hg] at h; cases h
     | some p =>
       obtain ⟨v1, s1⟩ := p
       rw [hg] at h
       simp only [aM] at h
       cases h
       exact ⟨v1, rfl, rfl, rfl⟩
 · cases h
theorem rD {dM : T aY} {fuel n f : Nat} {s s' : St} {x u : V} (h : dM.get f = some Ay) (hv : sL x s = some (u, s')) : (kc dM fuel (n + 1)).call f [x] s = some (.bz [], s') := by
 show (match dM.get f with | some F => bD F (kc dM fuel n) [x] s | none => none) = _
 rw [h]
 show (match (match sL (Gt 0 (Ut 0 e0 x)) s with | some (v, s') => aB.au (Ut 0 (Ut 0 e0 x) v) s' | none => .bad) with
  | .au e' s' => (match aM [] e' s' with | some v => some (v, s') | none => none)
  | .ret e' s' => (match aM [] e' s' with | some v => some (v, s') | none => none)
  | _ => none) = _
 rw [iN 0 0 (by omega) (by omega), if_pos rfl, hv]
 rfl
theorem Sn {gl : List Nat} : aI Try.prog gl 26 Ay := by
 intro k hk args s v s' hr G w args' hgl hargs hs
 obtain ⟨x, u, rfl, hx, rfl⟩ := Kn hr
 cases hargs with
 | cons _ x' _ l' hx' hl =>
   cases hl
   unfold sL at hx
   split at hx
   · cases hx
     cases hx'
     refine (uH none 0 w).mono ?_
     rintro e w' ⟨rfl, rfl⟩
     exact ⟨G, fH.refl _ _ _, hs, .bz _ _ .nil⟩
   · rename_i b o len cap es
     cases hc : and (Nat.beq es 1) (Nat.ble len 100000000) with
     | false => rw [hc] at hx; cases hx
     | true =>
       rw [hc] at hx
       rw [Bool.and_eq_true, cw] at hc
       obtain ⟨c1, c2⟩ := hc
       have c1 := Nat.eq_of_beq_eq_true c1
       subst c1
       have c2 : len ≤ 100000000 := by simpa using c2
       cases hx' with
       | slice _ _ _ _ c _ lc a hG hlc hcap hadr hin =>
         cases len with
         | zero =>
           cases hx
           refine (uH (some a) c w).mono ?_
           rintro e w' ⟨rfl, rfl⟩
           exact ⟨G, fH.refl _ _ _, hs, .bz _ _ .nil⟩
         | succ len =>
           simp only at hx
           split at hx
           · rename_i n xs hbk
             have hbk := hU hbk
             cases hd : Nat.ble (Nat.add o (len + 1)) n with
             | false => rw [hd] at hx; cases hx
             | true =>
               rw [hd] at hx
               simp only at hx
               rw [cw] at hd
               have hd : o + (len + 1) ≤ n := by simpa using hd
               split at hx
               · rename_i vs hvs
                 split at hx
                 · rename_i l hi
                   cases hx
                   obtain ⟨r1, r2⟩ := yO hs hbk hG hvs hi hd
                   have ha : a = ⟨lc.blk, lc.base + o, none⟩ := by rcases hadr with h | h; omega; exact h
                   subst ha
                   have hlt := (hs.dom b lc hG).2
                   have := xW lc.blk (lc.base + o) c l w r1 hlt (by omega)
                   rw [r2] at this
                   refine this.mono ?_
                   rintro e w' ⟨rfl, nn, os, rfl⟩
                   rw [N6 (List.Perm.refl l)]
                   have hsl := (dZ l).length_eq
                   obtain ⟨q1, q2⟩ := uP (o := o) (l := fq l) hs hbk hG (by omega) nn os
                   exact ⟨G, q2, q1, .bz _ _ .nil⟩
                 · cases hx
               · cases hx
           · cases hx
   · cases hx
end
end Go.Proofs.YtcgdlgbomjnnnaaLab
