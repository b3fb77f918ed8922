/- The lab: a slice of numbers sorted by the library, by its contract. No condition on the program. Pruned. -/
import Derived.Test.YtcgdlgbomjnnnaaChecked
import Derived.Test.YtcgdlgbomjnnnaaLabZe
import Derived.Ground.NamesProg
import Derived.Shelf.Slices.In.SortNone
import Derived.Lib.SortBridge
import Derived.Sort.OwnSortedInts
import Derived.Sort.EveryDepth
import Derived.KernelRfl
namespace Go.Proofs
open Go.Shelf
def Try.laysSort_ren : Go.Shelf.Ren := ⟨fun | 189 => 26 | 125 => 44 | 257 => 43 | 128 => 61 | 129 => 62 | 294 => 53 | 295 => 54 | 296 => 55 | 297 => 56 | 298 => 57 | 299 => 58 | 216 => 51 | 300 => 59 | 301 => 60 | 328 => 69 | 329 => 70 | 330 => 71 | 331 => 72 | 332 => 73 | 215 => 45 | 343 => 85 | n => n, fun | 28 => 37 | 3 => 3 | 46 => 87 | 0 => 0 | 51 => 108 | 53 => 110 | 4 => 4 | 183 => 102 | 182 => 101 | 131 => 60 | 5 => 5 | 9 => 9 | 218 => 120 | 222 => 124 | 228 => 142 | 229 => 44 | n => n, fun | n => n⟩
theorem Try.laysSort : Go.Proofs.Lays.n189 Try.prog Try.laysSort_ren := {
 mixed := by kernel_rfl
 f125 := Try.func44.trans (congrArg some (by kernel_rfl))
 f128 := Try.func61.trans (congrArg some (by kernel_rfl))
 f129 := Try.func62.trans (congrArg some (by kernel_rfl))
 f189 := Try.func26.trans (congrArg some (by kernel_rfl))
 f215 := Try.func45.trans (congrArg some (by kernel_rfl))
 f216 := Try.func51.trans (congrArg some (by kernel_rfl))
 f257 := Try.func43.trans (congrArg some (by kernel_rfl))
 f294 := Try.func53.trans (congrArg some (by kernel_rfl))
 f295 := Try.func54.trans (congrArg some (by kernel_rfl))
 f296 := Try.func55.trans (congrArg some (by kernel_rfl))
 f297 := Try.func56.trans (congrArg some (by kernel_rfl))
 f298 := Try.func57.trans (congrArg some (by kernel_rfl))
 f299 := Try.func58.trans (congrArg some (by kernel_rfl))
 f300 := Try.func59.trans (congrArg some (by kernel_rfl))
 f301 := Try.func60.trans (congrArg some (by kernel_rfl))
 f328 := Try.func69.trans (congrArg some (by kernel_rfl))
 f329 := Try.func70.trans (congrArg some (by kernel_rfl))
 f330 := Try.func71.trans (congrArg some (by kernel_rfl))
 f331 := Try.func72.trans (congrArg some (by kernel_rfl))
 f332 := Try.func73.trans (congrArg some (by kernel_rfl))
 f343 := Try.func85.trans (congrArg some (by kernel_rfl))
 t0 := Try.underlying0
 a0 := Try.isAgg0
 z0 := Try.sizeOf0
 v0 := Try.zeroValue0
 t3 := Try.underlying3
 a3 := Try.isAgg3
 z3 := Try.sizeOf3
 v3 := Try.zeroValue3
 t4 := Try.underlying4
 a4 := Try.isAgg4
 z4 := Try.sizeOf4
 v4 := Try.zeroValue4
 t5 := Try.underlying5
 a5 := Try.isAgg5
 z5 := Try.sizeOf5
 v5 := Try.zeroValue5
 t9 := Try.underlying9
 a9 := Try.isAgg9
 z9 := Try.sizeOf9
 v9 := Try.zeroValue9
 t28 := Try.underlying37
 a28 := Try.isAgg37
 z28 := Try.sizeOf37
 v28 := Try.zeroValue37
 t46 := Try.underlying87
 a46 := Try.isAgg87
 z46 := Try.sizeOf87
 v46 := Try.zeroValue87
 t51 := Try.underlying108
 a51 := Try.isAgg108
 z51 := Try.sizeOf108
 v51 := Try.zeroValue108
 t53 := Try.underlying110
 a53 := Try.isAgg110
 z53 := Try.sizeOf110
 v53 := Try.zeroValue110
 t131 := Try.underlying60
 a131 := Try.isAgg60
 z131 := Try.sizeOf60
 v131 := Try.zeroValue60
 t182 := Try.underlying101
 a182 := Try.isAgg101
 z182 := Try.sizeOf101
 v182 := Try.zeroValue101
 t183 := Try.underlying102
 a183 := Try.isAgg102
 z183 := Try.sizeOf102
 v183 := Try.zeroValue102
 t218 := Try.underlying120
 a218 := Try.isAgg120
 z218 := Try.sizeOf120
 v218 := Try.zeroValue120
 t222 := Try.underlying124
 a222 := Try.isAgg124
 z222 := Try.sizeOf124
 v222 := Try.zeroValue124
 t228 := Try.underlying142
 a228 := Try.isAgg142
 z228 := Try.sizeOf142
 v228 := Try.zeroValue142
 t229 := Try.underlying44
 a229 := Try.isAgg44
 z229 := Try.sizeOf44
 v229 := Try.zeroValue44 }
end Go.Proofs
namespace Go.Proofs.YtcgdlgbomjnnnaaLab
open Go Go.Proofs Go.RowKit Go.Sort Go.Shelf
set_option linter.all false
noncomputable section
def insI (x : Int) : List Int → List Int | [] => [x] | y :: l => Bool.casesOn (motive := fun _ => List Int) (ltI y x) (x :: y :: l) (y :: insI x l)
def srtI : List Int → List Int | [] => [] | x :: l => insI x (srtI l)
theorem insI_perm (x : Int) : ∀ l, (insI x l).Perm (x :: l)
 | [] => .refl _
 | y :: l => by
   unfold insI
   cases ltI y x with
   | false => exact .refl _
   | true => exact ((insI_perm x l).cons y).trans (.swap x y l)
theorem srtI_perm : ∀ l, (srtI l).Perm l
 | [] => .refl _
 | x :: l => (insI_perm x _).trans ((srtI_perm l).cons x)
theorem insI_sorted (x : Int) : ∀ l : List Int, l.Pairwise (· ≤ ·) → (insI x l).Pairwise (· ≤ ·)
 | [], _ => List.pairwise_singleton _ _
 | y :: l, h => by
   rw [List.pairwise_cons] at h
   unfold insI
   cases hq : ltI y x with
   | false =>
     rw [ltI_eq] at hq
     have hq : ¬ y < x := by simpa using hq
     refine List.pairwise_cons.2 ⟨fun z hz => ?_, List.pairwise_cons.2 h⟩
     rcases List.mem_cons.1 hz with rfl | hz
     · omega
     · have := h.1 z hz; omega
   | true =>
     rw [ltI_eq] at hq
     have hq : y < x := by simpa using hq
     refine List.pairwise_cons.2 ⟨fun z hz => ?_, insI_sorted x l h.2⟩
     rcases List.mem_cons.1 ((insI_perm x l).mem_iff.1 hz) with rfl | hz
     · omega
     · exact h.1 z hz
theorem srtI_sorted : ∀ l, (srtI l).Pairwise (· ≤ ·)
 | [] => .nil
 | x :: l => insI_sorted x _ (srtI_sorted l)
theorem srtI_eq {l ss : List Int} (h : ss.Perm l) : ss.mergeSort (fun x y => decide (x ≤ y)) = srtI l := by
 have tr : ∀ a b c : Int, decide (a ≤ b) = true → decide (b ≤ c) = true → decide (a ≤ c) = true := fun a b c h1 h2 => by simp only [decide_eq_true_eq] at *; exact Int.le_trans h1 h2
 have to : ∀ a b : Int, (decide (a ≤ b) || decide (b ≤ a)) = true := fun a b => by simp only [Bool.or_eq_true, decide_eq_true_eq]; exact Int.le_total a b
 refine List.Perm.eq_of_pairwise (le := fun a b => decide (a ≤ b) = true) (fun a b _ _ h1 h2 => ?_) (List.pairwise_mergeSort tr to ss) ((srtI_sorted l).imp fun h => by simpa using h) (((List.mergeSort_perm ss _).trans h).trans (srtI_perm l).symm)
 simp only [decide_eq_true_eq] at h1 h2
 exact Int.le_antisymm h1 h2
def intsV : List V → Option (List Int)
 | [] => some []
 | v :: l => match v with
   | .i n => (match intsV l with | some r => some (n :: r) | none => none)
   | _ => none
theorem intsV_map (l : List Int) : intsV (l.map V.i) = some l := by
 induction l with
 | nil => rfl
 | cons x l ih => show (match intsV (l.map V.i) with | some r => some (x :: r) | none => none) = _; rw [ih]
def srtV (x : V) (s : St) : Option (V × St) := match x with
 | .nils => some (.tup [], s)
 | .slice b o len _ es => Bool.casesOn (motive := fun _ => Option (V × St)) (and (Nat.beq es 1) (Nat.ble len 100000000)) none (Nat.casesOn (motive := fun _ => Option (V × St)) len (some (.tup [], s)) fun _ => match blkOf s b with
   | some (n, xs) => Bool.casesOn (motive := fun _ => Option (V × St)) (Nat.ble (Nat.add o len) n) none (match ldc xs.get len o with
     | some vs => (match intsV vs with
       | some l => some (.tup [], s.put b (.cells n (setL xs o ((srtI l).map V.i))))
       | none => none)
     | none => none)
   | none => none)
 | _ => none
theorem getElem!_arr {l : List Int} {j : Nat} (h : j < l.length) : l.toArray[j]! = l[j] := by simp [h]
theorem rows_hold {G : Pl} {s : St} {w : World} (hs : SR G s w) {b n : Nat} {xs : T V} (hb : s.heap.get b = some (.cells n xs)) {lc : Loc} (hl : G b = some lc) {o : Nat} {vs : List V} {l : List Int} {m : Nat} (hv : ldc xs.get m o = some vs) (hi : intsV vs = some l) (hm : o + m ≤ n) :
 Holds (Value.int .i64) w lc.blk (lc.base + o) l.toArray ∧ l.length = m := by
 obtain ⟨l2, c, el, fz, h1, h2, h3, h4, h5, h6⟩ := hs.r.ob b _ hb
 rw [hl] at h1; cases h1
 obtain ⟨hlen, hget⟩ := ldc_ok hv
 have key : ∀ (vs : List V) (l : List Int), intsV vs = some l → l.length = vs.length ∧ ∀ (j : Nat) (z : Int), l[j]? = some z → vs[j]? = some (.i z) := by
  intro vs
  induction vs with
  | nil => intro l h; cases h; exact ⟨rfl, fun j z h => by simp at h⟩
  | cons v vs ih =>
    intro l h
    unfold intsV at h
    split at h
    · split at h
      · rename_i r hr
        cases h
        obtain ⟨a1, a2⟩ := ih r hr
        refine ⟨by simp [a1], fun j z hj => ?_⟩
        cases j with
        | zero => simp at hj; subst hj; rfl
        | succ j => simp at hj ⊢; exact a2 j z hj
      · cases h
    · cases h
 obtain ⟨k1, k2⟩ := key vs l hi
 refine ⟨fun j hj => ?_, by omega⟩
 have hj' : j < l.length := by simpa using hj
 have q := k2 j l[j] (List.getElem?_eq_getElem hj')
 obtain ⟨x, b1, b2⟩ := hget j (by omega)
 rw [q] at b1; cases b1
 obtain ⟨x', c1, c2, c3⟩ := h6 (o + j) _ (by omega) b2
 cases c2
 refine ⟨?_, ?_⟩
 · rw [getElem!_arr hj']
   simp only [World.cell?, h2]
   simp only [Option.isSome_none, Bool.false_eq_true, if_false]
   rw [Nat.add_assoc]; exact c1
 · simp only [World.frozen?, h2]
   rcases h3 with rfl | h3
   · simp
   · have := (Array.getElem?_eq_some_iff.1 c1).1
     simp; omega
theorem mapBlock_touch (w : World) (blk : Nat) (f : Array Value → Array Value) : Touch blk w (mapBlock w blk f) := by
 refine ⟨rfl, rfl, rfl, by simp [mapBlock], fun j hj => ?_, fun j d el fz hd => ?_⟩
 · simp only [mapBlock, Array.getElem?_modify]
   rw [if_neg (Ne.symm hj)]
 · simp only [mapBlock, Array.getElem?_modify]
   by_cases e : blk = j
   · rw [if_pos e, hd]; exact ⟨f d, rfl⟩
   · rw [if_neg e, hd]; exact ⟨d, rfl⟩
theorem sorted_both {G : Pl} {s : St} {w : World} (hs : SR G s w) {b n : Nat} {xs : T V} (hb : s.heap.get b = some (.cells n xs)) {lc : Loc} (hl : G b = some lc) {o : Nat} {l : List Int} (hm : o + l.length ≤ n) (k : Nat) (os : Array Obj) :
 SR G (s.put b (.cells n (setL xs o (l.map V.i)))) (grow (putRow (Value.int .i64) (Sort.ahead w k) lc.blk (lc.base + o) l.toArray) os) ∧ GoS G s w G (s.put b (.cells n (setL xs o (l.map V.i)))) (grow (putRow (Value.int .i64) (Sort.ahead w k) lc.blk (lc.base + o) l.toArray) os) := by
 obtain ⟨l2, c, el, fz, h1, h2, h3, h4, h5, h6⟩ := hs.r.ob b _ hb
 rw [hl] at h1; cases h1
 have hsa : SR G s (Sort.ahead w k) := hs.drew
 have hT := mapBlock_touch (Sort.ahead w k) lc.blk (putCells (Value.int .i64) (lc.base + o) l.toArray)
 have hnew : (mapBlock (Sort.ahead w k) lc.blk (putCells (Value.int .i64) (lc.base + o) l.toArray)).heap[lc.blk]? = some (.cells (putCells (Value.int .i64) (lc.base + o) l.toArray c) el fz) := by
  simp only [mapBlock, Array.getElem?_modify, if_true, Sort.heap_ahead, h2]
  rfl
 have hsz : (putCells (Value.int .i64) (lc.base + o) l.toArray c).size = c.size := by simp [putCells]
 obtain ⟨q1, q2⟩ := hsa.turn (o' := .cells n (setL xs o (l.map V.i))) hb rfl hl hT ⟨lc, _, el, fz, hl, hnew, by rw [hsz]; exact h3, by rw [hsz]; exact h4, h5, fun i x hi hx => by
  have hci : lc.base + i < c.size := by omega
  have e0 : (putCells (Value.int .i64) (lc.base + o) l.toArray c)[lc.base + i]? = some (if lc.base + o ≤ lc.base + i ∧ lc.base + i < lc.base + o + l.toArray.size then Value.int .i64 (l.toArray[lc.base + i - (lc.base + o)]!) else c[lc.base + i]) := by
   simp [putCells, hci]
  rcases setL_get hx with ⟨b1, b2, b3⟩ | ⟨b1, b2⟩
  · rw [List.length_map] at b2
    rw [List.getElem?_map] at b3
    have hio : i - o < l.length := by omega
    rw [List.getElem?_eq_getElem hio] at b3
    cases b3
    refine ⟨_, e0, ?_, ?_⟩
    · rw [if_pos ⟨by omega, by simp; omega⟩, show lc.base + i - (lc.base + o) = i - o by omega, getElem!_arr hio]; exact .i _
    · rw [if_pos ⟨by omega, by simp; omega⟩]; rfl
  · rw [List.length_map] at b1
    obtain ⟨x', c1, c2, c3⟩ := h6 i x hi b2
    refine ⟨x', ?_, c2, c3⟩
    rw [e0, if_neg (by simp; omega), ← c1]
    exact (Array.getElem?_eq_getElem hci).symm⟩
 have hB : RowKit.Below (putRow (Value.int .i64) (Sort.ahead w k) lc.blk (lc.base + o) l.toArray).heap.size (putRow (Value.int .i64) (Sort.ahead w k) lc.blk (lc.base + o) l.toArray) (grow (putRow (Value.int .i64) (Sort.ahead w k) lc.blk (lc.base + o) l.toArray) os) :=
  ⟨rfl, rfl, rfl, by simp, fun j hj => by
   show ((putRow (Value.int .i64) (Sort.ahead w k) lc.blk (lc.base + o) l.toArray).heap ++ os)[j]? = _
   rw [Array.getElem?_append_left hj]⟩
 obtain ⟨r1, r2⟩ := SR.wider (show SR G _ (putRow (Value.int .i64) (Sort.ahead w k) lc.blk (lc.base + o) l.toArray) from q1) hB
 exact ⟨r1, (GoS.drew (show GoS G s { w with drawn := w.drawn + k } G _ _ from q2)).trans r2⟩
theorem sortCalls (blk off cap : Nat) (zs : List Int) (w : World) (hH : Holds (Value.int .i64) w blk off zs.toArray) (hblk : blk < w.heap.size) (hsz : zs.length < 4611686018427387904) :
 Calls Try.prog 26 #[.slice (some ⟨blk, off, none⟩) zs.length cap] w fun e w' => e = .returned (.tuple #[]) ∧ ∃ n os, w' = grow (putRow (Value.int .i64) (Sort.ahead w n) blk off (zs.mergeSort fun x y => decide (x ≤ y)).toArray) os :=
 calls_of_every_depth fun D => AnyS.slices_Sort_int_alone Try.laysSort D blk off cap zs w hH hblk hsz
theorem sortNone (p : Option Addr) (cap : Nat) (w : World) : Calls Try.prog 26 #[.slice p 0 cap] w fun e w' => e = .returned (.tuple #[]) ∧ w' = w := Any.slices_Sort_int_none Try.laysSort p cap w
def fSrt : FDen := ⟨[Ut 0], fun _ e s => match srtV (Gt 0 e) s with | some (v, s') => .nrm (Ut 0 e v) s' | none => .bad, resV []⟩
theorem fSrt_inv {k : KC} {args : List V} {s s' : St} {v : V} (h : runF fSrt k args s = some (v, s')) : ∃ x u, args = [x] ∧ srtV x s = some (u, s') ∧ v = .tup [] := by
 unfold runF fSrt at h
 simp only at h
 split at h
 · rename_i e he
   match args, he with
   | [x], he =>
     cases he
     rw [Gt_Ut 0 0 (by omega) (by omega), if_pos rfl] at h
     refine ⟨x, ?_⟩
     cases hg : srtV x s with
     | none => rw [hg] at h; cases h
     | some p =>
       obtain ⟨v1, s1⟩ := p
       rw [hg] at h
       simp only [resV] at h
       cases h
       exact ⟨v1, rfl, rfl, rfl⟩
 · cases h
theorem fSrt_call {tbl : T FDen} {fuel n f : Nat} {s s' : St} {x u : V} (h : tbl.get f = some fSrt) (hv : srtV x s = some (u, s')) : (kc tbl fuel (n + 1)).call f [x] s = some (.tup [], s') := by
 show (match tbl.get f with | some F => runF F (kc tbl fuel n) [x] s | none => none) = _
 rw [h]
 show (match (match srtV (Gt 0 (Ut 0 e0 x)) s with | some (v, s') => Res.nrm (Ut 0 (Ut 0 e0 x) v) s' | none => .bad) with
  | .nrm e' s' => (match resV [] e' s' with | some v => some (v, s') | none => none)
  | .ret e' s' => (match resV [] e' s' with | some v => some (v, s') | none => none)
  | _ => none) = _
 rw [Gt_Ut 0 0 (by omega) (by omega), if_pos rfl, hv]
 rfl
theorem run26 {gl : List Nat} : FRun Try.prog gl 26 fSrt := by
 intro k hk args s v s' hr G w args' hgl hargs hs
 obtain ⟨x, u, rfl, hx, rfl⟩ := fSrt_inv hr
 cases hargs with
 | cons _ x' _ l' hx' hl =>
   cases hl
   unfold srtV at hx
   split at hx
   · cases hx
     cases hx'
     refine (sortNone none 0 w).mono ?_
     rintro e w' ⟨rfl, rfl⟩
     exact ⟨G, GoS.refl _ _ _, hs, .tup _ _ .nil⟩
   · rename_i b o len cap es
     cases hc : and (Nat.beq es 1) (Nat.ble len 100000000) with
     | false => rw [hc] at hx; cases hx
     | true =>
       rw [hc] at hx
       rw [Bool.and_eq_true, nble_eq] at hc
       obtain ⟨c1, c2⟩ := hc
       have c1 := Nat.eq_of_beq_eq_true c1
       subst c1
       have c2 : len ≤ 100000000 := by simpa using c2
       cases hx' with
       | slice _ _ _ _ c _ lc a hG hlc hcap hadr hin =>
         cases len with
         | zero =>
           cases hx
           refine (sortNone (some a) c w).mono ?_
           rintro e w' ⟨rfl, rfl⟩
           exact ⟨G, GoS.refl _ _ _, hs, .tup _ _ .nil⟩
         | succ len =>
           simp only at hx
           split at hx
           · rename_i n xs hbk
             have hbk := blkOf_inv hbk
             cases hd : Nat.ble (Nat.add o (len + 1)) n with
             | false => rw [hd] at hx; cases hx
             | true =>
               rw [hd] at hx
               simp only at hx
               rw [nble_eq] at hd
               have hd : o + (len + 1) ≤ n := by simpa using hd
               split at hx
               · rename_i vs hvs
                 split at hx
                 · rename_i l hi
                   cases hx
                   obtain ⟨r1, r2⟩ := rows_hold hs hbk hG hvs hi hd
                   have ha : a = ⟨lc.blk, lc.base + o, none⟩ := by rcases hadr with h | h; omega; exact h
                   subst ha
                   have hlt := (hs.dom b lc hG).2
                   have := sortCalls lc.blk (lc.base + o) c l w r1 hlt (by omega)
                   rw [r2] at this
                   refine this.mono ?_
                   rintro e w' ⟨rfl, nn, os, rfl⟩
                   rw [srtI_eq (List.Perm.refl l)]
                   have hsl := (srtI_perm l).length_eq
                   obtain ⟨q1, q2⟩ := sorted_both (o := o) (l := srtI l) hs hbk hG (by omega) nn os
                   exact ⟨G, q2, q1, .tup _ _ .nil⟩
                 · cases hx
               · cases hx
           · cases hx
   · cases hx
end
end Go.Proofs.YtcgdlgbomjnnnaaLab
