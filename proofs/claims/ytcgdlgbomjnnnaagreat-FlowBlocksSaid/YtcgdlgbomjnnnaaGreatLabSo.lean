/- The lab: a slice of numbers sorted by the library, by its contract. No condition on the program. Pruned. -/
import Derived.Test.YtcgdlgbomjnnnaaGreatChecked
import Derived.Test.YtcgdlgbomjnnnaaGreatLabZe
import Derived.Ground.NamesProg
import Derived.Shelf.Slices.In.SortNone
import Derived.Lib.SortBridge
import Derived.Sort.OwnSortedInts
import Derived.Sort.EveryDepth
import Derived.KernelRfl
namespace Go.Proofs
open Go.Shelf
def Tryz.tS : Go.Shelf.Ren := ⟨fun | 189 => 27 | 125 => 47 | 257 => 46 | 128 => 68 | 129 => 69 | 294 => 60 | 295 => 61 | 296 => 62 | 297 => 63 | 298 => 64 | 299 => 65 | 216 => 48 | 300 => 66 | 301 => 67 | 328 => 81 | 329 => 82 | 330 => 83 | 331 => 84 | 332 => 85 | 215 => 59 | 343 => 94 | n => n, fun | 28 => 23 | 3 => 3 | 46 => 83 | 0 => 0 | 51 => 119 | 53 => 121 | 4 => 4 | 183 => 113 | 182 => 112 | 131 => 74 | 5 => 5 | 9 => 9 | 218 => 138 | 222 => 142 | 228 => 148 | 229 => 29 | n => n, fun | n => n⟩
theorem Tryz.uc : Go.Proofs.Lays.n189 Tryz.prog Tryz.tS := {
 mixed := by kernel_rfl
 f125 := Tryz.func47.trans (congrArg some (by kernel_rfl))
 f128 := Tryz.func68.trans (congrArg some (by kernel_rfl))
 f129 := Tryz.func69.trans (congrArg some (by kernel_rfl))
 f189 := Tryz.func27.trans (congrArg some (by kernel_rfl))
 f215 := Tryz.func59.trans (congrArg some (by kernel_rfl))
 f216 := Tryz.func48.trans (congrArg some (by kernel_rfl))
 f257 := Tryz.func46.trans (congrArg some (by kernel_rfl))
 f294 := Tryz.func60.trans (congrArg some (by kernel_rfl))
 f295 := Tryz.func61.trans (congrArg some (by kernel_rfl))
 f296 := Tryz.func62.trans (congrArg some (by kernel_rfl))
 f297 := Tryz.func63.trans (congrArg some (by kernel_rfl))
 f298 := Tryz.func64.trans (congrArg some (by kernel_rfl))
 f299 := Tryz.func65.trans (congrArg some (by kernel_rfl))
 f300 := Tryz.func66.trans (congrArg some (by kernel_rfl))
 f301 := Tryz.func67.trans (congrArg some (by kernel_rfl))
 f328 := Tryz.func81.trans (congrArg some (by kernel_rfl))
 f329 := Tryz.func82.trans (congrArg some (by kernel_rfl))
 f330 := Tryz.func83.trans (congrArg some (by kernel_rfl))
 f331 := Tryz.func84.trans (congrArg some (by kernel_rfl))
 f332 := Tryz.func85.trans (congrArg some (by kernel_rfl))
 f343 := Tryz.func94.trans (congrArg some (by kernel_rfl))
 t0 := Tryz.underlying0
 a0 := Tryz.isAgg0
 z0 := Tryz.sizeOf0
 v0 := Tryz.zeroValue0
 t3 := Tryz.underlying3
 a3 := Tryz.isAgg3
 z3 := Tryz.sizeOf3
 v3 := Tryz.zeroValue3
 t4 := Tryz.underlying4
 a4 := Tryz.isAgg4
 z4 := Tryz.sizeOf4
 v4 := Tryz.zeroValue4
 t5 := Tryz.underlying5
 a5 := Tryz.isAgg5
 z5 := Tryz.sizeOf5
 v5 := Tryz.zeroValue5
 t9 := Tryz.underlying9
 a9 := Tryz.isAgg9
 z9 := Tryz.sizeOf9
 v9 := Tryz.zeroValue9
 t28 := Tryz.underlying23
 a28 := Tryz.isAgg23
 z28 := Tryz.sizeOf23
 v28 := Tryz.zeroValue23
 t46 := Tryz.underlying83
 a46 := Tryz.isAgg83
 z46 := Tryz.sizeOf83
 v46 := Tryz.zeroValue83
 t51 := Tryz.underlying119
 a51 := Tryz.isAgg119
 z51 := Tryz.sizeOf119
 v51 := Tryz.zeroValue119
 t53 := Tryz.underlying121
 a53 := Tryz.isAgg121
 z53 := Tryz.sizeOf121
 v53 := Tryz.zeroValue121
 t131 := Tryz.underlying74
 a131 := Tryz.isAgg74
 z131 := Tryz.sizeOf74
 v131 := Tryz.zeroValue74
 t182 := Tryz.underlying112
 a182 := Tryz.isAgg112
 z182 := Tryz.sizeOf112
 v182 := Tryz.zeroValue112
 t183 := Tryz.underlying113
 a183 := Tryz.isAgg113
 z183 := Tryz.sizeOf113
 v183 := Tryz.zeroValue113
 t218 := Tryz.underlying138
 a218 := Tryz.isAgg138
 z218 := Tryz.sizeOf138
 v218 := Tryz.zeroValue138
 t222 := Tryz.underlying142
 a222 := Tryz.isAgg142
 z222 := Tryz.sizeOf142
 v222 := Tryz.zeroValue142
 t228 := Tryz.underlying148
 a228 := Tryz.isAgg148
 z228 := Tryz.sizeOf148
 v228 := Tryz.zeroValue148
 t229 := Tryz.underlying29
 a229 := Tryz.isAgg29
 z229 := Tryz.sizeOf29
 v229 := Tryz.zeroValue29 }
end Go.Proofs
namespace Go.Proofs.YtcgdlgbomjnnnaaGreatLab
open Go Go.Proofs Go.RowKit Go.Sort Go.Shelf
set_option linter.all false
noncomputable section
def uO (x : Int) : List Int → List Int | [] => [x] | y :: l => Bool.casesOn (motive := fun _ => List Int) (uu y x) (x :: y :: l) (y :: uO x l)
def fA : List Int → List Int | [] => [] | x :: l => uO x (fA l)
theorem nk (x : Int) : ∀ l, (uO x l).Perm (x :: l)
 | [] => .refl _
 | y :: l => by
   unfold uO
   cases uu y x with
   | false => exact .refl _
   | true => exact ((nk x l).cons y).trans (.swap x y l)
theorem ey : ∀ l, (fA l).Perm l
 | [] => .refl _
 | x :: l => (nk x _).trans ((ey l).cons x)
theorem n9 (x : Int) : ∀ l : List Int, l.Pairwise (· ≤ ·) → (uO x l).Pairwise (· ≤ ·)
 | [], _ => List.pairwise_singleton _ _
 | y :: l, h => by
   rw [List.pairwise_cons] at h
   unfold uO
   cases hq : uu y x with
   | false =>
     rw [iA] at hq
     have hq : ¬ y < x := by simpa using hq
     refine List.pairwise_cons.2 ⟨fun z hz => ?_, List.pairwise_cons.2 h⟩
     rcases List.mem_cons.1 hz with rfl | hz
     · omega
     · have := h.1 z hz; omega
   | true =>
     rw [iA] at hq
     have hq : y < x := by simpa using hq
     refine List.pairwise_cons.2 ⟨fun z hz => ?_, n9 x l h.2⟩
     rcases List.mem_cons.1 ((nk x l).mem_iff.1 hz) with rfl | hz
     · omega
     · exact h.1 z hz
theorem iN : ∀ l, (fA l).Pairwise (· ≤ ·)
 | [] => .nil
 | x :: l => n9 x _ (iN l)
theorem QC {l ss : List Int} (h : ss.Perm l) : ss.mergeSort (fun x y => decide (x ≤ y)) = fA l := by
 have tr : ∀ a b c : Int, decide (a ≤ b) = true → decide (b ≤ c) = true → decide (a ≤ c) = true := fun a b c h1 h2 => by simp only [decide_eq_true_eq] at *; exact Int.le_trans h1 h2
 have to : ∀ a b : Int, (decide (a ≤ b) || decide (b ≤ a)) = true := fun a b => by simp only [Bool.or_eq_true, decide_eq_true_eq]; exact Int.le_total a b
 refine List.Perm.eq_of_pairwise (le := fun a b => decide (a ≤ b) = true) (fun a b _ _ h1 h2 => ?_) (List.pairwise_mergeSort tr to ss) ((iN l).imp fun h => by simpa using h) (((List.mergeSort_perm ss _).trans h).trans (ey l).symm)
 simp only [decide_eq_true_eq] at h1 h2
 exact Int.le_antisymm h1 h2
def mN : List V → Option (List Int)
 | [] => some []
 | v :: l => match v with
   | .i n => (match mN l with | some r => some (n :: r) | none => none)
   | _ => none
theorem rI (l : List Int) : mN (l.map V.i) = some l := by
 induction l with
 | nil => rfl
 | cons x l ih => show (match mN (l.map V.i) with | some r => some (x :: r) | none => none) = _; rw [ih]
def sB (x : V) (s : St) : Option (V × St) := match x with
 | .ay => some (.bH [], s)
 | .slice b o len _ es => Bool.casesOn (motive := fun _ => Option (V × St)) (and (Nat.beq es 1) (Nat.ble len 100000000)) none (Nat.casesOn (motive := fun _ => Option (V × St)) len (some (.bH [], s)) fun _ => match fC s b with
   | some (n, xs) => Bool.casesOn (motive := fun _ => Option (V × St)) (Nat.ble (Nat.add o len) n) none (match qA xs.get len o with
     | some vs => (match mN vs with
       | some l => some (.bH [], s.put b (.cells n (gG xs o ((fA l).map V.i))))
       | none => none)
     | none => none)
   | none => none)
 | _ => none
theorem mF {l : List Int} {j : Nat} (h : j < l.length) : l.toArray[j]! = l[j] := by simp [h]
theorem zK {G : Pl} {s : St} {w : World} (hs : SR G s w) {b n : Nat} {xs : T V} (hb : s.heap.get b = some (.cells n xs)) {lc : Loc} (hl : G b = some lc) {o : Nat} {vs : List V} {l : List Int} {m : Nat} (hv : qA xs.get m o = some vs) (hi : mN vs = some l) (hm : o + m ≤ n) :
 Holds (Value.int .i64) w lc.blk (lc.base + o) l.toArray ∧ l.length = m := by
 obtain ⟨l2, c, el, fz, h1, h2, h3, h4, h5, h6⟩ := hs.r.ob b _ hb
 rw [hl] at h1; cases h1
 obtain ⟨hlen, hget⟩ := pN hv
 have key : ∀ (vs : List V) (l : List Int), mN vs = some l → l.length = vs.length ∧ ∀ (j : Nat) (z : Int), l[j]? = some z → vs[j]? = some (.i z) := by
  intro vs
  induction vs with
  | nil => intro l h; cases h; exact ⟨rfl, fun j z h => by simp at h⟩
  | cons v vs ih =>
    intro l h
    unfold mN at h
    split at h
    · split at h
      · rename_i r hr
        cases h
        obtain ⟨a1, a2⟩ := ih r hr
        refine ⟨by simp [a1], fun j z hj => ?_⟩
        cases j with
        | zero => simp at hj; subst hj; rfl
        | succ j => simp at hj ⊢; exact a2 j z hj
      · cases h
    · cases h
 obtain ⟨k1, k2⟩ := key vs l hi
 refine ⟨fun j hj => ?_, by omega⟩
 have hj' : j < l.length := by simpa using hj
 have q := k2 j l[j] (List.getElem?_eq_getElem hj')
 obtain ⟨x, b1, b2⟩ := hget j (by omega)
 rw [q] at b1; cases b1
 obtain ⟨x', c1, c2, c3⟩ := h6 (o + j) _ (by omega) b2
 cases c2
 refine ⟨?_, ?_⟩
 · rw [mF hj']
   simp only [World.cell?, h2]
   simp only [Option.isSome_none, Bool.false_eq_true, if_false]
   rw [Nat.add_assoc]; exact c1
 · simp only [World.frozen?, h2]
   rcases h3 with rfl | h3
   · simp
   · have := (Array.getElem?_eq_some_iff.1 c1).1
     simp; omega
theorem oQ (w : World) (blk : Nat) (f : Array Value → Array Value) : Touch blk w (mapBlock w blk f) := by
 refine ⟨rfl, rfl, rfl, by simp [mapBlock], fun j hj => ?_, fun j d el fz hd => ?_⟩
 · simp only [mapBlock, Array.getElem?_modify]
   rw [if_neg (Ne.symm hj)]
 · simp only [mapBlock, Array.getElem?_modify]
   by_cases e : blk = j
   · rw [if_pos e, hd]; exact ⟨f d, rfl⟩
   · rw [if_neg e, hd]; exact ⟨d, rfl⟩
theorem ux {G : Pl} {s : St} {w : World} (hs : SR G s w) {b n : Nat} {xs : T V} (hb : s.heap.get b = some (.cells n xs)) {lc : Loc} (hl : G b = some lc) {o : Nat} {l : List Int} (hm : o + l.length ≤ n) (k : Nat) (os : Array Obj) :
 SR G (s.put b (.cells n (gG xs o (l.map V.i)))) (grow (putRow (Value.int .i64) (Sort.ahead w k) lc.blk (lc.base + o) l.toArray) os) ∧ fD G s w G (s.put b (.cells n (gG xs o (l.map V.i)))) (grow (putRow (Value.int .i64) (Sort.ahead w k) lc.blk (lc.base + o) l.toArray) os) := by
 obtain ⟨l2, c, el, fz, h1, h2, h3, h4, h5, h6⟩ := hs.r.ob b _ hb
 rw [hl] at h1; cases h1
 have hsa : SR G s (Sort.ahead w k) := hs.drew
 have hT := oQ (Sort.ahead w k) lc.blk (putCells (Value.int .i64) (lc.base + o) l.toArray)
 have hnew : (mapBlock (Sort.ahead w k) lc.blk (putCells (Value.int .i64) (lc.base + o) l.toArray)).heap[lc.blk]? = some (.cells (putCells (Value.int .i64) (lc.base + o) l.toArray c) el fz) := by
  simp only [mapBlock, Array.getElem?_modify, if_true, Sort.heap_ahead, h2]
  rfl
 have hsz : (putCells (Value.int .i64) (lc.base + o) l.toArray c).size = c.size := by simp [putCells]
 obtain ⟨q1, q2⟩ := hsa.yW (o' := .cells n (gG xs o (l.map V.i))) hb rfl hl hT ⟨lc, _, el, fz, hl, hnew, by rw [hsz]; exact h3, by rw [hsz]; exact h4, h5, fun i x hi hx => by
  have hci : lc.base + i < c.size := by omega
  have e0 : (putCells (Value.int .i64) (lc.base + o) l.toArray c)[lc.base + i]? = some (if lc.base + o ≤ lc.base + i ∧ lc.base + i < lc.base + o + l.toArray.size then Value.int .i64 (l.toArray[lc.base + i - (lc.base + o)]!) else c[lc.base + i]) := by
   simp [putCells, hci]
  rcases m4 hx with ⟨b1, b2, b3⟩ | ⟨b1, b2⟩
  · rw [List.length_map] at b2
    rw [List.getElem?_map] at b3
    have hio : i - o < l.length := by omega
    rw [List.getElem?_eq_getElem hio] at b3
    cases b3
    refine ⟨_, e0, ?_, ?_⟩
    · rw [if_pos ⟨by omega, by simp; omega⟩, show lc.base + i - (lc.base + o) = i - o by omega, mF hio]; exact .i _
    · rw [if_pos ⟨by omega, by simp; omega⟩]; rfl
  · rw [List.length_map] at b1
    obtain ⟨x', c1, c2, c3⟩ := h6 i x hi b2
    refine ⟨x', ?_, c2, c3⟩
    rw [e0, if_neg (by simp; omega), ← c1]
    exact (Array.getElem?_eq_getElem hci).symm⟩
 have hB : RowKit.Below (putRow (Value.int .i64) (Sort.ahead w k) lc.blk (lc.base + o) l.toArray).heap.size (putRow (Value.int .i64) (Sort.ahead w k) lc.blk (lc.base + o) l.toArray) (grow (putRow (Value.int .i64) (Sort.ahead w k) lc.blk (lc.base + o) l.toArray) os) :=
  ⟨rfl, rfl, rfl, by simp, fun j hj => by
   show ((putRow (Value.int .i64) (Sort.ahead w k) lc.blk (lc.base + o) l.toArray).heap ++ os)[j]? = _
   rw [Array.getElem?_append_left hj]⟩
 obtain ⟨r1, r2⟩ := SR.wider (show SR G _ (putRow (Value.int .i64) (Sort.ahead w k) lc.blk (lc.base + o) l.toArray) from q1) hB
 exact ⟨r1, (fD.drew (show fD G s { w with drawn := w.drawn + k } G _ _ from q2)).trans r2⟩
theorem yK (blk off cap : Nat) (zs : List Int) (w : World) (hH : Holds (Value.int .i64) w blk off zs.toArray) (hblk : blk < w.heap.size) (hsz : zs.length < 4611686018427387904) :
 Calls Tryz.prog 27 #[.slice (some ⟨blk, off, none⟩) zs.length cap] w fun e w' => e = .returned (.tuple #[]) ∧ ∃ n os, w' = grow (putRow (Value.int .i64) (Sort.ahead w n) blk off (zs.mergeSort fun x y => decide (x ≤ y)).toArray) os :=
 calls_of_every_depth fun D => AnyS.slices_Sort_int_alone Tryz.uc D blk off cap zs w hH hblk hsz
theorem uo (p : Option Addr) (cap : Nat) (w : World) : Calls Tryz.prog 27 #[.slice p 0 cap] w fun e w' => e = .returned (.tuple #[]) ∧ w' = w := Any.slices_Sort_int_none Tryz.uc p cap w
def MT : aX := ⟨[Ut 0], fun _ e s => match sB (Gt 0 e) s with | some (v, s') => .au (Ut 0 e v) s' | none => .bad, aL []⟩
theorem B9 {k : KC} {args : List V} {s s' : St} {v : V} (h : bA MT k args s = some (v, s')) : ∃ x u, args = [x] ∧ sB x s = some (u, s') ∧ v = .bH [] := by
 unfold bA MT at h
 simp only at h
 split at h
 · rename_i e he
   match args, he with
   | [x], he =>
     cases he
     rw [iT 0 0 (by omega) (by omega), if_pos rfl] at h
     refine ⟨x, ?_⟩
     cases hg : sB x s with
     | none => rw [hg] at h; cases h
     | some p =>
       obtain ⟨v1, s1⟩ := p
       rw [hg] at h
       simp only [aL] at h
       cases h
       exact ⟨v1, rfl, rfl, rfl⟩
 · cases h
theorem sg {dS : T aX} {fuel n f : Nat} {s s' : St} {x u : V} (h : dS.get f = some MT) (hv : sB x s = some (u, s')) : (kc dS fuel (n + 1)).call f [x] s = some (.bH [], s') := by
 show (match dS.get f with | some F => bA F (kc dS fuel n) [x] s | none => none) = _
 rw [h]
 show (match (match sB (Gt 0 (Ut 0 e0 x)) s with | some (v, s') => aE.au (Ut 0 (Ut 0 e0 x) v) s' | none => .bad) with
  | .au e' s' => (match aL [] e' s' with | some v => some (v, s') | none => none)
  | .ret e' s' => (match aL [] e' s' with | some v => some (v, s') | none => none)
  | _ => none) = _
 rw [iT 0 0 (by omega) (by omega), if_pos rfl, hv]
 rfl
theorem TP {gl : List Nat} : aI Tryz.prog gl 27 MT := by
 intro k hk args s v s' hr G w args' hgl hargs hs
 obtain ⟨x, u, rfl, hx, rfl⟩ := B9 hr
 cases hargs with
 | cons _ x' _ l' hx' hl =>
   cases hl
   unfold sB at hx
   split at hx
   · cases hx
     cases hx'
     refine (uo none 0 w).mono ?_
     rintro e w' ⟨rfl, rfl⟩
     exact ⟨G, fD.refl _ _ _, hs, .bH _ _ .nil⟩
   · rename_i b o len cap es
     cases hc : and (Nat.beq es 1) (Nat.ble len 100000000) with
     | false => rw [hc] at hx; cases hx
     | true =>
       rw [hc] at hx
       rw [Bool.and_eq_true, cr] at hc
       obtain ⟨c1, c2⟩ := hc
       have c1 := Nat.eq_of_beq_eq_true c1
       subst c1
       have c2 : len ≤ 100000000 := by simpa using c2
       cases hx' with
       | slice _ _ _ _ c _ lc a hG hlc hcap hadr hin =>
         cases len with
         | zero =>
           cases hx
           refine (uo (some a) c w).mono ?_
           rintro e w' ⟨rfl, rfl⟩
           exact ⟨G, fD.refl _ _ _, hs, .bH _ _ .nil⟩
         | succ len =>
           simp only at hx
           split at hx
           · rename_i n xs hbk
             have hbk := ig hbk
             cases hd : Nat.ble (Nat.add o (len + 1)) n with
             | false => rw [hd] at hx; cases hx
             | true =>
               rw [hd] at hx
               simp only at hx
               rw [cr] at hd
               have hd : o + (len + 1) ≤ n := by simpa using hd
               split at hx
               · rename_i vs hvs
                 split at hx
                 · rename_i l hi
                   cases hx
                   obtain ⟨r1, r2⟩ := zK hs hbk hG hvs hi hd
                   have ha : a = ⟨lc.blk, lc.base + o, none⟩ := by rcases hadr with h | h; omega; exact h
                   subst ha
                   have hlt := (hs.dom b lc hG).2
                   have := yK lc.blk (lc.base + o) c l w r1 hlt (by omega)
                   rw [r2] at this
                   refine this.mono ?_
                   rintro e w' ⟨rfl, nn, os, rfl⟩
                   rw [QC (List.Perm.refl l)]
                   have hsl := (ey l).length_eq
                   obtain ⟨q1, q2⟩ := ux (o := o) (l := fA l) hs hbk hG (by omega) nn os
                   exact ⟨G, q2, q1, .bH _ _ .nil⟩
                 · cases hx
               · cases hx
           · cases hx
   · cases hx
end
end Go.Proofs.YtcgdlgbomjnnnaaGreatLab
