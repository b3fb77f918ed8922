/- The lab: a marker's keys, collected and sorted: the walk, over the library's contract of slices.Sort. No condition on the program. Pruned. -/
import Derived.Test.YtgkcpceppmppfaaChecked
import Derived.Test.YtgkcpceppmppfaaLabVn
import Derived.Ground.NamesProg
import Derived.Shelf.Slices.In.SortNone
import Derived.Lib.SortBridge
import Derived.Lib.SlKeysI
import Derived.Sort.MapsRangeIn
import Derived.Sort.KeysCollected
import Derived.Sort.OwnSorted
import Derived.Sort.EveryDepth
import Derived.Maps.AppendAt
import Derived.Deep.AppendLies
import Derived.Sort.OwnSortedInts
import Derived.WalkKit
import Derived.OwnWalkIn
import Derived.TacticsInMore
import Derived.RegionIn
import Derived.LoopNIn
import Derived.LoopIn
import Derived.KernelRfl
namespace Go.Proofs
open Go.Shelf
def Try.laysSort_ren : Go.Shelf.Ren := ⟨fun | 189 => 64 | 125 => 75 | 257 => 74 | 128 => 85 | 129 => 86 | 294 => 77 | 295 => 78 | 296 => 79 | 297 => 80 | 298 => 81 | 299 => 82 | 216 => 69 | 300 => 83 | 301 => 84 | 328 => 87 | 329 => 88 | 330 => 89 | 331 => 90 | 332 => 91 | 215 => 76 | 343 => 92 | n => n, fun | 28 => 23 | 3 => 3 | 46 => 115 | 0 => 0 | 51 => 128 | 53 => 130 | 4 => 4 | 183 => 122 | 182 => 121 | 131 => 88 | 5 => 5 | 9 => 9 | 218 => 131 | 222 => 135 | 228 => 137 | 229 => 68 | n => n, fun | n => n⟩
theorem Try.laysSort : Go.Proofs.Lays.n189 Try.prog Try.laysSort_ren := {
 mixed := by kernel_rfl
 f125 := Try.func75.trans (congrArg some (by kernel_rfl))
 f128 := Try.func85.trans (congrArg some (by kernel_rfl))
 f129 := Try.func86.trans (congrArg some (by kernel_rfl))
 f189 := Try.func64.trans (congrArg some (by kernel_rfl))
 f215 := Try.func76.trans (congrArg some (by kernel_rfl))
 f216 := Try.func69.trans (congrArg some (by kernel_rfl))
 f257 := Try.func74.trans (congrArg some (by kernel_rfl))
 f294 := Try.func77.trans (congrArg some (by kernel_rfl))
 f295 := Try.func78.trans (congrArg some (by kernel_rfl))
 f296 := Try.func79.trans (congrArg some (by kernel_rfl))
 f297 := Try.func80.trans (congrArg some (by kernel_rfl))
 f298 := Try.func81.trans (congrArg some (by kernel_rfl))
 f299 := Try.func82.trans (congrArg some (by kernel_rfl))
 f300 := Try.func83.trans (congrArg some (by kernel_rfl))
 f301 := Try.func84.trans (congrArg some (by kernel_rfl))
 f328 := Try.func87.trans (congrArg some (by kernel_rfl))
 f329 := Try.func88.trans (congrArg some (by kernel_rfl))
 f330 := Try.func89.trans (congrArg some (by kernel_rfl))
 f331 := Try.func90.trans (congrArg some (by kernel_rfl))
 f332 := Try.func91.trans (congrArg some (by kernel_rfl))
 f343 := Try.func92.trans (congrArg some (by kernel_rfl))
 t0 := Try.underlying0
 a0 := Try.isAgg0
 z0 := Try.sizeOf0
 v0 := Try.zeroValue0
 t3 := Try.underlying3
 a3 := Try.isAgg3
 z3 := Try.sizeOf3
 v3 := Try.zeroValue3
 t4 := Try.underlying4
 a4 := Try.isAgg4
 z4 := Try.sizeOf4
 v4 := Try.zeroValue4
 t5 := Try.underlying5
 a5 := Try.isAgg5
 z5 := Try.sizeOf5
 v5 := Try.zeroValue5
 t9 := Try.underlying9
 a9 := Try.isAgg9
 z9 := Try.sizeOf9
 v9 := Try.zeroValue9
 t28 := Try.underlying23
 a28 := Try.isAgg23
 z28 := Try.sizeOf23
 v28 := Try.zeroValue23
 t46 := Try.underlying115
 a46 := Try.isAgg115
 z46 := Try.sizeOf115
 v46 := Try.zeroValue115
 t51 := Try.underlying128
 a51 := Try.isAgg128
 z51 := Try.sizeOf128
 v51 := Try.zeroValue128
 t53 := Try.underlying130
 a53 := Try.isAgg130
 z53 := Try.sizeOf130
 v53 := Try.zeroValue130
 t131 := Try.underlying88
 a131 := Try.isAgg88
 z131 := Try.sizeOf88
 v131 := Try.zeroValue88
 t182 := Try.underlying121
 a182 := Try.isAgg121
 z182 := Try.sizeOf121
 v182 := Try.zeroValue121
 t183 := Try.underlying122
 a183 := Try.isAgg122
 z183 := Try.sizeOf122
 v183 := Try.zeroValue122
 t218 := Try.underlying131
 a218 := Try.isAgg131
 z218 := Try.sizeOf131
 v218 := Try.zeroValue131
 t222 := Try.underlying135
 a222 := Try.isAgg135
 z222 := Try.sizeOf135
 v222 := Try.zeroValue135
 t228 := Try.underlying137
 a228 := Try.isAgg137
 z228 := Try.sizeOf137
 v228 := Try.zeroValue137
 t229 := Try.underlying68
 a229 := Try.isAgg68
 z229 := Try.sizeOf68
 v229 := Try.zeroValue68 }
end Go.Proofs
namespace Go.Proofs.YtgkcpceppmppfaaLab
open Go Go.Proofs Go.RowKit Go.Maps Go.Sort Go.Shelf
set_option linter.unusedVariables false
theorem info3 : (Try.prog.info? 3).map (fun i => (i.zero, i.size, i.bytes)) = some (some (.int .i64 0), 1, 8) := by kernel_rfl
theorem sortIn (blk off cap : Nat) (zs : List Int) (w : World) (hH : Holds (Value.int .i64) w blk off zs.toArray) (hblk : blk < w.heap.size) (hsz : zs.length < 4611686018427387904) :
 CallsIn Fence.wide 67 Try.prog 64 #[.slice (some ⟨blk, off, none⟩) zs.length cap] w fun e w' => e = .returned (.tuple #[]) ∧ ∃ n os, w' = grow (putRow (Value.int .i64) (Sort.ahead w n) blk off (zs.mergeSort fun x y => decide (x ≤ y)).toArray) os :=
 callsIn_wide.2 (calls_of_every_depth fun D => AnyS.slices_Sort_int_alone Try.laysSort D blk off cap zs w hH hblk hsz)
theorem law3 : Keyed Try.prog 3 := int_keyed Try.underlying3
set_option maxRecDepth 100000 in
set_option maxHeartbeats 1000000 in
theorem all_any {H : Type} (mb off b n : Nat) (D0 : DataW H) (R : Value → Option (DataW H × List MemPlace)) (w : World) (hp : w.cell? ⟨mb, off + 1, none⟩ = some (.map (some b))) (hown : w.ownsMap Try.prog 3 R b n D0) (hmax : Maps.size D0 ≤ maxLen) (hbytes : 8 * Maps.size D0 ≤ 140737488355328) :
 CallsIn Fence.wide 68 Try.prog 44 #[.pointer (some ⟨mb, off, none⟩)] w fun e w' => ∃ (g cap : Nat) (ss : List Int), e = .returned (.slice (some ⟨g, 0, none⟩) ss.length cap) ∧ ss.Perm (intKeys D0) ∧
  w'.ownsRow w.heap.size 3 1 (.slice (some ⟨g, 0, none⟩) ss.length cap) ss.length ((ss.mergeSort (fun x y => decide (x ≤ y))).map encZ) ∧ Below w.heap.size w w' := by
 obtain ⟨i0, hi, hz0, hz1, hz2⟩ := info_parts info3
 have hbl := hown.lt
 have hf : Fence.wide.fn 64 := trivial
 refine callsIn_of_wp Try.func44 rfl trivial ?_ rfl
 simp only [Try.ntmps44, List.size_toArray, List.length_cons, List.length_nil, Nat.reduceAdd, Nat.reduceSub, Array.replicate_succ, Array.replicate_zero, List.push_toArray, List.append_toArray, List.nil_append, List.cons_append]
 gi_wp2_with (first
  | (gi_at_len; refine wpListIn_len_own _ rfl _ 90 rfl 3 3 Try.underlying90 _ b n _ rfl hown ?_)
  | (gi_at_make; refine wpListIn_make_own _ rfl _ _ 23 rfl w.heap.size 3 i0 (.int .i64 0) 1 Try.underlying23 hi hz0 hz1 _ _ _ (Maps.size D0) rfl rfl rfl (by rw [hz2]; omega) hmax (Nat.le_refl _) ?_; intro w1 hrow1 hg1; have hp1 : w1.cell? ⟨mb, off + 1, none⟩ = some (.map (some b)) := (hg1.cell_far ⟨mb, off + 1, none⟩ (World.block_lt_of_cell? _ _ hp) (by simp)).trans hp)
  | (gi_at_range; refine wpListIn_range_own _ rfl _ 90 rfl 3 3 law3 Try.underlying90 _ b n _ rfl (hown.kept hg1 (by simp)) ?_; intro w0 hrg0 hg0 hs0)
  | gi_in)
 go_frame
 gi_loopw [3] (fun v wr => ∃ (left : Lit → Bool) (cnt : Nat) (ss : List Int), wr.ranges Try.prog 3 R b w1.heap.size n D0 left cnt ∧ ss.length + cnt ≤ Maps.size D0 ∧
  wr.ownsRow w.heap.size 3 1 v ss.length (ss.map encZ) ∧ v ≠ .slice none 0 0 ∧ CollectedI D0 left ss ∧ Below w.heap.size w wr)
  (fun _ wr => wr.rangeLeft b w1.heap.size)
 case atStart =>
  exact ⟨_, _, [], hrg0, by simp, hrow1.kept hg0 (Or.inr (by simp [Value.ownBlock])), by simp, CollectedI.start D0,
   ((Below.refl _ _).grown hg1 (Nat.le_refl _) (fun j hj => by cases hj)).grown hg0 hg1.size (fun j hj => by cases hj)⟩
 case round =>
  obtain ⟨left, cnt, ss, hrg, hcs, hrow, hnn, hC, hnx⟩ := hrel
  gi_wp2_with (first
   | (gi_at_next; refine wpListIn_next_ranges _ rfl _ rfl 3 law3 R encZ id (fun key kl hk => by obtain ⟨x, hx, _⟩ := Maps.keyOf_i64 Try.underlying3 hk; exact ⟨x, hx⟩) (fun v _ _ => ⟨v, rfl⟩) b w1.heap.size n _ _ _ rfl hrg ?_ ?_)
   | gi_in)
  · -- NOTHING IS LEFT: the slice is sorted and handed back
    intro hc0 hl0
    rcases hrow.2 with ⟨hnil, _⟩ | ⟨g, cap, cur, rfl, hbase, hb, h1, h2, h3, h4⟩
    · exact absurd hnil hnn
    have hH : Holds encZ wr g 0 ss.toArray := holds_of_blockI hb (by simpa using h4)
    have hgl : g < wr.heap.size := (Array.getElem?_eq_some_iff.1 hb).1
    have hc := sortIn g 0 cap ss wr hH hgl (by unfold maxLen at hmax; omega)
    gi_wp2_with (gi_at_call 64; refine hc.mono ?_; rintro e w' ⟨rfl, nn, os, rfl⟩)
    go_ret
    exact ⟨g, cap, ss, rfl, hC.perm hown law3 Try.underlying3 hl0, ownsRow_sortedI (by simp) hbase hb h1 h2 h3, hnx.grown (grownBy_sortedI _) hnx.size (fun j hj => by cases hj; exact hbase)⟩
  · -- AN ENTRY HAS COME: its key goes to the slice's end
    intro x c kl yd yp w2 cnt2 hkey hlk hv hat hrg2 hlt hg2 hs2 hen
    obtain ⟨x', ex, rfl, _⟩ := Maps.keyOf_i64 Try.underlying3 hkey
    obtain rfl : x = x' := encZ_inj ex
    have hrow2 := hrow.kept hg2 (Or.inr (row_ne_iter hrow hrg).symm)
    clear hs2
    gi_wp2_with (first
     | (gi_at_builtin; refine wpListIn_append_own _ rfl _ _ 23 rfl w.heap.size 3 i0 (.int .i64 0) 1 8 Try.underlying23 hi hz0 hz1 hz2 rfl (by decide) _ _ _ rfl (hrow2.alloc _) ⟨w2.heap.size, 0, none⟩ 1 1 [encZ x] rfl rfl (cell_one_new _ _ _) (by simp [Value.oneCell', encZ]) (by unfold maxLen at *; omega) (by omega) (by have := hnx.size; have := hg2.size; simp; omega) ?_; intro v' w3 hown' hg3 hnil3)
     | gi_in)
    have hrg3 := (hrg2.alloc _).kept hg3 (row_ne_low hrow2 hbl) (row_ne_iter hrow2 hrg2)
    go_roundw
    case rel =>
     refine ⟨_, cnt2, ss ++ [x], hrg3, by simp; omega, by simpa using hown', fun hv' => by have := (hnil3.1 hv').2; omega, hC.step hlk hat, ?_⟩
     exact ((hnx.grown hg2 hnx.size (fun j hj => by cases hj; exact hg1.size)).alloc (by have := hnx.size; have := hg2.size; omega) _).grown hg3 (by have := hnx.size; have := hg2.size; simp; omega) (fun j hj => (hrow2.lt j hj).1)
    case measure => rw [hrg3.left_eq, hrg.left_eq]; exact hlt
theorem run44 {gl : List Nat} : FRun Try.prog gl 44 (fOne (allV 1)) :=
 all_run Try.underlying3 fun mb mo b n D0 w hp hown hmax hbytes => callsIn_wide.1 (all_any mb mo b n D0 noR w hp hown hmax hbytes)
set_option maxRecDepth 100000 in
set_option maxHeartbeats 1000000 in
theorem words_any {H : Type} (mb off b n : Nat) (hv : Value) (D0 : DataW H) (R : Value → Option (DataW H × List MemPlace)) (lenf : Int → Int) (w : World) (J : World → Prop) (hp : w.cell? ⟨mb, off + 1, none⟩ = some (.map (some b))) (hown : w.ownsMap Try.prog 3 R b n D0)
 (hJ0 : J w) (hJ : ∀ A B : World, J A → Below w.heap.size A B → J B) (hJh : ∀ wr, J wr → wr.cell? ⟨mb, off, none⟩ = some hv)
 (hlen : ∀ x, Maps.has D0 (.int .i64 x) = true → ∀ wr, J wr → CallsIn Fence.wide 67 Try.prog 50 #[hv, encZ x] wr fun e w' => e = .returned (.int .i64 (lenf x)) ∧ J w' ∧ wr.heap.size ≤ w'.heap.size ∧ w'.heap[b]? = wr.heap[b]? ∧ ∀ i, w.heap.size ≤ i → i < wr.heap.size → w'.heap[i]? = wr.heap[i]?) (hb : ∀ x, 0 ≤ lenf x ∧ lenf x ≤ 1099511627776) (hmax : Maps.size D0 ≤ 1048576) :
 CallsIn Fence.wide 68 Try.prog 47 #[.pointer (some ⟨mb, off, none⟩)] w fun e w' => ∃ ss : List Int, ss.Perm (intKeys D0) ∧ e = .returned (.int .i64 ((ss.map fun x => 3 + lenf x).sum)) ∧ J w' := by
 have hbl := hown.lt
 have hf : Fence.wide.fn 50 := trivial
 refine callsIn_of_wp Try.func47 rfl trivial ?_ rfl
 simp only [Try.ntmps47, List.size_toArray, List.length_cons, List.length_nil, Nat.reduceAdd, Nat.reduceSub, Array.replicate_succ, Array.replicate_zero, List.push_toArray, List.append_toArray, List.nil_append, List.cons_append]
 gi_wp2_with (first
  | (gi_at_range; refine wpListIn_range_own _ rfl _ 90 rfl 3 3 law3 Try.underlying90 _ b n _ rfl hown ?_; intro w0 hrg0 hg0 hs0)
  | gi_in)
 go_frame
 gi_loopw [3] (fun v wr => ∃ (left : Lit → Bool) (cnt : Nat) (ss : List Int), wr.ranges Try.prog 3 R b w.heap.size n D0 left cnt ∧ ss.length + cnt ≤ Maps.size D0 ∧
  v = .int .i64 ((ss.map fun x => 3 + lenf x).sum) ∧ CollectedI D0 left ss ∧ J wr ∧ w.heap.size ≤ wr.heap.size)
  (fun _ wr => wr.rangeLeft b w.heap.size)
 case atStart =>
  exact ⟨_, _, [], hrg0, by simp, rfl, CollectedI.start D0, hJ _ _ hJ0 ((Below.refl _ _).grown hg0 (Nat.le_refl _) (fun j hj => by cases hj)), hg0.size⟩
 case round =>
  obtain ⟨left, cnt, ss, hrg, hcs, rfl, hC, hnx, hsz⟩ := hrel
  gi_wp2_with (first
   | (gi_at_next; refine wpListIn_next_ranges _ rfl _ rfl 3 law3 R encZ id (fun key kl hk => by obtain ⟨x, hx, _⟩ := Maps.keyOf_i64 Try.underlying3 hk; exact ⟨x, hx⟩) (fun v _ _ => ⟨v, rfl⟩) b w.heap.size n _ _ _ rfl hrg ?_ ?_)
   | gi_in)
  · intro hc0 hl0
    gi_wp2
    go_ret
    exact ⟨ss, hC.perm hown law3 Try.underlying3 hl0, rfl, hnx⟩
  · intro x c kl yd yp w2 cnt2 hkey hlk hv' hat hrg2 hlt hg2 hs2 hen
    obtain ⟨x', ex, rfl, _⟩ := Maps.keyOf_i64 Try.underlying3 hkey
    obtain rfl : x = x' := encZ_inj ex
    have hC2 := hC.step hlk hat
    have hhas : Maps.has D0 (.int .i64 x) = true := ((hC2.2 x).1 (by simp)).1
    have hnx2 : J w2 := hJ _ _ hnx ((Below.refl _ wr).grown hg2 hsz (fun j hj => by cases hj; exact Nat.le_refl _))
    have hsz2 : w.heap.size ≤ w2.heap.size := Nat.le_trans hsz hg2.size
    have hc2 : w2.cell? ⟨mb, off, none⟩ = some hv := hJh _ hnx2
    have hcall := hlen x hhas w2 hnx2
    clear hs2
    gi_wp2_with (first
     | (gi_at_call 50; refine hcall.mono ?_; rintro e w3 ⟨rfl, hJ3, hz3, hb3, hi3⟩)
     | gi_in)
    have hrl := hrg2.lt
    have hrg3 : w3.ranges Try.prog 3 R b w.heap.size n D0 (fun z => left z && !z.sameKey (.int .i64 x)) cnt2 := by
     obtain ⟨es, clock, since, seen, c0, hbb, F, hs, hD, hr, rest⟩ := hrg2
     exact ⟨es, clock, since, seen, c0, hb3.trans hbb, F, hs, hD, (hi3 _ (Nat.le_refl _) hrl).trans hr, rest⟩
    have hs0 : 0 ≤ (ss.map fun x => 3 + lenf x).sum ∧ (ss.map fun x => 3 + lenf x).sum ≤ ss.length * 1099511627779 := by
     clear hcs hC hC2 hrg hrg2 hrg3
     induction ss with
     | nil => simp
     | cons y ss ih =>
       have := hb y
       simp only [List.map_cons, List.sum_cons, List.length_cons]
       omega
    have hbx := hb x
    have hle : ((ss.length : Nat) : Int) ≤ 1048576 := by omega
    have w1 : RowKit.wrap64 (3 + lenf x) = 3 + lenf x := IntWalk.wrap64_in _ (by omega)
    have w2' : RowKit.wrap64 ((ss.map fun x => 3 + lenf x).sum + (3 + lenf x)) = (ss.map fun x => 3 + lenf x).sum + (3 + lenf x) := IntWalk.wrap64_in _ (by omega)
    go_roundw
    case rel => exact ⟨_, cnt2, ss ++ [x], hrg3, by simp; omega, by rw [w1, w2']; simp, hC2, hJ3, by omega⟩
    case measure => rw [hrg3.left_eq, hrg.left_eq]; exact hlt
end Go.Proofs.YtgkcpceppmppfaaLab
