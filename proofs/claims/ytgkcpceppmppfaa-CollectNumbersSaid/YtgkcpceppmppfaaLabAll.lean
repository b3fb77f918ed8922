/- The lab: a marker's keys, collected and sorted: the walk, over the library's contract of slices.Sort. No condition on the program. -/
import Derived.Test.YtgkcpceppmppfaaChecked
import Derived.Test.YtgkcpceppmppfaaLabV
import Derived.Ground.NamesProg
import Derived.Shelf.Lay
import Derived.Shelf.Slices.In.SortNone
import Derived.Lib.SortBridge
import Derived.Lib.SlKeysI
import Derived.Sort.MapsRangeIn
import Derived.Sort.KeysCollected
import Derived.Sort.OwnSorted
import Derived.Sort.EveryDepth
import Derived.Maps.AppendAt
import Derived.Deep.AppendLies
import Derived.Sort.OwnSortedInts
import Derived.WalkKit
import Derived.OwnWalkIn
import Derived.TacticsInMore
import Derived.RegionIn
import Derived.LoopNIn
import Derived.LoopIn
import Derived.KernelRfl
namespace Go.Proofs
open Go.Shelf
shelf_lay Lays.n189 Nm 189 at Try as Try.laysSort
end Go.Proofs
namespace Go.Proofs.YtgkcpceppmppfaaLab
open Go Go.Proofs Go.RowKit Go.Maps Go.Sort Go.Shelf
set_option linter.unusedVariables false
theorem info3 : (Try.prog.info? 3).map (fun i => (i.zero, i.size, i.bytes)) = some (some (.int .i64 0), 1, 8) := by kernel_rfl
theorem sortIn (blk off cap : Nat) (zs : List Int) (w : World) (hH : Holds (Value.int .i64) w blk off zs.toArray) (hblk : blk < w.heap.size) (hsz : zs.length < 4611686018427387904) :
    CallsIn Fence.wide 67 Try.prog 64 #[.slice (some ⟨blk, off, none⟩) zs.length cap] w fun e w' => e = .returned (.tuple #[]) ∧ ∃ n os, w' = grow (putRow (Value.int .i64) (Sort.ahead w n) blk off (zs.mergeSort fun x y => decide (x ≤ y)).toArray) os :=
  callsIn_wide.2 (calls_of_every_depth fun D => AnyS.slices_Sort_int_alone Try.laysSort D blk off cap zs w hH hblk hsz)
theorem law3 : Keyed Try.prog 3 := int_keyed Try.underlying3

set_option maxRecDepth 100000 in
set_option maxHeartbeats 1000000 in
theorem all_any {H : Type} (mb off b n : Nat) (D0 : DataW H) (R : Value → Option (DataW H × List MemPlace)) (w : World) (hp : w.cell? ⟨mb, off + 1, none⟩ = some (.map (some b))) (hown : w.ownsMap Try.prog 3 R b n D0) (hmax : Maps.size D0 ≤ maxLen) (hbytes : 8 * Maps.size D0 ≤ 140737488355328) :
    CallsIn Fence.wide 68 Try.prog 44 #[.pointer (some ⟨mb, off, none⟩)] w fun e w' => ∃ (g cap : Nat) (ss : List Int), e = .returned (.slice (some ⟨g, 0, none⟩) ss.length cap) ∧ ss.Perm (intKeys D0) ∧
      w'.ownsRow w.heap.size 3 1 (.slice (some ⟨g, 0, none⟩) ss.length cap) ss.length ((ss.mergeSort (fun x y => decide (x ≤ y))).map encZ) ∧ Below w.heap.size w w' := by
  obtain ⟨i0, hi, hz0, hz1, hz2⟩ := info_parts info3
  have hbl := hown.lt
  have hf : Fence.wide.fn 64 := trivial
  refine callsIn_of_wp Try.func44 rfl trivial ?_ rfl
  simp only [Try.ntmps44, List.size_toArray, List.length_cons, List.length_nil, Nat.reduceAdd, Nat.reduceSub, Array.replicate_succ, Array.replicate_zero, List.push_toArray, List.append_toArray, List.nil_append, List.cons_append]
  gi_wp2_with (first
    | (gi_at_len; refine wpListIn_len_own _ rfl _ 90 rfl 3 3 Try.underlying90 _ b n _ rfl hown ?_)
    | (gi_at_make; refine wpListIn_make_own _ rfl _ _ 23 rfl w.heap.size 3 i0 (.int .i64 0) 1 Try.underlying23 hi hz0 hz1 _ _ _ (Maps.size D0) rfl rfl rfl (by rw [hz2]; omega) hmax (Nat.le_refl _) ?_; intro w1 hrow1 hg1; have hp1 : w1.cell? ⟨mb, off + 1, none⟩ = some (.map (some b)) := (hg1.cell_far ⟨mb, off + 1, none⟩ (World.block_lt_of_cell? _ _ hp) (by simp)).trans hp)
    | (gi_at_range; refine wpListIn_range_own _ rfl _ 90 rfl 3 3 law3 Try.underlying90 _ b n _ rfl (hown.kept hg1 (by simp)) ?_; intro w0 hrg0 hg0 hs0)
    | gi_in)
  go_frame
  gi_loopw [3] (fun v wr => ∃ (left : Lit → Bool) (cnt : Nat) (ss : List Int), wr.ranges Try.prog 3 R b w1.heap.size n D0 left cnt ∧ ss.length + cnt ≤ Maps.size D0 ∧
      wr.ownsRow w.heap.size 3 1 v ss.length (ss.map encZ) ∧ v ≠ .slice none 0 0 ∧ CollectedI D0 left ss ∧ Below w.heap.size w wr)
    (fun _ wr => wr.rangeLeft b w1.heap.size)
  case atStart =>
    exact ⟨_, _, [], hrg0, by simp, hrow1.kept hg0 (Or.inr (by simp [Value.ownBlock])), by simp, CollectedI.start D0,
      ((Below.refl _ _).grown hg1 (Nat.le_refl _) (fun j hj => by cases hj)).grown hg0 hg1.size (fun j hj => by cases hj)⟩
  case round =>
    obtain ⟨left, cnt, ss, hrg, hcs, hrow, hnn, hC, hnx⟩ := hrel
    gi_wp2_with (first
      | (gi_at_next; refine wpListIn_next_ranges _ rfl _ rfl 3 law3 R encZ id (fun key kl hk => by obtain ⟨x, hx, _⟩ := Maps.keyOf_i64 Try.underlying3 hk; exact ⟨x, hx⟩) (fun v _ _ => ⟨v, rfl⟩) b w1.heap.size n _ _ _ rfl hrg ?_ ?_)
      | gi_in)
    · -- NOTHING IS LEFT: the slice is sorted and handed back
      intro hc0 hl0
      rcases hrow.2 with ⟨hnil, _⟩ | ⟨g, cap, cur, rfl, hbase, hb, h1, h2, h3, h4⟩
      · exact absurd hnil hnn
      have hH : Holds encZ wr g 0 ss.toArray := holds_of_blockI hb (by simpa using h4)
      have hgl : g < wr.heap.size := (Array.getElem?_eq_some_iff.1 hb).1
      have hc := sortIn g 0 cap ss wr hH hgl (by unfold maxLen at hmax; omega)
      gi_wp2_with (gi_at_call 64; refine hc.mono ?_; rintro e w' ⟨rfl, nn, os, rfl⟩)
      go_ret
      exact ⟨g, cap, ss, rfl, hC.perm hown law3 Try.underlying3 hl0, ownsRow_sortedI (by simp) hbase hb h1 h2 h3, hnx.grown (grownBy_sortedI _) hnx.size (fun j hj => by cases hj; exact hbase)⟩
    · -- AN ENTRY HAS COME: its key goes to the slice's end
      intro x c kl yd yp w2 cnt2 hkey hlk hv hat hrg2 hlt hg2 hs2 hen
      obtain ⟨x', ex, rfl, _⟩ := Maps.keyOf_i64 Try.underlying3 hkey
      obtain rfl : x = x' := encZ_inj ex
      have hrow2 := hrow.kept hg2 (Or.inr (row_ne_iter hrow hrg).symm)
      clear hs2
      gi_wp2_with (first
        | (gi_at_builtin; refine wpListIn_append_own _ rfl _ _ 23 rfl w.heap.size 3 i0 (.int .i64 0) 1 8 Try.underlying23 hi hz0 hz1 hz2 rfl (by decide) _ _ _ rfl (hrow2.alloc _) ⟨w2.heap.size, 0, none⟩ 1 1 [encZ x] rfl rfl (cell_one_new _ _ _) (by simp [Value.oneCell', encZ]) (by unfold maxLen at *; omega) (by omega) (by have := hnx.size; have := hg2.size; simp; omega) ?_; intro v' w3 hown' hg3 hnil3)
        | gi_in)
      have hrg3 := (hrg2.alloc _).kept hg3 (row_ne_low hrow2 hbl) (row_ne_iter hrow2 hrg2)
      go_roundw
      case rel =>
        refine ⟨_, cnt2, ss ++ [x], hrg3, by simp; omega, by simpa using hown', fun hv' => by have := (hnil3.1 hv').2; omega, hC.step hlk hat, ?_⟩
        exact ((hnx.grown hg2 hnx.size (fun j hj => by cases hj; exact hg1.size)).alloc (by have := hnx.size; have := hg2.size; omega) _).grown hg3 (by have := hnx.size; have := hg2.size; simp; omega) (fun j hj => (hrow2.lt j hj).1)
      case measure => rw [hrg3.left_eq, hrg.left_eq]; exact hlt
/-- Function 44 of ours: a marker's keys, sorted. -/
theorem run44 {gl : List Nat} : FRun Try.prog gl 44 (fOne (allV 1)) :=
  all_run Try.underlying3 fun mb mo b n D0 w hp hown hmax hbytes => callsIn_wide.1 (all_any mb mo b n D0 noR w hp hown hmax hbytes)
end Go.Proofs.YtgkcpceppmppfaaLab
