-- Written for this claim by a program of our own (myprint).
import Derived.Test.YtcjhhlbhfkcboaaPA0
import Derived.Handy
import Derived.Laws.CopyOwn
import Derived.Test.YtcjhhlbhfkcboaaAid
namespace Go.Proofs.Ytcjhhlbhfkcboaa.PA
open Go.RowKit Go.Proofs.YtcjhhlbhfkcboaaW.PrintWords Go.Proofs.YtcjhhlbhfkcboaaW.PrintLast Go.Proofs.YtcjhhlbhfkcboaaW.PrintMore
attribute [local go_sem] max2_int min2_int max_two min_two max_three min_three max_four min_four   -- for this text's walks alone
set_option linter.unusedVariables false
set_option linter.unusedSimpArgs false

/-! ### carafebook_Roomy_byte: function 9 -/
def carafebook_Roomy_byte.f (l0 : List Int) (a1 : Int) : Option (List Int) := if l0.length ≤ 100000000 then some (l0 ++ List.replicate 80 a1) else none
theorem carafebook_Roomy_byte.own_open {W : World} {base n : Nat} {ok : Nat → Prop} {v : Value} {xs : List Int} (h : Kd.R (Kd.int .u8) 5 W base ok v xs) (hn : xs.length = n) (h0 : 0 < n) :
    ∃ (g cap : Nat) (cur : List Value), v = .slice (some ⟨g, 0, none⟩) n cap ∧ base ≤ g ∧ W.heap[g]? = some (.cells cur.toArray 5 (0, 0)) ∧ n ≤ cap ∧ cap ≤ maxLen ∧ cur.length = cap := by
  obtain ⟨_, inner, ho, _⟩ := h
  rcases ho.2 with ⟨_, h2⟩ | ⟨g, cap, cur, h1, h2, h3, h4, h5, h6, _⟩
  · omega
  · subst hn
    refine ⟨g, cap, cur.toList, h1, h2, by rw [Array.toArray_toList]; exact h3, h4, h5, ?_⟩
    rw [Array.length_toList]; have : (Kd.int .u8).sz = 1 := rfl
    rw [h6, this, Nat.mul_one]
theorem carafebook_Roomy_byte.own_shut {W : World} {base : Nat} {g cap : Nat} {xs : List Int} {tail : List Value} (hg : W.heap[g]? = some (.cells (xs.map (Value.int .u8) ++ tail).toArray 5 (0, 0))) (hb : base ≤ g) (hc : cap ≤ maxLen) (hl : xs.length + tail.length = cap) :
    Kd.R (Kd.int .u8) 5 W base (fun _ => True) (.slice (some ⟨g, 0, none⟩) xs.length cap) xs := by
  refine ⟨fun _ _ => trivial, xs.map (Value.int .u8), ⟨by show _ = _ * 1; simp, .inr ⟨g, cap, _, rfl, hb, hg, by omega, hc, by show _ = cap * 1; simp; omega, ?_⟩⟩, by show _ = _ * 1; simp, fun j p hj => ?_⟩
  · show ((xs.map (Value.int .u8) ++ tail).toArray.toList).take (xs.length * 1) = _
    rw [Nat.mul_one]; simp
  · obtain ⟨hlt, hp⟩ := List.getElem?_eq_some_iff.1 hj
    change List.take 1 (List.drop (j * 1) (xs.map (Value.int .u8))) = [Value.int .u8 p]
    rw [Nat.mul_one, List.drop_eq_getElem_cons (by simpa using hlt)]
    simp [hp]
theorem carafebook_Roomy_byte.put_next {l : List Int} {j : Nat} {a : Int} {tail : List Value} (ht : 0 < tail.length) (i : Nat) (hi : i = l.length + j) : ∃ t2 : List Value, t2.length + 1 = tail.length ∧ (((l ++ List.replicate j a).map (Value.int .u8) ++ tail).toArray).setIfInBounds i (.int .u8 a) = ((l ++ List.replicate (j + 1) a).map (Value.int .u8) ++ t2).toArray := by
  cases tail with
  | nil => cases ht
  | cons x t =>
    refine ⟨t, rfl, ?_⟩
    subst hi
    rw [List.setIfInBounds_toArray]
    congr 1
    rw [List.set_append_right _ _ (by simp)]
    rw [List.replicate_succ']
    simp
theorem carafebook_Roomy_byte.src_cells {w w1 : World} {A0 : Option Addr} {l0 : List Int} (hr0 : Kd.C (Kd.int .u8) w A0 l0.length l0) (hb : Below w.heap.size w w1) (hp : 0 < l0.length) (g : Nat) :
    (some (⟨g, 0, none⟩ : Addr) = some ⟨g, 0, none⟩) ∧ ∃ ad, A0 = some ad ∧ ∀ j v, (l0.map (Value.int .u8))[j]? = some v → w1.cell? (ad.add j) = some v := by
  obtain ⟨_, _, hh⟩ := hr0
  obtain ⟨ad, e1, hc⟩ := hh hp
  refine ⟨rfl, ad, e1, fun j v hj => ?_⟩
  obtain ⟨hj1, hj2⟩ := List.getElem?_eq_some_iff.1 hj
  simp at hj1 hj2
  obtain ⟨c, _, hk, hcell⟩ := hc j (l0[j]) (List.getElem?_eq_getElem hj1)
  subst hj2
  obtain rfl : c = [.int .u8 l0[j]] := hk
  have h1 := hcell 0 _ rfl
  have h2 : w.cell? (ad.add j) = some (.int .u8 l0[j]) := by have e : j * (Kd.int .u8).sz + 0 = j := by show j * 1 + 0 = j; omega
                                                             rw [e] at h1; exact h1
  exact (hb.cell (World.block_lt_of_cell? w _ h2)).trans h2
set_option maxHeartbeats 1600000 in
set_option maxRecDepth 100000 in
theorem carafebook_Roomy_byte.roomy (A0 : Option Addr) (c0 : Nat) (l0 : List Int) (a1 : Int) (w : World) (hr0 : Kd.C (Kd.int .u8) w A0 l0.length l0) (hc0 : l0.length ≤ c0) (hl : l0.length ≤ 100000000) :
    Calls Try.prog 9 #[.slice A0 l0.length c0, .int .u8 a1] w fun e w' => ∃ v0_ : Value, e = .returned v0_ ∧ Kd.R (Kd.int .u8) 5 w' w.heap.size (fun _ => True) v0_ (l0 ++ List.replicate 80 a1) ∧ Below w.heap.size w w' := by
  have HR0 := Aside0.mk hr0
  have HC0 := Aside0.mk hc0
  clear hr0 hc0
  have w80 : IntKind.i64.wrap ((l0.length : Int) + 80) = ((l0.length + 80 : Nat) : Int) := by rw [IntKind.wrap_i64]; omega
  go_enter Try.func9, Try.ntmps9
  go_wp2_with (first
    | (at_make; refine Kd.R_make (Kd.int .u8) (w0 := w) w.heap.size 5 rfl rfl 22 (.tmp 9) (.tmp 9) rfl ((l0.length + 80 : Nat) : Int) (by first | (go_simp; done) | (go_simp; rfl)) (by first | (go_simp; done) | (go_simp; rfl)) Try.underlying22 (.int .u8 0) 1 rfl rfl (by decide) (by decide) (0 : Int) (ok := fun _ => True) (okp := fun _ => False) (by exact rfl) (fun _ _ => trivial) trivial (by omega) (by omega) (Below.refl _ _) (Nat.le_refl _) ?_; intro v1 w1 hown1 hb1 hg1 hat1; obtain ⟨g, cap, cur, rfl, hbg, hcur, hcap, hmax, hcl⟩ := carafebook_Roomy_byte.own_open (n := l0.length + 80) hown1 (by simp; omega) (by omega); clear hown1 hat1 hg1; replace hcur := Aside0.mk hcur; replace hb1 := Aside0.mk hb1; replace hcl := Aside0.mk hcl; replace hmax := Aside0.mk hmax; replace hbg := Aside0.mk hbg)
    | (with_reducible refine wpList_copy_splice rfl (.tmp 11) (.tmp 12) 22 22 rfl 5 Try.underlying22 ?z0 (some ⟨g, 0, none⟩) A0 (l0.length + 80) cap l0.length c0 ?z1 ?z2 g 0 cur 5 hcur.out (l0.map (Value.int .u8)) ?z3 ?z4 ?z5 ?z6 w.heap.size w hb1.out hbg.out ?z7
       case z0 => rfl
       case z1 => (first | (go_simp; done) | (go_simp; rfl))
       case z2 => (first | (go_simp; done) | (go_simp; rfl))
       case z3 => (rw [List.length_map]; exact (Nat.min_eq_left (by omega)).symm)
       case z4 => (exact fun hp => carafebook_Roomy_byte.src_cells HR0.out hb1.out (by simpa using hp) g)
       case z5 => (have := hcl.out; simp; omega)
       case z6 => (intro v hv; simp at hv; obtain ⟨x, _, rfl⟩ := hv; rfl)
       (intro w2 HG2 hB2; replace hB2 := Aside0.mk hB2)))
  have HB : Aside0 (w2.heap[g]? = some (.cells ((l0 ++ List.replicate 0 a1).map (Value.int .u8) ++ cur.drop l0.length).toArray 5 (0, 0))) := ⟨by
    have := HG2.out
    rw [this]; simp [splice]⟩
  clear HG2
  go_loopw [6] (fun v6 wr => ∃ (j : Nat) (tail : List Value), v6 = .int .i64 ((l0.length + j : Nat) : Int) ∧ j ≤ 80 ∧ tail.length + l0.length + j = cap ∧ Aside0 (wr.heap[g]? = some (.cells ((l0 ++ List.replicate j a1).map (Value.int .u8) ++ tail).toArray 5 (0, 0))) ∧ Aside0 (Below w.heap.size w wr)) (fun v6 _ => l0.length + 80 - (intOf v6).toNat)
  case atStart => exact ⟨0, cur.drop l0.length, rfl, Nat.zero_le _, by have := hcl.out; simp; omega, HB, hB2⟩
  case round =>
    obtain ⟨j, tail, rfl, hj, htl, HC, HD⟩ := hrel
    clear HB hB2 hcur hb1
    by_cases c : j < 80
    · have x1 : decide (((l0.length + j : Nat) : Int) < ((l0.length + 80 : Nat) : Int)) = true := decide_eq_true (by omega)
      have x2 : (0 : Int) ≤ ((l0.length + j : Nat) : Int) := by omega
      have x3 : ((l0.length + j : Nat) : Int) < ((l0.length + 80 : Nat) : Int) := by omega
      have x4 : IntKind.i64.wrap (((l0.length + j : Nat) : Int) + 1) = ((l0.length + (j + 1) : Nat) : Int) := by rw [IntKind.wrap_i64]; omega
      obtain ⟨t2, ht2, hput⟩ := carafebook_Roomy_byte.put_next (l := l0) (j := j) (a := a1) (tail := tail) (by omega) (l0.length + j) rfl
      have hfz := blk_frozen HC.out (l0.length + j)
      have hce : wr.cell? ⟨g, l0.length + j, none⟩ = some (tail.headD (.int .u8 0)) := by
        rw [blk_cell HC.out]
        cases tail with
        | nil => simp at htl; omega
        | cons x t => simp
      have hnx := Aside0.mk (blk_put HC.out (l0.length + j) (.int .u8 a1) hput)
      have hnb := Aside0.mk (below_set (j := l0.length + j) (v := .int .u8 a1) HD.out hbg.out)
      clear HC HD
      go_wp2_with fail
      go_roundw
      case rel => exact ⟨j + 1, t2, by first | rfl | go_num, by omega, by omega, hnx, hnb⟩
      case measure => simp [intOf]; omega
    · obtain rfl : j = 80 := by omega
      go_wp2
      go_ret
      have hl2 : (l0 ++ List.replicate 80 a1).length = l0.length + 80 := by simp
      have := carafebook_Roomy_byte.own_shut (xs := l0 ++ List.replicate 80 a1) (tail := tail) HC.out hbg.out hmax.out (by rw [hl2]; omega)
      rw [hl2] at this
      exact ⟨_, rfl, this, HD.out⟩
theorem carafebook_Roomy_byte.calls (A0 : Option Addr) (c0 : Nat) (l0 : List Int) (a1 : Int) (r : List Int) (w : World) (hr0 : Kd.C (Kd.int .u8) w A0 l0.length l0) (hc0 : l0.length ≤ c0) (h : carafebook_Roomy_byte.f l0 a1 = some r) :
    Calls Try.prog 9 #[.slice A0 l0.length c0, .int .u8 a1] w fun e w' => ∃ v0_ : Value, e = .returned v0_ ∧ Kd.R (Kd.int .u8) 5 w' w.heap.size (fun _ => True) v0_ r ∧ Below w.heap.size w w' := by
  unfold carafebook_Roomy_byte.f at h
  by_cases hl : l0.length ≤ 100000000
  · rw [if_pos hl] at h
    obtain rfl := Option.some.inj h
    exact carafebook_Roomy_byte.roomy A0 c0 l0 a1 w hr0 hc0 hl
  · rw [if_neg hl] at h; cases h

end Go.Proofs.Ytcjhhlbhfkcboaa.PA
