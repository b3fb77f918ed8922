/- Time goes on: who wakes. No condition on the program. -/
import Derived.Test.YtgfghbhcifkmgaaSF
import Derived.Test.YtgfghbhcifkmgaaSM
namespace Go.Proofs.YtgfghbhcifkmgaaLab
open Go
set_option linter.all false
set_option maxRecDepth 10000
noncomputable section
/-- Sleepers, who wakes first first. -/
def Srt (E : List Sl) : Prop := E.Pairwise fun a b => lessS a b = true
theorem heap_first {r : Sl} {t E : List Sl} (hH : isHeap (r :: t)) (hP : (r :: t).Perm E) (hS : Srt E) : ∃ E', E = r :: E' ∧ t.Perm E' := by
  cases E with
  | nil => exact absurd hP.length_eq (by simp)
  | cons e E' =>
    have he : e ∈ r :: t := hP.symm.subset (by simp)
    obtain ⟨j, hj⟩ := List.getElem?_of_mem he
    have h1 : lessS e r = false := hH.least (r := r) rfl j j e (Nat.le_refl _) hj
    have hr : r ∈ e :: E' := hP.subset (by simp)
    rcases List.mem_cons.1 hr with rfl | hr
    · exact ⟨E', rfl, hP.cons_inv⟩
    · have := (List.pairwise_cons.1 hS).1 r hr
      rw [h1] at this; cases this
/-- The blocks of the row of sleepers. -/
def slB (s : St) (sp : Nat) : List Nat := match s.cl sp with | some [_, _, slV, _, _] => blkV slV | _ => []
def okT (ths : List Th) : Prop := ∀ th ∈ ths, th.state = 1 ∨ th.state = 4
theorem okT.set {ths : List Th} (h : okT ths) {i : Nat} {th' : Th} (h' : th'.state = 1 ∨ th'.state = 4) : okT (ths.set i th') := fun th hm => by
  rcases List.mem_or_eq_of_mem_set hm with h2 | h2
  · exact h th h2
  · subst h2; exact h'
section
variable {s : St} {sp lm : Nat} {ths : List Th} {sl : List Sl} {now slept : Int} {FT : List Nat} (H : SS s sp lm ths sl now slept FT)
include H
/-- Time goes on by one. -/
theorem SS.step {th0 : True} (hn : now < 1000000000) : ∃ s' slV thV, s.cl sp = some [thV, .map lm, slV, .int .u64 now, .i slept] ∧ stP 1 (.ptr sp 3) (.int .u64 (now + 1)) s = some (.tup [], s') ∧ SS s' sp lm ths sl (now + 1) slept FT ∧ Fr s s' [sp] ∧ s'.cl sp = some [thV, .map lm, slV, .int .u64 (now + 1), .i slept] := by
  obtain ⟨slV, HC, hsl, hbl⟩ := H.h
  obtain ⟨thV, bs, h1, hT⟩ := HC.ex
  have hw := HC.wf
  obtain ⟨s1, p1, c1, f1, n1⟩ := eSt_ex (s := s) (b := sp) (o := 3) (v := .int .u64 (now + 1)) hw h1 (by simp) rfl
  simp only [List.set_cons_zero, List.set_cons_succ] at c1
  refine ⟨s1, slV, thV, h1, p1, ⟨⟨slV, ⟨f1.wf, ⟨thV, bs, c1, hT.fr hw f1 (fun x hx => by simp; rintro rfl; exact HC.n hx)⟩, HC.n, fun x hx => by have := HC.lt x hx; omega, HC.l8⟩, hsl.fr f1 (fun x hx => by simp; exact (hbl x hx).1), fun x hx => ⟨(hbl x hx).1, (hbl x hx).2.1, by have := (hbl x hx).2.2; omega⟩⟩, ⟨by have := H.nw; omega, by omega⟩, H.sn, H.ll⟩, f1, c1⟩
end
theorem SS.frL {s s' : St} {sp lm : Nat} {ths : List Th} {sl : List Sl} {now slept : Int} {FT L : List Nat} (h : SS s sp lm ths sl now slept FT) (f : Fr s s' L) (hd : ∀ b ∈ sp :: (FT ++ slB s sp), b ∉ L) : SS s' sp lm ths sl now slept FT ∧ slB s' sp = slB s sp := by
  obtain ⟨slV, h1, h2, h3⟩ := h.h
  have hw := h1.wf
  obtain ⟨thV, bs, k1, kT⟩ := h1.ex
  have hsB : slB s sp = blkV slV := by unfold slB; rw [k1]
  have k2 := f.cl hw k1 (hd sp (by simp))
  refine ⟨⟨⟨slV, h1.fr f (hd sp (by simp)) (fun b hb => hd b (by simp [hb])), h2.fr f (fun b hb => hd b (by simp [hsB, hb])), fun b hb => ⟨(h3 b hb).1, (h3 b hb).2.1, Nat.lt_of_lt_of_le (h3 b hb).2.2 f.nx⟩⟩, h.nw, h.sn, h.ll⟩, ?_⟩
  rw [hsB]; unfold slB; rw [k2]
theorem SS.own {s : St} {sp lm : Nat} {ths : List Th} {sl : List Sl} {now slept : Int} {FT : List Nat} (h : SS s sp lm ths sl now slept FT) : ∀ b ∈ sp :: (FT ++ slB s sp), b < s.next := by
  obtain ⟨slV, h1, h2, h3⟩ := h.h
  obtain ⟨thV, bs, k1, kT⟩ := h1.ex
  have hsB : slB s sp = blkV slV := by unfold slB; rw [k1]
  intro b hb
  rw [hsB] at hb
  simp only [List.mem_cons, List.mem_append] at hb
  rcases hb with rfl | hb | hb
  · exact cl_lt h1.wf k1
  · exact h1.lt b hb
  · exact (h3 b hb).2.2
/-- One wakes. -/
theorem SS.wake {s : St} {sp lm : Nat} {ths : List Th} {now slept : Int} {FT : List Nat} {r : Sl} {t : List Sl} (H : SS s sp lm ths (r :: t) now slept FT) (d : Nat) {i : Nat} (hri : r.t = (i : Nat)) {th : Th} (hi : ths[i]? = some th) : ∃ s1 s2 s3 y q b thV, (K (d + 3)).call 47 [.iface 84 (.ptr sp 2)] s = some (.iface 86 (.agg r.cells), s1) ∧ s1.new (.cells 3 (ofL [V.int .u64 0, .i 0, .i 0])) = s2 ∧ s1.next = y ∧ stP 3 (.ptr y 0) (.agg r.cells) s2 = some (.tup [], s3) ∧ s3.cl y = some r.cells ∧ ldP (.ptr sp 0) s3 = some thV ∧ bIdx 1 thV (.i (i : Nat)) = some q ∧ ldP q s3 = some (.ptr b 0) ∧ s3.cl b = some th.cells ∧ sp ≠ y ∧ b ≠ y ∧ s.next ≤ y ∧ Fr s s3 (sp :: slB s sp) ∧
    ∃ s4, stP 1 (.ptr b 0) (.i 1) s3 = some (.tup [], s4) ∧ SS s4 sp lm (ths.set i ⟨1, th.lock, th.count, th.other⟩) (popL t) now slept FT ∧ Fr s s4 (sp :: (FT ++ slB s sp)) ∧ s4.cl y = some r.cells ∧ slB s4 sp = slB s sp ∧ b ∈ FT ∧ Fr s3 s4 [b] := by
  obtain ⟨slV, HC, hsl, hbl⟩ := H.h
  obtain ⟨thV, bs, h1, hT⟩ := HC.ex
  have hw := HC.wf
  rcases hsl with ⟨h, _⟩ | ⟨b0, hSP⟩
  · cases h
  have hv := hSP.v
  have hb0 : blkV slV = [b0] := by rw [hv]; rfl
  have hsB : slB s sp = [b0] := by unfold slB; rw [h1]; exact hb0
  have hb0' := hbl b0 (by rw [hb0]; simp)
  have hll := H.ll
  have hll' : t.length < 1000 := by simp at hll; omega
  obtain ⟨s1, p1, c1, H1, f1⟩ := pop_eq hSP h1 (o := 2) rfl (fun e => hb0'.1 e.symm) hll' d
  simp only [List.set_cons_zero, List.set_cons_succ] at c1
  obtain ⟨s2, p2, c2, f2, n2⟩ := new_ex (s := s1) (l := [V.int .u64 0, .i 0, .i 0]) (n := 3) f1.wf rfl
  obtain ⟨s3, p3, c3, f3, n3⟩ := eSt_exN (s := s2) (b := s1.next) (o := 0) (vs := r.cells) (m := 3) f2.wf c2 rfl (by simp) (by intro v hv; simp [Sl.cells] at hv; rcases hv with rfl | rfl | rfl <;> rfl)
  have hy3 : s3.cl s1.next = some r.cells := by rw [c3]; simp [putL, Sl.cells]
  have F2 : Fr s1 s3 [] := f2.trans' f3 (by simp)
  have c13 := F2.cl f1.wf c1 (by simp)
  have hspl := cl_lt hw h1
  have hd1 : ∀ x ∈ FT, x ∉ [sp, b0] := fun x hx => by
    simp only [List.mem_cons, List.not_mem_nil, or_false, not_or]
    exact ⟨fun e => HC.n (e ▸ hx), fun e => hb0'.2.1 (e ▸ hx)⟩
  have hT3 := (hT.fr hw f1 hd1).fr f1.wf F2 (by simp)
  obtain ⟨q, b, a1, a2, a3, hb, hbF⟩ := hT3.at f3.wf hi
  have hbl0 := HC.lt b hbF
  have hx1 := f1.nx
  obtain ⟨s4, p4, c4, f4, n4⟩ := eSt_ex (s := s3) (b := b) (o := 0) (v := .i 1) f3.wf a3 (by simp [Th.cells]) rfl
  have c4' : s4.cl b = some (Th.cells ⟨1, th.lock, th.count, th.other⟩) := by rw [c4]; rfl
  have hT4 := hT3.set (th' := ⟨1, th.lock, th.count, th.other⟩) f3.wf hb hi f4 c4'
  have hbsp : b ≠ sp := fun e => HC.n (e ▸ hbF)
  have hbb0 : b ≠ b0 := fun e => hb0'.2.1 (e ▸ hbF)
  have c14 := f4.cl f3.wf c13 (by simp; exact fun e => hbsp e.symm)
  have H3 := H1.fr F2 (by simp)
  have H4 := H3.fr f4 (by simp; exact fun e => hbb0 e.symm)
  have hpl : (popL t).length = t.length := (popL_perm t).length_eq
  have F3 : Fr s s3 (sp :: slB s sp) := by
    rw [hsB]
    exact (f1.trans' F2 (by simp)).mono (by simp)
  refine ⟨s1, s2, s3, s1.next, q, b, thV, p1, p2, rfl, p3, hy3, ?_, a1, a2, a3, by omega, by omega, hx1, F3, s4, p4, ⟨⟨_, ⟨f4.wf, ⟨thV, bs, c14, hT4⟩, HC.n, fun x hx => by have := HC.lt x hx; have := F2.nx; omega, by simp; exact HC.l8⟩, .inr ⟨b0, H4⟩, fun x hx => ?_⟩, H.nw, H.sn, by omega⟩, ?_, f4.cl f3.wf hy3 (by simp; omega), ?_, hbF, f4⟩
  · rw [dLd_at f3.wf c13 (by simp)]; rfl
  · simp [blkV] at hx; subst hx
    exact ⟨hb0'.1, hb0'.2.1, by have := hb0'.2.2; have := F2.nx; omega⟩
  · exact (F3.mono (fun y hy => .inl (by simp at hy ⊢; rcases hy with h | h <;> simp [h]))).trans (f4.mono (fun y hy => .inl (by simp at hy; subst hy; simp [hbF])))
  · rw [hsB]; unfold slB; rw [c14]; rfl
end
end Go.Proofs.YtgfghbhcifkmgaaLab
