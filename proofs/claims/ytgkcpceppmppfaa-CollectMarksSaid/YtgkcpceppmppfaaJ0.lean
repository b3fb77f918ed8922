/- Parts of the proof: contracts of functions, joined. No condition on the program. -/
import Derived.Test.YtgkcpceppmppfaaAt
import Derived.Test.YtgkcpceppmppfaaLm5
namespace Go.Proofs.YtgkcpceppmppfaaLab
open Go
set_option linter.all false
set_option maxRecDepth 10000
noncomputable section
structure HR (s : St) (p bw bb : Nat) (n : Nat) (words : List Int) (begins : List Bool) (next : Nat) (sh mp : V) : Prop where
 wf : Wf s
 hp : s.cl p = some [.slice bw 0 n (some n) 1, .slice bb 0 n (some n) 1, .i next, sh, mp]
 hw : s.cl bw = some (words.map .i)
 hb : s.cl bb = some (begins.map .bool)
 lw : words.length = n
 lb : begins.length = n
 nn : n < 20000
 n1 : 1 ≤ next
 nx : next ≤ n
 d1 : p ≠ bw
 d2 : p ≠ bb
 d3 : bw ≠ bb
def isB (begins : List Bool) (r : Int) : Bool := decide (0 < r) && (begins[r.toNat]?).getD false
section
variable {s : St} {p bw bb : Nat} {n : Nat} {words : List Int} {begins : List Bool} {next : Nat} {sh mp : V} (H : HR s p bw bb n words begins next sh mp)
include H
theorem HR.fnIs (d : Nat) (r : Int) : (K (d + 1)).call 51 [.ptr p 0, .i r] s = some (.bool (isB begins r), s) := by
 obtain ⟨hw, h1, h2, h3, h4, h5, h6, h7, h8, d1, d2, d3⟩ := H
 rw [op51]
 unfold isB
 by_cases c1 : 0 < r
 · by_cases c2 : r < n
   · have q7 : (begins.map V.bool)[r.toNat]? = some (.bool (begins[r.toNat]?.getD false)) := by
      rw [List.getElem?_map, List.getElem?_eq_getElem (show r.toNat < begins.length by omega)]; rfl
     simp -implicitDefEqProofs (maxSteps := 5000000) (disch := first | assumption | omega | (simp only [dz, dl, Nat.zero_add, Nat.reduceAdd, Bool.and_self]; done) | (simp only [dl]; omega)) only [go_sem, dLd_at hw h1, dLd_at hw h3, q7, c1, c2, Bool.true_and]
   · have q7 : begins[r.toNat]? = none := List.getElem?_eq_none (by omega)
     simp -implicitDefEqProofs (maxSteps := 5000000) (disch := first | assumption | omega | (simp only [dz, dl, Nat.zero_add, Nat.reduceAdd, Bool.and_self]; done) | (simp only [dl]; omega)) only [go_sem, dLd_at hw h1, c1, c2, q7, Bool.true_and, Option.getD_none]
 · simp -implicitDefEqProofs (maxSteps := 5000000) (disch := first | assumption | omega | (simp only [dz, dl, Nat.zero_add, Nat.reduceAdd, Bool.and_self]; done) | (simp only [dl]; omega)) only [go_sem, c1, Bool.false_and]
theorem HR.fnUsed (d : Nat) : (K (d + 1)).call 21 [.ptr p 0] s = some (.i (next - 1), s) := by
 obtain ⟨hw, h1, h2, h3, h4, h5, h6, h7, h8, d1, d2, d3⟩ := H
 rw [op21]
 simp -implicitDefEqProofs (maxSteps := 5000000) (disch := first | assumption | omega | (simp only [dz, dl, Nat.zero_add, Nat.reduceAdd, Bool.and_self]; done) | (simp only [dl]; omega)) only [go_sem, dLd_at hw h1]
theorem HR.fnWords (d : Nat) : (K (d + 1)).call 71 [.ptr p 0] s = some (.i (n - 1), s) := by
 obtain ⟨hw, h1, h2, h3, h4, h5, h6, h7, h8, d1, d2, d3⟩ := H
 rw [op71]
 simp -implicitDefEqProofs (maxSteps := 5000000) (disch := first | assumption | omega | (simp only [dz, dl, Nat.zero_add, Nat.reduceAdd, Bool.and_self]; done) | (simp only [dl]; omega)) only [go_sem, dLd_at hw h1]
end
end
end Go.Proofs.YtgkcpceppmppfaaLab
namespace Go.Proofs.YtgkcpceppmppfaaLab
open Go
set_option linter.all false
set_option maxRecDepth 10000
noncomputable section
section
variable {s : St} {p bw bb : Nat} {n : Nat} {words : List Int} {begins : List Bool} {next : Nat} {sh mp : V}
theorem HR.setW {s' : St} (H : HR s p bw bb n words begins next sh mp) (f : Fr s s' [bw]) {ws : List Int} (h : s'.cl bw = some (ws.map .i)) (hl : ws.length = words.length) : HR s' p bw bb n ws begins next sh mp :=
 ⟨f.wf, f.cl H.wf H.hp (by simpa using H.d1), h, f.cl H.wf H.hb (by simpa using H.d3.symm), hl.trans H.lw, H.lb, H.nn, H.n1, H.nx, H.d1, H.d2, H.d3⟩
theorem HR.setB {s' : St} (H : HR s p bw bb n words begins next sh mp) (f : Fr s s' [bb]) {bs : List Bool} (h : s'.cl bb = some (bs.map .bool)) (hl : bs.length = begins.length) : HR s' p bw bb n words bs next sh mp :=
 ⟨f.wf, f.cl H.wf H.hp (by simpa using H.d2), f.cl H.wf H.hw (by simpa using H.d3), h, H.lw, hl.trans H.lb, H.nn, H.n1, H.nx, H.d1, H.d2, H.d3⟩
theorem HR.setN {s' : St} (H : HR s p bw bb n words begins next sh mp) (f : Fr s s' [p]) {nx : Nat} (h : s'.cl p = some [.slice bw 0 n (some n) 1, .slice bb 0 n (some n) 1, .i nx, sh, mp]) (h1 : 1 ≤ nx) (hn : nx ≤ n) : HR s' p bw bb n words begins nx sh mp :=
 ⟨f.wf, h, f.cl H.wf H.hw (by simpa using H.d1.symm), f.cl H.wf H.hb (by simpa using H.d2.symm), H.lw, H.lb, H.nn, h1, hn, H.d1, H.d2, H.d3⟩
theorem HR.other {s' : St} {l : List Nat} (H : HR s p bw bb n words begins next sh mp) (f : Fr s s' l) (h1 : p ∉ l) (h2 : bw ∉ l) (h3 : bb ∉ l) : HR s' p bw bb n words begins next sh mp :=
 ⟨f.wf, f.cl H.wf H.hp h1, f.cl H.wf H.hw h2, f.cl H.wf H.hb h3, H.lw, H.lb, H.nn, H.n1, H.nx, H.d1, H.d2, H.d3⟩
theorem map_set_i (l : List Int) (o : Nat) (v : Int) : (l.map V.i).set o (.i v) = (l.set o v).map .i := by rw [List.map_set]
theorem map_set_b (l : List Bool) (o : Nat) (v : Bool) : (l.map V.bool).set o (.bool v) = (l.set o v).map .bool := by rw [List.map_set]
def putW (words : List Int) (next m : Nat) (shape : Int) : List Int := ((words.take next ++ List.replicate (3 + m) 0 ++ words.drop (next + (3 + m))).set next shape).set (next + 1) m
theorem HR.put (H : HR s p bw bb n words begins next sh mp) (d : Nat) (shape : Int) (m : Nat) (hm : m < 20000) :
 (n < next + 3 + m → (K (d + 2)).call 57 [.ptr p 0, .i shape, .i m] s = some (.tup [.i 0, .i 26], s)) ∧
 (next + 3 + m ≤ n → ∃ s', (K (d + 2)).call 57 [.ptr p 0, .i shape, .i m] s = some (.tup [.i next, .i 0], s') ∧ HR s' p bw bb n (putW words next m shape) (begins.set next true) (next + 3 + m) sh mp ∧ Fr s s' [p, bw, bb] ∧ s'.next = s.next) := by
 have ew := H.fnWords d
 have eu := H.fnUsed d
 obtain ⟨hw, h1, h2, h3, h4, h5, h6, h7, h8, d1, d2, d3⟩ := H
 constructor
 · intro hlt
   have c : (n : Int) - 1 - (next - 1) - 3 < m := by omega
   rw [op57]
   simp -implicitDefEqProofs (maxSteps := 5000000) (disch := first | assumption | omega | (simp only [dz, dl, Nat.zero_add, Nat.reduceAdd, Bool.and_self]; done) | (simp only [dl]; omega)) only [go_sem, fAdd_eq, ew, eu, dLd_at hw h1, c]
 · intro hle
   have c : ¬ (n : Int) - 1 - (next - 1) - 3 < m := by omega
   have e1 : ((next : Int)).toNat = next := by omega
   have e2 : ((next : Int) + 3 + m).toNat = next + 3 + m := by omega
   have e2b : next + 3 + m - next = 3 + m := by omega
   have e4 : ((next : Int) + 1).toNat = next + 1 := by omega
   obtain ⟨s1, E1, q1, f1, n1⟩ := eClr_ex (s := s) (z := .i 0) (o := next) (len := 3 + m) (c := some (n - next)) (es := 1) hw h2 (by simp; omega)
   have H : HR s p bw bb n words begins next sh mp := ⟨hw, h1, h2, h3, h4, h5, h6, h7, h8, d1, d2, d3⟩
   have x1 : putL (words.map V.i) next (List.replicate (3 + m) (.i 0)) = (words.take next ++ List.replicate (3 + m) 0 ++ words.drop (next + (3 + m))).map .i := by
    unfold putL; simp
   rw [x1] at q1
   have H1 := H.setW f1 q1 (by simp; omega)
   obtain ⟨s2, E2, q2, f2, n2⟩ := eSt_ex (s := s1) (o := next) (v := .i shape) H1.wf H1.hw (by simp; omega) rfl
   rw [map_set_i] at q2
   have H2 := H1.setW f2 q2 (by simp)
   obtain ⟨s3, E3, q3, f3, n3⟩ := eSt_ex (s := s2) (o := next + 1) (v := .i m) H2.wf H2.hw (by simp; omega) rfl
   rw [map_set_i] at q3
   have H3 := H2.setW f3 q3 (by simp)
   obtain ⟨s4, E4, q4, f4, n4⟩ := eSt_ex (s := s3) (o := next) (v := .bool true) H3.wf H3.hb (by simp; omega) rfl
   rw [map_set_b] at q4
   have H4 := H3.setB f4 q4 (by simp)
   obtain ⟨s5, E5, q5, f5, n5⟩ := eSt_ex (s := s4) (o := 2) (v := .i (next + (3 + m) : Int)) H4.wf H4.hp (by simp) rfl
   have H5 := H4.setN f5 (nx := next + 3 + m) (by rw [q5]; simp; omega) (by omega) (by omega)
   have e3 : (next : Int) + (3 + m) = ((next + 3 + m : Nat) : Int) := by omega
   rw [op57]
   refine ⟨s5, ?_, H5, ?_, by rw [n5, n4, n3, n2, n1]⟩
   · simp -implicitDefEqProofs (maxSteps := 5000000) (disch := first | assumption | omega | (simp only [dz, dl, Nat.zero_add, Nat.reduceAdd, Bool.and_self]; done) | (simp only [dl]; omega)) only [go_sem, fAdd_eq, ew, eu, dLd_at hw h1, dLd_at H1.wf H1.hp, dLd_at H2.wf H2.hp, dLd_at H3.wf H3.hp, dLd_at H4.wf H4.hp, c, e1, e2, e2b, e4, E1, E2, E3, E4, E5]
   · exact (f1.mono (by simp)).trans ((f2.mono (by simp)).trans ((f3.mono (by simp)).trans ((f4.mono (by simp)).trans (f5.mono (by simp)))))
end
end
end Go.Proofs.YtgkcpceppmppfaaLab
namespace Go.Proofs.YtgkcpceppmppfaaLab
open Go
set_option linter.all false
noncomputable section
structure O where
 shape : Int
 tag : Int
 f : List Int
def O.n (o : O) : Nat := 3 + o.f.length
def O.ws (o : O) : List Int := o.shape :: (o.f.length : Int) :: o.tag :: o.f
def O.bs (o : O) : List Bool := true :: List.replicate (2 + o.f.length) false
def lay : List O → List Int | [] => [] | o :: os => o.ws ++ lay os
def layB : List O → List Bool | [] => [] | o :: os => o.bs ++ layB os
def look : List O → Int → Option O
 | [], _ => none
 | o :: os, r => if r = 0 then some o else look os (r - (o.n : Nat))
def at? (os : List O) (r : Int) : Option O := look os (r - 1)
def turn (g : O → O) : List O → Int → List O
 | [], _ => []
 | o :: os, r => if r = 0 then g o :: os else o :: turn g os (r - (o.n : Nat))
theorem O.ws_len (o : O) : o.ws.length = o.n := by simp [O.ws, O.n]; omega
theorem O.bs_len (o : O) : o.bs.length = o.n := by simp [O.bs, O.n]; omega
theorem O.n_pos (o : O) : 3 ≤ o.n := by simp [O.n]
theorem lay_len : ∀ os, (layB os).length = (lay os).length
 | [] => rfl
 | o :: os => by simp [lay, layB, O.ws_len, O.bs_len, lay_len os]
theorem lay_append : ∀ (a b : List O), lay (a ++ b) = lay a ++ lay b
 | [], b => rfl
 | o :: a, b => by simp [lay, lay_append a b]
theorem layB_append : ∀ (a b : List O), layB (a ++ b) = layB a ++ layB b
 | [], b => rfl
 | o :: a, b => by simp [layB, layB_append a b]
theorem look_neg : ∀ (os : List O) (r : Int), r < 0 → look os r = none
 | [], r, _ => rfl
 | o :: os, r, h => by unfold look; rw [if_neg (by omega)]; exact look_neg os _ (by omega)
theorem look_split : ∀ {os : List O} {r : Int} {o : O}, look os r = some o → ∃ pre post, os = pre ++ o :: post ∧ r = ((lay pre).length : Nat)
 | [], r, o, h => by cases h
 | x :: os, r, o, h => by
   unfold look at h
   split at h
   · cases h; exact ⟨[], os, rfl, by simpa [lay] using ‹r = 0›⟩
   · obtain ⟨pre, post, h1, h2⟩ := look_split h
     exact ⟨x :: pre, post, by rw [h1]; rfl, by simp [lay, O.ws_len]; omega⟩
theorem look_of : ∀ (pre : List O) (o : O) (post : List O), look (pre ++ o :: post) ((lay pre).length : Nat) = some o
 | [], o, post => by simp [look, lay]
 | x :: pre, o, post => by
   have := x.n_pos
   simp only [List.cons_append, look, lay, List.length_append, O.ws_len]
   rw [if_neg (by omega), show ((x.n + (lay pre).length : Nat) : Int) - (x.n : Nat) = ((lay pre).length : Nat) by omega]
   exact look_of pre o post
theorem turn_of (g : O → O) : ∀ (pre : List O) (o : O) (post : List O), turn g (pre ++ o :: post) ((lay pre).length : Nat) = pre ++ g o :: post
 | [], o, post => by simp [turn, lay]
 | x :: pre, o, post => by
   have := x.n_pos
   simp only [List.cons_append, turn, lay, List.length_append, O.ws_len]
   rw [if_neg (by omega), show ((x.n + (lay pre).length : Nat) : Int) - (x.n : Nat) = ((lay pre).length : Nat) by omega, turn_of g pre o post]
theorem layB_get : ∀ (os : List O) (z i : Nat), ((layB os ++ List.replicate z false)[i]?).getD false = (look os i).isSome
 | [], z, i => by
   simp only [layB, List.nil_append, look, Option.isSome_none, List.getElem?_replicate]
   split <;> rfl
 | o :: os, z, i => by
   have hn := o.bs_len
   simp only [layB, look, List.append_assoc]
   by_cases h0 : i = 0
   · subst h0; simp [O.bs]
   · rw [if_neg (by omega)]
     by_cases h1 : i < o.n
     · rw [List.getElem?_append_left (by omega), look_neg _ _ (by omega)]
       obtain ⟨j, rfl⟩ : ∃ j, i = j + 1 := ⟨i - 1, by omega⟩
       simp only [O.bs, List.getElem?_cons_succ, List.getElem?_replicate]
       split <;> rfl
     · rw [List.getElem?_append_right (by omega), hn, layB_get os z (i - o.n)]
       rw [show ((i - o.n : Nat) : Int) = (i : Int) - (o.n : Nat) by omega]
theorem lay_at {os : List O} {r : Int} {o : O} (h : at? os r = some o) (z : List Int) : 1 ≤ r ∧ r.toNat + o.n ≤ 1 + (lay os).length ∧ ∀ j, j < o.n → (0 :: (lay os ++ z))[r.toNat + j]? = o.ws[j]? := by
 obtain ⟨pre, post, rfl, hr⟩ := look_split h
 have e : r.toNat = (lay pre).length + 1 := by omega
 refine ⟨by omega, ?_, fun j hj => ?_⟩
 · rw [lay_append, List.length_append, lay, List.length_append, O.ws_len]; omega
 · rw [e, show (lay pre).length + 1 + j = ((lay pre).length + j) + 1 by omega, List.getElem?_cons_succ, lay_append, List.append_assoc, List.getElem?_append_right (by omega), lay, List.append_assoc, List.getElem?_append_left (by rw [O.ws_len]; omega)]
   congr 1; omega
theorem lay_lt {os : List O} {r : Int} {o : O} (h : at? os r = some o) : 1 ≤ r ∧ r.toNat + o.n ≤ 1 + (lay os).length := ⟨(lay_at h []).1, (lay_at h []).2.1⟩
theorem lay_set {os : List O} {r : Int} {o : O} (h : at? os r = some o) (z : List Int) (g : O → O) (j : Nat) (v : Int) (hj : j < o.n) (hg : (g o).ws = o.ws.set j v) : (0 :: (lay os ++ z)).set (r.toNat + j) v = 0 :: (lay (turn g os (r - 1)) ++ z) := by
 obtain ⟨pre, post, rfl, hr⟩ := look_split h
 have e : r.toNat = (lay pre).length + 1 := by omega
 rw [hr, turn_of, e, show (lay pre).length + 1 + j = ((lay pre).length + j) + 1 by omega, List.set_cons_succ, lay_append, lay_append, lay, lay, hg]
 congr 1
 simp only [List.append_assoc]
 rw [List.set_append_right _ _ (by omega), List.set_append_left _ _ (by rw [O.ws_len]; omega)]
 congr 3; omega
theorem turn_len {os : List O} {r : Int} {o : O} (h : look os r = some o) (g : O → O) (hg : (g o).f.length = o.f.length) : (lay (turn g os r)).length = (lay os).length ∧ layB (turn g os r) = layB os := by
 obtain ⟨pre, post, rfl, hr⟩ := look_split h
 rw [hr, turn_of]
 constructor
 · simp [lay_append, lay, O.ws_len, O.n, hg]
 · rw [layB_append, layB_append, layB, layB]; simp [O.bs, hg]
end
end Go.Proofs.YtgkcpceppmppfaaLab
namespace Go.Proofs.YtgkcpceppmppfaaLab
open Go
set_option linter.all false
set_option maxRecDepth 10000
noncomputable section
structure AH (s : St) (p bw bb n : Nat) (os : List O) (sh mp : V) (z : List Int) : Prop where
 hr : HR s p bw bb n (0 :: (lay os ++ z)) (false :: (layB os ++ List.replicate z.length false)) (1 + (lay os).length) sh mp
def lenO (os : List O) (r : Int) : Int := match at? os r with | some o => (o.f.length : Int) | none => 0
def shapeO (os : List O) (r : Int) : Int := match at? os r with | some o => o.shape | none => -3
theorem isB_at (os : List O) (z : Nat) (r : Int) : isB (false :: (layB os ++ List.replicate z false)) r = (at? os r).isSome := by
 unfold isB at?
 by_cases h : 0 < r
 · obtain ⟨j, rfl⟩ : ∃ j : Nat, r = (j : Int) + 1 := ⟨(r - 1).toNat, by omega⟩
   rw [show (((j : Int) + 1).toNat) = j + 1 by omega, List.getElem?_cons_succ, layB_get, show ((j : Int) + 1 - 1) = (j : Int) by omega]
   simp
 · rw [look_neg _ _ (by omega)]; simp [h]
section
variable {s : St} {p bw bb n : Nat} {os : List O} {sh mp : V} {z : List Int} (H : AH s p bw bb n os sh mp z)
include H
theorem AH.is (d : Nat) (r : Int) : (K (d + 1)).call 51 [.ptr p 0, .i r] s = some (.bool (at? os r).isSome, s) := by
 rw [H.hr.fnIs, isB_at]
theorem AH.size : n = 1 + (lay os).length + z.length := by have := H.hr.lw; simp at this; omega
theorem AH.nn : n < 20000 := H.hr.nn
theorem AH.at {r : Int} {o : O} (h : at? os r = some o) (j : Nat) (hj : j < o.n) : 0 ≤ r + j ∧ r + j < n ∧ ((0 :: (lay os ++ z)).map V.i)[(r + j).toNat]? = (o.ws[j]?).map V.i := by
 obtain ⟨h1, h2, h3⟩ := lay_at h z
 have := H.size
 refine ⟨by omega, by omega, ?_⟩
 rw [List.getElem?_map, show (r + j).toNat = r.toNat + j by omega, h3 j hj]
theorem AH.len (d : Nat) (r : Int) : (K (d + 2)).call 50 [.ptr p 0, .i r] s = some (.i (lenO os r), s) := by
 have ei := H.is d r
 have hn := H.nn
 have hw := H.hr.wf
 have h1 := H.hr.hp
 have h2 := H.hr.hw
 rw [op50]
 unfold lenO
 cases ho : at? os r with
 | none =>
   rw [ho] at ei
   simp -implicitDefEqProofs (maxSteps := 5000000) (disch := first | assumption | omega | (simp only [dz, dl, Nat.zero_add, Nat.reduceAdd, Bool.and_self]; done) | (simp only [dl]; omega)) only [go_sem, fAdd_eq, ei, Option.isSome_none]
 | some o =>
   rw [ho] at ei
   have h3 := o.n_pos
   obtain ⟨a1, a2, a3⟩ := H.at ho 1 (by omega)
   have hl := H.hr.lw
   simp only [O.ws, List.getElem?_cons_succ, List.getElem?_cons_zero, Option.map_some] at a3
   replace a1 : 0 ≤ r + 1 := a1
   replace a2 : r + 1 < n := a2
   replace a3 : _[(r + 1).toNat]? = _ := a3
   simp -implicitDefEqProofs (maxSteps := 5000000) (disch := first | assumption | omega | (simp only [dz, dl, Nat.zero_add, Nat.reduceAdd, Bool.and_self]; done) | (simp only [dl]; omega)) only [go_sem, fAdd_eq, ei, Option.isSome_some, dLd_at hw h1, dLd_eq hw h2 a3]
theorem AH.shape (d : Nat) (r : Int) : (K (d + 2)).call 24 [.ptr p 0, .i r] s = some (.i (shapeO os r), s) := by
 have ei := H.is d r
 have hn := H.nn
 have hw := H.hr.wf
 have h1 := H.hr.hp
 have h2 := H.hr.hw
 rw [op24]
 unfold shapeO
 cases ho : at? os r with
 | none =>
   rw [ho] at ei
   simp -implicitDefEqProofs (maxSteps := 5000000) (disch := first | assumption | omega | (simp only [dz, dl, Nat.zero_add, Nat.reduceAdd, Bool.and_self]; done) | (simp only [dl]; omega)) only [go_sem, ei, Option.isSome_none]
 | some o =>
   rw [ho] at ei
   have h3 := o.n_pos
   obtain ⟨a1, a2, a3⟩ := H.at ho 0 (by omega)
   have hl := H.hr.lw
   simp only [O.ws, List.getElem?_cons_succ, List.getElem?_cons_zero, Option.map_some, Int.ofNat_zero, Int.natCast_zero, Int.add_zero] at a1 a2 a3
   simp -implicitDefEqProofs (maxSteps := 5000000) (disch := first | assumption | omega | (simp only [dz, dl, Nat.zero_add, Nat.reduceAdd, Bool.and_self]; done) | (simp only [dl]; omega)) only [go_sem, ei, Option.isSome_some, dLd_at hw h1, dLd_eq hw h2 a3]
theorem AH.field (d : Nat) (r k : Int) : (K (d + 3)).call 52 [.ptr p 0, .i r, .i k] s = some (.tup [.i (w64 (w64 (r + 3) + k)), .bool (decide (0 ≤ k ∧ k < lenO os r))], s) := by
 have el := H.len d r
 rw [op52]
 by_cases h0 : 0 ≤ k
 · simp -implicitDefEqProofs (maxSteps := 5000000) (disch := first | assumption | omega | (simp only [dz, dl, Nat.zero_add, Nat.reduceAdd, Bool.and_self]; done) | (simp only [dl]; omega)) only [go_sem, fAdd_w, el, h0, true_and]
 · simp -implicitDefEqProofs (maxSteps := 5000000) (disch := first | assumption | omega | (simp only [dz, dl, Nat.zero_add, Nat.reduceAdd, Bool.and_self]; done) | (simp only [dl]; omega)) only [go_sem, fAdd_w, el, h0, false_and]
end
def getO (os : List O) (r k : Int) : Option Int := match at? os r with | some o => if 0 ≤ k then o.f[k.toNat]? else none | none => none
theorem getO_len {os : List O} {r k : Int} : (getO os r k).isSome = decide (0 ≤ k ∧ k < lenO os r) := by
 unfold getO lenO
 cases at? os r with
 | none => simp
 | some o =>
   by_cases h : 0 ≤ k
   · simp only [if_pos h, h, true_and]
     by_cases h2 : k < o.f.length
     · rw [List.getElem?_eq_getElem (by omega)]; simp [h2]
     · rw [List.getElem?_eq_none (by omega)]; simp [h2]
   · simp [h]
theorem getO_some {os : List O} {r k v : Int} (h : getO os r k = some v) : ∃ o, at? os r = some o ∧ 0 ≤ k ∧ k < o.f.length ∧ o.f[k.toNat]? = some v := by
 unfold getO at h
 split at h
 · rename_i o ho
   split at h
   · have := (List.getElem?_eq_some_iff.1 h).1
     exact ⟨o, ho, by omega, by omega, h⟩
   · cases h
 · cases h
section
variable {s : St} {p bw bb n : Nat} {os : List O} {sh mp : V} {z : List Int} (H : AH s p bw bb n os sh mp z)
include H
theorem AH.atF {r k v : Int} (h : getO os r k = some v) : 1 ≤ r ∧ 0 ≤ k ∧ 0 ≤ r + 3 + k ∧ r + 3 + k < n ∧ w64 (w64 (r + 3) + k) = r + 3 + k ∧ ((0 :: (lay os ++ z)).map V.i)[(r + 3 + k).toNat]? = some (.i v) ∧ 0 ≤ k ∧ k < lenO os r := by
 obtain ⟨o, ho, h1, h2, h3⟩ := getO_some h
 have hn := H.nn
 obtain ⟨a1, a2, a3⟩ := H.at ho (3 + k.toNat) (by simp [O.n]; omega)
 have hr := (lay_lt ho).1
 refine ⟨hr, h1, by omega, by omega, ?_, ?_, h1, ?_⟩
 · rw [w64_of (n := r + 3) ⟨by omega, by omega⟩, w64_of ⟨by omega, by omega⟩]
 · rw [show r + 3 + k = r + ((3 + k.toNat : Nat) : Int) by omega, a3, show 3 + k.toNat = k.toNat + 1 + 1 + 1 by omega]
   simp only [O.ws, List.getElem?_cons_succ, h3, Option.map_some]
 · unfold lenO; rw [ho]; exact h2
theorem AH.get (d : Nat) (r k : Int) : (K (d + 4)).call 26 [.ptr p 0, .i r, .i k] s = some ((match getO os r k with | some v => .tup [.i v, .i 0] | none => .tup [.i 0, .i 1]), s) := by
 have ef := H.field d r k
 rw [← getO_len] at ef
 have hn := H.nn
 have hw := H.hr.wf
 have h1 := H.hr.hp
 have h2 := H.hr.hw
 have hl := H.hr.lw
 rw [op26]
 cases ho : getO os r k with
 | none =>
   rw [ho] at ef
   simp -implicitDefEqProofs (maxSteps := 5000000) (disch := first | assumption | omega | (simp only [dz, dl, Nat.zero_add, Nat.reduceAdd, Bool.and_self]; done) | (simp only [dl]; omega)) only [go_sem, ef, Option.isSome_none]
 | some v =>
   rw [ho] at ef
   obtain ⟨a0, b0, a1, a2, a3, a4, _⟩ := H.atF ho
   rw [a3] at ef
   simp -implicitDefEqProofs (maxSteps := 5000000) (disch := first | assumption | omega | (simp only [dz, dl, Nat.zero_add, Nat.reduceAdd, Bool.and_self]; done) | (simp only [dl]; omega)) only [go_sem, ef, Option.isSome_some, dLd_at hw h1, dLd_eq hw h2 a4]
end
end
end Go.Proofs.YtgkcpceppmppfaaLab
namespace Go.Proofs.YtgkcpceppmppfaaLab
open Go
set_option linter.all false
set_option maxRecDepth 10000
noncomputable section
def BL (s : St) (F : List Nat) (v : V) (l : List Bool) : Prop :=
 (l = [] ∧ (v = .nils ∨ ∃ b o c, v = .slice b o 0 c 1)) ∨ ∃ b o c M, v = .slice b o l.length c 1 ∧ b ∈ F ∧ s.cl b = some M ∧ o + l.length ≤ M.length ∧ ∀ k, k < l.length → M[o + k]? = l[k]?.map V.bool
def ShR (s : St) (F : List Nat) (sh : V) (shapes : List (List Bool)) : Prop :=
 (shapes = [] ∧ sh = .nils) ∨ ∃ b L F0, sh = .slice b 0 shapes.length none 1 ∧ b ∈ F ∧ s.cl b = some L ∧ L.length = shapes.length ∧ (∀ v ∈ L, v.one = true) ∧ (∀ x ∈ F0, x ∈ F) ∧ b ∉ F0 ∧ ∀ (i : Nat) l, shapes[i]? = some l → ∃ v, L[i]? = some v ∧ BL s F0 v l
def ShOk (os : List O) (shapes : List (List Bool)) : Prop := ∀ o ∈ os, o.shape = -1 ∨ o.shape = -2 ∨ (0 ≤ o.shape ∧ ∃ l, shapes[o.shape.toNat]? = some l ∧ l.length = o.f.length)
theorem BL.sub {s : St} {F F' : List Nat} {v : V} {l : List Bool} (h : BL s F v l) (hF : ∀ b ∈ F, b ∈ F') : BL s F' v l := by
 rcases h with h | ⟨b, o, c, M, rfl, h2, h3⟩
 · exact .inl h
 · exact .inr ⟨b, o, c, M, rfl, hF b h2, h3⟩
theorem BL.fr {s s' : St} {F l' : List Nat} {v : V} {l : List Bool} (h : BL s F v l) (hw : Wf s) (f : Fr s s' l') (hd : ∀ b, b ∈ F → b ∉ l') : BL s' F v l := by
 rcases h with h | ⟨b, o, c, M, h1, h2, h3, h4⟩
 · exact .inl h
 · exact .inr ⟨b, o, c, M, h1, h2, f.cl hw h3 (hd b h2), h4⟩
theorem ShR.fr {s s' : St} {F l' : List Nat} {v : V} {l : List (List Bool)} (h : ShR s F v l) (hw : Wf s) (f : Fr s s' l') (hd : ∀ b, b ∈ F → b ∉ l') : ShR s' F v l := by
 rcases h with h | ⟨b, L, F0, h1, h2, h3, h4, h5, h7, h8, h6⟩
 · exact .inl h
 · refine .inr ⟨b, L, F0, h1, h2, f.cl hw h3 (hd b h2), h4, h5, h7, h8, fun i l hl => ?_⟩
   obtain ⟨v, a1, a2⟩ := h6 i l hl
   exact ⟨v, a1, a2.fr hw f fun x hx => hd x (h7 x hx)⟩
def refO (os : List O) (shapes : List (List Bool)) (r k : Int) : Bool := match at? os r with
 | some o => if 0 ≤ k ∧ k < o.f.length then (if o.shape = -2 then true else if o.shape = -1 then false else ((shapes[o.shape.toNat]?.bind fun l => l[k.toNat]?).getD false)) else false
 | none => false
theorem at_mem {os : List O} {r : Int} {o : O} (h : at? os r = some o) : o ∈ os := by
 obtain ⟨pre, post, rfl, _⟩ := look_split h; simp
section
variable {s : St} {p bw bb n : Nat} {os : List O} {sh mp : V} {z : List Int} {F : List Nat} {shapes : List (List Bool)} (H : AH s p bw bb n os sh mp z)
include H
theorem AH.isRef (hs : ShR s F sh shapes) (ok : ShOk os shapes) (d : Nat) (r k : Int) : (K (d + 4)).call 59 [.ptr p 0, .i r, .i k] s = some (.bool (refO os shapes r k), s) := by
 have ef := H.field d r k
 have es := H.shape (d + 1) r
 have hn := H.nn
 have hw := H.hr.wf
 have h1 := H.hr.hp
 rw [op59]
 unfold refO
 unfold lenO at ef
 unfold shapeO at es
 cases ho : at? os r with
 | none =>
   rw [ho] at ef
   have c : ¬ (0 ≤ k ∧ k < 0) := by omega
   simp only [c] at ef
   simp -implicitDefEqProofs (maxSteps := 5000000) (disch := first | assumption | omega | (simp only [dz, dl, Nat.zero_add, Nat.reduceAdd, Bool.and_self]; done) | (simp only [dl]; omega)) only [go_sem, ef]
 | some o =>
   rw [ho] at ef es
   by_cases c : 0 ≤ k ∧ k < o.f.length
   · simp only [c, and_self] at ef es ⊢
     rcases ok o (at_mem ho) with q | q | ⟨q, l, hl, hle⟩
     · simp only [q] at es ⊢
       simp -implicitDefEqProofs (maxSteps := 5000000) (disch := first | assumption | omega | (simp only [dz, dl, Nat.zero_add, Nat.reduceAdd, Bool.and_self]; done) | (simp only [dl]; omega)) only [go_sem, ef, es, Int.reduceEq, if_false, if_true]
     · simp only [q] at es ⊢
       simp -implicitDefEqProofs (maxSteps := 5000000) (disch := first | assumption | omega | (simp only [dz, dl, Nat.zero_add, Nat.reduceAdd, Bool.and_self]; done) | (simp only [dl]; omega)) only [go_sem, ef, es, Int.reduceEq, if_false, if_true]
     · have q1 : ¬ o.shape = -2 := by omega
       have q2 : ¬ o.shape = -1 := by omega
       rcases hs with ⟨h0, _⟩ | ⟨b, L, F0, e1, e2, e3, e4, e5, _, _, e6⟩
       · rw [h0] at hl; simp at hl
       · obtain ⟨v, a1, a2⟩ := e6 _ _ hl
         have hlt := (List.getElem?_eq_some_iff.1 hl).1
         rcases a2 with ⟨h0, _⟩ | ⟨b2, o2, c2, M, m1, m2, m3, m4, m5⟩
         · rw [h0] at hle; simp at hle; omega
         · have m6 := m5 k.toNat (by omega)
           rw [List.getElem?_eq_getElem (show k.toNat < l.length by omega), Option.map_some] at m6
           subst e1; subst m1
           simp -implicitDefEqProofs (maxSteps := 5000000) (disch := first | assumption | omega | (simp only [dz, dl, Nat.zero_add, Nat.reduceAdd, Bool.and_self]; done) | (simp only [dl]; omega)) only [go_sem, ef, es, q1, q2, if_false, dLd_at hw h1, dLd_eq hw e3 a1, dLd_eq hw m3 m6, hl, Option.bind_some]
           simp [show k.toNat < l.length by omega]
   · have c' : ¬ (0 ≤ k ∧ k < (o.f.length : Int)) := c
     simp only [c'] at ef ⊢
     simp -implicitDefEqProofs (maxSteps := 5000000) (disch := first | assumption | omega | (simp only [dz, dl, Nat.zero_add, Nat.reduceAdd, Bool.and_self]; done) | (simp only [dl]; omega)) only [go_sem, ef, if_false]
theorem AH.fits (d : Nat) (v : Int) (h64 : -9223372036854775808 ≤ v ∧ v < 9223372036854775808) : (K (d + 2)).call 60 [.ptr p 0, .i v] s = some (.bool (decide (v = 0) || (at? os v).isSome), s) := by
 have ei := H.is d v
 have hn := H.nn
 have hw := H.hr.wf
 have h1 := H.hr.hp
 have h3 := H.size
 rw [op60]
 by_cases c0 : 0 ≤ v
 · by_cases c1 : v < n
   · by_cases c2 : v = 0
     · subst c2
       simp -implicitDefEqProofs (maxSteps := 5000000) (disch := first | assumption | omega | (simp only [dz, dl, Nat.zero_add, Nat.reduceAdd, Bool.and_self]; done) | (simp only [dl]; omega)) only [go_sem, ei, dLd_at hw h1, c1, Bool.true_or]
     · simp -implicitDefEqProofs (maxSteps := 5000000) (disch := first | assumption | omega | (simp only [dz, dl, Nat.zero_add, Nat.reduceAdd, Bool.and_self]; done) | (simp only [dl]; omega)) only [go_sem, ei, dLd_at hw h1, c0, c1, c2, Bool.false_or]
   · have c2 : at? os v = none := by
      cases ho : at? os v with
      | none => rfl
      | some o => have := lay_lt ho; have := o.n_pos; omega
     have c3 : ¬ v = 0 := by omega
     simp -implicitDefEqProofs (maxSteps := 5000000) (disch := first | assumption | omega | (simp only [dz, dl, Nat.zero_add, Nat.reduceAdd, Bool.and_self]; done) | (simp only [dl]; omega)) only [go_sem, ei, dLd_at hw h1, c0, c1, c2, c3, Bool.false_or, Option.isSome_none]
 · have c2 : at? os v = none := look_neg _ _ (by omega)
   have c3 : ¬ v = 0 := by omega
   simp -implicitDefEqProofs (maxSteps := 5000000) (disch := first | assumption | omega | (simp only [dz, dl, Nat.zero_add, Nat.reduceAdd, Bool.and_self]; done) | (simp only [dl]; omega)) only [go_sem, ei, dLd_at hw h1, c0, c2, c3, Bool.false_or, Option.isSome_none]
end
def O.setF (k : Int) (v : Int) (o : O) : O := { o with f := o.f.set k.toNat v }
def O.setTag (v : Int) (o : O) : O := { o with tag := v }
theorem O.setF_ws (k v : Int) (o : O) : (o.setF k v).ws = o.ws.set (3 + k.toNat) v := by
 simp only [O.ws, O.setF, List.length_set]
 rw [show 3 + k.toNat = k.toNat + 1 + 1 + 1 by omega]
 simp
section
variable {s : St} {p bw bb n : Nat} {os : List O} {sh mp : V} {z : List Int} {F : List Nat} {shapes : List (List Bool)} (H : AH s p bw bb n os sh mp z)
include H
theorem AH.store {s' : St} {r : Int} {o : O} (ho : at? os r = some o) (g : O → O) (j : Nat) (v : Int) (hj : j < o.n) (hg : (g o).ws = o.ws.set j v) (hl : (g o).f.length = o.f.length) (f : Fr s s' [bw]) (h : s'.cl bw = some (((0 :: (lay os ++ z)).map V.i).set (r.toNat + j) (.i v))) : AH s' p bw bb n (turn g os (r - 1)) sh mp z := by
 obtain ⟨t1, t2⟩ := turn_len (os := os) ho g hl
 rw [map_set_i, lay_set ho z g j v hj hg] at h
 refine ⟨?_⟩
 rw [t1, t2]
 exact H.hr.setW f h (by simp [t1])
theorem AH.set (hs : ShR s F sh shapes) (ok : ShOk os shapes) (d : Nat) (r k v : Int) (h64 : -9223372036854775808 ≤ v ∧ v < 9223372036854775808) :
 (getO os r k = none → (K (d + 5)).call 41 [.ptr p 0, .i r, .i k, .i v] s = some (.i 1, s)) ∧
 (∀ x, getO os r k = some x → (refO os shapes r k && !(decide (v = 0) || (at? os v).isSome)) = true → (K (d + 5)).call 41 [.ptr p 0, .i r, .i k, .i v] s = some (.i 20, s)) ∧
 (∀ x, getO os r k = some x → (refO os shapes r k && !(decide (v = 0) || (at? os v).isSome)) = false → ∃ s', (K (d + 5)).call 41 [.ptr p 0, .i r, .i k, .i v] s = some (.i 0, s') ∧ AH s' p bw bb n (turn (O.setF k v) os (r - 1)) sh mp z ∧ Fr s s' [bw] ∧ s'.next = s.next) := by
 have ef := H.field (d + 1) r k
 rw [← getO_len] at ef
 have er := H.isRef hs ok d r k
 have et := H.fits (d + 2) v h64
 have hn := H.nn
 have hw := H.hr.wf
 have h1 := H.hr.hp
 have h2 := H.hr.hw
 have hl := H.hr.lw
 refine ⟨fun ho => ?_, fun x ho hc => ?_, fun x ho hc => ?_⟩
 · rw [ho] at ef
   rw [op41]
   simp -implicitDefEqProofs (maxSteps := 5000000) (disch := first | assumption | omega | (simp only [dz, dl, Nat.zero_add, Nat.reduceAdd, Bool.and_self]; done) | (simp only [dl]; omega)) only [go_sem, ef, Option.isSome_none]
 · rw [ho] at ef
   rw [Bool.and_eq_true, Bool.not_eq_true'] at hc
   rw [hc.1] at er; rw [hc.2] at et
   rw [op41]
   simp -implicitDefEqProofs (maxSteps := 5000000) (disch := first | assumption | omega | (simp only [dz, dl, Nat.zero_add, Nat.reduceAdd, Bool.and_self]; done) | (simp only [dl]; omega)) only [go_sem, ef, er, et, Option.isSome_some]
 · rw [ho] at ef
   obtain ⟨a0, b0, a1, a2, a3, a4, _⟩ := H.atF ho
   rw [a3] at ef
   obtain ⟨o, q1, q2, q3, q4⟩ := getO_some ho
   obtain ⟨s1, E1, c1, f1, n1⟩ := eSt_ex (s := s) (o := (r + 3 + k).toNat) (v := .i v) hw h2 (by rw [List.length_map, hl]; omega) rfl
   refine ⟨s1, ?_, H.store q1 (O.setF k v) (3 + k.toNat) v (by simp [O.n]; omega) (O.setF_ws k v o) (by simp [O.setF]) f1 (by rw [c1]; congr 2; omega), f1, n1⟩
   rw [op41]
   cases hr : refO os shapes r k with
   | false =>
     rw [hr] at er
     simp -implicitDefEqProofs (maxSteps := 5000000) (disch := first | assumption | omega | (simp only [dz, dl, Nat.zero_add, Nat.reduceAdd, Bool.and_self]; done) | (simp only [dl]; omega)) only [go_sem, ef, er, Option.isSome_some, dLd_at hw h1, E1]
   | true =>
     rw [hr] at er hc
     have hc : (decide (v = 0) || (at? os v).isSome) = true := by
      rw [Bool.true_and, Bool.not_eq_false'] at hc; exact hc
     rw [hc] at et
     simp -implicitDefEqProofs (maxSteps := 5000000) (disch := first | assumption | omega | (simp only [dz, dl, Nat.zero_add, Nat.reduceAdd, Bool.and_self]; done) | (simp only [dl]; omega)) only [go_sem, ef, er, et, Option.isSome_some, dLd_at hw h1, E1]
theorem AH.setTag (d : Nat) (r v : Int) : (at? os r = none → (K (d + 2)).call 30 [.ptr p 0, .i r, .i v] s = some (.i 1, s)) ∧
 (∀ o, at? os r = some o → ∃ s', (K (d + 2)).call 30 [.ptr p 0, .i r, .i v] s = some (.i 0, s') ∧ AH s' p bw bb n (turn (O.setTag v) os (r - 1)) sh mp z ∧ Fr s s' [bw] ∧ s'.next = s.next) := by
 have ei := H.is d r
 have hn := H.nn
 have hw := H.hr.wf
 have h1 := H.hr.hp
 have h2 := H.hr.hw
 have hl := H.hr.lw
 refine ⟨fun ho => ?_, fun o ho => ?_⟩
 · rw [ho] at ei
   rw [op30]
   simp -implicitDefEqProofs (maxSteps := 5000000) (disch := first | assumption | omega | (simp only [dz, dl, Nat.zero_add, Nat.reduceAdd, Bool.and_self]; done) | (simp only [dl]; omega)) only [go_sem, fAdd_eq, ei, Option.isSome_none]
 · rw [ho] at ei
   have h3 := o.n_pos
   obtain ⟨a1, a2, _⟩ := H.at ho 2 (by omega)
   replace a1 : 0 ≤ r + 2 := a1
   replace a2 : r + 2 < n := a2
   have hr := (lay_lt ho).1
   obtain ⟨s1, E1, c1, f1, n1⟩ := eSt_ex (s := s) (o := (r + 2).toNat) (v := .i v) hw h2 (by rw [List.length_map, hl]; omega) rfl
   refine ⟨s1, ?_, H.store ho (O.setTag v) 2 v (by omega) (by simp [O.setTag, O.ws]) (by simp [O.setTag]) f1 (by rw [c1]; congr 2; omega), f1, n1⟩
   rw [op30]
   simp -implicitDefEqProofs (maxSteps := 5000000) (disch := first | assumption | omega | (simp only [dz, dl, Nat.zero_add, Nat.reduceAdd, Bool.and_self]; done) | (simp only [dl]; omega)) only [go_sem, fAdd_eq, ei, Option.isSome_some, dLd_at hw h1, E1]
end
end
end Go.Proofs.YtgkcpceppmppfaaLab
namespace Go.Proofs.YtgkcpceppmppfaaLab
open Go
set_option linter.all false
set_option maxRecDepth 10000
noncomputable section
theorem putW_lay (os : List O) (z : List Int) (m : Nat) (shape : Int) (hm : 3 + m ≤ z.length) : putW (0 :: (lay os ++ z)) (1 + (lay os).length) m shape = 0 :: (lay (os ++ [⟨shape, 0, List.replicate m 0⟩]) ++ z.drop (3 + m)) := by
 have e1 : (0 :: (lay os ++ z)).take (1 + (lay os).length) = 0 :: lay os := by
  rw [Nat.add_comm, List.take_succ_cons, List.take_left']; rfl
 have e2 : (0 :: (lay os ++ z)).drop (1 + (lay os).length + (3 + m)) = z.drop (3 + m) := by
  rw [show 1 + (lay os).length + (3 + m) = ((lay os).length + (3 + m)) + 1 by omega, List.drop_succ_cons, List.drop_append, List.drop_eq_nil_of_le (by omega)]
  simp
 unfold putW
 rw [e1, e2, lay_append]
 simp only [lay, O.ws, List.append_nil, List.length_replicate]
 rw [show 1 + (lay os).length = (lay os).length + 1 by omega]
 rw [show 3 + m = m + 1 + 1 + 1 by omega, List.replicate_succ, List.replicate_succ, List.replicate_succ]
 simp only [List.cons_append, List.set_cons_succ, List.append_assoc]
 rw [List.set_append_right _ _ (by omega), List.set_append_right _ _ (by omega)]
 simp
theorem layB_put (os : List O) (k m : Nat) (shape : Int) (hm : 3 + m ≤ k) : (false :: (layB os ++ List.replicate k false)).set (1 + (lay os).length) true = false :: (layB (os ++ [⟨shape, 0, List.replicate m 0⟩]) ++ List.replicate (k - (3 + m)) false) := by
 obtain ⟨j, rfl⟩ : ∃ j, k = 3 + m + j := ⟨k - (3 + m), by omega⟩
 rw [layB_append, Nat.add_comm 1, List.set_cons_succ, ← lay_len, List.set_append_right _ _ (by omega)]
 simp only [layB, O.bs, List.append_nil, List.length_replicate, Nat.sub_self, List.append_assoc, List.cons_append]
 rw [show 3 + m + j = (2 + m + j) + 1 by omega, List.replicate_succ, List.set_cons_zero, show 2 + m + j + 1 - (3 + m) = j by omega, List.replicate_append_replicate]
def newO (shape : Int) (m : Nat) : O := ⟨shape, 0, List.replicate m 0⟩
section
variable {s : St} {p bw bb n : Nat} {os : List O} {sh mp : V} {z : List Int} (H : AH s p bw bb n os sh mp z)
include H
theorem AH.put (d : Nat) (shape : Int) (m : Nat) (hm : m < 20000) :
 (n < 1 + (lay os).length + 3 + m → (K (d + 2)).call 57 [.ptr p 0, .i shape, .i m] s = some (.tup [.i 0, .i 26], s)) ∧
 (1 + (lay os).length + 3 + m ≤ n → ∃ s', (K (d + 2)).call 57 [.ptr p 0, .i shape, .i m] s = some (.tup [.i ((1 + (lay os).length : Nat) : Int), .i 0], s') ∧ AH s' p bw bb n (os ++ [newO shape m]) sh mp (z.drop (3 + m)) ∧ Fr s s' [p, bw, bb] ∧ s'.next = s.next) := by
 obtain ⟨h1, h2⟩ := H.hr.put d shape m hm
 refine ⟨h1, fun hle => ?_⟩
 obtain ⟨s', q1, q2, q3⟩ := h2 hle
 have hz := H.size
 refine ⟨s', q1, ⟨?_⟩, q3⟩
 rw [putW_lay _ _ _ _ (by omega), layB_put _ _ m shape (by omega)] at q2
 have e : 1 + (lay (os ++ [newO shape m])).length = 1 + (lay os).length + 3 + m := by simp [lay_append, lay, newO, O.ws]; omega
 rw [e, List.length_drop]
 exact q2
theorem AH.array (d : Nat) (ofRefs : Bool) (m : Int) :
 ((m < 0 ∨ 256 < m) → (K (d + 3)).call 35 [.ptr p 0, .bool ofRefs, .i m] s = some (.tup [.i 0, .i 1], s)) ∧
 (0 ≤ m → m ≤ 256 → (n : Int) < 1 + (lay os).length + 3 + m → (K (d + 3)).call 35 [.ptr p 0, .bool ofRefs, .i m] s = some (.tup [.i 0, .i 26], s)) ∧
 (0 ≤ m → m ≤ 256 → 1 + (lay os).length + 3 + m ≤ (n : Int) → ∃ s', (K (d + 3)).call 35 [.ptr p 0, .bool ofRefs, .i m] s = some (.tup [.i ((1 + (lay os).length : Nat) : Int), .i 0], s') ∧ AH s' p bw bb n (os ++ [newO (if ofRefs then -2 else -1) m.toNat]) sh mp (z.drop (3 + m.toNat)) ∧ Fr s s' [p, bw, bb] ∧ s'.next = s.next) := by
 refine ⟨fun h => ?_, fun h1 h2 h3 => ?_, fun h1 h2 h3 => ?_⟩
 · rw [op35]
   by_cases c : m < 0
   · simp -implicitDefEqProofs (maxSteps := 5000000) (disch := first | assumption | omega | (simp only [dz, dl, Nat.zero_add, Nat.reduceAdd, Bool.and_self]; done) | (simp only [dl]; omega)) only [go_sem, c]
   · have c2 : 256 < m := by omega
     simp -implicitDefEqProofs (maxSteps := 5000000) (disch := first | assumption | omega | (simp only [dz, dl, Nat.zero_add, Nat.reduceAdd, Bool.and_self]; done) | (simp only [dl]; omega)) only [go_sem, c, c2]
 · have c : ¬ m < 0 := by omega
   have c2 : ¬ 256 < m := by omega
   obtain ⟨q, _⟩ := H.put d (if ofRefs then -2 else -1) m.toNat (by omega)
   have q := q (by omega)
   rw [show ((m.toNat : Nat) : Int) = m by omega] at q
   rw [op35]
   cases ofRefs <;> simp only [if_true, if_false, Bool.false_eq_true] at q <;> simp -implicitDefEqProofs (maxSteps := 5000000) (disch := first | assumption | omega | (simp only [dz, dl, Nat.zero_add, Nat.reduceAdd, Bool.and_self]; done) | (simp only [dl]; omega)) only [go_sem, c, c2, q]
 · have c : ¬ m < 0 := by omega
   have c2 : ¬ 256 < m := by omega
   obtain ⟨_, q⟩ := H.put d (if ofRefs then -2 else -1) m.toNat (by omega)
   obtain ⟨s', q, r⟩ := q (by omega)
   rw [show ((m.toNat : Nat) : Int) = m by omega] at q
   refine ⟨s', ?_, r⟩
   rw [op35]
   cases ofRefs <;> simp only [if_true, if_false, Bool.false_eq_true] at q <;> simp -implicitDefEqProofs (maxSteps := 5000000) (disch := first | assumption | omega | (simp only [dz, dl, Nat.zero_add, Nat.reduceAdd, Bool.and_self]; done) | (simp only [dl]; omega)) only [go_sem, c, c2, q]
end
theorem new_heap {s : St} (hw : Wf s) (d : Nat) (w : Int) (h1 : 1 ≤ w) (h2 : w ≤ 16384) : ∃ s', (K (d + 1)).call 31 [.i w] s = some (.tup [.ptr (s.next + 3) 0, .i 0], s') ∧ AH s' (s.next + 3) s.next (s.next + 1) (w.toNat + 1) [] .nils (.map (s.next + 2)) (List.replicate w.toNat 0) ∧ Fr s s' [] ∧ s'.next = s.next + 4 ∧ s'.mp (s.next + 2) = some ([], [], 0) := by
 obtain ⟨s1, e1, c1, f1, n1⟩ := new_ex (l := List.replicate (w + 1).toNat (V.i 0)) (n := (w + 1).toNat) hw (by simp)
 obtain ⟨s2, e2, c2, f2, n2⟩ := new_ex (s := s1) (l := List.replicate (w + 1).toNat (V.bool false)) (n := (w + 1).toNat) f1.wf (by simp)
 obtain ⟨s3, e3, c3, f3, n3⟩ : ∃ s', s2.new (.map [] [] 0) = s' ∧ s'.mp s2.next = some ([], [], 0) ∧ Fr s2 s' [] ∧ s'.next = s2.next + 1 :=
  ⟨_, rfl, by unfold St.mp; rw [new_at f2.wf], ⟨f2.wf.new trivial, Nat.le_succ _, fun j hj _ => new_ne (by omega)⟩, rfl⟩
 obtain ⟨s4, e4, c4, f4, n4⟩ := new_ex (s := s3) (l := [V.slice s.next 0 (w + 1).toNat (some (w + 1).toNat) 1, V.slice s1.next 0 (w + 1).toNat (some (w + 1).toNat) 1, V.i 1, V.nils, V.map s2.next]) (n := 5) f3.wf rfl
 have ec1 : ¬ w < 1 := by omega
 have ec2 : ¬ 16384 < w := by omega
 have en : s3.next = s.next + 3 := by omega
 have f24 : Fr s2 s4 [] := f3.trans f4
 have f14 : Fr s1 s4 [] := f2.trans f24
 refine ⟨s4, ?_, ⟨?_⟩, f1.trans f14, by omega, ?_⟩
 · rw [op31]
   simp -implicitDefEqProofs (maxSteps := 5000000) (disch := first | assumption | omega | (simp only [dz, dl, Nat.zero_add, Nat.reduceAdd, Bool.and_self]; done) | (simp only [dl]; omega)) only [go_sem, fAdd_eq, ec1, ec2, e1, e2, e3, e4]
   rw [en]
 · have hn : (w + 1).toNat = w.toNat + 1 := by omega
   rw [en, n1, n2, hn] at c4
   rw [hn] at c1 c2
   refine ⟨f4.wf, c4.trans (by simp [lay, n1]), ?_, ?_, by simp [lay], by simp [layB], by omega, by simp [lay], by simp [lay], by omega, by omega, by omega⟩
   · rw [f14.cl f1.wf c1 (by simp)]; simp [lay, List.replicate_succ]
   · rw [← n1, f24.cl f2.wf c2 (by simp)]; simp [layB, List.replicate_succ]
 · rw [show s.next + 2 = s2.next by omega]
   exact f4.mp f3.wf c3 (by simp)
end
end Go.Proofs.YtgkcpceppmppfaaLab
namespace Go.Proofs.YtgkcpceppmppfaaLab
open Go
set_option linter.all false
set_option maxRecDepth 10000
noncomputable section
theorem same_int {s : St} (hw : Wf s) {v1 v2 : V} {l1 l2 : List Int} (h1 : SL s v1 (l1.map .i)) (h2 : SL s v2 (l2.map .i)) (hb1 : l1.length < 1000000) (hb2 : l2.length < 1000000) (d : Nat) : (K (d + 1)).call 14 [v1, v2] s = some (.bool (decide (l1 = l2)), s) := by
 have e1 := h1.len
 have e2 := h2.len
 rw [List.length_map] at e1 e2
 rw [op14]
 by_cases hl : l1.length = l2.length
 · have c : ((l1.length : Nat) : Int) = ((l2.length : Nat) : Int) := by omega
   simp -implicitDefEqProofs (maxSteps := 5000000) (disch := first | assumption | omega | (simp only [dz, dl, Nat.zero_add, Nat.reduceAdd, Bool.and_self]; done) | (simp only [dl]; omega)) only [go_sem, fAdd_eq, e1, e2, c]
   refine loop_at (Q := fun r => retR _ (seqR (blkR 0 r) _) = _) (fun m e t => t = s ∧ ∃ j : Nat, m = l1.length - j ∧ j ≤ l1.length ∧ g5 e = .i j ∧ g0 e = v1 ∧ g1 e = v2 ∧ l1.take j = l2.take j) ?_ (n := l1.length) ?_ ?_
   · rintro n e t ⟨rfl, j, rfl, hj, i1, i2, i3, i4⟩
     replace i1 : e.a0.a5 = _ := i1
     replace i2 : e.a0.a0 = _ := i2
     replace i3 : e.a0.a1 = _ := i3
     by_cases hc : (j : Int) < ((l1.length : Nat) : Int)
     · have hj1 : j < l1.length := by omega
       have hj2 : j < l2.length := by omega
       obtain ⟨q1, a1, b1⟩ := h1.at hw (j := j) (x := .i l1[j]) (by simp [hj1])
       obtain ⟨q2, a2, b2⟩ := h2.at hw (j := j) (x := .i l2[j]) (by simp [hj2])
       by_cases hx : l1[j] = l2[j]
       · simp -implicitDefEqProofs (maxSteps := 5000000) (disch := first | assumption | omega | (simp only [dz, dl, Nat.zero_add, Nat.reduceAdd, Bool.and_self]; done) | (simp only [dl]; omega)) only [go_sem, fAdd_eq, e1, e2, i1, i2, i3, hc, a1, a2, b1, b2, hx]
         refine ⟨l1.length - (j + 1), by omega, trivial, j + 1, rfl, by omega, rfl, trivial, trivial, ?_⟩
         rw [List.take_succ, List.take_succ, i4]; simp [hj1, hj2, hx]
       · simp -implicitDefEqProofs (maxSteps := 5000000) (disch := first | assumption | omega | (simp only [dz, dl, Nat.zero_add, Nat.reduceAdd, Bool.and_self]; done) | (simp only [dl]; omega)) only [go_sem, fAdd_eq, e1, e2, i1, i2, i3, hc, a1, a2, b1, b2, hx]
         have : l1 ≠ l2 := fun h => hx (by simp [h])
         simp [this]
     · have : j = l1.length := by omega
       subst this
       simp -implicitDefEqProofs (maxSteps := 5000000) (disch := first | assumption | omega | (simp only [dz, dl, Nat.zero_add, Nat.reduceAdd, Bool.and_self]; done) | (simp only [dl]; omega)) only [go_sem, fAdd_eq, e1, e2, i1, i2, i3, hc]
       rw [List.take_length, hl, List.take_length] at i4
       simp [i4]
   · omega
   · exact ⟨rfl, 0, by omega, by omega, rfl, rfl, rfl, rfl⟩
 · have c : ¬ ((l1.length : Nat) : Int) = ((l2.length : Nat) : Int) := by omega
   have : l1 ≠ l2 := fun h => hl (by rw [h])
   simp -implicitDefEqProofs (maxSteps := 5000000) (disch := first | assumption | omega | (simp only [dz, dl, Nat.zero_add, Nat.reduceAdd, Bool.and_self]; done) | (simp only [dl]; omega)) only [go_sem, fAdd_eq, e1, e2, c, this]
def withinI (n lo hi : Int) : Int := lo + (if n.tmod (hi - lo + 1) < 0 then n.tmod (hi - lo + 1) + hi - lo + 1 else n.tmod (hi - lo + 1))
theorem withinI_le (n lo hi : Int) (h : lo ≤ hi) : lo ≤ withinI n lo hi ∧ withinI n lo hi ≤ hi := by
 unfold withinI
 have h1 := Int.lt_tmod_of_pos n (show 0 < hi - lo + 1 by omega)
 have h2 := Int.tmod_lt_of_pos n (show 0 < hi - lo + 1 by omega)
 split <;> omega
theorem within_eq (s : St) (n lo hi : Int) (h0 : 0 ≤ lo) (h1 : lo ≤ hi) (h2 : hi < 1000000000) (d : Nat) : (K (d + 1)).call 29 [.i n, .i lo, .i hi] s = some (.i (withinI n lo hi), s) := by
 have b1 := Int.lt_tmod_of_pos n (show 0 < hi - lo + 1 by omega)
 have b2 := Int.tmod_lt_of_pos n (show 0 < hi - lo + 1 by omega)
 unfold withinI
 rw [op29]
 by_cases c : n.tmod (hi - lo + 1) < 0
 · simp -implicitDefEqProofs (maxSteps := 5000000) (disch := first | assumption | omega | (simp only [dz, dl, Nat.zero_add, Nat.reduceAdd, Bool.and_self]; done) | (simp only [dl]; omega)) only [go_sem, fAdd_eq, c, if_true]
 · simp -implicitDefEqProofs (maxSteps := 5000000) (disch := first | assumption | omega | (simp only [dz, dl, Nat.zero_add, Nat.reduceAdd, Bool.and_self]; done) | (simp only [dl]; omega)) only [go_sem, fAdd_eq, c, if_false]
def starts : Nat → List O → List Int | _, [] => [] | a, o :: os => (a : Int) :: starts (a + o.n) os
theorem starts_append : ∀ (a : Nat) (x y : List O), starts a (x ++ y) = starts a x ++ starts (a + (lay x).length) y
 | a, [], y => by simp [starts, lay]
 | a, o :: x, y => by simp [starts, lay, starts_append (a + o.n) x y, O.ws_len, Nat.add_assoc]
theorem starts_len : ∀ (a : Nat) (x : List O), (starts a x).length = x.length
 | a, [] => rfl
 | a, o :: x => by simp [starts, starts_len (a + o.n) x]
theorem lay_len3 : ∀ os, 3 * os.length ≤ (lay os).length
 | [] => by simp [lay]
 | o :: os => by have := lay_len3 os; have := o.n_pos; simp [lay, O.ws_len]; omega
section
variable {s : St} {p bw bb n : Nat} {os : List O} {sh mp : V} {z : List Int} (H : AH s p bw bb n os sh mp z)
theorem AH.fr {s' : St} {l : List Nat} (H : AH s p bw bb n os sh mp z) (f : Fr s s' l) (h1 : p ∉ l) (h2 : bw ∉ l) (h3 : bb ∉ l) : AH s' p bw bb n os sh mp z := ⟨H.hr.other f h1 h2 h3⟩
theorem AH.lt (H : AH s p bw bb n os sh mp z) : p < s.next ∧ bw < s.next ∧ bb < s.next := ⟨cl_lt H.hr.wf H.hr.hp, cl_lt H.hr.wf H.hr.hw, cl_lt H.hr.wf H.hr.hb⟩
include H
end
end
end Go.Proofs.YtgkcpceppmppfaaLab
namespace Go.Proofs.YtgkcpceppmppfaaLab
open Go
set_option linter.all false
set_option maxRecDepth 10000
noncomputable section
theorem SL.nil {s : St} {v : V} {l : List V} (h : SL s v l) : (v = .nils ∧ l = []) ∨ ∀ ng, bNil ng nilS v .nils = some (.bool ng) := by
 rcases h with ⟨h1, rfl | ⟨b, o, c, rfl⟩⟩ | ⟨b, o, c, n, f, rfl, _⟩
 · exact Or.inl ⟨rfl, h1⟩
 · exact Or.inr fun ng => bNil_slice ng _ _ _ _ _
 · exact Or.inr fun ng => bNil_slice ng _ _ _ _ _
theorem clone_eq {s : St} (hw : Wf s) {v : V} {l : List Bool} (h : SL s v (l.map .bool)) (hb : l.length ≤ 1000000) (d : Nat) :
 Ret ((K (d + 1)).call 56 [v] s) fun v' s' => (v' = .nils ∧ l = [] ∨ ∃ b c, v' = .slice b 0 l.length c 1 ∧ s.next ≤ b ∧ s'.cl b = some (l.map .bool)) ∧ Fr s s' [] := by
 rcases h.nil with ⟨rfl, h0⟩ | hn
 · rw [List.map_eq_nil_iff] at h0; subst h0
   simp -implicitDefEqProofs (maxSteps := 5000000) (disch := first | assumption | omega | (simp only [dz, dl, Nat.zero_add, Nat.reduceAdd, Bool.and_self]; done) | (simp only [dl]; omega)) only [op56, go_sem]
   exact ⟨.inl ⟨(by first | trivial | rfl | assumption), (by first | trivial | rfl | assumption)⟩, Fr.refl hw _⟩
 · have hn := hn false
   obtain ⟨s1, e1, c1, f1, n1⟩ := new_ex (s := s) (l := []) (n := 0) hw rfl
   have h1 := h.fr hw f1 (by simp)
   have e0 : ∀ id, bslP 0 1 [] [] id = some (.slice id 0 0 (some 0) 1, .cells 0 (ofL [])) := fun id => rfl
   have hy := h1.src (fun x hx => by obtain ⟨a, _, rfl⟩ := List.mem_map.1 hx; rfl) (by simp; omega)
   rw [List.length_map] at hy
   by_cases hl : l = []
   · subst hl
     have e2 := eAp_zero (b := s.next) (o := 0) (len := 0) (cap := some 0) hy (by omega)
     simp -implicitDefEqProofs (maxSteps := 5000000) (disch := first | assumption | omega | (simp only [dz, dl, Nat.zero_add, Nat.reduceAdd, Bool.and_self]; done) | (simp only [dl]; omega)) only [op56, go_sem, hn, e0, e1, e2]
     exact ⟨.inr ⟨_, _, rfl, Nat.le_refl _, c1⟩, f1⟩
   · have hpos : 0 < l.length := by cases l; exact absurd rfl hl; simp
     obtain ⟨s2, e2, c2, f2, n2⟩ := eAp_grow (es := 1) (b := s.next) (o := 0) (len := 0) (c := 0) f1.wf hy hpos (by omega) (by omega) c1 (by simp)
     simp -implicitDefEqProofs (maxSteps := 5000000) (disch := first | assumption | omega | (simp only [dz, dl, Nat.zero_add, Nat.reduceAdd, Bool.and_self]; done) | (simp only [dl]; omega)) only [op56, go_sem, hn, e0, e1, e2]
     try simp only [Nat.zero_add] at c2
     try simp only [Nat.zero_add]
     exact ⟨.inr ⟨_, _, rfl, by omega, by simpa using c2⟩, f1.trans f2⟩
def enc (l : List Bool) : List Nat := l.map fun b => if b = true then 1 else 0
theorem enc_inj : ∀ {a b : List Bool}, enc a = enc b → a = b
 | [], [], _ => rfl
 | [], _ :: _, h => by simp [enc] at h
 | _ :: _, [], h => by simp [enc] at h
 | x :: a, y :: b, h => by
   simp only [enc, List.map_cons, List.cons.injEq] at h
   rw [enc_inj (a := a) (b := b) h.2]
   congr 1
   have := h.1
   cases x <;> cases y <;> simp at this ⊢
def idxL (x : List Bool) : List (List Bool) → Option Nat | [] => none | y :: l => if x = y then some 0 else (idxL x l).map (· + 1)
theorem idxL_enc (x : List Bool) : ∀ l, idxS (enc x) (l.map enc) = idxL x l
 | [] => rfl
 | y :: l => by
   unfold idxL
   simp only [List.map_cons, idxS]
   by_cases h : x = y
   · rw [if_pos h, if_pos (by rw [h])]
   · rw [if_neg h, if_neg (fun e => h (enc_inj e)), idxL_enc x l]
structure HS (s : St) (p bw bb n : Nat) (os : List O) (z : List Int) (shapes : List (List Bool)) (bm : Nat) (F : List Nat) : Prop where
 H : ∃ sh, AH s p bw bb n os sh (.map bm) z ∧ ShR s F sh shapes
 m : ∃ bs cl, s.mp bm = some (mkEs (shapes.map enc) 0, bs, cl)
 ok : ShOk os shapes
 dF : ∀ b ∈ F, b ≠ p ∧ b ≠ bw ∧ b ≠ bb ∧ b < s.next ∧ b ≠ bm
section
variable {s : St} {p bw bb n bm : Nat} {os : List O} {z : List Int} {shapes : List (List Bool)} {F : List Nat} (H : HS s p bw bb n os z shapes bm F)
include H
theorem HS.wf : Wf s := by obtain ⟨sh, h, _⟩ := H.H; exact h.hr.wf
theorem HS.ne : p ≠ bm ∧ bw ≠ bm ∧ bb ≠ bm ∧ bm < s.next ∧ p < s.next ∧ bw < s.next ∧ bb < s.next := by
 obtain ⟨sh, h, _⟩ := H.H
 obtain ⟨bs, cl, hm⟩ := H.m
 have := h.lt
 exact ⟨cl_mp_ne h.hr.wf h.hr.hp hm, cl_mp_ne h.hr.wf h.hr.hw hm, cl_mp_ne h.hr.wf h.hr.hb hm, mp_lt h.hr.wf hm, this⟩
theorem HS.fr {s' : St} {l : List Nat} (f : Fr s s' l) (h1 : p ∉ l) (h2 : bw ∉ l) (h3 : bb ∉ l) (h4 : bm ∉ l) (h5 : ∀ b ∈ F, b ∉ l) : HS s' p bw bb n os z shapes bm F := by
 obtain ⟨sh, h, hs⟩ := H.H
 obtain ⟨bs, cl, hm⟩ := H.m
 exact ⟨⟨sh, h.fr f h1 h2 h3, hs.fr h.hr.wf f h5⟩, ⟨bs, cl, f.mp h.hr.wf hm h4⟩, H.ok, fun b hb => ⟨(H.dF b hb).1, (H.dF b hb).2.1, (H.dF b hb).2.2.1, Nat.lt_of_lt_of_le (H.dF b hb).2.2.2.1 f.nx, (H.dF b hb).2.2.2.2⟩⟩
theorem HS.turn {s' : St} {os' : List O} {z' : List Int} (f : Fr s s' [p, bw, bb]) (h : ∀ sh, AH s p bw bb n os sh (.map bm) z → AH s' p bw bb n os' sh (.map bm) z') (ok : ShOk os' shapes) : HS s' p bw bb n os' z' shapes bm F := by
 obtain ⟨sh, h0, hs⟩ := H.H
 obtain ⟨bs, cl, hm⟩ := H.m
 obtain ⟨n1, n2, n3, n4, _⟩ := H.ne
 exact ⟨⟨sh, h sh h0, hs.fr h0.hr.wf f (fun b hb => by have := H.dF b hb; simp; exact ⟨this.1, this.2.1, this.2.2.1⟩)⟩, ⟨bs, cl, f.mp h0.hr.wf hm (by simp; exact ⟨Ne.symm n1, Ne.symm n2, Ne.symm n3⟩)⟩, ok, fun b hb => ⟨(H.dF b hb).1, (H.dF b hb).2.1, (H.dF b hb).2.2.1, Nat.lt_of_lt_of_le (H.dF b hb).2.2.2.1 f.nx, (H.dF b hb).2.2.2.2⟩⟩
end
end
end Go.Proofs.YtgkcpceppmppfaaLab
namespace Go.Proofs.YtgkcpceppmppfaaLab
open Go
set_option linter.all false
set_option maxRecDepth 10000
noncomputable section
def ShapeQ (s : St) (p bw bb n bm : Nat) (os : List O) (z : List Int) (shapes : List (List Bool)) (F : List Nat) (l : List Bool) (r : V) (s' : St) : Prop := match idxL l shapes with
 | some i => r = .i (i : Nat) ∧ HS s' p bw bb n os z shapes bm F ∧ Fr s s' []
 | none => r = .i (shapes.length : Nat) ∧ (∃ F', HS s' p bw bb n os z (shapes ++ [l]) bm F' ∧ ∀ b ∈ F', b ∈ F ∨ s.next ≤ b) ∧ Fr s s' (p :: bm :: F)
theorem enc_lt (l : List Bool) : ∀ n ∈ enc l, n < 256 := fun n hn => by
 obtain ⟨b, _, rfl⟩ := List.mem_map.1 hn
 split <;> omega
section
variable {s : St} {p bw bb n bm : Nat} {os : List O} {z : List Int} {shapes : List (List Bool)} {F : List Nat} (H : HS s p bw bb n os z shapes bm F)
include H
theorem HS.shape {v : V} {l : List Bool} (h : SL s v (l.map .bool)) (hv : ∀ b ∈ blkV v, b < s.next ∧ b ≠ p ∧ b ≠ bm ∧ b ∉ F) (hb : l.length ≤ 100000) (hsh : shapes.length ≤ 100000) (d : Nat) :
 Ret ((K (d + 2)).call 33 [.ptr p 0, v] s) (ShapeQ s p bw bb n bm os z shapes F l) := by
 have hw := H.wf
 have hlen := h.len
 rw [List.length_map] at hlen
 have t1 : ((l.length : Nat) : Int).toNat = l.length := Int.toNat_natCast _
 obtain ⟨s1, e1, c1, f1, n1⟩ := new_ex (s := s) (l := List.replicate l.length (V.int .u8 0)) (n := l.length) hw (by simp)
 simp -implicitDefEqProofs (maxSteps := 5000000) (disch := first | assumption | omega | (simp only [dz, dl, Nat.zero_add, Nat.reduceAdd, Bool.and_self]; done) | (simp only [dl]; omega)) only [op33, go_sem, fAdd_eq, hlen, t1, e1]
 refine loop_at (Q := fun r => Ret (retR _ (seqR (blkR 0 r) _)) _) (fun m e t => ∃ j : Nat, m = l.length - j ∧ j ≤ l.length ∧ Fr s t [] ∧ t.cl s.next = some (((enc l).take j).map byteV ++ List.replicate (l.length - j) (V.int .u8 0)) ∧ g0 e = .ptr p 0 ∧ g1 e = v ∧ g5 e = .slice s.next 0 l.length (some l.length) 1 ∧ g13 e = v ∧ g14 e = .i (l.length : Nat) ∧ g15 e = .i j) ?_ (n := l.length) (by omega) ⟨0, by omega, by omega, f1, by simpa using c1, (by first | trivial | rfl | assumption), (by first | trivial | rfl | assumption), (by first | trivial | rfl | assumption), (by first | trivial | rfl | assumption), (by first | trivial | rfl | assumption), (by first | trivial | rfl | assumption)⟩
 rintro m e t ⟨j, rfl, hj, ft, ct, i0, i1, i5, i13, i14, i15⟩
 replace i0 : e.a0.a0 = _ := i0
 replace i1 : e.a0.a1 = _ := i1
 replace i5 : e.a0.a5 = _ := i5
 replace i13 : e.a0.a13 = _ := i13
 replace i14 : e.a0.a14 = _ := i14
 replace i15 : e.a0.a15 = _ := i15
 have hwt := ft.wf
 have ht := h.fr hw ft (by simp)
 have henc : (enc l).length = l.length := by simp [enc]
 by_cases c : (j : Int) < ((l.length : Nat) : Int)
 · have hj1 : j < l.length := by omega
   have hjt : ((enc l).take j).length = j := by simp [henc]; omega
   obtain ⟨q1, a1, b1⟩ := ht.at hwt (j := j) (x := .bool l[j]) (by simp [hj1])
   have hset : (((enc l).take j).map byteV ++ List.replicate (l.length - j) (V.int .u8 0)).set j (.int .u8 1) = ((enc l).take j).map byteV ++ V.int .u8 1 :: List.replicate (l.length - (j + 1)) (V.int .u8 0) := by
    rw [List.set_append_right _ _ (by rw [List.length_map, hjt]; omega), List.length_map, hjt, Nat.sub_self, show l.length - j = (l.length - (j + 1)) + 1 by omega, List.replicate_succ, List.set_cons_zero]
   have htk : ((enc l).take (j + 1)).map byteV = ((enc l).take j).map byteV ++ [V.int .u8 (if l[j] = true then 1 else 0)] := by
    rw [List.take_succ]; simp [enc, hj1, byteV]
    cases l[j] <;> rfl
   cases hx : l[j] with
   | false =>
     rw [hx] at b1 htk
     simp -implicitDefEqProofs (maxSteps := 5000000) (disch := first | assumption | omega | (simp only [dz, dl, Nat.zero_add, Nat.reduceAdd, Bool.and_self]; done) | (simp only [dl]; omega)) only [go_sem, fAdd_eq, i0, i1, i5, i13, i14, i15, c, a1, b1]
     refine ⟨l.length - (j + 1), by omega, j + 1, rfl, by omega, ft, ?_, (by first | trivial | rfl | assumption), (by first | trivial | rfl | assumption), (by first | trivial | rfl | assumption), (by first | trivial | rfl | assumption), (by first | trivial | rfl | assumption), (by first | trivial | rfl | assumption)⟩
     rw [htk, ct, show l.length - j = (l.length - (j + 1)) + 1 by omega, List.replicate_succ]; simp
   | true =>
     rw [hx] at b1 htk
     obtain ⟨s2, e2, c2, f2, n2⟩ := eSt_ex (s := t) (o := j) (v := .int .u8 1) hwt ct (by simp [henc]; omega) rfl
     simp -implicitDefEqProofs (maxSteps := 5000000) (disch := first | assumption | omega | (simp only [dz, dl, Nat.zero_add, Nat.reduceAdd, Bool.and_self]; done) | (simp only [dl]; omega)) only [go_sem, fAdd_eq, i0, i1, i5, i13, i14, i15, c, a1, b1, Int.toNat_natCast, e2]
     refine ⟨l.length - (j + 1), by omega, j + 1, rfl, by omega, ft.trans' f2 (fun x hx => .inr (by simp at hx; omega)), ?_, (by first | trivial | rfl | assumption), (by first | trivial | rfl | assumption), (by first | trivial | rfl | assumption), (by first | trivial | rfl | assumption), (by first | trivial | rfl | assumption), (by first | trivial | rfl | assumption)⟩
     rw [c2, hset, htk]; simp
 · have : j = l.length := by omega
   subst this
   have Ht := H.fr ft (by simp) (by simp) (by simp) (by simp) (by simp)
   obtain ⟨sh, hA, hS⟩ := Ht.H
   obtain ⟨bs, cl, hm⟩ := Ht.m
   have h1 := hA.hr.hp
   rw [Nat.sub_self, List.replicate_zero, List.append_nil, ← henc, List.take_length] at ct
   have hB : SL t (.slice s.next 0 l.length (some l.length) 1) ((enc l).map byteV) := by
    have := SL.of (o := 0) (c := some l.length) (l := (enc l).map byteV) hwt ct (by simp) (fun i _ => by rw [Nat.zero_add])
    rwa [List.length_map, henc] at this
   have eB := dBStr_eq (enc_lt l) hB
   have eL := dLk_eq (q := eqKS) (z := .i 0) (ok := true) (x := .str (enc l)) hm
   have hf := findV_mkEs (enc l) (shapes.map enc) 0 0
   rw [idxL_enc] at hf
   unfold ShapeQ
   cases hi : idxL l shapes with
   | some i =>
     rw [hi] at hf
     rw [lkV_some hf] at eL
     simp -implicitDefEqProofs (maxSteps := 5000000) (disch := first | assumption | omega | (simp only [dz, dl, Nat.zero_add, Nat.reduceAdd, Bool.and_self]; done) | (simp only [dl]; omega)) only [go_sem, fAdd_eq, i0, i1, i5, i13, i14, i15, c, dLd_at hwt h1, eB, eL]
     exact ⟨by simp, Ht, ft⟩
   | none =>
     rw [hi] at hf
     rw [lkV_none hf] at eL
     obtain ⟨n1', n2', n3', n4', n5', n6', n7'⟩ := Ht.ne
     obtain ⟨L, F0, hG, hL1, hLl, hF0, hF1, hLe⟩ : ∃ L F0, GL t sh L ∧ (∀ v ∈ L, v.one = true) ∧ L.length = shapes.length ∧ (∀ x ∈ F0, x ∈ F) ∧ (∀ x ∈ F0, x ∉ blkV sh) ∧ ∀ (i : Nat) l, shapes[i]? = some l → ∃ v, L[i]? = some v ∧ BL t F0 v l := by
      rcases hS with ⟨rfl, rfl⟩ | ⟨b, L, F0, rfl, a2, a3, a4, a5, a7, a8, a6⟩
      · exact ⟨[], [], .inl ⟨rfl, rfl⟩, by simp, rfl, by simp, by simp, by simp⟩
      · exact ⟨L, F0, .inr ⟨b, by rw [a4], a3⟩, a5, a4, a7, fun x hx => by simp [blkV]; rintro rfl; exact a8 hx, a6⟩
     have hshF : ∀ b ∈ blkV sh, b ∈ F := by
      rcases hS with ⟨rfl, rfl⟩ | ⟨b, L, _, rfl, a2, _⟩
      · simp [blkV]
      · simp [blkV]; exact a2
     have hsame : sameV 100 sh sh = true := by
      rcases hS with ⟨rfl, rfl⟩ | ⟨b, L, _, rfl, a2, _⟩
      · rfl
      · exact same_slice _ _ _ _ _
     have eS := hG.len
     rw [hLl] at eS
     obtain ⟨t1, m1, mm1, fm1, nm1⟩ := eMu_new (q := eqKS) (x := .str (enc l)) (y := .i (shapes.length : Nat)) hwt hm hf
     have H1 := hA.fr fm1 (by simpa using n1') (by simpa using n2') (by simpa using n3')
     have hv1 := (h.fr hw ft (by simp)).fr hwt fm1 (fun b hb' => by simp; exact (hv b hb').2.2.1)
     obtain ⟨v', t2, e41, hcl, f2⟩ := clone_eq fm1.wf hv1 (by omega) d
     have H2 := H1.fr f2 (by simp) (by simp) (by simp)
     have hG1 := hG.fr hwt fm1 (fun b hb' => by simp; exact (Ht.dF b (hshF b hb')).2.2.2.2)
     have hG2 := hG1.fr fm1.wf f2 (by simp)
     have hv'1 : v'.one = true := by rcases hcl with ⟨rfl, _⟩ | ⟨b, c, rfl, _⟩ <;> rfl
     obtain ⟨t3, t4, e3, e4, hG4, f4, n4⟩ := hG2.pushW f2.wf (x := v') hv'1 hL1 (by omega)
     rw [hLl] at e4 hG4
     have hdF := fun b hb => Ht.dF b (hshF b hb)
     have H4 := H2.fr f4 (fun hh => (hdF _ hh).1 rfl) (fun hh => (hdF _ hh).2.1 rfl) (fun hh => (hdF _ hh).2.2.1 rfl)
     obtain ⟨t5, e5, c5, f5, n5⟩ := eSt_ex (s := t4) (o := 3) (v := .slice (t2.next + 1) 0 (shapes.length + 1) none 1) H4.hr.wf H4.hr.hp (by simp) rfl
     simp only [List.set_cons_succ, List.set_cons_zero] at c5
     have nx1 : t.next ≤ t1.next := fm1.nx
     have nx2 : t1.next ≤ t2.next := f2.nx
     have nx0 : s.next ≤ t.next := ft.nx
     have F25 : Fr t2 t5 (p :: bm :: F) := (f4.mono (fun b hb' => .inl (by simp; exact .inr (.inr (hshF b hb'))))).trans (f5.mono (by simp))
     have F15 : Fr t1 t5 (p :: bm :: F) := (f2.mono (by simp)).trans F25
     have F05 : Fr t t5 (p :: bm :: F) := (fm1.mono (by simp)).trans F15
     simp -implicitDefEqProofs (maxSteps := 5000000) (disch := first | assumption | omega | (simp only [dz, dl, Nat.zero_add, Nat.reduceAdd, Bool.and_self]; done) | (simp only [dl]; omega)) only [go_sem, fAdd_eq, i0, i1, i5, i13, i14, i15, c, dLd_at hwt h1, dLd_at fm1.wf H1.hr.hp, dLd_at f2.wf H2.hr.hp, eB, eL, eS, m1, e41, e3, e4, e5]
     refine ⟨trivial, ⟨(t2.next + 1) :: (blkV v' ++ F), ⟨⟨.slice (t2.next + 1) 0 (shapes.length + 1) none 1, ⟨⟨f5.wf, c5, ?_, ?_, H4.hr.lw, H4.hr.lb, H4.hr.nn, H4.hr.n1, H4.hr.nx, H4.hr.d1, H4.hr.d2, H4.hr.d3⟩⟩, ?_⟩, ?_, ?_, ?_⟩, ?_⟩, (ft.mono (by simp)).trans F05⟩
     · exact f5.cl H4.hr.wf H4.hr.hw (by simp; exact H4.hr.d1.symm)
     · exact f5.cl H4.hr.wf H4.hr.hb (by simp; exact H4.hr.d2.symm)
     · have c4 : t4.cl (t2.next + 1) = some (L ++ [v']) := by
        rcases hG4 with ⟨h0, _⟩ | ⟨b, hb0, hb1⟩
        · simp at h0
        · injection hb0 with hb0; rw [hb0]; exact hb1
       have hp5 : p < t.next := n5'
       refine .inr ⟨t2.next + 1, L ++ [v'], blkV v' ++ F0, by simp, by simp, f5.cl H4.hr.wf c4 (by simp; omega), by simp [hLl], ?_, ?_, ?_, fun i x hx => ?_⟩
       · intro y hy; rcases List.mem_append.1 hy with hy | hy
         · exact hL1 y hy
         · simp at hy; subst hy; exact hv'1
       · intro y hy; rcases List.mem_append.1 hy with hy | hy
         · simp [hy]
         · simp [hF0 y hy]
       · intro hm'; rcases List.mem_append.1 hm' with hy | hy
         · rcases hcl with ⟨rfl, _⟩ | ⟨b, cc, rfl, _, hb2⟩
           · simp [blkV] at hy
           · simp [blkV] at hy; have := cl_lt f2.wf hb2; omega
         · have := (Ht.dF _ (hF0 _ hy)).2.2.2.1; omega
       · by_cases hi' : i < shapes.length
         · rw [List.getElem?_append_left hi'] at hx
           obtain ⟨y, b1, b2⟩ := hLe i x hx
           refine ⟨y, by rw [List.getElem?_append_left (by omega)]; exact b1, ?_⟩
           have g1' := b2.fr hwt fm1 (fun b hb' => by simp; exact (Ht.dF b (hF0 b hb')).2.2.2.2)
           have g2' := g1'.fr fm1.wf f2 (fun b hb' => by simp)
           have g4' := g2'.fr f2.wf f4 hF1
           exact (g4'.fr H4.hr.wf f5 (fun b hb' => by simp; exact (Ht.dF b (hF0 b hb')).1)).sub (fun b hb' => by simp [hb'])
         · rw [List.getElem?_append_right (by omega)] at hx
           have : i = shapes.length := by have := (List.getElem?_eq_some_iff.1 hx).1; simp at this; omega
           subst this
           simp at hx; subst hx
           refine ⟨v', by rw [List.getElem?_append_right (by omega)]; simp [hLl], ?_⟩
           rcases hcl with ⟨rfl, h0⟩ | ⟨b, cc, rfl, hb1, hb2⟩
           · exact .inl ⟨h0, .inl rfl⟩
           · have g4' := f4.cl f2.wf hb2 (fun hh => by have := (hdF _ hh).2.2.2.1; omega)
             have g5' := f5.cl H4.hr.wf g4' (by simp; omega)
             exact .inr ⟨b, 0, cc, _, rfl, by simp [blkV], g5', by simp, fun k hk => by rw [Nat.zero_add, List.getElem?_map]⟩
     · refine ⟨bs ++ [cl], cl + 1, ?_⟩
       have g2' := f2.mp fm1.wf mm1 (by simp)
       have g4' := f4.mp f2.wf g2' (fun hh => (hdF _ hh).2.2.2.2 rfl)
       have g5' := f5.mp H4.hr.wf g4' (by simp; exact Ne.symm n1')
       rw [g5', List.map_append, mkEs_append]; simp [mkEs]
     · intro o ho
       rcases H.ok o ho with q | q | ⟨q, x, hx, hxl⟩
       · exact .inl q
       · exact .inr (.inl q)
       · exact .inr (.inr ⟨q, x, by rw [List.getElem?_append_left (List.getElem?_eq_some_iff.1 hx).1]; exact hx, hxl⟩)
     · intro b hb'
       have q5 := f5.nx
       simp at hb'
       rcases hb' with rfl | hb' | hb'
       · exact ⟨by omega, by omega, by omega, by omega, by omega⟩
       · rcases hcl with ⟨rfl, _⟩ | ⟨b', cc, rfl, hb1, hb2⟩
         · simp [blkV] at hb'
         · simp [blkV] at hb'; subst hb'
           have := cl_lt f2.wf hb2
           exact ⟨by omega, by omega, by omega, by omega, by omega⟩
       · obtain ⟨d1, d2, d3, d4, d5⟩ := Ht.dF b hb'
         exact ⟨d1, d2, d3, by omega, d5⟩
     · intro b hb'
       simp at hb'
       rcases hb' with rfl | hb' | hb'
       · right; omega
       · rcases hcl with ⟨rfl, _⟩ | ⟨b', cc, rfl, hb1, hb2⟩
         · simp [blkV] at hb'
         · simp [blkV] at hb'; subst hb'; right; omega
       · exact .inl hb'
end
end
end Go.Proofs.YtgkcpceppmppfaaLab
namespace Go.Proofs.YtgkcpceppmppfaaLab
open Go
set_option linter.all false
set_option maxRecDepth 10000
noncomputable section
theorem BL.len {s : St} {F : List Nat} {v : V} {l : List Bool} (h : BL s F v l) : uLenS v = some (.i (l.length : Nat)) := by
 rcases h with ⟨rfl, rfl | ⟨b, o, c, rfl⟩⟩ | ⟨b, o, c, M, rfl, _⟩ <;> rfl
section
variable {s : St} {p bw bb n bm : Nat} {os : List O} {z : List Int} {shapes : List (List Bool)} {F : List Nat} (H : HS s p bw bb n os z shapes bm F)
include H
theorem HS.object (d : Nat) (r : Int) (hsh : shapes.length < 100000) :
 ((r < 0 ∨ (shapes.length : Int) ≤ r) → (K (d + 3)).call 37 [.ptr p 0, .i r] s = some (.tup [.i 0, .i 1], s)) ∧
 (∀ l, 0 ≤ r → shapes[r.toNat]? = some l → l.length < 20000 → n < 1 + (lay os).length + 3 + l.length → (K (d + 3)).call 37 [.ptr p 0, .i r] s = some (.tup [.i 0, .i 26], s)) ∧
 (∀ l, 0 ≤ r → shapes[r.toNat]? = some l → l.length < 20000 → 1 + (lay os).length + 3 + l.length ≤ n → ∃ s', (K (d + 3)).call 37 [.ptr p 0, .i r] s = some (.tup [.i ((1 + (lay os).length : Nat) : Int), .i 0], s') ∧ HS s' p bw bb n (os ++ [newO r l.length]) (z.drop (3 + l.length)) shapes bm F ∧ Fr s s' [p, bw, bb] ∧ s'.next = s.next) := by
 obtain ⟨sh, hA, hS⟩ := H.H
 have hw := hA.hr.wf
 have h1 := hA.hr.hp
 have eS : uLenS sh = some (.i (shapes.length : Nat)) := by
  rcases hS with ⟨h0, rfl⟩ | ⟨b, L, F0, rfl, _⟩
  · rw [h0]; rfl
  · rfl
 have key : ∀ l, 0 ≤ r → shapes[r.toNat]? = some l → ∃ q v, bIdx 1 sh (.i r) = some q ∧ ldP q s = some v ∧ uLenS v = some (.i (l.length : Nat)) := fun l h0 hl => by
  have hlt := (List.getElem?_eq_some_iff.1 hl).1
  rcases hS with ⟨h0', rfl⟩ | ⟨b, L, F0, rfl, a2, a3, a4, a5, a7, a8, a6⟩
  · rw [h0'] at hlt; simp at hlt
  · obtain ⟨v, b1, b2⟩ := a6 _ _ hl
    refine ⟨_, v, bIdx1_eq h0 (by omega), ?_, b2.len⟩
    rw [Nat.zero_add]; exact dLd_eq hw a3 b1
 refine ⟨fun h => ?_, fun l h0 hl hlen hn => ?_, fun l h0 hl hlen hn => ?_⟩
 · rw [op37]
   by_cases c : r < 0
   · simp -implicitDefEqProofs (maxSteps := 5000000) (disch := first | assumption | omega | (simp only [dz, dl, Nat.zero_add, Nat.reduceAdd, Bool.and_self]; done) | (simp only [dl]; omega)) only [go_sem, c]
   · have c2 : (shapes.length : Int) ≤ r := by omega
     simp -implicitDefEqProofs (maxSteps := 5000000) (disch := first | assumption | omega | (simp only [dz, dl, Nat.zero_add, Nat.reduceAdd, Bool.and_self]; done) | (simp only [dl]; omega)) only [go_sem, c, c2, dLd_at hw h1, eS]
 · have c : ¬ r < 0 := by omega
   have hlt := (List.getElem?_eq_some_iff.1 hl).1
   have c2 : ¬ (shapes.length : Int) ≤ r := by omega
   obtain ⟨q, v, k1, k2, k3⟩ := key l h0 hl
   have ep := (hA.put d r l.length hlen).1 hn
   rw [op37]
   simp -implicitDefEqProofs (maxSteps := 5000000) (disch := first | assumption | omega | (simp only [dz, dl, Nat.zero_add, Nat.reduceAdd, Bool.and_self]; done) | (simp only [dl]; omega)) only [go_sem, c, c2, dLd_at hw h1, eS, k1, k2, k3, ep]
 · have c : ¬ r < 0 := by omega
   have hlt := (List.getElem?_eq_some_iff.1 hl).1
   have c2 : ¬ (shapes.length : Int) ≤ r := by omega
   obtain ⟨q, v, k1, k2, k3⟩ := key l h0 hl
   obtain ⟨s', ep, _, f, nx⟩ := (hA.put d r l.length hlen).2 hn
   refine ⟨s', ?_, H.turn f (fun sh' h' => ?_) ?_, f, nx⟩
   · rw [op37]
     simp -implicitDefEqProofs (maxSteps := 5000000) (disch := first | assumption | omega | (simp only [dz, dl, Nat.zero_add, Nat.reduceAdd, Bool.and_self]; done) | (simp only [dl]; omega)) only [go_sem, c, c2, dLd_at hw h1, eS, k1, k2, k3, ep]
   · obtain ⟨s2, ep2, h2, _⟩ := (h'.put d r l.length hlen).2 hn
     rw [ep] at ep2
     cases ep2
     exact h2
   · intro o ho
     rcases List.mem_append.1 ho with ho | ho
     · exact H.ok o ho
     · simp at ho; subst ho
       exact .inr (.inr ⟨h0, l, hl, by simp [newO]⟩)
end
end
end Go.Proofs.YtgkcpceppmppfaaLab
namespace Go.Proofs.YtgkcpceppmppfaaLab
open Go
set_option linter.all false
set_option maxRecDepth 10000
noncomputable section
def flat : Nat → List O → List (Nat × Option Nat) → List V
 | a, o :: os, (b, c) :: bs => .i (a : Nat) :: .i o.shape :: .slice b 0 o.f.length c 1 :: .i o.tag :: flat (a + o.n) os bs
 | _, _, _ => []
theorem flat_len : ∀ (a : Nat) (os : List O) (bs : List (Nat × Option Nat)), bs.length = os.length → (flat a os bs).length = 4 * os.length
 | a, [], bs, h => by simp [flat]
 | a, o :: os, [], h => by simp at h
 | a, o :: os, (b, c) :: bs, h => by simp [flat, flat_len (a + o.n) os bs (by simpa using h)]; omega
theorem flat_at : ∀ (a : Nat) (os : List O) (bs : List (Nat × Option Nat)) (i : Nat) (o : O) (b : Nat) (c : Option Nat), os[i]? = some o → bs[i]? = some (b, c) →
 (flat a os bs)[4 * i]? = some (.i ((a + (lay (os.take i)).length : Nat) : Int)) ∧ (flat a os bs)[4 * i + 1]? = some (.i o.shape) ∧ (flat a os bs)[4 * i + 2]? = some (.slice b 0 o.f.length c 1) ∧ (flat a os bs)[4 * i + 3]? = some (.i o.tag)
 | a, [], bs, i, o, b, c, h, _ => by simp at h
 | a, x :: os, [], i, o, b, c, _, h => by simp at h
 | a, x :: os, (b0, c0) :: bs, 0, o, b, c, h, h' => by
   simp at h h'
   obtain ⟨rfl, rfl⟩ := h'
   subst h
   simp [flat, lay]
 | a, x :: os, (b0, c0) :: bs, i + 1, o, b, c, h, h' => by
   obtain ⟨h1, h2, h3, h4⟩ := flat_at (a + x.n) os bs i o b c (by simpa using h) (by simpa using h')
   rw [show 4 * (i + 1) = 4 * i + 1 + 1 + 1 + 1 by omega]
   refine ⟨?_, ?_, ?_, ?_⟩
   · simp only [flat, List.getElem?_cons_succ, h1, List.take_succ_cons, lay, List.length_append, O.ws_len, Nat.add_assoc]
   · simp only [flat, List.getElem?_cons_succ, h2]
   · simp only [flat, List.getElem?_cons_succ, h3]
   · simp only [flat, List.getElem?_cons_succ, h4]
def ROs (s : St) (FO : List Nat) (lV : V) (os : List O) : Prop :=
 (os = [] ∧ lV = .nils) ∨ ∃ b bs, lV = .slice b 0 os.length none 4 ∧ s.cl b = some (flat 1 os bs) ∧ bs.length = os.length ∧ b ∈ FO ∧ (∀ q ∈ bs, q.1 ∈ FO) ∧ (b :: bs.map (·.1)).Nodup ∧
  ∀ (i : Nat) o, os[i]? = some o → ∃ q, bs[i]? = some q ∧ s.cl q.1 = some (o.f.map .i)
structure RR (s : St) (rp : Nat) (w : Int) (os : List O) (shapes : List (List Bool)) (FO FS : List Nat) : Prop where
 wf : Wf s
 ex : ∃ lV shV, s.cl rp = some [.i w, lV, shV] ∧ ROs s FO lV os ∧ ShR s FS shV shapes
 nO : rp ∉ FO
 nS : rp ∉ FS
 nOS : ∀ b ∈ FO, b ∉ FS
 sz : (lay os).length < 100000
 w0 : 0 ≤ w ∧ w ≤ 16384
 lw : ((lay os).length : Int) ≤ w
 ltO : ∀ b ∈ FO, b < s.next
 ltS : ∀ b ∈ FS, b < s.next
theorem ROs.fr {s s' : St} {FO l : List Nat} {lV : V} {os : List O} (h : ROs s FO lV os) (hw : Wf s) (f : Fr s s' l) (hd : ∀ b ∈ FO, b ∉ l) : ROs s' FO lV os := by
 rcases h with h | ⟨b, bs, h1, h2, h3, h4, h5, h6, h7⟩
 · exact .inl h
 · refine .inr ⟨b, bs, h1, f.cl hw h2 (hd b h4), h3, h4, h5, h6, fun i o hi => ?_⟩
   obtain ⟨q, q1, q2⟩ := h7 i o hi
   exact ⟨q, q1, f.cl hw q2 (hd _ (h5 q (List.mem_of_getElem? q1)))⟩
theorem RR.fr {s s' : St} {rp : Nat} {w : Int} {os : List O} {shapes : List (List Bool)} {FO FS l : List Nat} (h : RR s rp w os shapes FO FS) (f : Fr s s' l) (h1 : rp ∉ l) (h2 : ∀ b ∈ FO, b ∉ l) (h3 : ∀ b ∈ FS, b ∉ l) : RR s' rp w os shapes FO FS := by
 obtain ⟨lV, shV, e1, e2, e3⟩ := h.ex
 exact ⟨f.wf, ⟨lV, shV, f.cl h.wf e1 h1, e2.fr h.wf f h2, e3.fr h.wf f h3⟩, h.nO, h.nS, h.nOS, h.sz, h.w0, h.lw, fun b hb => Nat.lt_of_lt_of_le (h.ltO b hb) f.nx, fun b hb => Nat.lt_of_lt_of_le (h.ltS b hb) f.nx⟩
theorem ROs.len {s : St} {FO : List Nat} {lV : V} {os : List O} (h : ROs s FO lV os) : uLenS lV = some (.i (os.length : Nat)) := by
 rcases h with ⟨rfl, rfl⟩ | ⟨b, bs, rfl, _⟩ <;> rfl
structure ObP (s : St) (FO : List Nat) (o : O) (a b i : Nat) (bf : Nat) (c : Option Nat) : Prop where
 at0 : ldP (.ptr b (4 * i)) s = some (.i (a : Nat))
 sh : ldP (.ptr b (4 * i + 1)) s = some (.i o.shape)
 f : ldP (.ptr b (4 * i + 2)) s = some (.slice bf 0 o.f.length c 1)
 tag : ldP (.ptr b (4 * i + 3)) s = some (.i o.tag)
 cl : s.cl bf = some (o.f.map .i)
 mb : b ∈ FO
 mf : bf ∈ FO
theorem ROs.ob {s : St} {FO : List Nat} {lV : V} {os : List O} (hw : Wf s) (h : ROs s FO lV os) {i : Nat} {o : O} (hi : os[i]? = some o) : ∃ b bf c, bIdx 4 lV (.i (i : Nat)) = some (.ptr b (4 * i)) ∧ ObP s FO o (1 + (lay (os.take i)).length) b i bf c ∧ lV = .slice b 0 os.length none 4 := by
 have hl := (List.getElem?_eq_some_iff.1 hi).1
 rcases h with ⟨rfl, _⟩ | ⟨b, bs, rfl, h2, h3, h4, h5, h6, h7⟩
 · simp at hl
 · obtain ⟨⟨bf, c⟩, q1, q2⟩ := h7 i o hi
   obtain ⟨f1, f2, f3, f4⟩ := flat_at 1 os bs i o bf c hi q1
   refine ⟨b, bf, c, ?_, ⟨dLd_eq hw h2 f1, dLd_eq hw h2 f2, dLd_eq hw h2 f3, dLd_eq hw h2 f4, q2, h4, h5 _ (List.mem_of_getElem? q1)⟩, rfl⟩
   rw [bIdx_eq (by omega) (by omega)]
   congr 2; omega
section
variable {s : St} {rp : Nat} {w : Int} {os : List O} {shapes : List (List Bool)} {FO FS : List Nat} (H : RR s rp w os shapes FO FS)
include H
theorem RR.find (d : Nat) (r : Int) : (at? os r = none → (K (d + 1)).call 45 [.ptr rp 0, .i r] s = some (.nilp, s)) ∧
 (∀ o, at? os r = some o → ∃ b i bf c, (K (d + 1)).call 45 [.ptr rp 0, .i r] s = some (.ptr b (4 * i), s) ∧ ObP s FO o r.toNat b i bf c ∧ os[i]? = some o ∧ (lay (os.take i)).length = (r - 1).toNat ∧ ldP (.ptr rp 1) s = some (.slice b 0 os.length none 4)) := by
 obtain ⟨lV, shV, h1, hO, hS⟩ := H.ex
 have hw := H.wf
 have eL := hO.len
 have hsz := H.sz
 have h3 := lay_len3 os
 have key : Ret ((K (d + 1)).call 45 [.ptr rp 0, .i r] s) fun v s' => s' = s ∧ ((at? os r = none ∧ v = .nilp) ∨ ∃ o b i bf c, at? os r = some o ∧ v = .ptr b (4 * i) ∧ ObP s FO o r.toNat b i bf c ∧ os[i]? = some o ∧ (lay (os.take i)).length = (r - 1).toNat ∧ ldP (.ptr rp 1) s = some (.slice b 0 os.length none 4)) := by
  simp -implicitDefEqProofs (maxSteps := 5000000) (disch := first | assumption | omega | (simp only [dz, dl, Nat.zero_add, Nat.reduceAdd, Bool.and_self]; done) | (simp only [dl]; omega)) only [op45, go_sem, fAdd_eq]
  refine loop_at (Q := fun x => Ret (retR _ (seqR (blkR 0 x) _)) _) (fun m e t => ∃ j : Nat, m = os.length - j ∧ j ≤ os.length ∧ s = t ∧ look os (r - 1) = look (os.drop j) (r - 1 - ((lay (os.take j)).length : Nat)) ∧ g0 e = .ptr rp 0 ∧ g1 e = .i r ∧ g5 e = .i j) ?_ (n := os.length) (by omega) ⟨0, by omega, by omega, rfl, by simp [lay], (by first | trivial | rfl | assumption), (by first | trivial | rfl | assumption), (by first | trivial | rfl | assumption)⟩
  rintro m e t ⟨j, rfl, hj, rfl, hl, i0, i1, i5⟩
  replace i0 : e.a0.a0 = _ := i0
  replace i1 : e.a0.a1 = _ := i1
  replace i5 : e.a0.a5 = _ := i5
  by_cases c : (j : Int) < ((os.length : Nat) : Int)
  · have hoj : os[j]? = some os[j] := List.getElem?_eq_getElem (by omega)
    obtain ⟨b, bf, cc, e1, ob, olv⟩ := hO.ob hw hoj
    have a0 := ob.at0
    have hd : os.drop j = os[j] :: os.drop (j + 1) := List.drop_eq_getElem_cons (by omega)
    have htk : (lay (os.take (j + 1))).length = (lay (os.take j)).length + os[j].n := by
     rw [List.take_succ, hoj, lay_append]; simp [lay, O.ws_len]
    by_cases c2 : ((1 + (lay (os.take j)).length : Nat) : Int) = r
    · have hr : r.toNat = 1 + (lay (os.take j)).length := by omega
      have hl2 : at? os r = some os[j] := by
       unfold at?; rw [hl, hd]; unfold look; rw [if_pos (by omega)]
      rw [← hr] at ob
      simp -implicitDefEqProofs (maxSteps := 5000000) (disch := first | assumption | omega | (simp only [dz, dl, Nat.zero_add, Nat.reduceAdd, Bool.and_self]; done) | (simp only [dl]; omega)) only [go_sem, fAdd_eq, i0, i1, i5, c, dLd_at hw h1, eL, e1, a0, c2]
      exact ⟨(by first | trivial | rfl | assumption), .inr ⟨_, b, j, bf, cc, hl2, rfl, ob, hoj, by omega, by rw [olv]⟩⟩
    · simp -implicitDefEqProofs (maxSteps := 5000000) (disch := first | assumption | omega | (simp only [dz, dl, Nat.zero_add, Nat.reduceAdd, Bool.and_self]; done) | (simp only [dl]; omega)) only [go_sem, fAdd_eq, i0, i1, i5, c, dLd_at hw h1, eL, e1, a0, c2]
      refine ⟨os.length - (j + 1), by omega, j + 1, rfl, by omega, trivial, ?_, (by first | trivial | rfl | assumption), (by first | trivial | rfl | assumption), (by first | trivial | rfl | assumption)⟩
      rw [hl, hd]
      show (if r - 1 - ((lay (os.take j)).length : Nat) = 0 then _ else look (os.drop (j + 1)) _) = _
      rw [if_neg (by omega), htk]
      congr 1; omega
  · have : j = os.length := by omega
    subst this
    rw [List.drop_length] at hl
    simp -implicitDefEqProofs (maxSteps := 5000000) (disch := first | assumption | omega | (simp only [dz, dl, Nat.zero_add, Nat.reduceAdd, Bool.and_self]; done) | (simp only [dl]; omega)) only [go_sem, fAdd_eq, i0, i1, i5, c, dLd_at hw h1, eL]
    exact ⟨(by first | trivial | rfl | assumption), .inl ⟨hl, (by first | trivial | rfl | assumption)⟩⟩
 obtain ⟨v, _, e1, rfl, h | ⟨o, b, i, bf, c, h1, h2, h3⟩⟩ := key
 · exact ⟨fun _ => by rw [e1, h.2], fun o ho => by rw [h.1] at ho; cases ho⟩
 · refine ⟨fun hn => (by rw [h1] at hn; cases hn), fun o' ho' => ?_⟩
   rw [h1] at ho'; cases ho'
   exact ⟨b, i, bf, c, by rw [e1, h2], h3⟩
end
end
end Go.Proofs.YtgkcpceppmppfaaLab
namespace Go.Proofs.YtgkcpceppmppfaaLab
open Go
set_option linter.all false
set_option maxRecDepth 10000
noncomputable section
section
variable {s : St} {rp : Nat} {w : Int} {os : List O} {shapes : List (List Bool)} {FO FS : List Nat} (H : RR s rp w os shapes FO FS)
include H
theorem RR.len (d : Nat) (r : Int) : (K (d + 2)).call 13 [.ptr rp 0, .i r] s = some (.i (lenO os r), s) := by
 obtain ⟨f0, f1⟩ := H.find d r
 rw [op13]
 unfold lenO
 cases ho : at? os r with
 | none =>
   have e1 := f0 ho
   simp -implicitDefEqProofs (maxSteps := 5000000) (disch := first | assumption | omega | (simp only [dz, dl, Nat.zero_add, Nat.reduceAdd, Bool.and_self]; done) | (simp only [dl]; omega)) only [go_sem, e1]
 | some o =>
   obtain ⟨b, i, bf, c, e1, ob, _⟩ := f1 o ho
   have a2 := ob.f
   simp -implicitDefEqProofs (maxSteps := 5000000) (disch := first | assumption | omega | (simp only [dz, dl, Nat.zero_add, Nat.reduceAdd, Bool.and_self]; done) | (simp only [dl]; omega)) only [go_sem, e1, a2]
theorem ObP.get {o : O} {a b i bf : Nat} {c : Option Nat} (ob : ObP s FO o a b i bf c) {k : Int} (h0 : 0 ≤ k) (h1 : k < o.f.length) : bIdx 1 (.slice bf 0 o.f.length c 1) (.i k) = some (.ptr bf k.toNat) ∧ ldP (.ptr bf k.toNat) s = some (.i o.f[k.toNat]!) := by
 refine ⟨by rw [bIdx1_eq h0 h1, Nat.zero_add], dLd_eq H.wf ob.cl ?_⟩
 rw [List.getElem?_map, List.getElem?_eq_getElem (by omega)]
 simp [show k.toNat < o.f.length by omega]
theorem RR.isRef (ok : ShOk os shapes) (d : Nat) (r k : Int) : (K (d + 2)).call 40 [.ptr rp 0, .i r, .i k] s = some (.bool (refO os shapes r k), s) := by
 obtain ⟨f0, f1⟩ := H.find d r
 obtain ⟨lV, shV, h1, hO, hS⟩ := H.ex
 have hw := H.wf
 rw [op40]
 unfold refO
 cases ho : at? os r with
 | none =>
   have e1 := f0 ho
   simp -implicitDefEqProofs (maxSteps := 5000000) (disch := first | assumption | omega | (simp only [dz, dl, Nat.zero_add, Nat.reduceAdd, Bool.and_self]; done) | (simp only [dl]; omega)) only [go_sem, e1]
 | some o =>
   obtain ⟨b, i, bf, c, e1, ob, _⟩ := f1 o ho
   have a2 := ob.f
   have a1 := ob.sh
   simp only
   by_cases c0 : k < 0
   · rw [if_neg (by omega)]
     simp -implicitDefEqProofs (maxSteps := 5000000) (disch := first | assumption | omega | (simp only [dz, dl, Nat.zero_add, Nat.reduceAdd, Bool.and_self]; done) | (simp only [dl]; omega)) only [go_sem, e1, a2, c0]
   · by_cases c1 : (o.f.length : Int) ≤ k
     · rw [if_neg (by omega)]
       simp -implicitDefEqProofs (maxSteps := 5000000) (disch := first | assumption | omega | (simp only [dz, dl, Nat.zero_add, Nat.reduceAdd, Bool.and_self]; done) | (simp only [dl]; omega)) only [go_sem, e1, a2, c0, c1]
     · rw [if_pos (by omega)]
       rcases ok o (at_mem ho) with q | q | ⟨q, l, hl, hle⟩
       · rw [if_neg (by omega), if_pos q]
         simp -implicitDefEqProofs (maxSteps := 5000000) (disch := first | assumption | omega | (simp only [dz, dl, Nat.zero_add, Nat.reduceAdd, Bool.and_self]; done) | (simp only [dl]; omega)) only [go_sem, e1, a1, a2, c0, c1, q]
       · rw [if_pos q]
         simp -implicitDefEqProofs (maxSteps := 5000000) (disch := first | assumption | omega | (simp only [dz, dl, Nat.zero_add, Nat.reduceAdd, Bool.and_self]; done) | (simp only [dl]; omega)) only [go_sem, e1, a1, a2, c0, c1, q]
       · have q1 : ¬ o.shape = -2 := by omega
         have q2 : ¬ o.shape = -1 := by omega
         rw [if_neg q1, if_neg q2, hl, Option.bind_some]
         rcases hS with ⟨h0, _⟩ | ⟨b', L, F0, rfl, s2, s3, s4, s5, _, _, s6⟩
         · rw [h0] at hl; simp at hl
         · obtain ⟨v, b1, b2⟩ := s6 _ _ hl
           have hlt := (List.getElem?_eq_some_iff.1 hl).1
           rcases b2 with ⟨h0, _⟩ | ⟨b2, o2, c2, M, rfl, m2, m3, m4, m5⟩
           · rw [h0] at hle; simp at hle; omega
           · have m6 := m5 k.toNat (by omega)
             rw [List.getElem?_eq_getElem (show k.toNat < l.length by omega), Option.map_some] at m6
             simp -implicitDefEqProofs (maxSteps := 5000000) (disch := first | assumption | omega | (simp only [dz, dl, Nat.zero_add, Nat.reduceAdd, Bool.and_self]; done) | (simp only [dl]; omega)) only [go_sem, e1, a1, a2, c0, c1, q, q1, q2, dLd_at hw h1, dLd_eq hw s3 b1, dLd_eq hw m3 m6]
             simp [show k.toNat < l.length by omega]
theorem RR.used (d : Nat) : (K (d + 1)).call 16 [.ptr rp 0] s = some (.i ((lay os).length : Nat), s) := by
 obtain ⟨lV, shV, h1, hO, hS⟩ := H.ex
 have hw := H.wf
 have eL := hO.len
 have hsz := H.sz
 have h3 := lay_len3 os
 rw [op16]
 simp -implicitDefEqProofs (maxSteps := 5000000) (disch := first | assumption | omega | (simp only [dz, dl, Nat.zero_add, Nat.reduceAdd, Bool.and_self]; done) | (simp only [dl]; omega)) only [go_sem, fAdd_eq]
 refine loop_at (Q := fun x => retR _ (seqR (blkR 0 x) _) = _) (fun m e t => ∃ j : Nat, m = os.length - j ∧ j ≤ os.length ∧ s = t ∧ g0 e = .ptr rp 0 ∧ g3 e = .i ((lay (os.take j)).length : Nat) ∧ g4 e = .i j) ?_ (n := os.length) (by omega) ⟨0, by omega, by omega, rfl, (by first | trivial | rfl | assumption), by simp [lay]; rfl, (by first | trivial | rfl | assumption)⟩
 rintro m e t ⟨j, rfl, hj, rfl, i0, i3, i4⟩
 replace i0 : e.a0.a0 = _ := i0
 replace i3 : e.a0.a3 = _ := i3
 replace i4 : e.a0.a4 = _ := i4
 by_cases c : (j : Int) < ((os.length : Nat) : Int)
 · have hoj : os[j]? = some os[j] := List.getElem?_eq_getElem (by omega)
   obtain ⟨b, bf, cc, e1, ob, olv⟩ := hO.ob hw hoj
   have a2 := ob.f
   have htk : (lay (os.take (j + 1))).length = (lay (os.take j)).length + os[j].n := by
    rw [List.take_succ, hoj, lay_append]; simp [lay, O.ws_len]
   have hle : (lay (os.take (j + 1))).length ≤ (lay os).length := by
    have := lay_append (os.take (j + 1)) (os.drop (j + 1))
    rw [List.take_append_drop] at this
    rw [this]; simp
   have hon : os[j].n = 3 + os[j].f.length := rfl
   simp -implicitDefEqProofs (maxSteps := 5000000) (disch := first | assumption | omega | (simp only [dz, dl, Nat.zero_add, Nat.reduceAdd, Bool.and_self]; done) | (simp only [dl]; omega)) only [go_sem, fAdd_eq, i0, i3, i4, c, dLd_at hw h1, eL, e1, a2]
   refine ⟨os.length - (j + 1), by omega, j + 1, rfl, by omega, trivial, (by first | trivial | rfl | assumption), ?_, (by first | trivial | rfl | assumption)⟩
   show V.i _ = V.i _
   congr 1; omega
 · have : j = os.length := by omega
   subst this
   rw [List.take_length] at i3
   simp -implicitDefEqProofs (maxSteps := 5000000) (disch := first | assumption | omega | (simp only [dz, dl, Nat.zero_add, Nat.reduceAdd, Bool.and_self]; done) | (simp only [dl]; omega)) only [go_sem, fAdd_eq, i0, i3, i4, c, dLd_at hw h1, eL]
end
def idxI (x : Int) : List Int → Option Nat | [] => none | y :: l => if y = x then some 0 else (idxI x l).map (· + 1)
def hasI (l : List Int) (x : Int) : Int := match idxI x l with | some i => (i : Int) | none => -1
theorem has_eq {s : St} (hw : Wf s) {v : V} {l : List Int} (h : SL s v (l.map .i)) (hb : l.length < 1000000) (x : Int) (d : Nat) : (K (d + 1)).call 46 [v, .i x] s = some (.i (hasI l x), s) := by
 have e1 := h.len
 rw [List.length_map] at e1
 rw [op46]
 simp -implicitDefEqProofs (maxSteps := 5000000) (disch := first | assumption | omega | (simp only [dz, dl, Nat.zero_add, Nat.reduceAdd, Bool.and_self]; done) | (simp only [dl]; omega)) only [go_sem, fAdd_eq]
 refine loop_at (Q := fun x => retR _ (seqR (blkR 0 x) _) = _) (fun m e t => ∃ j : Nat, m = l.length - j ∧ j ≤ l.length ∧ s = t ∧ idxI x l = (idxI x (l.drop j)).map (· + j) ∧ g0 e = v ∧ g1 e = .i x ∧ g5 e = .i j) ?_ (n := l.length) (by omega) ⟨0, by omega, by omega, rfl, by simp, (by first | trivial | rfl | assumption), (by first | trivial | rfl | assumption), (by first | trivial | rfl | assumption)⟩
 rintro m e t ⟨j, rfl, hj, rfl, hi, i0, i1, i5⟩
 replace i0 : e.a0.a0 = _ := i0
 replace i1 : e.a0.a1 = _ := i1
 replace i5 : e.a0.a5 = _ := i5
 by_cases c : (j : Int) < ((l.length : Nat) : Int)
 · have hj' : j < l.length := by omega
   obtain ⟨q, a1, b1⟩ := h.at hw (j := j) (x := .i l[j]) (by simp [hj'])
   have hd : l.drop j = l[j] :: l.drop (j + 1) := List.drop_eq_getElem_cons hj'
   rw [hd] at hi
   by_cases c2 : l[j] = x
   · have : hasI l x = j := by unfold hasI; rw [hi]; unfold idxI; rw [if_pos c2]; simp
     simp -implicitDefEqProofs (maxSteps := 5000000) (disch := first | assumption | omega | (simp only [dz, dl, Nat.zero_add, Nat.reduceAdd, Bool.and_self]; done) | (simp only [dl]; omega)) only [go_sem, fAdd_eq, i0, i1, i5, c, e1, a1, b1, c2, this]
   · simp -implicitDefEqProofs (maxSteps := 5000000) (disch := first | assumption | omega | (simp only [dz, dl, Nat.zero_add, Nat.reduceAdd, Bool.and_self]; done) | (simp only [dl]; omega)) only [go_sem, fAdd_eq, i0, i1, i5, c, e1, a1, b1, c2]
     refine ⟨l.length - (j + 1), by omega, j + 1, rfl, by omega, trivial, ?_, (by first | trivial | rfl | assumption), (by first | trivial | rfl | assumption), (by first | trivial | rfl | assumption)⟩
     have hu : idxI x (l[j] :: l.drop (j + 1)) = (idxI x (l.drop (j + 1))).map (· + 1) := by
      show (if l[j] = x then some 0 else (idxI x (l.drop (j + 1))).map (· + 1)) = _
      rw [if_neg c2]
     rw [hi, hu]
     cases idxI x (l.drop (j + 1)) with
     | none => rfl
     | some n => simp; omega
 · have : j = l.length := by omega
   subst this
   rw [List.drop_length] at hi
   have : hasI l x = -1 := by unfold hasI; rw [hi]; rfl
   simp -implicitDefEqProofs (maxSteps := 5000000) (disch := first | assumption | omega | (simp only [dz, dl, Nat.zero_add, Nat.reduceAdd, Bool.and_self]; done) | (simp only [dl]; omega)) only [go_sem, fAdd_eq, i0, i1, i5, c, e1, this]
end
end Go.Proofs.YtgkcpceppmppfaaLab
namespace Go.Proofs.YtgkcpceppmppfaaLab
open Go
set_option linter.all false
set_option maxRecDepth 10000
noncomputable section
theorem flat_append (o : O) (q : Nat × Option Nat) : ∀ (a : Nat) (os : List O) (bs : List (Nat × Option Nat)), bs.length = os.length → flat a (os ++ [o]) (bs ++ [q]) = flat a os bs ++ [.i ((a + (lay os).length : Nat) : Int), .i o.shape, .slice q.1 0 o.f.length q.2 1, .i o.tag]
 | a, [], bs, h => by
   have : bs = [] := List.length_eq_zero_iff.1 h
   subst this
   obtain ⟨b, c⟩ := q
   simp [flat, lay]
 | a, x :: os, [], h => by simp at h
 | a, x :: os, (b, c) :: bs, h => by
   have := flat_append o q (a + x.n) os bs (by simpa using h)
   simp only [List.cons_append, flat, this, lay, List.length_append, O.ws_len, Nat.add_assoc]
theorem flat_set {o o' : O} (h1 : o'.shape = o.shape) (h2 : o'.f.length = o.f.length) : ∀ (a : Nat) (os : List O) (bs : List (Nat × Option Nat)) (i : Nat), os[i]? = some o → bs.length = os.length → flat a (os.set i o') bs = (flat a os bs).set (4 * i + 3) (.i o'.tag)
 | a, [], bs, i, h, _ => by simp at h
 | a, x :: os, [], i, h, hl => by simp at hl
 | a, x :: os, (b, c) :: bs, 0, h, hl => by
   simp at h; subst h
   simp only [List.set_cons_zero, flat, h1, h2, Nat.mul_zero, Nat.zero_add, List.set_cons_succ]
   simp only [O.n, h2]
 | a, x :: os, (b, c) :: bs, i + 1, h, hl => by
   have := flat_set h1 h2 (a + x.n) os bs i (by simpa using h) (by simpa using hl)
   rw [show 4 * (i + 1) + 3 = 4 * i + 3 + 1 + 1 + 1 + 1 by omega]
   simp only [List.set_cons_succ, flat, this]
theorem set_self {α : Type} : ∀ {l : List α} {i : Nat} {x : α}, l[i]? = some x → l.set i x = l
 | [], i, x, h => by simp at h
 | y :: l, 0, x, h => by simp at h; subst h; rfl
 | y :: l, i + 1, x, h => by simp only [List.set_cons_succ]; rw [set_self (by simpa using h)]
theorem turn_set (g : O → O) {os : List O} {i : Nat} {o : O} {r : Int} (h : os[i]? = some o) (hr : r = ((lay (os.take i)).length : Nat)) : turn g os r = os.set i (g o) := by
 have hi := (List.getElem?_eq_some_iff.1 h)
 obtain ⟨hl, he⟩ := hi
 have e : os = os.take i ++ o :: os.drop (i + 1) := by
  rw [← he, ← List.drop_eq_getElem_cons hl, List.take_append_drop]
 have e2 := turn_of g (os.take i) o (os.drop (i + 1))
 rw [← e, ← hr] at e2
 rw [e2, List.set_eq_take_append_cons_drop, if_pos hl]
theorem ROs.lt {s : St} {FO : List Nat} {b : Nat} {bs : List (Nat × Option Nat)} {os : List O} (hw : Wf s) (h3 : bs.length = os.length) (h7 : ∀ (i : Nat) o, os[i]? = some o → ∃ q, bs[i]? = some q ∧ s.cl q.1 = some (o.f.map .i)) : ∀ q ∈ bs, q.1 < s.next := fun q hq => by
 obtain ⟨i, hi, rfl⟩ := List.getElem_of_mem hq
 obtain ⟨q', q1, q2⟩ := h7 i os[i] (List.getElem?_eq_getElem (by omega))
 rw [List.getElem?_eq_getElem hi] at q1
 cases q1
 exact cl_lt hw q2
theorem ROs.push {s : St} {FO : List Nat} {lV y : V} {os : List O} {o : O} {B : Nat} {c : Option Nat} (hw : Wf s) (h : ROs s FO lV os) (hy : Src s 4 y 1 [.i ((1 + (lay os).length : Nat) : Int), .i o.shape, .slice B 0 o.f.length c 1, .i o.tag]) (hB : s.cl B = some (o.f.map .i)) (hBn : B ∉ FO) (hl : os.length ≤ 100000) :
 ∃ s', apW 4 lV y s = some (.slice s.next 0 (os.length + 1) none 4, s') ∧ ROs s' (s.next :: B :: FO) (.slice s.next 0 (os.length + 1) none 4) (os ++ [o]) ∧ Fr s s' (blkV lV) ∧ s'.next = s.next + 1 := by
 have hBl := cl_lt hw hB
 rcases h with ⟨rfl, rfl⟩ | ⟨b, bs, rfl, h2, h3, h4, h5, h6, h7⟩
 · obtain ⟨s', e1, c1, f1, n1⟩ := eApW_nil hw hy (by omega)
   refine ⟨s', e1, .inr ⟨s.next, [(B, c)], rfl, ?_, rfl, by simp, by simp, by simp; omega, ?_⟩, f1.mono (by simp), n1⟩
   · rw [c1]; simp [flat, lay]
   · intro i x hx
     cases i with
     | zero => simp at hx; subst hx; exact ⟨_, rfl, f1.cl hw hB (by simp)⟩
     | succ i => simp at hx
 · obtain ⟨s', e1, c1, f1, n1⟩ := eApW_move (o := 0) (len := os.length) hw hy (by omega) (by omega) h2 (by rw [flat_len _ _ _ h3]; omega)
   have hlt := ROs.lt (FO := FO) (b := b) hw h3 h7
   rw [List.nodup_cons] at h6
   have hbB : b ≠ B := fun e => hBn (e ▸ h4)
   refine ⟨s', e1, .inr ⟨s.next, bs ++ [(B, c)], by simp, ?_, by simp [h3], by simp, ?_, ?_, ?_⟩, f1, n1⟩
   · rw [c1, flat_append _ _ _ _ _ h3, List.drop_zero, List.take_of_length_le (by rw [flat_len _ _ _ h3]; omega)]
   · intro q hq
     rcases List.mem_append.1 hq with hq | hq
     · simp [h5 q hq]
     · simp at hq; subst hq; simp
   · rw [List.map_append, List.nodup_cons, List.nodup_append]
     refine ⟨?_, h6.2, by simp, ?_⟩
     · intro hm
       rcases List.mem_append.1 hm with hm | hm
       · obtain ⟨q, hq, e⟩ := List.mem_map.1 hm
         have := hlt q hq; omega
       · simp at hm; omega
     · intro a ha a' ha'
       simp at ha'; subst ha'
       rintro rfl
       obtain ⟨q, hq, e⟩ := List.mem_map.1 ha
       exact hBn (e ▸ h5 q hq)
   · intro i x hx
     by_cases hi : i < os.length
     · rw [List.getElem?_append_left hi] at hx
       obtain ⟨q, q1, q2⟩ := h7 i x hx
       refine ⟨q, by rw [List.getElem?_append_left (by omega)]; exact q1, f1.cl hw q2 ?_⟩
       simp only [List.mem_singleton]
       rintro e
       exact h6.1 (e ▸ List.mem_map.2 ⟨q, List.mem_of_getElem? q1, rfl⟩)
     · rw [List.getElem?_append_right (by omega)] at hx
       have hi2 : i = os.length := by have := (List.getElem?_eq_some_iff.1 hx).1; simp at this; omega
       subst hi2
       simp at hx; subst hx
       refine ⟨(B, c), by rw [List.getElem?_append_right (by omega)]; simp [h3], f1.cl hw hB ?_⟩
       simp only [List.mem_singleton]; exact fun e => hbB e.symm
theorem ROs.blk {s : St} {FO : List Nat} {lV : V} {os : List O} (h : ROs s FO lV os) : (∀ b ∈ blkV lV, b ∈ FO) ∧ sameV 100 lV lV = true := by
 rcases h with ⟨rfl, rfl⟩ | ⟨b, bs, rfl, h2, h3, h4, _⟩
 · exact ⟨by simp [blkV], rfl⟩
 · exact ⟨by simp [blkV, h4], same_slice _ _ _ _ _⟩
theorem ShR.len {s : St} {F : List Nat} {v : V} {l : List (List Bool)} (h : ShR s F v l) : uLenS v = some (.i (l.length : Nat)) := by
 rcases h with ⟨h0, rfl⟩ | ⟨b, L, F0, rfl, _⟩
 · rw [h0]; rfl
 · rfl
section
variable {s : St} {rp : Nat} {w : Int} {os : List O} {shapes : List (List Bool)} {FO FS : List Nat} (H : RR s rp w os shapes FO FS)
include H
theorem RR.lens : os.length ≤ 16384 := by
 have := lay_len3 os
 have := H.w0
 have := H.lw
 omega
theorem RR.put (d : Nat) (shape : Int) (m : Nat) (hm : m < 20000) :
 (w < (lay os).length + 3 + m → (K (d + 2)).call 58 [.ptr rp 0, .i shape, .i m] s = some (.tup [.i 0, .i 26], s)) ∧
 (((lay os).length + 3 + m : Int) ≤ w → ∃ s' FO', (K (d + 2)).call 58 [.ptr rp 0, .i shape, .i m] s = some (.tup [.i ((1 + (lay os).length : Nat) : Int), .i 0], s') ∧ RR s' rp w (os ++ [newO shape m]) shapes FO' FS ∧ (∀ b ∈ FO', b ∈ FO ∨ s.next ≤ b) ∧ Fr s s' (rp :: FO)) := by
 have eu := H.used d
 obtain ⟨lV, shV, h1, hO, hS⟩ := H.ex
 have hw := H.wf
 have hsz := H.sz
 have hw0 := H.w0
 have hlw := H.lw
 have hlens := H.lens
 refine ⟨fun hlt => ?_, fun hle => ?_⟩
 · have c : w - ((lay os).length : Nat) < 3 + m := by omega
   rw [op58]
   simp -implicitDefEqProofs (maxSteps := 5000000) (disch := first | assumption | omega | (simp only [dz, dl, Nat.zero_add, Nat.reduceAdd, Bool.and_self]; done) | (simp only [dl]; omega)) only [go_sem, fAdd_eq, eu, dLd_at hw h1, c]
 · have c : ¬ w - ((lay os).length : Nat) < 3 + m := by omega
   obtain ⟨s1, e1, c1, f1, n1⟩ := new_ex (s := s) (l := List.replicate m (V.i 0)) (n := m) hw (by simp)
   obtain ⟨s2, e2, c2, f2, n2⟩ := new_ex (s := s1) (l := [V.i (((lay os).length : Nat) + 1), V.i shape, V.slice s.next 0 m (some m) 1, V.i 0]) (n := 4) f1.wf rfl
   have f12 := f1.trans f2
   have hO2 := (hO.fr hw f12 (by simp))
   have hs : s.next ∉ FO := fun hm' => by have := H.ltO _ hm'; omega
   have hrp := cl_lt hw h1
   have hBc : s2.cl s.next = some ((newO shape m).f.map .i) := by rw [f2.cl f1.wf c1 (by simp)]; simp [newO]
   have hlf : (newO shape m).f.length = m := by simp [newO]
   have hsrc : Src s2 4 (.slice s1.next 0 1 (some 1) 4) 1 [.i ((1 + (lay os).length : Nat) : Int), .i (newO shape m).shape, .slice s.next 0 (newO shape m).f.length (some m) 1, .i (newO shape m).tag] := by
    refine Src.full f2.wf ?_ rfl (by intro v hv; simp at hv; rcases hv with rfl | rfl | rfl | rfl <;> rfl) (by omega)
    rw [c2, hlf]; simp [newO]; omega
   obtain ⟨s3, e3, hO3, f3, n3⟩ := hO2.push f2.wf (o := newO shape m) (B := s.next) (c := some m) hsrc hBc hs (by omega)
   obtain ⟨b1, b2⟩ := hO.blk
   have F3 : Fr s s3 (rp :: FO) := (f12.mono (by simp)).trans (f3.mono (fun x hx => .inl (by simp [b1 x hx])))
   have h13 : s3.cl rp = some [.i w, lV, shV] := f3.cl f2.wf (f12.cl hw h1 (by simp)) (fun hx => H.nO (b1 _ hx))
   obtain ⟨s4, e4, c4, f4, n4⟩ := eSt_ex (s := s3) (o := 1) (v := .slice s2.next 0 (os.length + 1) none 4) f3.wf h13 (by simp) rfl
   simp only [List.set_cons_succ, List.set_cons_zero] at c4
   have F4 : Fr s s4 (rp :: FO) := F3.trans (f4.mono (by simp))
   have hlay : (lay (os ++ [newO shape m])).length = (lay os).length + 3 + m := by simp [lay_append, lay, newO, O.ws]; omega
   have q := f2.nx
   have q1 := f1.nx
   refine ⟨s4, s2.next :: s.next :: FO, ?_, ⟨f4.wf, ⟨_, shV, c4, hO3.fr f3.wf f4 ?_, hS.fr hw F4 ?_⟩, ?_, H.nS, ?_, by omega, hw0, by omega, ?_, ?_⟩, ?_, F4⟩
   · rw [op58]
     simp -implicitDefEqProofs (maxSteps := 5000000) (disch := first | assumption | omega | (simp only [dz, dl, Nat.zero_add, Nat.reduceAdd, Bool.and_self]; done) | (simp only [dl]; omega)) only [go_sem, fAdd_eq, eu, dLd_at hw h1, c, Int.toNat_natCast, e1, e2, e3, e4, b2]
     simp; omega
   · intro b hb
     simp only [List.mem_cons, List.not_mem_nil, or_false] at hb ⊢
     rcases hb with rfl | rfl | hb
     · omega
     · omega
     · rintro rfl; exact H.nO hb
   · intro b hb
     simp only [List.mem_cons]
     rintro (rfl | h)
     · exact H.nS hb
     · exact H.nOS _ h hb
   · simp only [List.mem_cons]
     rintro (h | h | h)
     · omega
     · omega
     · exact H.nO h
   · intro b hb
     simp only [List.mem_cons] at hb
     rcases hb with rfl | rfl | hb
     · intro h; have := H.ltS _ h; omega
     · intro h; have := H.ltS _ h; omega
     · exact H.nOS b hb
   · intro b hb
     simp only [List.mem_cons] at hb
     rcases hb with rfl | rfl | hb
     · omega
     · omega
     · exact Nat.lt_of_lt_of_le (H.ltO b hb) F4.nx
   · intro b hb; exact Nat.lt_of_lt_of_le (H.ltS b hb) F4.nx
   · intro b hb
     simp only [List.mem_cons] at hb
     rcases hb with rfl | rfl | hb
     · right; omega
     · right; omega
     · exact .inl hb
theorem RR.array (d : Nat) (ofRefs : Bool) (m : Int) :
 ((m < 0 ∨ 256 < m) → (K (d + 3)).call 36 [.ptr rp 0, .bool ofRefs, .i m] s = some (.tup [.i 0, .i 1], s)) ∧
 (0 ≤ m → m ≤ 256 → w < (lay os).length + 3 + m → (K (d + 3)).call 36 [.ptr rp 0, .bool ofRefs, .i m] s = some (.tup [.i 0, .i 26], s)) ∧
 (0 ≤ m → m ≤ 256 → (lay os).length + 3 + m ≤ w → ∃ s' FO', (K (d + 3)).call 36 [.ptr rp 0, .bool ofRefs, .i m] s = some (.tup [.i ((1 + (lay os).length : Nat) : Int), .i 0], s') ∧ RR s' rp w (os ++ [newO (if ofRefs then -2 else -1) m.toNat]) shapes FO' FS ∧ (∀ b ∈ FO', b ∈ FO ∨ s.next ≤ b) ∧ Fr s s' (rp :: FO)) := by
 refine ⟨fun h => ?_, fun h1 h2 h3 => ?_, fun h1 h2 h3 => ?_⟩
 · rw [op36]
   by_cases c : m < 0
   · simp -implicitDefEqProofs (maxSteps := 5000000) (disch := first | assumption | omega | (simp only [dz, dl, Nat.zero_add, Nat.reduceAdd, Bool.and_self]; done) | (simp only [dl]; omega)) only [go_sem, c]
   · have c2 : 256 < m := by omega
     simp -implicitDefEqProofs (maxSteps := 5000000) (disch := first | assumption | omega | (simp only [dz, dl, Nat.zero_add, Nat.reduceAdd, Bool.and_self]; done) | (simp only [dl]; omega)) only [go_sem, c, c2]
 · have c : ¬ m < 0 := by omega
   have c2 : ¬ 256 < m := by omega
   obtain ⟨q, _⟩ := H.put d (if ofRefs then -2 else -1) m.toNat (by omega)
   have q := q (by omega)
   rw [show ((m.toNat : Nat) : Int) = m by omega] at q
   rw [op36]
   cases ofRefs <;> simp only [if_true, if_false, Bool.false_eq_true] at q <;> simp -implicitDefEqProofs (maxSteps := 5000000) (disch := first | assumption | omega | (simp only [dz, dl, Nat.zero_add, Nat.reduceAdd, Bool.and_self]; done) | (simp only [dl]; omega)) only [go_sem, c, c2, q]
 · have c : ¬ m < 0 := by omega
   have c2 : ¬ 256 < m := by omega
   obtain ⟨_, q⟩ := H.put d (if ofRefs then -2 else -1) m.toNat (by omega)
   obtain ⟨s', FO', q, r⟩ := q (by omega)
   rw [show ((m.toNat : Nat) : Int) = m by omega] at q
   refine ⟨s', FO', ?_, r⟩
   rw [op36]
   cases ofRefs <;> simp only [if_true, if_false, Bool.false_eq_true] at q <;> simp -implicitDefEqProofs (maxSteps := 5000000) (disch := first | assumption | omega | (simp only [dz, dl, Nat.zero_add, Nat.reduceAdd, Bool.and_self]; done) | (simp only [dl]; omega)) only [go_sem, c, c2, q]
theorem RR.object (d : Nat) (r : Int) (hsh : shapes.length < 100000) :
 ((r < 0 ∨ (shapes.length : Int) ≤ r) → (K (d + 3)).call 38 [.ptr rp 0, .i r] s = some (.tup [.i 0, .i 1], s)) ∧
 (∀ l, 0 ≤ r → shapes[r.toNat]? = some l → l.length < 20000 → w < (lay os).length + 3 + l.length → (K (d + 3)).call 38 [.ptr rp 0, .i r] s = some (.tup [.i 0, .i 26], s)) ∧
 (∀ l, 0 ≤ r → shapes[r.toNat]? = some l → l.length < 20000 → ((lay os).length + 3 + l.length : Int) ≤ w → ∃ s' FO', (K (d + 3)).call 38 [.ptr rp 0, .i r] s = some (.tup [.i ((1 + (lay os).length : Nat) : Int), .i 0], s') ∧ RR s' rp w (os ++ [newO r l.length]) shapes FO' FS ∧ (∀ b ∈ FO', b ∈ FO ∨ s.next ≤ b) ∧ Fr s s' (rp :: FO)) := by
 obtain ⟨lV, sh, h1, hO, hS⟩ := H.ex
 have hw := H.wf
 have eS := hS.len
 have key : ∀ l, 0 ≤ r → shapes[r.toNat]? = some l → ∃ q v, bIdx 1 sh (.i r) = some q ∧ ldP q s = some v ∧ uLenS v = some (.i (l.length : Nat)) := fun l h0 hl => by
  have hlt := (List.getElem?_eq_some_iff.1 hl).1
  rcases hS with ⟨h0', rfl⟩ | ⟨b, L, F0, rfl, a2, a3, a4, a5, a7, a8, a6⟩
  · rw [h0'] at hlt; simp at hlt
  · obtain ⟨v, b1, b2⟩ := a6 _ _ hl
    refine ⟨_, v, bIdx1_eq h0 (by omega), ?_, b2.len⟩
    rw [Nat.zero_add]; exact dLd_eq hw a3 b1
 refine ⟨fun h => ?_, fun l h0 hl hlen hn => ?_, fun l h0 hl hlen hn => ?_⟩
 · rw [op38]
   by_cases c : r < 0
   · simp -implicitDefEqProofs (maxSteps := 5000000) (disch := first | assumption | omega | (simp only [dz, dl, Nat.zero_add, Nat.reduceAdd, Bool.and_self]; done) | (simp only [dl]; omega)) only [go_sem, c]
   · have c2 : (shapes.length : Int) ≤ r := by omega
     simp -implicitDefEqProofs (maxSteps := 5000000) (disch := first | assumption | omega | (simp only [dz, dl, Nat.zero_add, Nat.reduceAdd, Bool.and_self]; done) | (simp only [dl]; omega)) only [go_sem, c, c2, dLd_at hw h1, eS]
 · have c : ¬ r < 0 := by omega
   have hlt := (List.getElem?_eq_some_iff.1 hl).1
   have c2 : ¬ (shapes.length : Int) ≤ r := by omega
   obtain ⟨q, v, k1, k2, k3⟩ := key l h0 hl
   have ep := (H.put d r l.length hlen).1 hn
   rw [op38]
   simp -implicitDefEqProofs (maxSteps := 5000000) (disch := first | assumption | omega | (simp only [dz, dl, Nat.zero_add, Nat.reduceAdd, Bool.and_self]; done) | (simp only [dl]; omega)) only [go_sem, c, c2, dLd_at hw h1, eS, k1, k2, k3, ep]
 · have c : ¬ r < 0 := by omega
   have hlt := (List.getElem?_eq_some_iff.1 hl).1
   have c2 : ¬ (shapes.length : Int) ≤ r := by omega
   obtain ⟨q, v, k1, k2, k3⟩ := key l h0 hl
   obtain ⟨s', FO', ep, hr⟩ := (H.put d r l.length hlen).2 hn
   refine ⟨s', FO', ?_, hr⟩
   rw [op38]
   simp -implicitDefEqProofs (maxSteps := 5000000) (disch := first | assumption | omega | (simp only [dz, dl, Nat.zero_add, Nat.reduceAdd, Bool.and_self]; done) | (simp only [dl]; omega)) only [go_sem, c, c2, dLd_at hw h1, eS, k1, k2, k3, ep]
end
end
end Go.Proofs.YtgkcpceppmppfaaLab
namespace Go.Proofs.YtgkcpceppmppfaaLab
open Go
set_option linter.all false
set_option maxRecDepth 10000
noncomputable section
theorem ROs.inv {s : St} {FO : List Nat} {b n i bf : Nat} {c : Option Nat} {os : List O} {o : O} (hw : Wf s) (h : ROs s FO (.slice b 0 n none 4) os) (hi : os[i]? = some o) (hf : ldP (.ptr b (4 * i + 2)) s = some (.slice bf 0 o.f.length c 1)) :
 ∃ bs, n = os.length ∧ s.cl b = some (flat 1 os bs) ∧ bs.length = os.length ∧ b ∈ FO ∧ (∀ q ∈ bs, q.1 ∈ FO) ∧ (b :: bs.map (·.1)).Nodup ∧ bs[i]? = some (bf, c) ∧ ∀ (i : Nat) o, os[i]? = some o → ∃ q, bs[i]? = some q ∧ s.cl q.1 = some (o.f.map .i) := by
 rcases h with ⟨_, h0⟩ | ⟨b', bs, e, h2, h3, h4, h5, h6, h7⟩
 · cases h0
 · injection e with e1 e2 e3
   subst e1
   obtain ⟨⟨bf', c'⟩, q1, q2⟩ := h7 i o hi
   obtain ⟨f1, f2, f3, f4⟩ := flat_at 1 os bs i o bf' c' hi q1
   rw [dLd_eq hw h2 f3] at hf
   injection hf with hf; injection hf with hf1 hf2 hf3 hf4 hf5
   subst hf1; subst hf4
   exact ⟨bs, e3, h2, h3, h4, h5, h6, q1, h7⟩
theorem nodup_get {l : List Nat} (h : l.Nodup) {i j : Nat} {x : Nat} (hi : l[i]? = some x) (hj : l[j]? = some x) : i = j := by
 obtain ⟨h1, h2⟩ := List.getElem?_eq_some_iff.1 hi
 obtain ⟨h3, h4⟩ := List.getElem?_eq_some_iff.1 hj
 have hp := List.pairwise_iff_getElem.1 h
 rcases Nat.lt_trichotomy i j with e | e | e
 · exact absurd (h2.trans h4.symm) (hp i j h1 h3 e)
 · exact e
 · exact absurd (h4.trans h2.symm) (hp j i h3 h1 e)
theorem ROs.setF {s s' : St} {FO : List Nat} {b n i bf : Nat} {c : Option Nat} {os : List O} {o : O} {k v : Int} (hw : Wf s) (h : ROs s FO (.slice b 0 n none 4) os) (hi : os[i]? = some o) (hf : ldP (.ptr b (4 * i + 2)) s = some (.slice bf 0 o.f.length c 1)) (f : Fr s s' [bf]) (hc : s'.cl bf = some ((o.f.map V.i).set k.toNat (.i v))) : ROs s' FO (.slice b 0 n none 4) (os.set i (o.setF k v)) := by
 obtain ⟨bs, rfl, h2, h3, h4, h5, h6, h8, h7⟩ := h.inv hw hi hf
 have hne : b ≠ bf := fun e => (List.nodup_cons.1 h6).1 (e ▸ List.mem_map.2 ⟨_, List.mem_of_getElem? h8, rfl⟩)
 have hfl := flat_set (o := o) (o' := o.setF k v) rfl (by simp [O.setF]) 1 os bs i hi h3
 obtain ⟨_, _, _, g4⟩ := flat_at 1 os bs i o bf c hi h8
 rw [show (o.setF k v).tag = o.tag from rfl, set_self g4] at hfl
 refine .inr ⟨b, bs, by simp, by rw [hfl]; exact f.cl hw h2 (by simpa using hne), by simp [h3], h4, h5, h6, fun j x hj => ?_⟩
 by_cases e : i = j
 · subst e
   rw [List.getElem?_set_self (List.getElem?_eq_some_iff.1 hi).1] at hj
   cases hj
   exact ⟨_, h8, by rw [hc]; simp only [O.setF]; rw [List.map_set]⟩
 · rw [List.getElem?_set_ne e] at hj
   obtain ⟨q, q1, q2⟩ := h7 j x hj
   refine ⟨q, q1, f.cl hw q2 ?_⟩
   simp only [List.mem_singleton]
   intro e2
   exact e (nodup_get (List.nodup_cons.1 h6).2 (x := bf) (by rw [List.getElem?_map, h8]; rfl) (by rw [List.getElem?_map, q1, ← e2]; rfl))
theorem ROs.setTag {s s' : St} {FO : List Nat} {b n i bf : Nat} {c : Option Nat} {os : List O} {o : O} {v : Int} (hw : Wf s) (h : ROs s FO (.slice b 0 n none 4) os) (hi : os[i]? = some o) (hf : ldP (.ptr b (4 * i + 2)) s = some (.slice bf 0 o.f.length c 1)) (f : Fr s s' [b]) (hc : ∀ L, s.cl b = some L → s'.cl b = some (L.set (4 * i + 3) (.i v))) : ROs s' FO (.slice b 0 n none 4) (os.set i (o.setTag v)) := by
 obtain ⟨bs, rfl, h2, h3, h4, h5, h6, h8, h7⟩ := h.inv hw hi hf
 have hfl := flat_set (o := o) (o' := o.setTag v) rfl rfl 1 os bs i hi h3
 refine .inr ⟨b, bs, by simp, by rw [hfl]; exact hc _ h2, by simp [h3], h4, h5, h6, fun j x hj => ?_⟩
 have hx : ∃ x', os[j]? = some x' ∧ x'.f = x.f := by
  by_cases e : i = j
  · subst e
    rw [List.getElem?_set_self (List.getElem?_eq_some_iff.1 hi).1] at hj
    cases hj
    exact ⟨o, hi, rfl⟩
  · rw [List.getElem?_set_ne e] at hj
    exact ⟨x, hj, rfl⟩
 obtain ⟨x', x1, x2⟩ := hx
 obtain ⟨q, q1, q2⟩ := h7 j x' x1
 rw [← x2]
 refine ⟨q, q1, f.cl hw q2 ?_⟩
 simp only [List.mem_singleton]
 intro e2
 exact (List.nodup_cons.1 h6).1 (e2 ▸ List.mem_map.2 ⟨_, List.mem_of_getElem? q1, rfl⟩)
section
variable {s : St} {rp : Nat} {w : Int} {os : List O} {shapes : List (List Bool)} {FO FS : List Nat} (H : RR s rp w os shapes FO FS)
include H
theorem RR.setTag (d : Nat) (r v : Int) :
 (at? os r = none → (K (d + 2)).call 39 [.ptr rp 0, .i r, .i v] s = some (.i 1, s)) ∧
 (∀ o, at? os r = some o → ∃ s', (K (d + 2)).call 39 [.ptr rp 0, .i r, .i v] s = some (.i 0, s') ∧ RR s' rp w (turn (O.setTag v) os (r - 1)) shapes FO FS ∧ Fr s s' FO ∧ s'.next = s.next) := by
 obtain ⟨f0, f1⟩ := H.find d r
 obtain ⟨lV, shV, h1, hO, hS⟩ := H.ex
 have hw := H.wf
 refine ⟨fun ho => ?_, fun o ho => ?_⟩
 · have e1 := f0 ho
   rw [op39]
   simp -implicitDefEqProofs (maxSteps := 5000000) (disch := first | assumption | omega | (simp only [dz, dl, Nat.zero_add, Nat.reduceAdd, Bool.and_self]; done) | (simp only [dl]; omega)) only [go_sem, e1]
 · obtain ⟨b, i, bf, c, e1, ob, oi, ol, oL⟩ := f1 o ho
   rw [dLd_at hw h1 (by simp)] at oL
   simp at oL; subst oL
   obtain ⟨bs, _, h2, h3, h4, h5, h6, h8, h7⟩ := hO.inv hw oi ob.f
   have hr := (lay_lt ho).1
   have hil := (List.getElem?_eq_some_iff.1 oi).1
   obtain ⟨s1, e2, c2, f2, n2⟩ := eSt_ex (s := s) (o := 4 * i + 3) (v := .i v) hw h2 (by rw [flat_len _ _ _ h3]; omega) rfl
   have hO2 := hO.setTag (v := v) hw oi ob.f f2 (fun L hL => by rw [h2] at hL; cases hL; exact c2)
   obtain ⟨t1, t2⟩ := turn_len (os := os) ho (O.setTag v) rfl
   refine ⟨s1, ?_, ⟨f2.wf, ⟨_, shV, f2.cl hw h1 (by simp; rintro rfl; exact H.nO h4), ?_, hS.fr hw f2 (by simp; rintro x hx rfl; exact H.nOS _ h4 hx)⟩, H.nO, H.nS, H.nOS, by rw [t1]; exact H.sz, H.w0, by rw [t1]; exact H.lw, by rw [n2]; exact H.ltO, by rw [n2]; exact H.ltS⟩, f2.mono (by simp; exact .inl h4), n2⟩
   · rw [op39]
     simp -implicitDefEqProofs (maxSteps := 5000000) (disch := first | assumption | omega | (simp only [dz, dl, Nat.zero_add, Nat.reduceAdd, Bool.and_self]; done) | (simp only [dl]; omega)) only [go_sem, e1, e2]
   · rw [turn_set _ oi (by omega)]; exact hO2
theorem RR.set (ok : ShOk os shapes) (d : Nat) (r k v : Int) :
 (getO os r k = none → (K (d + 3)).call 42 [.ptr rp 0, .i r, .i k, .i v] s = some (.i 1, s)) ∧
 (∀ x, getO os r k = some x → (refO os shapes r k && !(decide (v = 0) || (at? os v).isSome)) = true → (K (d + 3)).call 42 [.ptr rp 0, .i r, .i k, .i v] s = some (.i 20, s)) ∧
 (∀ x, getO os r k = some x → (refO os shapes r k && !(decide (v = 0) || (at? os v).isSome)) = false → ∃ s', (K (d + 3)).call 42 [.ptr rp 0, .i r, .i k, .i v] s = some (.i 0, s') ∧ RR s' rp w (turn (O.setF k v) os (r - 1)) shapes FO FS ∧ Fr s s' FO ∧ s'.next = s.next) := by
 obtain ⟨f0, f1⟩ := H.find (d + 1) r
 obtain ⟨v0, v1⟩ := H.find (d + 1) v
 have er := H.isRef ok d r k
 obtain ⟨lV, shV, h1, hO, hS⟩ := H.ex
 have hw := H.wf
 have hw0 := H.w0
 have hlw := H.lw
 have hv : ∀ o, at? os v = some o → 1 ≤ v ∧ v ≤ 16384 := fun o ho => by have := lay_lt ho; have := o.n_pos; omega
 refine ⟨fun ho => ?_, fun x ho hc => ?_, fun x ho hc => ?_⟩
 · rw [op42]
   unfold getO at ho
   cases hq : at? os r with
   | none =>
     have e1 := f0 hq
     simp -implicitDefEqProofs (maxSteps := 5000000) (disch := first | assumption | omega | (simp only [dz, dl, Nat.zero_add, Nat.reduceAdd, Bool.and_self]; done) | (simp only [dl]; omega)) only [go_sem, e1]
   | some o =>
     obtain ⟨b, i, bf, c, e1, ob, oi, ol, oL⟩ := f1 o hq
     have e2 := ob.f
     rw [hq] at ho
     simp only at ho
     by_cases c0 : k < 0
     · simp -implicitDefEqProofs (maxSteps := 5000000) (disch := first | assumption | omega | (simp only [dz, dl, Nat.zero_add, Nat.reduceAdd, Bool.and_self]; done) | (simp only [dl]; omega)) only [go_sem, e1, e2, c0]
     · have c1 : (o.f.length : Int) ≤ k := by
        rw [if_pos (by omega)] at ho
        have := List.getElem?_eq_none_iff.1 ho; omega
       simp -implicitDefEqProofs (maxSteps := 5000000) (disch := first | assumption | omega | (simp only [dz, dl, Nat.zero_add, Nat.reduceAdd, Bool.and_self]; done) | (simp only [dl]; omega)) only [go_sem, e1, e2, c0, c1]
 · obtain ⟨o, q1, q2, q3, q4⟩ := getO_some ho
   obtain ⟨b, i, bf, c, e1, ob, oi, ol, oL⟩ := f1 o q1
   have e2 := ob.f
   have c0 : ¬ k < 0 := by omega
   have c1 : ¬ (o.f.length : Int) ≤ k := by omega
   rw [Bool.and_eq_true, Bool.not_eq_true', Bool.or_eq_false_iff] at hc
   obtain ⟨x1, x2, x3⟩ := hc
   rw [x1] at er
   have x2 : ¬ v = 0 := by simpa using x2
   have x3 : at? os v = none := by simpa using x3
   have e3 := v0 x3
   rw [op42]
   by_cases d0 : v < 0
   · simp -implicitDefEqProofs (maxSteps := 5000000) (disch := first | assumption | omega | (simp only [dz, dl, Nat.zero_add, Nat.reduceAdd, Bool.and_self]; done) | (simp only [dl]; omega)) only [go_sem, e1, e2, c0, c1, er, x2, d0]
   · by_cases d1 : 16384 < v
     · simp -implicitDefEqProofs (maxSteps := 5000000) (disch := first | assumption | omega | (simp only [dz, dl, Nat.zero_add, Nat.reduceAdd, Bool.and_self]; done) | (simp only [dl]; omega)) only [go_sem, e1, e2, c0, c1, er, x2, d0, d1]
     · simp -implicitDefEqProofs (maxSteps := 5000000) (disch := first | assumption | omega | (simp only [dz, dl, Nat.zero_add, Nat.reduceAdd, Bool.and_self]; done) | (simp only [dl]; omega)) only [go_sem, e1, e2, c0, c1, er, x2, d0, d1, e3]
 · obtain ⟨o, q1, q2, q3, q4⟩ := getO_some ho
   obtain ⟨b, i, bf, c, e1, ob, oi, ol, oL⟩ := f1 o q1
   rw [dLd_at hw h1 (by simp)] at oL
   simp at oL; subst oL
   have e2 := ob.f
   have c0 : ¬ k < 0 := by omega
   have c1 : ¬ (o.f.length : Int) ≤ k := by omega
   have hr := (lay_lt q1).1
   have hi2 : bIdx 1 (.slice bf 0 o.f.length c 1) (.i k) = some (.ptr bf k.toNat) := by rw [bIdx1_eq q2 q3, Nat.zero_add]
   obtain ⟨s1, e4, c2, f2, n2⟩ := eSt_ex (s := s) (o := k.toNat) (v := .i v) hw ob.cl (by simp; omega) rfl
   have hO2 := hO.setF (v := v) hw oi ob.f f2 c2
   obtain ⟨t1, t2⟩ := turn_len (os := os) q1 (O.setF k v) (by simp [O.setF])
   refine ⟨s1, ?_, ⟨f2.wf, ⟨_, shV, f2.cl hw h1 (by simp; rintro rfl; exact H.nO ob.mf), ?_, hS.fr hw f2 (by simp; rintro x hx rfl; exact H.nOS _ ob.mf hx)⟩, H.nO, H.nS, H.nOS, by rw [t1]; exact H.sz, H.w0, by rw [t1]; exact H.lw, by rw [n2]; exact H.ltO, by rw [n2]; exact H.ltS⟩, f2.mono (by simp; exact .inl ob.mf), n2⟩
   · rw [op42]
     cases hre : refO os shapes r k with
     | false =>
       rw [hre] at er
       simp -implicitDefEqProofs (maxSteps := 5000000) (disch := first | assumption | omega | (simp only [dz, dl, Nat.zero_add, Nat.reduceAdd, Bool.and_self]; done) | (simp only [dl]; omega)) only [go_sem, e1, e2, c0, c1, er, hi2, e4]
     | true =>
       rw [hre] at er hc
       by_cases x2 : v = 0
       · subst x2
         simp -implicitDefEqProofs (maxSteps := 5000000) (disch := first | assumption | omega | (simp only [dz, dl, Nat.zero_add, Nat.reduceAdd, Bool.and_self]; done) | (simp only [dl]; omega)) only [go_sem, e1, e2, c0, c1, er, hi2, e4]
       · cases hat : at? os v with
         | none => rw [hat] at hc; simp [x2] at hc
         | some o2 =>
           obtain ⟨d0, d1⟩ := hv o2 hat
           obtain ⟨b2, i2, bf2, cc2, e3, _⟩ := v1 o2 hat
           have d0 : ¬ v < 0 := by omega
           have d1 : ¬ 16384 < v := by omega
           simp -implicitDefEqProofs (maxSteps := 5000000) (disch := first | assumption | omega | (simp only [dz, dl, Nat.zero_add, Nat.reduceAdd, Bool.and_self]; done) | (simp only [dl]; omega)) only [go_sem, e1, e2, c0, c1, er, x2, d0, d1, e3, hi2, e4]
   · rw [turn_set _ oi (by omega)]; exact hO2
end
end
end Go.Proofs.YtgkcpceppmppfaaLab
namespace Go.Proofs.YtgkcpceppmppfaaLab
open Go
set_option linter.all false
set_option maxRecDepth 10000
noncomputable section
theorem BL.sl {s : St} {F : List Nat} {v : V} {l : List Bool} (hw : Wf s) (h : BL s F v l) : SL s v (l.map .bool) := by
 rcases h with ⟨rfl, h⟩ | ⟨b, o, c, M, rfl, h2, h3, h4, h5⟩
 · exact .inl ⟨rfl, h⟩
 · have := SL.of (c := c) (l := l.map V.bool) hw h3 (by simpa using h4) (fun i hi => by rw [List.getElem?_map]; exact h5 i (by simpa using hi))
   rwa [List.length_map] at this
theorem ShR.at {s : St} {F : List Nat} {sh : V} {shapes : List (List Bool)} (hw : Wf s) (h : ShR s F sh shapes) {i : Nat} {l : List Bool} (hi : shapes[i]? = some l) : ∃ q v, bIdx 1 sh (.i (i : Nat)) = some q ∧ ldP q s = some v ∧ SL s v (l.map .bool) := by
 have hlt := (List.getElem?_eq_some_iff.1 hi).1
 rcases h with ⟨h0', rfl⟩ | ⟨b, L, F0, rfl, a2, a3, a4, a5, a7, a8, a6⟩
 · rw [h0'] at hlt; simp at hlt
 · obtain ⟨v, b1, b2⟩ := a6 _ _ hi
   refine ⟨_, v, bIdx1_eq (by omega) (by omega), ?_, b2.sl hw⟩
   rw [Nat.zero_add]; exact dLd_eq hw a3 b1
theorem new_ref {s : St} (hw : Wf s) (d : Nat) (w : Int) (h1 : 1 ≤ w) (h2 : w ≤ 16384) : ∃ s', (K (d + 1)).call 32 [.i w] s = some (.ptr s.next 0, s') ∧ RR s' s.next w [] [] [] [] ∧ Fr s s' [] ∧ s'.next = s.next + 1 := by
 obtain ⟨s1, e1, c1, f1, n1⟩ := new_ex (s := s) (l := [V.i w, .nils, .nils]) (n := 3) hw rfl
 refine ⟨s1, ?_, ⟨f1.wf, ⟨_, _, c1, .inl ⟨rfl, rfl⟩, .inl ⟨rfl, rfl⟩⟩, by simp, by simp, by simp, by simp [lay], by omega, by simp [lay]; omega, by simp, by simp⟩, f1, n1⟩
 rw [op32]
 simp -implicitDefEqProofs (maxSteps := 5000000) (disch := first | assumption | omega | (simp only [dz, dl, Nat.zero_add, Nat.reduceAdd, Bool.and_self]; done) | (simp only [dl]; omega)) only [go_sem, e1]
section
variable {s : St} {rp : Nat} {w : Int} {os : List O} {shapes : List (List Bool)} {FO FS : List Nat} (H : RR s rp w os shapes FO FS)
include H
theorem RR.shapeN {v : V} {l : List Bool} (h : SL s v (l.map .bool)) (hb : l.length ≤ 100000) (hsh : shapes.length ≤ 100000) (d : Nat) :
 Ret ((K (d + 1)).call 34 [.ptr rp 0, v] s) fun r s' => match idxL l shapes with
  | some i => r = .i (i : Nat) ∧ s' = s
  | none => r = .i (shapes.length : Nat) ∧ ∃ FS', RR s' rp w os (shapes ++ [l]) FO FS' ∧ (∀ b ∈ FS', b ∈ FS ∨ s.next ≤ b) ∧ Fr s s' (rp :: FS) := by
 obtain ⟨lV, sh, h1, hO, hS⟩ := H.ex
 have hw := H.wf
 have eS := hS.len
 have hlen := h.len
 rw [List.length_map] at hlen
 simp -implicitDefEqProofs (maxSteps := 5000000) (disch := first | assumption | omega | (simp only [dz, dl, Nat.zero_add, Nat.reduceAdd, Bool.and_self]; done) | (simp only [dl]; omega)) only [op34, go_sem, fAdd_eq]
 refine loop_at (Q := fun r => Ret (retR _ (seqR (blkR 0 r) _)) _) (fun m e t => ∃ j : Nat, m = shapes.length - j ∧ j ≤ shapes.length ∧ s = t ∧ idxL l shapes = (idxL l (shapes.drop j)).map (· + j) ∧ g0 e = .ptr rp 0 ∧ g1 e = v ∧ g5 e = .i j) ?_ (n := shapes.length) (by omega) ⟨0, by omega, by omega, rfl, by simp, (by first | trivial | rfl | assumption), (by first | trivial | rfl | assumption), (by first | trivial | rfl | assumption)⟩
 rintro m e t ⟨j, rfl, hj, rfl, hi, i0, i1, i5⟩
 replace i0 : e.a0.a0 = _ := i0
 replace i1 : e.a0.a1 = _ := i1
 replace i5 : e.a0.a5 = _ := i5
 by_cases c : (j : Int) < ((shapes.length : Nat) : Int)
 · have hoj : shapes[j]? = some shapes[j] := List.getElem?_eq_getElem (by omega)
   obtain ⟨q, v2, a1, a2, hv2⟩ := hS.at hw hoj
   have hl2 := hv2.len
   rw [List.length_map] at hl2
   have hd : shapes.drop j = shapes[j] :: shapes.drop (j + 1) := List.drop_eq_getElem_cons (by omega)
   rw [hd] at hi
   generalize shapes[j] = l2 at *
   simp -implicitDefEqProofs (maxSteps := 5000000) (disch := first | assumption | omega | (simp only [dz, dl, Nat.zero_add, Nat.reduceAdd, Bool.and_self]; done) | (simp only [dl]; omega)) only [go_sem, fAdd_eq, i0, i1, i5, c, dLd_at hw h1, eS, a1, a2, hl2, hlen]
   refine loop_at (Q := fun r => rnd (seqR (blkR 1 (seqR (blkR 2 r) _)) _) _ _) (fun m e t => ∃ k : Nat, m = l.length - k ∧ k ≤ l.length ∧ s = t ∧ (∃ b : Bool, g6 e = .bool b ∧ (b = true → l2.length = l.length ∧ l.take k = l2.take k) ∧ (b = false → l ≠ l2)) ∧ g0 e = .ptr rp 0 ∧ g1 e = v ∧ g5 e = .i j ∧ g7 e = .i k) ?_ (n := l.length) (by omega) ⟨0, by omega, by omega, rfl, ⟨_, rfl, by simp; omega, by simp; rintro hh rfl; exact hh rfl⟩, (by first | trivial | rfl | assumption), (by first | trivial | rfl | assumption), (by first | trivial | rfl | assumption), (by first | trivial | rfl | assumption)⟩
   rintro m e t ⟨k, rfl, hk, rfl, ⟨b, i6, hb1, hb2⟩, i0, i1, i5, i7⟩
   replace i0 : e.a0.a0 = _ := i0
   replace i1 : e.a0.a1 = _ := i1
   replace i5 : e.a0.a5 = _ := i5
   replace i6 : e.a0.a6 = _ := i6
   replace i7 : e.a0.a7 = _ := i7
   cases b with
   | false =>
     have hne := hb2 rfl
     simp -implicitDefEqProofs (maxSteps := 5000000) (disch := first | assumption | omega | (simp only [dz, dl, Nat.zero_add, Nat.reduceAdd, Bool.and_self]; done) | (simp only [dl]; omega)) only [go_sem, fAdd_eq, i0, i1, i5, i6, i7, dLd_at hw h1]
     refine ⟨shapes.length - (j + 1), by omega, j + 1, rfl, by omega, trivial, ?_, (by first | trivial | rfl | assumption), (by first | trivial | rfl | assumption), (by first | trivial | rfl | assumption)⟩
     rw [hi]
     show (if l = l2 then some 0 else (idxL l (shapes.drop (j + 1))).map (· + 1)).map (· + j) = _
     rw [if_neg hne]
     cases idxL l (shapes.drop (j + 1)) with
     | none => rfl
     | some n => simp; omega
   | true =>
     obtain ⟨q1, q2⟩ := hb1 rfl
     by_cases c2 : (k : Int) < ((l.length : Nat) : Int)
     · have hk2 : k < l.length := by omega
       have hk3 : k < l2.length := by omega
       obtain ⟨p1, x1, y1⟩ := h.at hw (j := k) (x := .bool l[k]) (by simp [hk2])
       obtain ⟨p2, x2, y2⟩ := hv2.at hw (j := k) (x := .bool l2[k]) (by simp [hk3])
       simp -implicitDefEqProofs (maxSteps := 5000000) (disch := first | assumption | omega | (simp only [dz, dl, Nat.zero_add, Nat.reduceAdd, Bool.and_self]; done) | (simp only [dl]; omega)) only [go_sem, fAdd_eq, i0, i1, i5, i6, i7, dLd_at hw h1, hlen, c2, a1, a2, x1, y1, x2, y2]
       refine ⟨l.length - (k + 1), by omega, k + 1, rfl, by omega, trivial, ⟨_, rfl, ?_, ?_⟩, (by first | trivial | rfl | assumption), (by first | trivial | rfl | assumption), (by first | trivial | rfl | assumption), (by first | trivial | rfl | assumption)⟩
       · intro hh
         simp at hh
         refine ⟨q1, ?_⟩
         rw [List.take_succ, List.take_succ, q2]; simp [hk2, hk3, hh]
       · intro hh
         simp at hh
         rintro rfl
         exact hh rfl
     · have : k = l.length := by omega
       subst this
       have he : l = l2 := by
        rw [List.take_length, ← q1, List.take_length] at q2
        exact q2
       have hi2 : idxL l shapes = some j := by
        rw [hi]
        show (if l = l2 then some 0 else (idxL l (shapes.drop (j + 1))).map (· + 1)).map (· + j) = _
        rw [if_pos he]; simp
       simp -implicitDefEqProofs (maxSteps := 5000000) (disch := first | assumption | omega | (simp only [dz, dl, Nat.zero_add, Nat.reduceAdd, Bool.and_self]; done) | (simp only [dl]; omega)) only [go_sem, fAdd_eq, i0, i1, i5, i6, i7, dLd_at hw h1, hlen, c2]
       rw [hi2]
       exact ⟨(by first | trivial | rfl | assumption), (by first | trivial | rfl | assumption)⟩
 · have : j = shapes.length := by omega
   subst this
   rw [List.drop_length] at hi
   have hi2 : idxL l shapes = none := by rw [hi]; rfl
   rw [hi2]
   obtain ⟨s1, e1, c1, f1, n1⟩ := new_ex (s := s) (l := []) (n := 0) hw rfl
   have hv1 := h.fr hw f1 (by simp)
   have e0 : ∀ id, bslP 0 1 [] [] id = some (.slice id 0 0 (some 0) 1, .cells 0 (ofL [])) := fun id => rfl
   have hy := hv1.src (fun x hx => by obtain ⟨a, _, rfl⟩ := List.mem_map.1 hx; rfl) (by simp; omega)
   rw [List.length_map] at hy
   obtain ⟨s2, b, cc, e2, cb, hnb, f2⟩ : ∃ s2 b cc, apP 1 (.slice s.next 0 0 (some 0) 1) v s1 = some (.slice b 0 l.length cc 1, s2) ∧ s2.cl b = some (l.map .bool) ∧ s.next ≤ b ∧ Fr s1 s2 [] := by
    by_cases hl : l = []
    · subst hl
      exact ⟨s1, _, _, eAp_zero (b := s.next) (o := 0) (len := 0) (cap := some 0) hy (by omega), c1, Nat.le_refl _, Fr.refl f1.wf _⟩
    · have hpos : 0 < l.length := by cases l; exact absurd rfl hl; simp
      obtain ⟨s2, e2, c2, f2, n2⟩ := eAp_grow (es := 1) (b := s.next) (o := 0) (len := 0) (c := 0) f1.wf hy hpos (by omega) (by omega) c1 (by simp)
      rw [Nat.zero_add] at e2
      exact ⟨s2, _, _, e2, by rw [c2]; simp, by omega, f2⟩
   have f12 := f1.trans f2
   obtain ⟨L, F0, hG, hL1, hLl, hF0, hF1, hLe⟩ : ∃ L F0, GL s sh L ∧ (∀ v ∈ L, v.one = true) ∧ L.length = shapes.length ∧ (∀ x ∈ F0, x ∈ FS) ∧ (∀ x ∈ F0, x ∉ blkV sh) ∧ ∀ (i : Nat) l, shapes[i]? = some l → ∃ v, L[i]? = some v ∧ BL s F0 v l := by
    rcases hS with ⟨rfl, rfl⟩ | ⟨b, L, F0, rfl, a2, a3, a4, a5, a7, a8, a6⟩
    · exact ⟨[], [], .inl ⟨rfl, rfl⟩, by simp, rfl, by simp, by simp, by simp⟩
    · exact ⟨L, F0, .inr ⟨b, by rw [a4], a3⟩, a5, a4, a7, fun x hx => by simp [blkV]; rintro rfl; exact a8 hx, a6⟩
   have hshF : ∀ b ∈ blkV sh, b ∈ FS := by
    rcases hS with ⟨rfl, rfl⟩ | ⟨b, L, _, rfl, a2, _⟩
    · simp [blkV]
    · simp [blkV]; exact a2
   have hsame : sameV 100 sh sh = true := by
    rcases hS with ⟨rfl, rfl⟩ | ⟨b, L, _, rfl, a2, _⟩
    · rfl
    · exact same_slice _ _ _ _ _
   have hrp := cl_lt hw h1
   obtain ⟨s3, s4, e3, e4, hG4, f4, n4⟩ := (hG.fr hw f12 (by simp)).pushW f2.wf (x := .slice b 0 l.length cc 1) rfl hL1 (by omega)
   rw [hLl] at e4 hG4
   have h1s1 := f1.cl hw h1 (by simp)
   have h1s2 := f12.cl hw h1 (by simp)
   have h14 := f4.cl f2.wf h1s2 (fun hx => H.nS (hshF _ hx))
   obtain ⟨s5, e5, c5, f5, n5⟩ := eSt_ex (s := s4) (o := 2) (v := .slice (s2.next + 1) 0 (shapes.length + 1) none 1) f4.wf h14 (by simp) rfl
   simp only [List.set_cons_succ, List.set_cons_zero] at c5
   have nx1 := f1.nx
   have nx2 := f2.nx
   have hb2 := cl_lt f2.wf cb
   have F05 : Fr s s5 (rp :: FS) := (f12.mono (by simp)).trans ((f4.mono (fun b hb' => .inl (by simp [hshF b hb']))).trans (f5.mono (by simp)))
   have eN : uLenS (.slice (s2.next + 1) 0 (shapes.length + 1) none 1) = some (.i ((shapes.length + 1 : Nat) : Int)) := rfl
   simp -implicitDefEqProofs (maxSteps := 5000000) (disch := first | assumption | omega | (simp only [dz, dl, Nat.zero_add, Nat.reduceAdd, Bool.and_self]; done) | (simp only [dl]; omega)) only [go_sem, fAdd_eq, i0, i1, i5, c, dLd_at hw h1, dLd_at f1.wf h1s1, dLd_at f2.wf h1s2, dLd_at f5.wf c5, eS, e0, e1, e2, e3, e4, e5, hsame, eN]
   refine ⟨by congr 1; omega, (s2.next + 1) :: b :: FS, ⟨f5.wf, ⟨lV, _, c5, hO.fr hw F05 ?_, ?_⟩, H.nO, ?_, ?_, H.sz, H.w0, H.lw, fun x hx => Nat.lt_of_lt_of_le (H.ltO x hx) F05.nx, ?_⟩, ?_, F05⟩
   · intro x hx
     simp only [List.mem_cons]
     rintro (rfl | hh)
     · exact H.nO hx
     · exact H.nOS _ hx hh
   · have c4 : s4.cl (s2.next + 1) = some (L ++ [.slice b 0 l.length cc 1]) := by
      rcases hG4 with ⟨h0, _⟩ | ⟨b, hb0, hb1⟩
      · simp at h0
      · injection hb0 with hb0; rw [hb0]; exact hb1
     refine .inr ⟨s2.next + 1, L ++ [.slice b 0 l.length cc 1], b :: F0, by simp, by simp, f5.cl f4.wf c4 (by simp; omega), by simp [hLl], ?_, ?_, ?_, fun i x hx => ?_⟩
     · intro y hy; rcases List.mem_append.1 hy with hy | hy
       · exact hL1 y hy
       · simp at hy; subst hy; rfl
     · intro y hy; rcases List.mem_cons.1 hy with hy | hy
       · simp [hy]
       · simp [hF0 y hy]
     · intro hm'; rcases List.mem_cons.1 hm' with hy | hy
       · omega
       · have := H.ltS _ (hF0 _ hy); omega
     · by_cases hi' : i < shapes.length
       · rw [List.getElem?_append_left hi'] at hx
         obtain ⟨y, b1, b2⟩ := hLe i x hx
         refine ⟨y, by rw [List.getElem?_append_left (by omega)]; exact b1, ?_⟩
         have g2' := b2.fr hw f12 (fun b hb' => by simp)
         have g4' := g2'.fr f2.wf f4 hF1
         exact (g4'.fr f4.wf f5 (fun b hb' => by simp; rintro rfl; exact H.nS (hF0 _ hb'))).sub (fun b hb' => by simp [hb'])
       · rw [List.getElem?_append_right (by omega)] at hx
         have : i = shapes.length := by have := (List.getElem?_eq_some_iff.1 hx).1; simp at this; omega
         subst this
         simp at hx; subst hx
         refine ⟨.slice b 0 l.length cc 1, by rw [List.getElem?_append_right (by omega)]; simp [hLl], ?_⟩
         have g4' := f4.cl f2.wf cb (fun hh => by have := H.ltS _ (hshF _ hh); omega)
         have g5' := f5.cl f4.wf g4' (by simp; omega)
         exact .inr ⟨b, 0, cc, _, rfl, by simp, g5', by simp, fun k hk => by rw [Nat.zero_add, List.getElem?_map]⟩
   · simp only [List.mem_cons]
     rintro (hh | hh | hh)
     · omega
     · omega
     · exact H.nS hh
   · intro x hx
     have := H.ltO x hx
     simp only [List.mem_cons]
     rintro (hh | hh | hh)
     · omega
     · omega
     · exact H.nOS x hx hh
   · intro x hx
     have := F05.nx
     simp only [List.mem_cons] at hx
     rcases hx with rfl | rfl | hx
     · omega
     · omega
     · have := H.ltS x hx; omega
   · intro x hx
     simp only [List.mem_cons] at hx
     rcases hx with rfl | rfl | hx
     · right; omega
     · right; omega
     · exact .inl hx
end
end
end Go.Proofs.YtgkcpceppmppfaaLab
namespace Go.Proofs.YtgkcpceppmppfaaLab
open Go
set_option linter.all false
noncomputable section
def refB (shapes : List (List Bool)) (o : O) (k : Nat) : Bool := if o.shape = -2 then true else if o.shape = -1 then false else ((shapes[o.shape.toNat]?.bind fun l => l[k]?).getD false)
theorem refO_at {os : List O} {shapes : List (List Bool)} {r : Int} {o : O} (h : at? os r = some o) {k : Nat} (hk : k < o.f.length) : refO os shapes r (k : Int) = refB shapes o k := by
 unfold refO refB
 rw [h]; simp only
 rw [if_pos ⟨by omega, by omega⟩, Int.toNat_natCast]
def objs (os : List O) (keep : List Int) : List O := keep.filterMap (at? os)
structure Kept (os : List O) (keep : List Int) : Prop where
 inn : ∀ r ∈ keep, (at? os r).isSome
 asc : keep.Pairwise (· < ·)
def Clo (os : List O) (shapes : List (List Bool)) (keep l : List Int) : Prop := ∀ r ∈ l, ∀ o, at? os r = some o → ∀ (k : Nat) (x : Int), o.f[k]? = some x → refB shapes o k = true → x = 0 ∨ x ∈ keep
def tos (os : List O) (keep : List Int) : List Int := starts 1 (objs os keep)
def mv (os : List O) (keep : List Int) (x : Int) : Int := if x = 0 then 0 else match idxI x keep with | some i => ((tos os keep)[i]?).getD 0 | none => 0
def mvF (os : List O) (shapes : List (List Bool)) (keep : List Int) (o : O) (k : Nat) (x : Int) : Int := if refB shapes o k then mv os keep x else x
def mvO (os : List O) (shapes : List (List Bool)) (keep : List Int) (o : O) : O := ⟨o.shape, o.tag, o.f.mapIdx (mvF os shapes keep o)⟩
def slid (os : List O) (shapes : List (List Bool)) (keep : List Int) : List O := (objs os keep).map (mvO os shapes keep)
def part (os : List O) (shapes : List (List Bool)) (keep : List Int) (o : O) (k : Nat) : List Int := (mvO os shapes keep o).f.take k ++ o.f.drop k
section
variable {os : List O} {shapes : List (List Bool)} {keep : List Int} {o : O} {k : Nat} {r r' : Int}
theorem look_app : ∀ (pre post : List O) (r : Int), ((lay pre).length : Int) ≤ r → look (pre ++ post) r = look post (r - ((lay pre).length : Nat))
 | [], post, r, h => by simp [lay]
 | x :: pre, post, r, h => by
   have := x.n_pos
   simp only [lay, List.length_append, O.ws_len] at h
   simp only [List.cons_append, look, lay, List.length_append, O.ws_len]
   rw [if_neg (by omega), look_app pre post _ (by omega)]
   congr 1; omega
theorem at_lt {o' : O} (h : at? os r = some o) (h' : at? os r' = some o') (hl : r < r') : r + (o.n : Nat) ≤ r' := by
 obtain ⟨pre, post, rfl, h1⟩ := look_split h
 unfold at? at h'
 rw [look_app _ _ _ (by omega)] at h'
 unfold look at h'
 rw [if_neg (by omega)] at h'
 by_cases c : r' - 1 - ((lay pre).length : Nat) - (o.n : Nat) < 0
 · rw [look_neg _ _ c] at h'; cases h'
 · omega
theorem objs_append (a b : List Int) : objs os (a ++ b) = objs os a ++ objs os b := by simp [objs]
theorem objs_one (h : at? os r = some o) : objs os [r] = [o] := by simp [objs, h]
theorem objs_len (h : ∀ r ∈ keep, (at? os r).isSome) : (objs os keep).length = keep.length := by
 induction keep with
 | nil => rfl
 | cons x l ih =>
   obtain ⟨o, ho⟩ := Option.isSome_iff_exists.1 (h x (by simp))
   have he : objs os (x :: l) = o :: objs os l := by simp [objs, ho]
   rw [he, List.length_cons, List.length_cons, ih fun r hr => h r (by simp [hr])]
theorem take_snoc {α : Type} {l : List α} {i : Nat} {x : α} (h : l[i]? = some x) : l.take (i + 1) = l.take i ++ [x] := by rw [List.take_succ, h]; rfl
theorem starts_get : ∀ (l : List O) (a i : Nat), i < l.length → (starts a l)[i]? = some ((a + (lay (l.take i)).length : Nat) : Int)
 | [], a, i, h => by simp at h
 | x :: l, a, 0, h => by simp [starts, lay]
 | x :: l, a, i + 1, h => by
   simp only [starts, List.getElem?_cons_succ, List.take_succ_cons, lay, List.length_append, O.ws_len]
   rw [starts_get l (a + x.n) i (by simpa using h)]
   congr 2; omega
theorem Kept.nil : Kept os [] := ⟨by simp, List.Pairwise.nil⟩
theorem Kept.take (h : Kept os keep) (i : Nat) : Kept os (keep.take i) := ⟨fun r hr => h.inn r (List.mem_of_mem_take hr), h.asc.sublist (List.take_sublist _ _)⟩
theorem Kept.get (h : Kept os keep) {i j : Nat} {x y : Int} (hi : keep[i]? = some x) (hj : keep[j]? = some y) (hij : i < j) : x < y := by
 obtain ⟨h1, rfl⟩ := List.getElem?_eq_some_iff.1 hi
 obtain ⟨h2, rfl⟩ := List.getElem?_eq_some_iff.1 hj
 exact List.pairwise_iff_getElem.1 h.asc i j h1 h2 hij
theorem Kept.snoc (h : Kept os keep) (ho : at? os r = some o) (hl : ∀ x, keep.getLast? = some x → x < r) : Kept os (keep ++ [r]) := by
 refine ⟨fun x hx => ?_, ?_⟩
 · rcases List.mem_append.1 hx with hx | hx
   · exact h.inn x hx
   · simp at hx; subst hx; rw [ho]; rfl
 · rw [List.pairwise_append]
   refine ⟨h.asc, List.pairwise_singleton _ _, fun x hx y hy => ?_⟩
   simp at hy; subst hy
   cases hlast : keep.getLast? with
   | none => rw [List.getLast?_eq_none_iff] at hlast; subst hlast; simp at hx
   | some z =>
     have hz := hl z hlast
     obtain ⟨i, hi, rfl⟩ := List.getElem_of_mem hx
     rw [List.getLast?_eq_getElem?] at hlast
     by_cases e : i = keep.length - 1
     · subst e; rw [List.getElem?_eq_getElem hi] at hlast; cases hlast; exact hz
     · have := h.get (List.getElem?_eq_getElem hi) hlast (by omega)
       omega
theorem Kept.le (h : Kept os keep) : ∀ (i : Nat) (r : Int), keep[i]? = some r → ((1 + (lay (objs os (keep.take i))).length : Nat) : Int) ≤ r
 | 0, r, hr => by
   obtain ⟨o, ho⟩ := Option.isSome_iff_exists.1 (h.inn r (List.mem_of_getElem? hr))
   have := (lay_lt ho).1
   simp [objs, lay]; omega
 | i + 1, r, hr => by
   have hi := (List.getElem?_eq_some_iff.1 hr).1
   have hp : keep[i]? = some keep[i] := List.getElem?_eq_getElem (by omega)
   have ih := h.le i _ hp
   obtain ⟨o, ho⟩ := Option.isSome_iff_exists.1 (h.inn _ (List.mem_of_getElem? hp))
   obtain ⟨o', ho'⟩ := Option.isSome_iff_exists.1 (h.inn _ (List.mem_of_getElem? hr))
   have := at_lt ho ho' (h.get hp hr (by omega))
   rw [take_snoc hp, objs_append, objs_one ho, lay_append, List.length_append]
   simp only [lay, List.append_nil, O.ws_len]
   omega
theorem Kept.fits (h : Kept os keep) : (lay (objs os keep)).length ≤ (lay os).length := by
 by_cases e : keep = []
 · subst e; simp [objs, lay]
 · have hl : 0 < keep.length := by cases keep; exact absurd rfl e; simp
   have hp : keep[keep.length - 1]? = some keep[keep.length - 1] := List.getElem?_eq_getElem (by omega)
   have h1 := h.le _ _ hp
   obtain ⟨o, ho⟩ := Option.isSome_iff_exists.1 (h.inn _ (List.mem_of_getElem? hp))
   have h2 := lay_lt ho
   have e2 : objs os keep = objs os (keep.take (keep.length - 1)) ++ [o] := by
    rw [← objs_one ho, ← objs_append, ← take_snoc hp, show keep.length - 1 + 1 = keep.length by omega, List.take_length]
   rw [e2, lay_append, List.length_append]
   simp only [lay, List.append_nil, O.ws_len]
   omega
theorem idxI_get : ∀ {l : List Int} {x : Int} {i : Nat}, idxI x l = some i → l[i]? = some x
 | [], x, i, h => by cases h
 | y :: l, x, i, h => by
   unfold idxI at h
   split at h
   · rename_i e; cases h; rw [e]; rfl
   · cases hq : idxI x l with
     | none => rw [hq] at h; cases h
     | some m => rw [hq] at h; cases h; simpa using idxI_get hq
theorem idxI_none : ∀ {l : List Int} {x : Int}, idxI x l = none → x ∉ l
 | [], x, _ => by simp
 | y :: l, x, h => by
   unfold idxI at h
   split at h
   · cases h
   · rename_i e
     cases hq : idxI x l with
     | none => simp only [List.mem_cons, not_or]; exact ⟨fun e' => e e'.symm, idxI_none hq⟩
     | some m => rw [hq] at h; cases h
theorem hasI_neg {l : List Int} {x : Int} : hasI l x < 0 ↔ x ∉ l := by
 unfold hasI
 cases hq : idxI x l with
 | none => simp [idxI_none hq]
 | some i =>
   have := List.mem_of_getElem? (idxI_get hq)
   simp only [this, not_true_eq_false, iff_false]; omega
end
end
end Go.Proofs.YtgkcpceppmppfaaLab
namespace Go.Proofs.YtgkcpceppmppfaaLab
open Go
set_option linter.all false
set_option maxRecDepth 10000
noncomputable section
theorem ObP.getN {s : St} {FO : List Nat} {o : O} {a b i bf k : Nat} {c : Option Nat} {x : Int} (hw : Wf s) (ob : ObP s FO o a b i bf c) (h : o.f[k]? = some x) : bIdx 1 (.slice bf 0 o.f.length c 1) (.i (k : Nat)) = some (.ptr bf k) ∧ ldP (.ptr bf k) s = some (.i x) := by
 have hk := (List.getElem?_eq_some_iff.1 h).1
 refine ⟨by rw [bIdx1_eq (by omega) (by omega), Nat.zero_add, Int.toNat_natCast], dLd_eq hw ob.cl ?_⟩
 rw [List.getElem?_map, h]; rfl
def SlideQ (s : St) (rp : Nat) (w : Int) (os : List O) (shapes : List (List Bool)) (FO FS : List Nat) (keep : List Int) (r : V) (s' : St) : Prop :=
 (¬ (Kept os keep ∧ Clo os shapes keep keep) → r = .tup [.nils, .i 1] ∧ s' = s) ∧
 (Kept os keep ∧ Clo os shapes keep keep → ∃ tv FO', r = .tup [tv, .i 0] ∧ GL s' tv ((tos os keep).map .i) ∧ RR s' rp w (slid os shapes keep) shapes FO' FS ∧ (∀ b ∈ FO', s.next ≤ b) ∧ Fr s s' [rp] ∧ ∀ b ∈ blkV tv, s.next ≤ b ∧ b ∉ FO')
section
variable {s : St} {rp : Nat} {w : Int} {os : List O} {shapes : List (List Bool)} {FO FS : List Nat} (H : RR s rp w os shapes FO FS)
include H
end
end
end Go.Proofs.YtgkcpceppmppfaaLab
namespace Go.Proofs.YtgkcpceppmppfaaLab
open Go
set_option linter.all false
set_option maxRecDepth 10000
noncomputable section
theorem SlideQ.bad {s : St} {rp : Nat} {w : Int} {os : List O} {shapes : List (List Bool)} {FO FS : List Nat} {keep : List Int} (h : ¬ (Kept os keep ∧ Clo os shapes keep keep)) : SlideQ s rp w os shapes FO FS keep (.tup [.nils, .i 1]) s := ⟨fun _ => ⟨rfl, rfl⟩, fun h' => absurd h' h⟩
section
variable {s : St} {rp : Nat} {w : Int} {os : List O} {shapes : List (List Bool)} {FO FS : List Nat} (H : RR s rp w os shapes FO FS)
include H
end
end
end Go.Proofs.YtgkcpceppmppfaaLab
namespace Go.Proofs.YtgkcpceppmppfaaLab
open Go
set_option linter.all false
set_option maxRecDepth 10000
noncomputable section
end
end Go.Proofs.YtgkcpceppmppfaaLab
namespace Go.Proofs.YtgkcpceppmppfaaLab
open Go
set_option linter.all false
set_option maxRecDepth 10000
noncomputable section
def mapAt (φ : Int → O → O) : Nat → List O → List O
 | _, [] => []
 | a, o :: os => φ a o :: mapAt φ (a + o.n) os
section
variable {φ ψ : Int → O → O}
theorem look_mapAt (hφ : ∀ r o, (φ r o).f.length = o.f.length) : ∀ (os : List O) (a : Nat) (r : Int), look (mapAt φ a os) r = (look os r).map (φ (r + a))
 | [], a, r => rfl
 | o :: os, a, r => by
   have hn : (φ a o).n = o.n := by simp [O.n, hφ]
   simp only [mapAt, look, hn]
   by_cases h : r = 0
   · subst h; simp
   · rw [if_neg h, if_neg h, look_mapAt hφ os (a + o.n)]
     congr 2; omega
theorem at_mapAt (hφ : ∀ r o, (φ r o).f.length = o.f.length) (os : List O) (r : Int) : at? (mapAt φ 1 os) r = (at? os r).map (φ r) := by
 unfold at?
 rw [look_mapAt hφ]
 congr 2; omega
theorem mapAt_congr : ∀ (os : List O) (a : Nat), (∀ r o, look os r = some o → φ (r + a) o = ψ (r + a) o) → mapAt φ a os = mapAt ψ a os
 | [], a, _ => rfl
 | o :: os, a, h => by
   have h0 := h 0 o (by simp [look])
   rw [Int.zero_add] at h0
   simp only [mapAt, h0]
   congr 1
   refine mapAt_congr os _ fun r x hx => ?_
   have hr : ¬ r < 0 := fun hr => by rw [look_neg os r hr] at hx; cases hx
   have hp := o.n_pos
   have := h (r + (o.n : Nat)) x (by unfold look; rw [if_neg (by omega), show r + (o.n : Nat) - (o.n : Nat) = r by omega]; exact hx)
   rw [show r + ((a + o.n : Nat) : Int) = r + (o.n : Nat) + a by omega]
   exact this
theorem mapAt_id : ∀ (os : List O) (a : Nat), mapAt (fun _ o => o) a os = os
 | [], a => rfl
 | o :: os, a => by simp only [mapAt]; rw [mapAt_id os]
theorem turn_mapAt (g : O → O) (hφ : ∀ r o, (φ r o).f.length = o.f.length) : ∀ (os : List O) (a : Nat) (r : Int) (o : O), look os r = some o → turn g (mapAt φ a os) r = mapAt (fun x y => if x = r + a then g (φ x y) else φ x y) a os
 | [], a, r, o, h => by cases h
 | x :: os, a, r, o, h => by
   have hn : (φ a x).n = x.n := by simp [O.n, hφ]
   have hp := x.n_pos
   simp only [mapAt, turn, hn]
   by_cases hr : r = 0
   · subst hr
     simp only [if_true, Int.zero_add]
     congr 1
     refine mapAt_congr os _ fun r y hy => ?_
     have hr : ¬ r < 0 := fun hr => by rw [look_neg os r hr] at hy; cases hy
     rw [if_neg (by omega)]
   · unfold look at h
     rw [if_neg hr] at h
     rw [if_neg hr, if_neg (by omega), turn_mapAt g hφ os _ _ o h]
     congr 1
     refine mapAt_congr os _ fun r' y hy => ?_
     by_cases e : r' = r - (x.n : Nat)
     · rw [if_pos (by omega), if_pos (by omega)]
     · rw [if_neg (by omega), if_neg (by omega)]
end
section
variable {os : List O} {shapes : List (List Bool)} {keep : List Int} {i k : Nat}
end
theorem eqKI_eq (a b : Int) : eqKI (.i a) (.i b) = some (decide (a = b)) := by
 show some (eqI a b) = _
 rw [eqI_eq]; by_cases h : a = b <;> simp [h]
def pairsI (l : List (Int × Int)) : List (V × V) := l.map fun p => (.i p.1, .i p.2)
def findP (x : Int) : List (Int × Int) → Nat → Option (Nat × Int)
 | [], _ => none
 | (y, v) :: l, j => if x = y then some (j, v) else findP x l (j + 1)
theorem findV_pairsI (x : Int) : ∀ (l : List (Int × Int)) (j : Nat), findV eqKI (.i x) (pairsI l) j = some ((findP x l j).map fun p => (p.1, .i p.2))
 | [], j => rfl
 | (y, v) :: l, j => by
   show (match eqKI (.i x) (.i y) with
    | some b => Bool.casesOn (motive := fun _ => Option (Option (Nat × V))) b (findV eqKI (.i x) (pairsI l) (Nat.succ j)) (some (some (j, .i v)))
    | none => none) = _
   rw [eqKI_eq]; simp only
   unfold findP
   by_cases h : x = y
   · rw [decide_eq_true h, if_pos h]; rfl
   · rw [decide_eq_false h, if_neg h]
     exact findV_pairsI x l (j + 1)
section
variable {os : List O} {keep : List Int}
end
end
end Go.Proofs.YtgkcpceppmppfaaLab
namespace Go.Proofs.YtgkcpceppmppfaaLab
open Go
set_option linter.all false
set_option maxRecDepth 10000
noncomputable section
structure SlB (t : St) (kb hb mb bM p : Nat) (kv : V) (es : List (V × V)) : Prop where
 wf : Wf t
 k : t.cl kb = some [kv]
 h : t.cl hb = some [.ptr p 0]
 m : t.cl mb = some [.map bM]
 e : ∃ bs cl, t.mp bM = some (es, bs, cl)
theorem SlB.fr {t t' : St} {kb hb mb bM p : Nat} {kv : V} {es : List (V × V)} {l : List Nat} (B : SlB t kb hb mb bM p kv es) (f : Fr t t' l) (h1 : kb ∉ l) (h2 : hb ∉ l) (h3 : mb ∉ l) (h4 : bM ∉ l) : SlB t' kb hb mb bM p kv es := by
 obtain ⟨bs, cl, e⟩ := B.e
 exact ⟨f.wf, f.cl B.wf B.k h1, f.cl B.wf B.h h2, f.cl B.wf B.m h3, ⟨bs, cl, f.mp B.wf e h4⟩⟩
section
variable {s : St} {p bw bb n : Nat} {os os0 : List O} {sh mp : V} {z : List Int} {shapes : List (List Bool)} {keep : List Int} {kb hb mb bM : Nat} {kv : V} (H : AH s p bw bb n os sh mp z)
include H
end
end
end Go.Proofs.YtgkcpceppmppfaaLab
namespace Go.Proofs.YtgkcpceppmppfaaLab
open Go
set_option linter.all false
set_option maxRecDepth 10000
noncomputable section
section
variable {s : St} {p bw bb n : Nat} {os : List O} {sh mp : V} {z : List Int} {keep : List Int} {kv tv : V} (H : AH s p bw bb n os sh mp z)
include H
end
end
end Go.Proofs.YtgkcpceppmppfaaLab
namespace Go.Proofs.YtgkcpceppmppfaaLab
open Go
set_option linter.all false
set_option maxRecDepth 10000
noncomputable section
theorem SL.one {s : St} {v : V} {l : List V} (h : SL s v l) : v.one = true := by
 rcases h with ⟨_, rfl | ⟨b, o, c, rfl⟩⟩ | ⟨b, o, c, n, f, rfl, _⟩ <;> rfl
def SlideP (s : St) (p bw bb n bm : Nat) (os : List O) (z : List Int) (shapes : List (List Bool)) (F : List Nat) (keep : List Int) (r : V) (s' : St) : Prop :=
 (¬ (Kept os keep ∧ Clo os shapes keep keep) → r = .tup [.nils, .i 1] ∧ Fr s s' []) ∧
 (Kept os keep ∧ Clo os shapes keep keep → ∃ tv z', r = .tup [tv, .i 0] ∧ GL s' tv ((tos os keep).map .i) ∧ HS s' p bw bb n (slid os shapes keep) z' shapes bm F ∧ Fr s s' [p, bw, bb] ∧ ∀ b ∈ blkV tv, s.next ≤ b)
theorem SlideP.bad {s s' : St} {p bw bb n bm : Nat} {os : List O} {z : List Int} {shapes : List (List Bool)} {F : List Nat} {keep : List Int} (h : ¬ (Kept os keep ∧ Clo os shapes keep keep)) (f : Fr s s' []) : SlideP s p bw bb n bm os z shapes F keep (.tup [.nils, .i 1]) s' := ⟨fun _ => ⟨rfl, f⟩, fun h' => absurd h' h⟩
section
variable {s : St} {p bw bb n bm : Nat} {os : List O} {z : List Int} {shapes : List (List Bool)} {F : List Nat} (H : HS s p bw bb n os z shapes bm F)
include H
end
end
end Go.Proofs.YtgkcpceppmppfaaLab
namespace Go.Proofs.YtgkcpceppmppfaaLab
open Go
set_option linter.all false
set_option maxRecDepth 10000
noncomputable section
inductive Reach (os : List O) (shapes : List (List Bool)) (roots : List Int) : Int → Prop
 | root {r : Int} (h : r ∈ roots) (h0 : ¬ r = 0) : Reach os shapes roots r
 | step {r : Int} {o : O} {k : Nat} {x : Int} (h : Reach os shapes roots r) (ho : at? os r = some o) (hx : o.f[k]? = some x) (hr : refB shapes o k = true) (h0 : ¬ x = 0) : Reach os shapes roots x
def RefOk (os : List O) (shapes : List (List Bool)) : Prop := ∀ r o, at? os r = some o → ∀ (k : Nat) x, o.f[k]? = some x → refB shapes o k = true → x = 0 ∨ (at? os x).isSome
def RootOk (os : List O) (roots : List Int) : Prop := ∀ r ∈ roots, r = 0 ∨ (at? os r).isSome
theorem Reach.isSome {os : List O} {shapes : List (List Bool)} {roots : List Int} (hR : RefOk os shapes) (hr : RootOk os roots) {r : Int} (h : Reach os shapes roots r) : (at? os r).isSome := by
 induction h with
 | root h h0 => exact (hr _ h).resolve_left h0
 | step _ ho hx hb h0 _ => exact (hR _ _ ho _ _ hx hb).resolve_left h0
def leftW : List O → Nat → List Int → Nat
 | [], _, _ => 0
 | o :: os, a, out => (if (a : Int) ∈ out then 0 else 1 + o.f.length) + leftW os (a + o.n) out
theorem leftW_lt : ∀ (os : List O) (a : Nat) (out : List Int) (r : Int), r < a → leftW os a (out ++ [r]) = leftW os a out
 | [], a, out, r, h => rfl
 | o :: os, a, out, r, h => by
   have : ((a : Int) ∈ out ++ [r]) = ((a : Int) ∈ out) := by
    rw [List.mem_append, List.mem_singleton]; exact propext ⟨fun hh => hh.resolve_right (by omega), .inl⟩
   simp only [leftW, this, leftW_lt os _ out r (show r < ((a + o.n : Nat) : Int) by omega)]
theorem leftW_snoc : ∀ (os : List O) (a : Nat) (out : List Int) (r : Int) (o : O), look os r = some o → r + a ∉ out → leftW os a (out ++ [r + a]) + 1 + o.f.length = leftW os a out
 | [], a, out, r, o, h, _ => by cases h
 | x :: os, a, out, r, o, h, hn => by
   have hp := x.n_pos
   unfold look at h
   by_cases hr : r = 0
   · subst hr
     rw [if_pos rfl] at h; cases h
     rw [Int.zero_add] at hn ⊢
     simp only [leftW]
     rw [if_pos (by simp), if_neg hn, leftW_lt os _ out _ (by omega)]; omega
   · rw [if_neg hr] at h
     have h0 : 0 ≤ r - (x.n : Nat) := by
      by_cases c : r - (x.n : Nat) < 0
      · rw [look_neg _ _ c] at h; cases h
      · omega
     have ih := leftW_snoc os (a + x.n) out (r - (x.n : Nat)) o h (by rw [show r - (x.n : Nat) + ((a + x.n : Nat) : Int) = r + a by omega]; exact hn)
     rw [show r - (x.n : Nat) + ((a + x.n : Nat) : Int) = r + a by omega] at ih
     have : ((a : Int) ∈ out ++ [r + a]) = ((a : Int) ∈ out) := by
      rw [List.mem_append, List.mem_singleton]; exact propext ⟨fun hh => hh.resolve_right (by omega), .inl⟩
     simp only [leftW, this]
     omega
theorem leftW_nil : ∀ (os : List O) (a : Nat), leftW os a [] ≤ (lay os).length
 | [], a => Nat.le_refl _
 | o :: os, a => by
   have := leftW_nil os (a + o.n)
   have hon : o.n = 3 + o.f.length := rfl
   simp only [leftW, List.not_mem_nil, if_false, lay, List.length_append, O.ws_len]
   omega
def GP (s : St) (v : V) (l : List V) : Prop := (l = [] ∧ v = .nils) ∨ ∃ b L, v = .slice b 0 l.length none 1 ∧ s.cl b = some L ∧ l <+: L
section
variable {s : St} {v x : V} {l : List V}
theorem GL.gp (h : GL s v l) : GP s v l := by
 rcases h with h | ⟨b, rfl, h2⟩
 · exact .inl h
 · exact .inr ⟨b, l, rfl, h2, List.prefix_refl _⟩
theorem GP.fr {s' : St} {L : List Nat} (h : GP s v l) (hw : Wf s) (f : Fr s s' L) (hd : ∀ b, b ∈ blkV v → b ∉ L) : GP s' v l := by
 rcases h with h | ⟨b, L', rfl, h2, h3⟩
 · exact .inl h
 · exact .inr ⟨b, L', rfl, f.cl hw h2 (hd b (by simp [blkV])), h3⟩
theorem GP.len (h : GP s v l) : uLenS v = some (.i (l.length : Nat)) := by
 rcases h with ⟨rfl, rfl⟩ | ⟨b, L, rfl, _⟩ <;> rfl
theorem GP.sl (hw : Wf s) (h : GP s v l) : SL s v l := by
 rcases h with h | ⟨b, L, rfl, h2, t, rfl⟩
 · exact .inl ⟨h.1, .inl h.2⟩
 · exact SL.of hw h2 (by simp) (fun i hi => by rw [Nat.zero_add, List.getElem?_append_left hi])
theorem GP.push (hw : Wf s) (h : GP s v l) (h1 : x.one = true) (ho : ∀ y ∈ l, y.one = true) (hl : l.length ≤ 17596481011712) :
 ∃ s1 s2, s.new (.cells 1 (ofL [x])) = s1 ∧ (apP 1 v (.slice s.next 0 1 (some 1) 1) s1 = some (.slice (s.next + 1) 0 (l.length + 1) none 1, s2)) ∧
   GL s2 (.slice (s.next + 1) 0 (l.length + 1) none 1) (l ++ [x]) ∧ Fr s s2 (blkV v) ∧ s2.next = s.next + 2 := by
 obtain ⟨s1, e1, c1, f1, n1⟩ := new_ex (s := s) (l := [x]) (n := 1) hw rfl
 have hy : Src s1 1 (.slice s.next 0 1 (some 1) 1) 1 [x] := Src.full f1.wf c1 rfl (by simpa using h1) (by omega)
 rcases h with ⟨rfl, rfl⟩ | ⟨b, L, rfl, h2, t, rfl⟩
 · obtain ⟨s2, e2, c2, f2, n2⟩ := eAp_nil f1.wf hy (by omega)
   rw [n1] at e2 c2
   exact ⟨s1, s2, e1, e2, .inr ⟨_, rfl, c2⟩, f1.trans f2, by omega⟩
 · have hb := cl_lt hw h2
   obtain ⟨s2, e2, c2, f2, n2⟩ := eAp_move (s := s1) (es := 1) (len := l.length) (o := 0) (b := b) f1.wf hy (by omega) hl (f1.cl hw h2 (by simp)) (by simp)
   rw [n1] at e2 c2
   refine ⟨s1, s2, e1, e2, .inr ⟨s.next + 1, by simp, ?_⟩, (f1.mono (by simp)).trans f2, by omega⟩
   rw [c2]; simp
theorem GP.pop (h : GP s v (l ++ [x])) : ∃ v', slV 1 v none (some (.i (((l.length + 1 : Nat) : Int) - 1))) none = some v' ∧ GP s v' l ∧ blkV v' = blkV v := by
 rcases h with ⟨h, _⟩ | ⟨b, L, rfl, h2, t, rfl⟩
 · simp at h
 · refine ⟨.slice b 0 l.length none 1, ?_, .inr ⟨b, _, rfl, h2, ?_⟩, rfl⟩
   · rw [pSl_hN (by omega) (by simp; omega)]
     congr 2; omega
   · exact ⟨[x] ++ t, by simp⟩
end
end
end Go.Proofs.YtgkcpceppmppfaaLab
namespace Go.Proofs.YtgkcpceppmppfaaLab
open Go
set_option linter.all false
set_option maxRecDepth 10000
noncomputable section
theorem sorted_snoc {A : List Int} {x : Int} (h : A.Pairwise (· ≤ ·)) (hx : ∀ a, A.getLast? = some a → a ≤ x) : ∀ a ∈ A, a ≤ x := fun a ha => by
 obtain ⟨i, hi, rfl⟩ := List.getElem_of_mem ha
 have hl : A.getLast? = some A[A.length - 1] := by rw [List.getLast?_eq_getElem?]; exact List.getElem?_eq_getElem (by omega)
 have hx := hx _ hl
 by_cases e : i = A.length - 1
 · subst e; exact hx
 · have := List.pairwise_iff_getElem.1 h i (A.length - 1) hi (by omega) (by omega)
   omega
theorem sort_tail {s s0 : St} {out : List Int} {v : V} (hw : Wf s) (f0 : Fr s0 s []) (hg : GL s v (out.map .i)) (hl : out.length ≤ 100000) (hb : ∀ b ∈ blkV v, s0.next ≤ b) (d : Nat) (e0 : E) (z6 : e0.a0.a6 = v) :
 Ret (retR (resV [rT g4, rT g5]) (p11_60 (K (d + 2)) e0 s)) fun r s' => ∃ l : List Int, r = .tup [v, .bool true] ∧ GL s' v (l.map .i) ∧ l.Perm out ∧ l.Pairwise (· ≤ ·) ∧ Fr s0 s' [] := by
 have hlen : uLenS v = some (.i (out.length : Nat)) := by have := hg.len; rwa [List.length_map] at this
 simp -implicitDefEqProofs (maxSteps := 5000000) (disch := first | assumption | omega | (simp only [dz, dl, Nat.zero_add, Nat.reduceAdd, Bool.and_self]; done) | (simp only [dl]; omega)) only [go_sem, ↓p11_60.eq_1, fAdd_eq, z6]
 refine loop_at (Q := fun r => Ret (retR _ (seqR (blkR 6 r) _)) _) (fun m e t => ∃ (i : Nat) (l : List Int), m = out.length - i ∧ (i ≤ out.length ∨ i = 1) ∧ 1 ≤ i ∧ GL t v (l.map .i) ∧ l.Perm out ∧ (l.take i).Pairwise (· ≤ ·) ∧ Fr s0 t [] ∧ g6 e = v ∧ g12 e = .i i) ?_ (n := out.length - 1) (by omega) ⟨1, out, rfl, .inr rfl, by omega, hg, List.Perm.refl _, ?_, f0, (by first | trivial | rfl | assumption), (by first | trivial | rfl | assumption)⟩
 rotate_left
 · cases out with
   | nil => simp
   | cons x l => simp
 rintro m e t ⟨i, l, rfl, hi, hi1, hgt, hp, hs, ft, i6, i12⟩
 replace i6 : e.a0.a6 = _ := i6
 replace i12 : e.a0.a12 = _ := i12
 have hlp := hp.length_eq
 by_cases c : (i : Int) < ((out.length : Nat) : Int)
 · simp -implicitDefEqProofs (maxSteps := 5000000) (disch := first | assumption | omega | (simp only [dz, dl, Nat.zero_add, Nat.reduceAdd, Bool.and_self]; done) | (simp only [dl]; omega)) only [go_sem, ↓p11_60.eq_1, fAdd_eq, i6, i12, hlen, c]
   have hil : i < l.length := by omega
   refine loop_at (Q := fun r => rnd (seqR (blkR 7 (blkR 8 r)) _) _ _) (fun m e u => ∃ (A B C : List Int) (x : Int), m = A.length ∧ (A ++ x :: B ++ C).Perm out ∧ A.length + 1 + B.length = i + 1 ∧ (A ++ B).Pairwise (· ≤ ·) ∧ (∀ b ∈ B, x ≤ b) ∧ GL u v ((A ++ x :: B ++ C).map .i) ∧ Fr s0 u [] ∧ g6 e = v ∧ g12 e = .i i ∧ g13 e = .i (A.length : Nat)) ?_ (n := i) (by omega) ⟨l.take i, [], l.drop (i + 1), l[i], by rw [List.length_take]; omega, ?_, by rw [List.length_take]; simp; omega, by simpa using hs, by simp, ?_, ft, (by first | trivial | rfl | assumption), (by first | trivial | rfl | assumption), ?_⟩
   rotate_left
   · have : l.take i ++ l[i] :: [] ++ l.drop (i + 1) = l := by
      rw [List.append_assoc, List.cons_append, List.nil_append, ← List.drop_eq_getElem_cons hil, List.take_append_drop]
     rw [this]; exact hp
   · have : l.take i ++ l[i] :: [] ++ l.drop (i + 1) = l := by
      rw [List.append_assoc, List.cons_append, List.nil_append, ← List.drop_eq_getElem_cons hil, List.take_append_drop]
     rw [this]; exact hgt
   · rw [List.length_take, Nat.min_eq_left (by omega)]; rfl
   clear i6 i12 e
   rintro m e u ⟨A, B, C, x, rfl, hp', hAB, hsAB, hxB, hgu, fu, i6, i12, i13⟩
   replace i6 : e.a0.a6 = _ := i6
   replace i12 : e.a0.a12 = _ := i12
   replace i13 : e.a0.a13 = _ := i13
   have hwu := fu.wf
   have hpl := hp'.length_eq
   simp only [List.length_append, List.length_cons] at hpl
   have hx : ((A ++ x :: B ++ C).map V.i)[A.length]? = some (.i x) := by simp
   have stop : (∀ a, A.getLast? = some a → a ≤ x) → ((A ++ x :: B ++ C).take (i + 1)).Pairwise (· ≤ ·) := fun h => by
    have hA := (List.pairwise_append.1 hsAB).1
    have hB := (List.pairwise_append.1 hsAB).2.1
    have hc := (List.pairwise_append.1 hsAB).2.2
    rw [show i + 1 = (A ++ x :: B).length by simp; omega, List.take_left']
    · rw [List.pairwise_append]
      refine ⟨hA, List.pairwise_cons.2 ⟨hxB, hB⟩, fun a ha b hb' => ?_⟩
      rcases List.mem_cons.1 hb' with rfl | hb'
      · exact sorted_snoc hA h a ha
      · exact hc a ha b hb'
    · rfl
   rcases List.eq_nil_or_concat A with rfl | ⟨A', a, rfl⟩
   · replace i13 : e.a0.a13 = .i 0 := i13
     simp -implicitDefEqProofs (maxSteps := 5000000) (disch := first | assumption | omega | (simp only [dz, dl, Nat.zero_add, Nat.reduceAdd, Bool.and_self]; done) | (simp only [dl]; omega)) only [go_sem, ↓p11_60.eq_1, fAdd_eq, i6, i12, i13]
     have hp2 := stop (by simp)
     exact ⟨out.length - (i + 1), by omega, i + 1, _, rfl, by omega, by omega, hgu, hp', hp2, fu, (by first | trivial | rfl | assumption), (by first | trivial | rfl | assumption)⟩
   · rw [List.concat_eq_append] at *
     have hal : (A' ++ [a]).length = A'.length + 1 := by simp
     rw [hal] at i13 hx
     have c0 : (0 : Int) < ((A'.length + 1 : Nat) : Int) := by omega
     have em : ((A'.length + 1 : Nat) : Int) - 1 = ((A'.length : Nat) : Int) := by omega
     obtain ⟨q1, a1, a2⟩ := (hgu.sl hwu).at hwu (j := A'.length) (x := .i a) (by simp)
     obtain ⟨q2, b1, b2⟩ := (hgu.sl hwu).at hwu (j := A'.length + 1) (x := .i x) hx
     have hla : ∀ y, (A' ++ [a]).getLast? = some y → y = a := fun y hy => by simp at hy; exact hy.symm
     by_cases cx : x < a
     · obtain ⟨b, rfl, cb⟩ : ∃ b, v = .slice b 0 ((A' ++ [a] ++ x :: B ++ C).map V.i).length none 1 ∧ u.cl b = some ((A' ++ [a] ++ x :: B ++ C).map V.i) := by
        rcases hgu with ⟨h0, _⟩ | h
        · simp at h0
        · exact h
       have e1 : q1 = .ptr b A'.length := by
        rw [bIdx1_eq (by omega) (by simp; omega), Nat.zero_add, Int.toNat_natCast] at a1
        injection a1 with a1; exact a1.symm
       have e2 : q2 = .ptr b (A'.length + 1) := by
        rw [bIdx1_eq (by omega) (by simp; omega), Nat.zero_add, Int.toNat_natCast] at b1
        injection b1 with b1; exact b1.symm
       subst e1; subst e2
       obtain ⟨x1, p1, c1, f1, n1⟩ := eSt_ex (s := u) (b := b) (o := A'.length) (v := .i x) hwu cb (by simp) rfl
       obtain ⟨x2, p2, c2, f2, n2⟩ := eSt_ex (s := x1) (b := b) (o := A'.length + 1) (v := .i a) f1.wf c1 (by simp) rfl
       have hsw : ((((A' ++ [a] ++ x :: B ++ C).map V.i).set A'.length (.i x)).set (A'.length + 1) (.i a)) = (A' ++ x :: (a :: B) ++ C).map V.i := by
        simp only [List.map_append, List.map_cons, List.map_nil, List.append_assoc, List.cons_append, List.nil_append]
        rw [List.set_append_right _ _ (by simp), List.set_append_right _ _ (by simp)]
        simp
       rw [hsw] at c2
       simp -implicitDefEqProofs (maxSteps := 5000000) (disch := first | assumption | omega | (simp only [dz, dl, Nat.zero_add, Nat.reduceAdd, Bool.and_self]; done) | (simp only [dl]; omega)) only [go_sem, ↓p11_60.eq_1, fAdd_eq, i6, i12, i13, c0, em, a1, a2, b1, b2, cx, p1, p2]
       have hbn := hb b (by simp [blkV])
       refine ⟨A'.length, by omega, A', a :: B, C, x, rfl, ?_, by simp at hAB ⊢; omega, by simpa using hsAB, ?_, ?_, fu.trans' (f1.trans f2) (fun y hy => .inr (by simp at hy; omega)), (by first | trivial | rfl | assumption), (by first | trivial | rfl | assumption), (by first | trivial | rfl | assumption)⟩
       · refine List.Perm.trans ?_ hp'
         simp only [List.append_assoc, List.cons_append, List.nil_append]
         exact List.Perm.append_left _ (List.Perm.swap _ _ _)
       · intro y hy
         rcases List.mem_cons.1 hy with rfl | hy
         · omega
         · exact hxB y hy
       · refine .inr ⟨b, ?_, c2⟩
         congr 1; simp
     · have hp2 := stop (fun y hy => by have := hla y hy; omega)
       simp -implicitDefEqProofs (maxSteps := 5000000) (disch := first | assumption | omega | (simp only [dz, dl, Nat.zero_add, Nat.reduceAdd, Bool.and_self]; done) | (simp only [dl]; omega)) only [go_sem, ↓p11_60.eq_1, fAdd_eq, i6, i12, i13, c0, em, a1, a2, b1, b2, cx]
       exact ⟨out.length - (i + 1), by omega, i + 1, _, rfl, by omega, by omega, hgu, hp', hp2, fu, (by first | trivial | rfl | assumption), (by first | trivial | rfl | assumption)⟩
 · simp -implicitDefEqProofs (maxSteps := 5000000) (disch := first | assumption | omega | (simp only [dz, dl, Nat.zero_add, Nat.reduceAdd, Bool.and_self]; done) | (simp only [dl]; omega)) only [go_sem, ↓p11_60.eq_1, fAdd_eq, i6, i12, hlen, c]
   rw [List.take_of_length_le (by omega)] at hs
   exact ⟨l, (by first | trivial | rfl | assumption), hgt, hp, hs, ft⟩
end
end Go.Proofs.YtgkcpceppmppfaaLab
namespace Go.Proofs.YtgkcpceppmppfaaLab
open Go
set_option linter.all false
set_option maxRecDepth 10000
noncomputable section
theorem RootOk.snoc {os : List O} {l : List Int} {r : Int} (h : RootOk os l) (hr : r = 0 ∨ (at? os r).isSome) : RootOk os (l ++ [r]) := fun x hx => by
 rcases List.mem_append.1 hx with hx | hx
 · exact h x hx
 · simp at hx; subst hx; exact hr
structure MkI (os : List O) (shapes : List (List Bool)) (roots out left : List Int) : Prop where
 so : ∀ r ∈ out, Reach os shapes roots r
 sl : ∀ r ∈ left, r = 0 ∨ Reach os shapes roots r
 ro : ∀ r ∈ roots, r = 0 ∨ r ∈ out ∨ r ∈ left
 cl : ∀ r ∈ out, ∀ o, at? os r = some o → ∀ (k : Nat) x, o.f[k]? = some x → refB shapes o k = true → x = 0 ∨ x ∈ out ∨ x ∈ left
 nd : out.Nodup
def MarkQ (s : St) (os : List O) (shapes : List (List Bool)) (roots : List Int) (r : V) (s' : St) : Prop :=
 (¬ RootOk os roots → r = .tup [.nils, .bool false] ∧ Fr s s' []) ∧
 (RootOk os roots → ∃ (v : V) (l : List Int), r = .tup [v, .bool true] ∧ GL s' v (l.map .i) ∧ Fr s s' [] ∧ (∀ b ∈ blkV v, s.next ≤ b) ∧ l.Pairwise (· < ·) ∧ ∀ x, x ∈ l ↔ Reach os shapes roots x)
theorem blk_lt {s : St} {v : V} {l : List V} (hw : Wf s) (h : GL s v l) : ∀ b ∈ blkV v, b < s.next := fun b hb => by
 rcases h with ⟨_, rfl⟩ | ⟨b', rfl, h2⟩
 · simp [blkV] at hb
 · simp [blkV] at hb; subst hb; exact cl_lt hw h2
theorem blk_ltP {s : St} {v : V} {l : List V} (hw : Wf s) (h : GP s v l) : ∀ b ∈ blkV v, b < s.next := fun b hb => by
 rcases h with ⟨_, rfl⟩ | ⟨b', L, rfl, h2, _⟩
 · simp [blkV] at hb
 · simp [blkV] at hb; subst hb; exact cl_lt hw h2
theorem perm_lt {l out : List Int} (hp : l.Perm out) (hs : l.Pairwise (· ≤ ·)) (hn : out.Nodup) : l.Pairwise (· < ·) := by
 have hn2 : l.Nodup := hp.nodup_iff.2 hn
 have := List.Pairwise.and hs hn2
 exact this.imp fun h => by omega
theorem at_pos {os : List O} {r : Int} (h : (at? os r).isSome) : 1 ≤ r := by
 obtain ⟨o, ho⟩ := Option.isSome_iff_exists.1 h
 exact (lay_lt ho).1
theorem ld_same {s s' : St} {b o : Nat} (h : s'.heap.get b = s.heap.get b) : ldP (.ptr b o) s' = ldP (.ptr b o) s := by
 show (match rdOf s' b with | some (n, xs) => Bool.casesOn (motive := fun _ => Option V) (Nat.blt o n) none (xs o) | none => none) = (match rdOf s b with | some (n, xs) => Bool.casesOn (motive := fun _ => Option V) (Nat.blt o n) none (xs o) | none => none)
 rw [rd_same h]
theorem ObP.same {s s' : St} {FO : List Nat} {o : O} {a b i bf : Nat} {c : Option Nat} (ob : ObP s FO o a b i bf c) (h : ∀ b ∈ FO, s'.heap.get b = s.heap.get b) : ObP s' FO o a b i bf c :=
 ⟨(ld_same (h b ob.mb)).trans ob.at0, (ld_same (h b ob.mb)).trans ob.sh, (ld_same (h b ob.mb)).trans ob.f, (ld_same (h b ob.mb)).trans ob.tag, (cl_same (h bf ob.mf)).trans ob.cl, ob.mb, ob.mf⟩
section
variable {s : St} {rp : Nat} {w : Int} {os : List O} {shapes : List (List Bool)} {FO FS : List Nat} (H : RR s rp w os shapes FO FS)
include H
theorem RR.mark (ok : ShOk os shapes) (hRf : RefOk os shapes) {v : V} {roots : List Int} (hk : SL s v (roots.map .i)) (hl : roots.length ≤ 17592186044416) (d : Nat) :
 Ret ((K (d + 3)).call 11 [.ptr rp 0, v] s) (MarkQ s os shapes roots) := by
 have hw := H.wf
 have hw0 := H.w0
 have hlw := H.lw
 have hlen := hk.len
 rw [List.length_map] at hlen
 simp -implicitDefEqProofs (maxSteps := 5000000) (disch := first | assumption | omega | (simp only [dz, dl, Nat.zero_add, Nat.reduceAdd, Bool.and_self]; done) | (simp only [dl]; omega)) only [op11, go_sem, fAdd_eq]
 refine loop_at (Q := fun r => Ret (retR _ (seqR (blkR 0 r) _)) _) (fun m e t => ∃ (j : Nat) (lv : V), m = roots.length - j ∧ j ≤ roots.length ∧ Fr s t [] ∧ RootOk os (roots.take j) ∧ GL t lv ((roots.take j).map .i) ∧ (∀ b ∈ blkV lv, s.next ≤ b) ∧ g0 e = .ptr rp 0 ∧ g1 e = v ∧ g6 e = .nils ∧ g7 e = lv ∧ g8 e = .i j) ?_ (n := roots.length) (by omega) ⟨0, .nils, by omega, by omega, Fr.refl hw _, by simp [RootOk], .inl ⟨rfl, rfl⟩, by simp [blkV], (by first | trivial | rfl | assumption), (by first | trivial | rfl | assumption), (by first | trivial | rfl | assumption), (by first | trivial | rfl | assumption), (by first | trivial | rfl | assumption)⟩
 rintro m e t ⟨j, lv, rfl, hj, ft, hro, hg, hb, i0, i1, i6, i7, i8⟩
 replace i0 : e.a0.a0 = _ := i0
 replace i1 : e.a0.a1 = _ := i1
 replace i6 : e.a0.a6 = _ := i6
 replace i7 : e.a0.a7 = _ := i7
 replace i8 : e.a0.a8 = _ := i8
 have hwt := ft.wf
 have hkt := hk.fr hw ft (by simp)
 have Ht := H.fr ft (by simp) (by simp) (by simp)
 by_cases c : (j : Int) < ((roots.length : Nat) : Int)
 · have hoj : roots[j]? = some roots[j] := List.getElem?_eq_getElem (by omega)
   obtain ⟨q, a1, a2⟩ := hkt.at hwt (j := j) (x := .i roots[j]) (by rw [List.getElem?_map, hoj]; rfl)
   have hts := take_snoc hoj
   generalize roots[j] = r at *
   obtain ⟨f0, f1⟩ := Ht.find (d + 1) r
   obtain ⟨s1, s2, p1, p2, hg2, f2, n2⟩ := hg.push hwt (x := .i r) rfl (fun y hy => by obtain ⟨a, _, rfl⟩ := List.mem_map.1 hy; rfl) (by rw [List.length_map, List.length_take]; omega)
   have F2 : Fr s s2 [] := ft.trans' f2 (fun x hx => .inr (hb x hx))
   have hnx := ft.nx
   have fin : (r = 0 ∨ (at? os r).isSome) → ∃ m, m < roots.length - j ∧ ∃ (j' : Nat) (lv' : V), m = roots.length - j' ∧ j' ≤ roots.length ∧ Fr s s2 [] ∧ RootOk os (roots.take j') ∧ GL s2 lv' ((roots.take j').map .i) ∧ (∀ b ∈ blkV lv', s.next ≤ b) ∧ j' = j + 1 ∧ lv' = .slice (t.next + 1) 0 (((roots.take j).map V.i).length + 1) none 1 := fun h => by
    refine ⟨roots.length - (j + 1), by omega, j + 1, _, rfl, by omega, F2, ?_, ?_, ?_, rfl, rfl⟩
    · rw [hts]; exact hro.snoc h
    · rw [hts, List.map_append]; exact hg2
    · simp [blkV]; omega
   by_cases c0 : r = 0
   · obtain ⟨m, h1, j', lv', h2, h3, h4, h5, h6, h7, rfl, rfl⟩ := fin (.inl c0)
     subst c0
     simp -implicitDefEqProofs (maxSteps := 5000000) (disch := first | assumption | omega | (simp only [dz, dl, Nat.zero_add, Nat.reduceAdd, Bool.and_self]; done) | (simp only [dl]; omega)) only [go_sem, fAdd_eq, i0, i1, i6, i7, i8, c, hlen, a1, a2, p1, p2, eq_self, Bool.not_true]
     exact ⟨m, h1, j + 1, _, h2, h3, h4, h5, h6, h7, (by first | trivial | rfl | assumption), (by first | trivial | rfl | assumption), (by first | trivial | rfl | assumption), rfl, (by first | trivial | rfl | assumption)⟩
   · cases hat : at? os r with
     | none =>
       have e1 := f0 hat
       have hbad : ¬ RootOk os roots := fun h => by
        have := h r (List.mem_of_getElem? hoj)
        rw [hat] at this
        exact this.elim c0 (by simp)
       simp -implicitDefEqProofs (maxSteps := 5000000) (disch := first | assumption | omega | (simp only [dz, dl, Nat.zero_add, Nat.reduceAdd, Bool.and_self]; done) | (simp only [dl]; omega)) only [go_sem, fAdd_eq, i0, i1, i6, i7, i8, c, hlen, a1, a2, c0, e1]
       exact ⟨fun _ => ⟨rfl, ft⟩, fun h => absurd h hbad⟩
     | some o =>
       obtain ⟨b, i, bf, cc, e1, ob, oi, ol, oL⟩ := f1 o hat
       obtain ⟨m, h1, j', lv', h2, h3, h4, h5, h6, h7, rfl, rfl⟩ := fin (.inr (by rw [hat]; rfl))
       simp -implicitDefEqProofs (maxSteps := 5000000) (disch := first | assumption | omega | (simp only [dz, dl, Nat.zero_add, Nat.reduceAdd, Bool.and_self]; done) | (simp only [dl]; omega)) only [go_sem, fAdd_eq, i0, i1, i6, i7, i8, c, hlen, a1, a2, c0, e1, p1, p2]
       exact ⟨m, h1, j + 1, _, h2, h3, h4, h5, h6, h7, (by first | trivial | rfl | assumption), (by first | trivial | rfl | assumption), (by first | trivial | rfl | assumption), rfl, (by first | trivial | rfl | assumption)⟩
 · have : j = roots.length := by omega
   subst this
   rw [List.take_length] at hro hg
   simp -implicitDefEqProofs (maxSteps := 5000000) (disch := first | assumption | omega | (simp only [dz, dl, Nat.zero_add, Nat.reduceAdd, Bool.and_self]; done) | (simp only [dl]; omega)) only [go_sem, fAdd_eq, i0, i1, i6, i7, i8, c, hlen]
   have hw1 := leftW_nil os 1
   refine loop_at (Q := fun r => Ret (retR _ (seqR (blkR 2 r) _)) _) (fun m e t => ∃ (out left : List Int) (ov lv : V), m = left.length + leftW os 1 out ∧ m ≤ 17592186044416 + (lay os).length ∧ Fr s t [] ∧ MkI os shapes roots out left ∧ out.length + leftW os 1 out ≤ (lay os).length ∧ GL t ov (out.map .i) ∧ GP t lv (left.map .i) ∧ (∀ b ∈ blkV lv, s.next ≤ b ∧ b ∉ blkV ov) ∧ (∀ b ∈ blkV ov, s.next ≤ b) ∧ g0 e = .ptr rp 0 ∧ g6 e = ov ∧ g7 e = lv) ?_ (n := roots.length + leftW os 1 []) (by omega) ⟨[], roots, .nils, lv, rfl, by omega, ft, ⟨by simp, ?_, fun r hr => ?_, by simp, by simp⟩, by simpa using hw1, .inl ⟨rfl, rfl⟩, hg.gp, fun b hb' => ⟨hb b hb', by simp [blkV]⟩, by simp [blkV], (by first | trivial | rfl | assumption), (by first | trivial | rfl | assumption), (by first | trivial | rfl | assumption)⟩
   rotate_left
   · intro r hr
     by_cases c0 : r = 0
     · exact .inl c0
     · exact .inr (.root hr c0)
   · exact .inr (.inr hr)
   clear i0 i1 i6 i7 i8 c hj e hg hb hkt Ht ft hwt lv t
   rintro m e t ⟨out, left, ov, lv, rfl, hm, ft, hI, hol, hg, hgp, hb, hbo, i0, i6, i7⟩
   replace i0 : e.a0.a0 = _ := i0
   replace i6 : e.a0.a6 = _ := i6
   replace i7 : e.a0.a7 = _ := i7
   have hwt := ft.wf
   have hlenL : uLenS lv = some (.i (left.length : Nat)) := by have := hgp.len; rwa [List.length_map] at this
   rcases List.eq_nil_or_concat left with rfl | ⟨left, n, rfl⟩
   · replace hlenL : uLenS lv = some (.i 0) := hlenL
     simp -implicitDefEqProofs (maxSteps := 5000000) (disch := first | assumption | omega | (simp only [dz, dl, Nat.zero_add, Nat.reduceAdd, Bool.and_self]; done) | (simp only [dl]; omega)) only [go_sem, fAdd_eq, i0, i6, i7, hlenL]
     refine (sort_tail (out := out) (v := ov) (s0 := s) hwt ft hg (by omega) hbo d _ (by first | trivial | rfl | assumption)).mono fun r s' hq => ?_
     obtain ⟨l, rfl, q2, q3, q4, q5⟩ := hq
     refine ⟨fun h => absurd hro h, fun _ => ⟨ov, l, rfl, q2, q5, hbo, perm_lt q3 q4 hI.nd, fun x => ?_⟩⟩
     rw [q3.mem_iff]
     constructor
     · exact hI.so x
     · intro h
       induction h with
       | root h h0 => exact (hI.ro _ h).elim (fun h => absurd h h0) (fun h => h.elim id (by simp))
       | step h ho hx hr h0 ih => exact (hI.cl _ ih _ ho _ _ hx hr).elim (fun h => absurd h h0) (fun h => h.elim id (by simp))
   · rw [List.concat_eq_append] at *
     have hL : (left ++ [n]).length = left.length + 1 := by simp
     rw [hL] at hm hlenL
     have c1 : (0 : Int) < ((left.length + 1 : Nat) : Int) := by omega
     have em : ((left.length + 1 : Nat) : Int) - 1 = ((left.length : Nat) : Int) := by omega
     rw [List.map_append] at hgp
     obtain ⟨q, a1, a2⟩ := (hgp.sl hwt).at hwt (j := left.length) (x := .i n) (by simp)
     obtain ⟨lv', p1, hgp', hbl⟩ := hgp.pop
     rw [List.length_map, em] at p1
     have eh := has_eq hwt (hg.sl hwt) (by omega) n (d + 1)
     by_cases c0 : n = 0
     · simp -implicitDefEqProofs (maxSteps := 5000000) (disch := first | assumption | omega | (simp only [dz, dl, Nat.zero_add, Nat.reduceAdd, Bool.and_self]; done) | (simp only [dl]; omega)) only [go_sem, fAdd_eq, i0, i6, i7, hlenL, c1, em, a1, a2, p1, c0]
       refine ⟨left.length + leftW os 1 out, by rw [List.length_append, List.length_singleton]; omega, out, left, ov, lv', rfl, by omega, ft, ⟨hI.so, fun r hr => hI.sl r (by simp [hr]), fun r hr => ?_, fun r hr o ho k x hx hb => ?_, hI.nd⟩, hol, hg, hgp', by rw [hbl]; exact hb, hbo, (by first | trivial | rfl | assumption), (by first | trivial | rfl | assumption), (by first | trivial | rfl | assumption)⟩
       · rcases hI.ro r hr with h | h | h
         · exact .inl h
         · exact .inr (.inl h)
         · rcases List.mem_append.1 h with h | h
           · exact .inr (.inr h)
           · simp at h; exact .inl (h.trans c0)
       · rcases hI.cl r hr o ho k x hx hb with h | h | h
         · exact .inl h
         · exact .inr (.inl h)
         · rcases List.mem_append.1 h with h | h
           · exact .inr (.inr h)
           · simp at h; exact .inl (h.trans c0)
     · by_cases ch : 0 ≤ hasI out n
       · have hmem : n ∈ out := Classical.byContradiction fun h => by have := hasI_neg.2 h; omega
         simp -implicitDefEqProofs (maxSteps := 5000000) (disch := first | assumption | omega | (simp only [dz, dl, Nat.zero_add, Nat.reduceAdd, Bool.and_self]; done) | (simp only [dl]; omega)) only [go_sem, fAdd_eq, i0, i6, i7, hlenL, c1, em, a1, a2, p1, c0, eh, ch]
         refine ⟨left.length + leftW os 1 out, by rw [List.length_append, List.length_singleton]; omega, out, left, ov, lv', rfl, by omega, ft, ⟨hI.so, fun r hr => hI.sl r (by simp [hr]), fun r hr => ?_, fun r hr o ho k x hx hb => ?_, hI.nd⟩, hol, hg, hgp', by rw [hbl]; exact hb, hbo, (by first | trivial | rfl | assumption), (by first | trivial | rfl | assumption), (by first | trivial | rfl | assumption)⟩
         · rcases hI.ro r hr with h | h | h
           · exact .inl h
           · exact .inr (.inl h)
           · rcases List.mem_append.1 h with h | h
             · exact .inr (.inr h)
             · simp at h; subst h; exact .inr (.inl hmem)
         · rcases hI.cl r hr o ho k x hx hb with h | h | h
           · exact .inl h
           · exact .inr (.inl h)
           · rcases List.mem_append.1 h with h | h
             · exact .inr (.inr h)
             · simp at h; subst h; exact .inr (.inl hmem)
       · have hnm : n ∉ out := hasI_neg.1 (by omega)
         have hre : Reach os shapes roots n := (hI.sl n (by simp)).resolve_left c0
         obtain ⟨o, ho⟩ := Option.isSome_iff_exists.1 (hre.isSome hRf hro)
         have hlo := lay_lt ho
         have hon : o.n = 3 + o.f.length := rfl
         have hW := leftW_snoc os 1 out (n - 1) o ho (by rw [show n - 1 + ((1 : Nat) : Int) = n by omega]; exact hnm)
         rw [show n - 1 + ((1 : Nat) : Int) = n by omega] at hW
         have hos := H.lens
         obtain ⟨x1, x2, p2, p3, hg2, f2, n2⟩ := hg.push hwt (x := .i n) rfl (fun y hy => by obtain ⟨a, _, rfl⟩ := List.mem_map.1 hy; rfl) (by rw [List.length_map]; omega)
         rw [List.length_map] at p3 hg2
         have F2 : Fr s x2 [] := ft.trans' f2 (fun x hx => .inr (hbo x hx))
         have H2 := H.fr F2 (by simp) (by simp) (by simp)
         obtain ⟨b, i, bf, cc, e1, ob, oi, ol, oL⟩ := (H2.find (d + 1) n).2 o ho
         have hbl' : ∀ b ∈ blkV lv', s.next ≤ b ∧ b ∉ blkV ov := by rw [hbl]; exact hb
         have hgp2 := hgp'.fr hwt f2 (fun b hb' => (hbl' b hb').2)
         have hlvt := blk_ltP hwt hgp'
         simp -implicitDefEqProofs (maxSteps := 5000000) (disch := first | assumption | omega | (simp only [dz, dl, Nat.zero_add, Nat.reduceAdd, Bool.and_self]; done) | (simp only [dl]; omega)) only [go_sem, fAdd_eq, i0, i6, i7, hlenL, c1, em, a1, a2, p1, c0, eh, ch, p2, p3, e1]
         have hnx := ft.nx
         refine loop_at (Q := fun r => rnd (blkR 3 (blkR 4 r)) _ _) (fun m e u => ∃ (k : Nat) (left2 : List Int) (lv2 : V), m = o.f.length - k ∧ k ≤ o.f.length ∧ Fr s u [] ∧ left2.length ≤ left.length + k ∧ (∀ r ∈ left, r ∈ left2) ∧ (∀ r ∈ left2, r ∈ left ∨ r = 0 ∨ Reach os shapes roots r) ∧ (∀ (k' : Nat) x, k' < k → o.f[k']? = some x → refB shapes o k' = true → x ∈ left2) ∧ GL u (.slice (t.next + 1) 0 (out.length + 1) none 1) ((out ++ [n]).map .i) ∧ GP u lv2 (left2.map .i) ∧ (∀ b ∈ blkV lv2, s.next ≤ b ∧ b ≠ t.next + 1) ∧ g0 e = .ptr rp 0 ∧ g6 e = .slice (t.next + 1) 0 (out.length + 1) none 1 ∧ g7 e = lv2 ∧ g9 e = .i n ∧ g10 e = .ptr b (4 * i) ∧ g11 e = .i k) ?_ (n := o.f.length) (by omega) ⟨0, left, lv', by omega, by omega, F2, by omega, fun r hr => hr, fun r hr => .inl hr, by simp, by rw [List.map_append]; exact hg2, hgp2, fun b hb' => ⟨(hbl' b hb').1, by have := hlvt b hb'; omega⟩, (by first | trivial | rfl | assumption), (by first | trivial | rfl | assumption), (by first | trivial | rfl | assumption), (by first | trivial | rfl | assumption), (by first | trivial | rfl | assumption), (by first | trivial | rfl | assumption)⟩
         clear i0 i6 i7 e
         rintro m e u ⟨k, left2, lv2, rfl, hk', fu, hl2, hs1, hs2, hs3, hgu, hgp3, hb3, i0, i6, i7, i9, i10, i11⟩
         replace i0 : e.a0.a0 = _ := i0
         replace i6 : e.a0.a6 = _ := i6
         replace i7 : e.a0.a7 = _ := i7
         replace i9 : e.a0.a9 = _ := i9
         replace i10 : e.a0.a10 = _ := i10
         replace i11 : e.a0.a11 = _ := i11
         have hwu := fu.wf
         have Hu := H.fr fu (by simp) (by simp) (by simp)
         have obu := ob.same (s' := u) (fun y hy => (fu.same y (H.ltO y hy) (by simp)).trans (F2.same y (H.ltO y hy) (by simp)).symm)
         have e2 := obu.f
         by_cases ck : (k : Int) < ((o.f.length : Nat) : Int)
         · have hx : o.f[k]? = some o.f[k] := List.getElem?_eq_getElem (by omega)
           obtain ⟨b1, b2⟩ := obu.getN hwu hx
           generalize o.f[k] = x at *
           have er := Hu.isRef ok d n k
           rw [refO_at ho (by omega)] at er
           cases hr : refB shapes o k with
           | false =>
             rw [hr] at er
             simp -implicitDefEqProofs (maxSteps := 5000000) (disch := first | assumption | omega | (simp only [dz, dl, Nat.zero_add, Nat.reduceAdd, Bool.and_self]; done) | (simp only [dl]; omega)) only [go_sem, fAdd_eq, i0, i6, i7, i9, i10, i11, ck, e2, er]
             refine ⟨o.f.length - (k + 1), by omega, k + 1, left2, lv2, rfl, by omega, fu, by omega, hs1, hs2, ?_, hgu, hgp3, hb3, (by first | trivial | rfl | assumption), (by first | trivial | rfl | assumption), (by first | trivial | rfl | assumption), (by first | trivial | rfl | assumption), (by first | trivial | rfl | assumption), (by first | trivial | rfl | assumption)⟩
             intro k' x' hk2 hx' hr'
             by_cases e : k' = k
             · subst e; rw [hr] at hr'; cases hr'
             · exact hs3 k' x' (by omega) hx' hr'
           | true =>
             rw [hr] at er
             obtain ⟨y1, y2, p4, p5, hg4, f4, n4⟩ := hgp3.push hwu (x := .i x) rfl (fun y hy => by obtain ⟨a, _, rfl⟩ := List.mem_map.1 hy; rfl) (by rw [List.length_map]; omega)
             rw [List.length_map] at p5 hg4
             have hun := fu.nx
             have hgub := blk_lt hwu hgu _ (by simp [blkV]; rfl)
             simp -implicitDefEqProofs (maxSteps := 5000000) (disch := first | assumption | omega | (simp only [dz, dl, Nat.zero_add, Nat.reduceAdd, Bool.and_self]; done) | (simp only [dl]; omega)) only [go_sem, fAdd_eq, i0, i6, i7, i9, i10, i11, ck, e2, er, b1, b2, p4, p5]
             refine ⟨o.f.length - (k + 1), by omega, k + 1, left2 ++ [x], _, rfl, by omega, fu.trans' f4 (fun y hy => .inr (hb3 y hy).1), by simp; omega, fun r hr => by simp [hs1 r hr], ?_, ?_, hgu.fr hwu f4 (fun y hy => by simp [blkV] at hy; subst hy; exact fun hm => (hb3 _ hm).2 rfl), by rw [List.map_append]; exact hg4.gp, ?_, (by first | trivial | rfl | assumption), (by first | trivial | rfl | assumption), rfl, (by first | trivial | rfl | assumption), (by first | trivial | rfl | assumption), (by first | trivial | rfl | assumption)⟩
             · intro r hr'
               rcases List.mem_append.1 hr' with hr' | hr'
               · exact hs2 r hr'
               · simp at hr'; subst hr'
                 by_cases e : r = 0
                 · exact .inr (.inl e)
                 · exact .inr (.inr (.step hre ho hx hr e))
             · intro k' x' hk2 hx' hr'
               by_cases e : k' = k
               · subst e; rw [hx] at hx'; cases hx'; simp
               · simp [hs3 k' x' (by omega) hx' hr']
             · simp [blkV]; omega
         · have : k = o.f.length := by omega
           subst this
           simp -implicitDefEqProofs (maxSteps := 5000000) (disch := first | assumption | omega | (simp only [dz, dl, Nat.zero_add, Nat.reduceAdd, Bool.and_self]; done) | (simp only [dl]; omega)) only [go_sem, fAdd_eq, i0, i6, i7, i9, i10, i11, ck, e2]
           refine ⟨left2.length + leftW os 1 (out ++ [n]), ?_, out ++ [n], left2, _, lv2, rfl, by omega, fu, ⟨fun r hr => ?_, fun r hr => ?_, fun r hr => ?_, fun r hr o' ho' k x hx hb => ?_, ?_⟩, by simp; omega, hgu, hgp3, fun b hb' => ⟨(hb3 b hb').1, by simp [blkV]; exact (hb3 b hb').2⟩, by simp [blkV]; omega, (by first | trivial | rfl | assumption), rfl, (by first | trivial | rfl | assumption)⟩
           · simp; omega
           · rcases List.mem_append.1 hr with hr | hr
             · exact hI.so r hr
             · simp at hr; subst hr; exact hre
           · rcases hs2 r hr with h | h
             · exact hI.sl r (by simp [h])
             · exact h
           · rcases hI.ro r hr with h | h | h
             · exact .inl h
             · exact .inr (.inl (by simp [h]))
             · rcases List.mem_append.1 h with h | h
               · exact .inr (.inr (hs1 r h))
               · simp at h; subst h; exact .inr (.inl (by simp))
           · rcases List.mem_append.1 hr with hr | hr
             · rcases hI.cl r hr o' ho' k x hx hb with h | h | h
               · exact .inl h
               · exact .inr (.inl (by simp [h]))
               · rcases List.mem_append.1 h with h | h
                 · exact .inr (.inr (hs1 x h))
                 · simp at h; subst h; exact .inr (.inl (by simp))
             · simp at hr; subst hr
               rw [ho] at ho'; cases ho'
               exact .inr (.inr (hs3 k x (List.getElem?_eq_some_iff.1 hx).1 hx hb))
           · rw [List.nodup_append]
             exact ⟨hI.nd, by simp, fun a ha b hb' => by simp at hb'; subst hb'; rintro rfl; exact hnm ha⟩
end
end
end Go.Proofs.YtgkcpceppmppfaaLab
namespace Go.Proofs.YtgkcpceppmppfaaLab
open Go
set_option linter.all false
set_option maxRecDepth 10000
noncomputable section
theorem look_more : ∀ {os : List O} {l : List O} {r : Int} {o : O}, look os r = some o → look (os ++ l) r = some o
 | [], l, r, o, h => by cases h
 | x :: os, l, r, o, h => by
   unfold look at h ⊢
   simp only [List.cons_append]
   split at h
   · rename_i c; rw [if_pos c]; exact h
   · rename_i c; rw [if_neg c]; exact look_more h
theorem look_last : ∀ {os : List O} {x : O} {r : Int} {o : O}, look (os ++ [x]) r = some o → look os r = some o ∨ o = x
 | [], x, r, o, h => by
   simp only [List.nil_append, look] at h
   split at h
   · cases h; exact .inr rfl
   · cases h
 | y :: os, x, r, o, h => by
   simp only [List.cons_append, look] at h ⊢
   split at h
   · rename_i c; rw [if_pos c]; exact .inl h
   · rename_i c; rw [if_neg c]; exact look_last h
theorem RefOk.snoc {os : List O} {shapes : List (List Bool)} (h : RefOk os shapes) (sh : Int) (m : Nat) : RefOk (os ++ [newO sh m]) shapes := fun r o ho k x hx hb => by
 rcases look_last ho with ho | rfl
 · rcases h r o ho k x hx hb with h | h
   · exact .inl h
   · obtain ⟨o', ho'⟩ := Option.isSome_iff_exists.1 h
     exact .inr (by unfold at?; rw [look_more ho']; rfl)
 · left
   simp only [newO, List.getElem?_replicate] at hx
   split at hx
   · cases hx; rfl
   · cases hx
theorem refB_more {os : List O} {shapes : List (List Bool)} {l : List Bool} (ok : ShOk os shapes) {o : O} (ho : o ∈ os) (k : Nat) : refB (shapes ++ [l]) o k = refB shapes o k := by
 unfold refB
 rcases ok o ho with h | h | ⟨h, x, hx, _⟩
 · rw [h]; simp
 · rw [h]; simp
 · rw [List.getElem?_append_left (List.getElem?_eq_some_iff.1 hx).1]
theorem RefOk.more {os : List O} {shapes : List (List Bool)} (h : RefOk os shapes) (ok : ShOk os shapes) (l : List Bool) : RefOk os (shapes ++ [l]) := fun r o ho k x hx hb => by
 rw [refB_more ok (at_mem ho)] at hb
 exact h r o ho k x hx hb
theorem at_turn {g : O → O} (hg : ∀ o, (g o).f.length = o.f.length) {os : List O} {r : Int} {o : O} (ho : at? os r = some o) (r' : Int) : at? (turn g os (r - 1)) r' = (at? os r').map fun y => if r' = r then g y else y := by
 have h := turn_mapAt (φ := fun _ o => o) g (fun _ _ => rfl) os 1 (r - 1) o ho
 rw [mapAt_id] at h
 rw [h, at_mapAt (fun x y => by split <;> simp [hg])]
 congr 1
 funext y
 by_cases c : r' = r
 · rw [if_pos c, if_pos (by omega)]
 · rw [if_neg c, if_neg (by omega)]
theorem RefOk.setTag {os : List O} {shapes : List (List Bool)} (h : RefOk os shapes) {r v : Int} {o : O} (ho : at? os r = some o) : RefOk (turn (O.setTag v) os (r - 1)) shapes := fun r' o' ho' k x hx hb => by
 rw [at_turn (g := O.setTag v) (fun o => rfl) ho] at ho' ⊢
 cases hq : at? os r' with
 | none => rw [hq] at ho'; cases ho'
 | some y =>
   rw [hq] at ho'
   simp only [Option.map_some, Option.some.injEq] at ho'
   have hy : y.f[k]? = some x ∧ refB shapes y k = true := by
    split at ho' <;> subst ho' <;> exact ⟨hx, hb⟩
   rcases h r' y hq k x hy.1 hy.2 with h | h
   · exact .inl h
   · right
     obtain ⟨o2, ho2⟩ := Option.isSome_iff_exists.1 h
     rw [ho2]; rfl
theorem RefOk.set {os : List O} {shapes : List (List Bool)} (h : RefOk os shapes) {r k0 v y : Int} (hg : getO os r k0 = some y) (hc : (refO os shapes r k0 && !(decide (v = 0) || (at? os v).isSome)) = false) : RefOk (turn (O.setF k0 v) os (r - 1)) shapes := by
 obtain ⟨o, ho, h0, h1, h2⟩ := getO_some hg
 have hls : ∀ o : O, (O.setF k0 v o).f.length = o.f.length := fun o => by simp [O.setF]
 have hsome : ∀ x : Int, (at? os x).isSome → (at? (turn (O.setF k0 v) os (r - 1)) x).isSome := fun x hx => by
  obtain ⟨o2, ho2⟩ := Option.isSome_iff_exists.1 hx
  rw [at_turn hls ho, ho2]; rfl
 intro r' o' ho' k x hx hb
 rw [at_turn hls ho] at ho'
 cases hq : at? os r' with
 | none => rw [hq] at ho'; cases ho'
 | some w =>
   rw [hq] at ho'
   simp only [Option.map_some, Option.some.injEq] at ho'
   by_cases c : r' = r
   · rw [if_pos c] at ho'
     subst ho'; subst c
     rw [ho] at hq; cases hq
     have hb : refB shapes o k = true := hb
     simp only [O.setF] at hx
     by_cases e : k0.toNat = k
     · subst e
       rw [List.getElem?_set_self (by omega)] at hx
       cases hx
       have hr := refO_at (shapes := shapes) ho (k := k0.toNat) (by omega)
       rw [show ((k0.toNat : Nat) : Int) = k0 by omega] at hr
       rw [hr, hb, Bool.true_and, Bool.not_eq_false', Bool.or_eq_true] at hc
       rcases hc with hc | hc
       · exact .inl (of_decide_eq_true hc)
       · exact .inr (hsome _ hc)
     · rw [List.getElem?_set_ne e] at hx
       rcases h r' o ho k x hx hb with h | h
       · exact .inl h
       · exact .inr (hsome _ h)
   · rw [if_neg c] at ho'
     subst ho'
     rcases h r' w hq k x hx hb with h | h
     · exact .inl h
     · exact .inr (hsome _ h)
theorem at_starts {l : List O} {i : Nat} {o : O} (h : l[i]? = some o) : at? l ((1 + (lay (l.take i)).length : Nat) : Int) = some o := by
 obtain ⟨h1, rfl⟩ := List.getElem?_eq_some_iff.1 h
 have e : l = l.take i ++ l[i] :: l.drop (i + 1) := by rw [← List.drop_eq_getElem_cons h1, List.take_append_drop]
 have := look_of (l.take i) l[i] (l.drop (i + 1))
 rw [← e] at this
 unfold at?
 rw [show ((1 + (lay (l.take i)).length : Nat) : Int) - 1 = ((lay (l.take i)).length : Nat) by omega, this]
end
end Go.Proofs.YtgkcpceppmppfaaLab
namespace Go.Proofs.YtgkcpceppmppfaaLab
open Go
set_option linter.all false
set_option maxRecDepth 10000
noncomputable section
structure Two (b0 : Nat) (t : St) (p bw bb n bm rp : Nat) (os : List O) (z : List Int) (shapes : List (List Bool)) (F FO FS : List Nat) (w : Int) : Prop where
 h : HS t p bw bb n os z shapes bm F
 r : RR t rp w os shapes FO FS
 nw : (n : Int) = w + 1
 rf : RefOk os shapes
 dj : ∀ b ∈ p :: bw :: bb :: bm :: F, b0 ≤ b ∧ b ∉ rp :: (FO ++ FS)
 dr : ∀ b ∈ rp :: (FO ++ FS), b0 ≤ b
section
variable {b0 : Nat} {t : St} {p bw bb n bm rp : Nat} {os : List O} {z : List Int} {shapes : List (List Bool)} {F FO FS : List Nat} {w : Int} (T : Two b0 t p bw bb n bm rp os z shapes F FO FS w)
include T
theorem Two.wf : Wf t := T.h.wf
theorem Two.lt : ∀ b ∈ p :: bw :: bb :: bm :: F, b < t.next := fun b hb => by
 obtain ⟨_, _, _, n4, n5, n6, n7⟩ := T.h.ne
 simp only [List.mem_cons] at hb
 rcases hb with rfl | rfl | rfl | rfl | hb
 · exact n5
 · exact n6
 · exact n7
 · exact n4
 · exact (T.h.dF b hb).2.2.2.1
theorem Two.ltR : ∀ b ∈ rp :: (FO ++ FS), b < t.next := fun b hb => by
 obtain ⟨lV, sh, h1, _⟩ := T.r.ex
 simp only [List.mem_cons, List.mem_append] at hb
 rcases hb with rfl | hb | hb
 · exact cl_lt T.r.wf h1
 · exact T.r.ltO b hb
 · exact T.r.ltS b hb
theorem Two.fr {t' : St} (f : Fr t t' []) : Two b0 t' p bw bb n bm rp os z shapes F FO FS w :=
 ⟨T.h.fr f (by simp) (by simp) (by simp) (by simp) (by simp), T.r.fr f (by simp) (by simp) (by simp), T.nw, T.rf, T.dj, T.dr⟩
theorem Two.r1 {t1 : St} {l : List Nat} (f : Fr t t1 l) (hl : ∀ b ∈ l, b ∈ p :: bw :: bb :: bm :: F) : RR t1 rp w os shapes FO FS :=
 T.r.fr f (fun h => (T.dj _ (hl _ h)).2 (by simp)) (fun b hb h => (T.dj _ (hl _ h)).2 (by simp [hb])) (fun b hb h => (T.dj _ (hl _ h)).2 (by simp [hb]))
theorem Two.make {t1 t2 : St} {l l2 : List Nat} {os' : List O} {z' : List Int} {shapes' : List (List Bool)} {F' FO' FS' : List Nat} (f : Fr t t1 l) (h' : HS t1 p bw bb n os' z' shapes' bm F') (hF : ∀ b ∈ F', b ∈ F ∨ t.next ≤ b)
 (f2 : Fr t1 t2 l2) (hl2 : ∀ b ∈ l2, b ∈ rp :: (FO ++ FS)) (r' : RR t2 rp w os' shapes' FO' FS') (hO : ∀ b ∈ FO', b ∈ FO ∨ t1.next ≤ b) (hS : ∀ b ∈ FS', b ∈ FS ∨ t1.next ≤ b) (rf : RefOk os' shapes') : Two b0 t2 p bw bb n bm rp os' z' shapes' F' FO' FS' w := by
 have hlt := T.ltR
 have hltP := T.lt
 have hb0 : b0 ≤ t.next := by have := (T.dr rp (by simp)); have := hlt rp (by simp); omega
 have hn1 := f.nx
 have hdj : ∀ b ∈ p :: bw :: bb :: bm :: F', b0 ≤ b ∧ b < t1.next ∧ b ∉ rp :: (FO ++ FS) := fun b hb => by
  by_cases hm : b ∈ p :: bw :: bb :: bm :: F
  · exact ⟨(T.dj b hm).1, Nat.lt_of_lt_of_le (hltP b hm) hn1, (T.dj b hm).2⟩
  · have hm2 : t.next ≤ b ∧ b ∈ F' := by
     simp only [List.mem_cons, not_or] at hb hm
     rcases hb with h | h | h | h | h
     · exact absurd h hm.1
     · exact absurd h hm.2.1
     · exact absurd h hm.2.2.1
     · exact absurd h hm.2.2.2.1
     · exact ⟨(hF b h).resolve_left hm.2.2.2.2, h⟩
    exact ⟨by omega, (h'.dF b hm2.2).2.2.2.1, fun h => by have := hlt b h; omega⟩
 refine ⟨h'.fr f2 ?_ ?_ ?_ ?_ ?_, r', T.nw, rf, fun b hb => ⟨(hdj b hb).1, fun h => ?_⟩, fun b hb => ?_⟩
 · exact fun h => (hdj p (by simp)).2.2 (hl2 _ h)
 · exact fun h => (hdj bw (by simp)).2.2 (hl2 _ h)
 · exact fun h => (hdj bb (by simp)).2.2 (hl2 _ h)
 · exact fun h => (hdj bm (by simp)).2.2 (hl2 _ h)
 · exact fun b hb h => (hdj b (by simp [hb])).2.2 (hl2 _ h)
 · obtain ⟨h1, h2, h3⟩ := hdj b hb
   simp only [List.mem_cons, List.mem_append, not_or] at h h3
   rcases h with h | h | h
   · exact h3.1 h
   · rcases hO b h with h | h
     · exact h3.2.1 h
     · omega
   · rcases hS b h with h | h
     · exact h3.2.2 h
     · omega
 · simp only [List.mem_cons, List.mem_append] at hb
   rcases hb with rfl | hb | hb
   · exact T.dr _ (by simp)
   · rcases hO b hb with h | h
     · exact T.dr b (by simp [h])
     · omega
   · rcases hS b hb with h | h
     · exact T.dr b (by simp [h])
     · omega
theorem Two.addO {sh : Int} {m : Nat} {t1 : St} {z' : List Int} (f : Fr t t1 [p, bw, bb]) (h' : HS t1 p bw bb n (os ++ [newO sh m]) z' shapes bm F) {t2 : St} {FO' : List Nat} (f2 : Fr t1 t2 (rp :: FO)) (r' : RR t2 rp w (os ++ [newO sh m]) shapes FO' FS) (hO : ∀ b ∈ FO', b ∈ FO ∨ t1.next ≤ b) : Two b0 t2 p bw bb n bm rp (os ++ [newO sh m]) z' shapes F FO' FS w :=
 T.make f h' (fun b hb => .inl hb) f2 (fun b hb => by simp only [List.mem_cons, List.mem_append] at hb ⊢; exact hb.elim .inl (fun h => .inr (.inl h))) r' hO (fun b hb => .inl hb) (T.rf.snoc _ _)
theorem Two.size : (lay os).length + z.length = w ∧ w ≤ 16384 := by
 obtain ⟨sh, hA, _⟩ := T.h.H
 have := hA.size
 have := T.nw
 have := T.r.w0
 omega
theorem Two.array (d : Nat) (b : Bool) (m : Int) : ∃ t1 t2 x y, (K (d + 3)).call 35 [.ptr p 0, .bool b, .i m] t = some (.tup [.i x, .i y], t1) ∧ Fr t t1 [p, bw, bb] ∧ (K (d + 3)).call 36 [.ptr rp 0, .bool b, .i m] t1 = some (.tup [.i x, .i y], t2) ∧ Fr t1 t2 (rp :: FO) ∧ ∃ os' z' FO', Two b0 t2 p bw bb n bm rp os' z' shapes F FO' FS w := by
 obtain ⟨sh, hA, hS⟩ := T.h.H
 have hz := hA.size
 have hnw := T.nw
 have hw := T.wf
 by_cases c1 : m < 0 ∨ 256 < m
 · exact ⟨t, t, _, _, (hA.array d b m).1 c1, Fr.refl hw _, (T.r.array d b m).1 c1, Fr.refl hw _, _, _, _, T⟩
 · by_cases c2 : 1 + (lay os).length + 3 + m ≤ (n : Int)
   · obtain ⟨t1, e1, _, f1, _⟩ := (hA.array d b m).2.2 (by omega) (by omega) c2
     have h1 : HS t1 p bw bb n (os ++ [newO (if b then -2 else -1) m.toNat]) (z.drop (3 + m.toNat)) shapes bm F := by
      refine T.h.turn f1 (fun sh' h' => ?_) ?_
      · obtain ⟨t1', e1', h1', _⟩ := (h'.array d b m).2.2 (by omega) (by omega) c2
        rw [e1] at e1'; cases e1'; exact h1'
      · intro o ho
        rcases List.mem_append.1 ho with ho | ho
        · exact T.h.ok o ho
        · simp at ho; subst ho
          cases b
          · exact .inl rfl
          · exact .inr (.inl rfl)
     obtain ⟨t2, FO', e2, r2, hO, f2⟩ := ((T.r1 f1 (by intro b hb; simp at hb ⊢; rcases hb with h | h | h <;> simp [h])).array d b m).2.2 (by omega) (by omega) (by omega)
     exact ⟨t1, t2, _, _, e1, f1, e2, f2, _, _, _, T.addO f1 h1 f2 r2 hO⟩
   · exact ⟨t, t, _, _, (hA.array d b m).2.1 (by omega) (by omega) (by omega), Fr.refl hw _, (T.r.array d b m).2.1 (by omega) (by omega) (by omega), Fr.refl hw _, _, _, _, T⟩
theorem Two.object (d : Nat) (r : Int) (hsh : shapes.length < 100000) (hlen : ∀ l ∈ shapes, l.length < 20000) : ∃ t1 t2 x y, (K (d + 3)).call 37 [.ptr p 0, .i r] t = some (.tup [.i x, .i y], t1) ∧ Fr t t1 [p, bw, bb] ∧ (K (d + 3)).call 38 [.ptr rp 0, .i r] t1 = some (.tup [.i x, .i y], t2) ∧ Fr t1 t2 (rp :: FO) ∧ ∃ os' z' FO', Two b0 t2 p bw bb n bm rp os' z' shapes F FO' FS w := by
 obtain ⟨sh, hA, hS⟩ := T.h.H
 have hz := hA.size
 have hnw := T.nw
 have hw := T.wf
 by_cases c1 : r < 0 ∨ (shapes.length : Int) ≤ r
 · exact ⟨t, t, _, _, (T.h.object d r hsh).1 c1, Fr.refl hw _, (T.r.object d r hsh).1 c1, Fr.refl hw _, _, _, _, T⟩
 · have hl : shapes[r.toNat]? = some shapes[r.toNat] := List.getElem?_eq_getElem (by omega)
   have hln := hlen _ (List.mem_of_getElem? hl)
   generalize shapes[r.toNat] = l at *
   by_cases c2 : 1 + (lay os).length + 3 + l.length ≤ n
   · obtain ⟨t1, e1, h1, f1, _⟩ := (T.h.object d r hsh).2.2 l (by omega) hl hln c2
     obtain ⟨t2, FO', e2, r2, hO, f2⟩ := ((T.r1 f1 (by intro b hb; simp at hb ⊢; rcases hb with h | h | h <;> simp [h])).object d r hsh).2.2 l (by omega) hl hln (by omega)
     exact ⟨t1, t2, _, _, e1, f1, e2, f2, _, _, _, T.addO f1 h1 f2 r2 hO⟩
   · exact ⟨t, t, _, _, (T.h.object d r hsh).2.1 l (by omega) hl hln (by omega), Fr.refl hw _, (T.r.object d r hsh).2.1 l (by omega) hl hln (by omega), Fr.refl hw _, _, _, _, T⟩
theorem Two.shape (d : Nat) {v : V} {l : List Bool} (h : SL t v (l.map .bool)) (hv : ∀ b ∈ blkV v, b < b0) (hb0 : b0 ≤ t.next) (hb : l.length ≤ 1000) (hsh : shapes.length ≤ 1000) :
 ∃ t1 t2 x, (K (d + 2)).call 33 [.ptr p 0, v] t = some (.i x, t1) ∧ Fr t t1 (p :: bm :: F) ∧ (K (d + 2)).call 34 [.ptr rp 0, v] t1 = some (.i x, t2) ∧ Fr t1 t2 (rp :: FS) ∧ ∃ shapes' F' FS', Two b0 t2 p bw bb n bm rp os z shapes' F' FO FS' w ∧ (shapes' = shapes ∨ shapes' = shapes ++ [l]) := by
 have hltb := T.dj
 have hw := T.wf
 have hne : ∀ b ∈ blkV v, ∀ x ∈ p :: bw :: bb :: bm :: F, b ≠ x := fun b hb x hx e => by have := hv b hb; have := (hltb x hx).1; omega
 obtain ⟨x1, t1, e1, hq⟩ := T.h.shape h (fun b hb => ⟨by have := hv b hb; omega, hne b hb p (by simp), hne b hb bm (by simp), fun hm => hne b hb b (by simp [hm]) rfl⟩) (by omega) (by omega) d
 unfold ShapeQ at hq
 cases hi : idxL l shapes with
 | some i =>
   rw [hi] at hq
   obtain ⟨rfl, h1, f1⟩ := hq
   have T1 := T.fr f1
   obtain ⟨x2, t2, e2, hq2⟩ := T1.r.shapeN (h.fr hw f1 (by simp)) (by omega) (by omega) (d + 1)
   rw [hi] at hq2
   obtain ⟨rfl, rfl⟩ := hq2
   exact ⟨_, _, _, e1, f1.mono (by simp), e2, Fr.refl f1.wf _, _, _, _, T1, .inl rfl⟩
 | none =>
   rw [hi] at hq
   obtain ⟨rfl, ⟨F', h1, hF⟩, f1⟩ := hq
   have R1 := T.r1 f1 (by intro b hb; simp only [List.mem_cons] at hb ⊢; rcases hb with h | h | h <;> simp [h])
   obtain ⟨x2, t2, e2, hq2⟩ := R1.shapeN (h.fr hw f1 (fun b hb hm => by simp only [List.mem_cons] at hm; rcases hm with h | h | h; exact hne b hb p (by simp) h; exact hne b hb bm (by simp) h; exact hne b hb b (by simp [h]) rfl)) (by omega) (by omega) (d + 1)
   rw [hi] at hq2
   obtain ⟨rfl, FS', r2, hS2, f2⟩ := hq2
   exact ⟨t1, t2, _, e1, f1, e2, f2, _, _, _, T.make f1 h1 hF f2 (by intro b hb; simp only [List.mem_cons, List.mem_append] at hb ⊢; exact hb.elim .inl (fun h => .inr (.inr h))) r2 (fun b hb => .inl hb) hS2 (T.rf.more T.h.ok l), .inr rfl⟩
end
end
end Go.Proofs.YtgkcpceppmppfaaLab
namespace Go.Proofs.YtgkcpceppmppfaaLab
open Go
set_option linter.all false
set_option maxRecDepth 10000
noncomputable section
theorem fok62 : fok.get 62 = some true := (rfl)
def okRf (os : List O) (r : Int) : Bool := decide (r = 0) || (at? os r).isSome
theorem okRf_iff {os : List O} {r : Int} : okRf os r = true ↔ r = 0 ∨ (at? os r).isSome := by
 unfold okRf; rw [Bool.or_eq_true, decide_eq_true_eq]
theorem rootOk_iff {os : List O} {roots : List Int} : RootOk os roots ↔ roots.all (okRf os) = true := by
 unfold RootOk; rw [List.all_eq_true]
 exact ⟨fun h r hr => okRf_iff.2 (h r hr), fun h r hr => okRf_iff.1 (h r hr)⟩
section
variable {s : St} {p bw bb n bm : Nat} {os : List O} {z : List Int} {shapes : List (List Bool)} {F : List Nat} (H : HS s p bw bb n os z shapes bm F)
include H
theorem HS.isN (d : Nat) (r : Int) : (K (d + 3)).call 53 [.ptr p 0, .i r] s = some (.bool (okRf os r), s) := by
 obtain ⟨sh, hA, hS⟩ := H.H
 have es := hA.shape d r
 rw [op53]
 unfold okRf
 by_cases c : r = 0
 · simp -implicitDefEqProofs (maxSteps := 5000000) (disch := first | assumption | omega | (simp only [dz, dl, Nat.zero_add, Nat.reduceAdd, Bool.and_self]; done) | (simp only [dl]; omega)) only [go_sem, c, eq_self, Bool.true_or]
 · have c3 : decide (-3 < shapeO os r) = (at? os r).isSome := by
    unfold shapeO
    cases ho : at? os r with
    | none => simp
    | some o =>
      rcases H.ok o (at_mem ho) with h | h | ⟨h, _⟩ <;> simp <;> omega
   simp -implicitDefEqProofs (maxSteps := 5000000) (disch := first | assumption | omega | (simp only [dz, dl, Nat.zero_add, Nat.reduceAdd, Bool.and_self]; done) | (simp only [dl]; omega)) only [go_sem, c, es, c3, Bool.false_or]
theorem HS.is62 {hb : Nat} (hh : s.cl hb = some [.ptr p 0]) (d : Nat) (r : Int) : (K (d + 4)).call 62 [.i r, .ptr hb 0] s = some (.bool (!okRf os r), s) := by
 have e1 := H.isN d r
 rw [op62]
 simp -implicitDefEqProofs (maxSteps := 5000000) (disch := first | assumption | omega | (simp only [dz, dl, Nat.zero_add, Nat.reduceAdd, Bool.and_self]; done) | (simp only [dl]; omega)) only [go_sem, dLd_at H.wf hh, e1]
theorem HS.index {hb : Nat} (hh : s.cl hb = some [.ptr p 0]) {v : V} {roots : List Int} (hk : SL s v (roots.map .i)) (hl : roots.length ≤ 17592186044416) (d : Nat) : Ret ((K (d + 5)).call 72 [v, .func 62 [] [.ptr hb 0]] s) fun x t => t = s ∧ ∃ j : Int, x = .i j ∧ decide (0 ≤ j) = !(roots.all (okRf os)) := by
 have hw := H.wf
 have hlen := hk.len
 rw [List.length_map] at hlen
 simp -implicitDefEqProofs (maxSteps := 5000000) (disch := first | assumption | omega | (simp only [dz, dl, Nat.zero_add, Nat.reduceAdd, Bool.and_self]; done) | (simp only [dl]; omega)) only [op72, go_sem, fAdd_eq, hlen]
 refine loop_at (Q := fun r => Ret (retR _ (seqR (blkR 0 r) _)) _) (fun m e t => ∃ j : Nat, m = roots.length - j ∧ j ≤ roots.length ∧ t = s ∧ (roots.take j).all (okRf os) = true ∧ g0 e = v ∧ g1 e = .func 62 [] [.ptr hb 0] ∧ g7 e = .i (roots.length : Nat) ∧ g8 e = .i j) ?_ (n := roots.length) (by omega) ⟨0, by omega, by omega, rfl, by simp, (by first | trivial | rfl | assumption), (by first | trivial | rfl | assumption), (by first | trivial | rfl | assumption), (by first | trivial | rfl | assumption)⟩
 rintro m e t ⟨j, rfl, hj, rfl, ha, i0, i1, i7, i8⟩
 replace i0 : e.a0.a0 = _ := i0
 replace i1 : e.a0.a1 = _ := i1
 replace i7 : e.a0.a7 = _ := i7
 replace i8 : e.a0.a8 = _ := i8
 by_cases c : (j : Int) < ((roots.length : Nat) : Int)
 · obtain ⟨r, hr⟩ : ∃ r, roots[j]? = some r := ⟨_, List.getElem?_eq_getElem (by omega)⟩
   obtain ⟨q, a1, a2⟩ := hk.at hw (j := j) (x := .i r) (by rw [List.getElem?_map, hr]; rfl)
   have e1 := H.is62 hh d r
   have hts := take_snoc hr
   cases ho : okRf os r with
   | true =>
     rw [ho] at e1
     simp -implicitDefEqProofs (maxSteps := 5000000) (disch := first | assumption | omega | (simp only [dz, dl, Nat.zero_add, Nat.reduceAdd, Bool.and_self]; done) | (simp only [dl]; omega)) only [go_sem, fAdd_eq, i0, i1, i7, i8, c, a1, a2, cvV_func fok62, List.nil_append, List.cons_append, e1]
     exact ⟨roots.length - (j + 1), by omega, j + 1, rfl, by omega, (by first | trivial | rfl | assumption), by rw [hts, List.all_append, ha]; simp [ho], (by first | trivial | rfl | assumption), (by first | trivial | rfl | assumption), (by first | trivial | rfl | assumption), (by first | trivial | rfl | assumption)⟩
   | false =>
     rw [ho] at e1
     simp -implicitDefEqProofs (maxSteps := 5000000) (disch := first | assumption | omega | (simp only [dz, dl, Nat.zero_add, Nat.reduceAdd, Bool.and_self]; done) | (simp only [dl]; omega)) only [go_sem, fAdd_eq, i0, i1, i7, i8, c, a1, a2, cvV_func fok62, List.nil_append, List.cons_append, e1]
     refine ⟨(by first | trivial | rfl | assumption), _, rfl, ?_⟩
     have : roots.all (okRf os) = false := by
      rw [← Bool.not_eq_true, List.all_eq_true]
      intro h; rw [h r (List.mem_of_getElem? hr)] at ho; cases ho
     rw [this, decide_eq_true (by omega)]; rfl
 · have : j = roots.length := by omega
   subst this
   rw [List.take_length] at ha
   simp -implicitDefEqProofs (maxSteps := 5000000) (disch := first | assumption | omega | (simp only [dz, dl, Nat.zero_add, Nat.reduceAdd, Bool.and_self]; done) | (simp only [dl]; omega)) only [go_sem, fAdd_eq, i0, i1, i7, i8, c]
   exact ⟨(by first | trivial | rfl | assumption), _, rfl, by rw [ha]; rfl⟩
theorem HS.contains {hb : Nat} (hh : s.cl hb = some [.ptr p 0]) {v : V} {roots : List Int} (hk : SL s v (roots.map .i)) (hl : roots.length ≤ 17592186044416) (d : Nat) : (K (d + 6)).call 61 [v, .func 62 [] [.ptr hb 0]] s = some (.bool (!(roots.all (okRf os))), s) := by
 obtain ⟨x, t, e1, rfl, j, rfl, h⟩ := H.index hh hk hl d
 rw [op61]
 simp -implicitDefEqProofs (maxSteps := 5000000) (disch := first | assumption | omega | (simp only [dz, dl, Nat.zero_add, Nat.reduceAdd, Bool.and_self]; done) | (simp only [dl]; omega)) only [go_sem, e1, h]
end
end
end Go.Proofs.YtgkcpceppmppfaaLab
namespace Go.Proofs.YtgkcpceppmppfaaLab
open Go
set_option linter.all false
set_option maxRecDepth 10000
noncomputable section
def metP (met : List Int) : List (Int × Int) := met.mapIdx fun i x => (x, (i : Int))
def metE (met : List Int) : List (V × V) := pairsI (metP met)
theorem metP_fst (met : List Int) : (metP met).map (·.1) = met := by
 unfold metP
 refine List.ext_getElem? fun i => ?_
 simp
 cases met[i]? <;> rfl
theorem metE_len (met : List Int) : (metE met).length = met.length := by simp [metE, pairsI, metP]
theorem metE_snoc (met : List Int) (r : Int) : metE (met ++ [r]) = metE met ++ [(.i r, .i (met.length : Nat))] := by
 unfold metE metP
 rw [List.mapIdx_concat]
 simp [pairsI]
theorem findP_none {x : Int} : ∀ {l : List (Int × Int)} {j : Nat}, x ∉ l.map (·.1) → findP x l j = none
 | [], j, _ => rfl
 | (y, v) :: l, j, h => by
   simp only [List.map_cons, List.mem_cons, not_or] at h
   unfold findP
   rw [if_neg h.1]
   exact findP_none h.2
theorem findP_some {x : Int} : ∀ {l : List (Int × Int)} {j : Nat}, x ∈ l.map (·.1) → ∃ p, findP x l j = some p
 | [], j, h => by simp at h
 | (y, v) :: l, j, h => by
   unfold findP
   by_cases e : x = y
   · rw [if_pos e]; exact ⟨_, rfl⟩
   · rw [if_neg e]
     refine findP_some ?_
     simpa [e] using h
theorem metE_none {met : List Int} {x : Int} (h : x ∉ met) : findV eqKI (.i x) (metE met) 0 = some none := by
 unfold metE
 rw [findV_pairsI, findP_none (by rw [metP_fst]; exact h)]; rfl
theorem metE_some {met : List Int} {x : Int} (h : x ∈ met) : ∃ n v, findV eqKI (.i x) (metE met) 0 = some (some (n, .i v)) := by
 unfold metE
 obtain ⟨p, hp⟩ := findP_some (x := x) (l := metP met) (j := 0) (by rw [metP_fst]; exact h)
 rw [findV_pairsI, hp]; exact ⟨_, _, rfl⟩
theorem dLenM_eq {s : St} {b : Nat} {es : List (V × V)} {bs : List Nat} {cl : Nat} (h : s.mp b = some (es, bs, cl)) : lenMP (.map b) s = some (.i (es.length : Nat)) := by
 show (match mapOf s (.map b) with | some es => some (V.i (Int.ofNat es.length)) | none => none) = _
 rw [mapOf_mp h]; rfl
structure MK (s0 s : St) (m mb p : Nat) (met todo : List Int) (steps : Nat) : Prop where
 f : Fr s0 s []
 hm : s0.next ≤ m ∧ s0.next ≤ mb
 ex : ∃ tv, s.cl m = some [.ptr p 0, .map mb, tv, .i steps] ∧ GP s tv (todo.map .i) ∧ ∀ b ∈ blkV tv, s0.next ≤ b ∧ b ≠ m
 mp : s.mp mb = some (metE met, List.range met.length, met.length)
theorem MK.fr {s0 s s' : St} {m mb p : Nat} {met todo : List Int} {steps : Nat} (h : MK s0 s m mb p met todo steps) (f : Fr s s' []) : MK s0 s' m mb p met todo steps := by
 obtain ⟨tv, h1, h2, h3⟩ := h.ex
 exact ⟨h.f.trans f, h.hm, ⟨tv, f.cl h.f.wf h1 (by simp), h2.fr h.f.wf f (by simp), h3⟩, f.mp h.f.wf h.mp (by simp)⟩
def markM (met : List Int) (r : Int) : List Int := if r ∈ met ∨ r = 0 then met else met ++ [r]
def markT (met todo : List Int) (r : Int) : List Int := if r ∈ met ∨ r = 0 then todo else todo ++ [r]
theorem MK.mark {s0 s : St} {m mb p : Nat} {met todo : List Int} {steps : Nat} (H : MK s0 s m mb p met todo steps) (d : Nat) (r : Int) (hs : steps < 1000000000000000) (hl : todo.length ≤ 1000000) :
 ∃ s', (K (d + 1)).call 73 [.ptr m 0, .i r] s = some (.tup [], s') ∧ MK s0 s' m mb p (markM met r) (markT met todo r) (steps + 1) := by
 obtain ⟨tv, h1, h2, h3⟩ := H.ex
 have hw := H.f.wf
 have hm := H.mp
 have hne : m ≠ mb := cl_mp_ne hw h1 hm
 obtain ⟨s1, p1, c1, f1, n1⟩ := eSt_ex (s := s) (b := m) (o := 3) (v := .i ((steps : Int) + 1)) hw h1 (by simp) rfl
 simp only [List.set_cons_zero, List.set_cons_succ] at c1
 have m1 := f1.mp hw hm (by simpa using hne.symm)
 have g1' := h2.fr hw f1 (fun b hb => by simp; exact (h3 b hb).2)
 have F1 : Fr s0 s1 [] := H.f.trans' f1 (fun b hb => .inr (by simp at hb; subst hb; exact H.hm.1))
 have hcast : ((steps : Int) + 1) = ((steps + 1 : Nat) : Int) := by omega
 have c1' : s1.cl m = some [.ptr p 0, .map mb, tv, .i ((steps + 1 : Nat) : Int)] := by rw [c1, hcast]
 rw [op73]
 by_cases hin : r ∈ met
 · obtain ⟨n, v, hf⟩ := metE_some hin
   refine ⟨s1, ?_, ?_⟩
   · simp -implicitDefEqProofs (maxSteps := 5000000) (disch := first | assumption | omega | (simp only [dz, dl, Nat.zero_add, Nat.reduceAdd, Bool.and_self]; done) | (simp only [dl]; omega)) only [go_sem, fAdd_eq, dLd_at hw h1, p1, dLd_at f1.wf c1, dLk_eq m1, lkV_some hf]
   · unfold markM markT
     rw [if_pos (.inl hin), if_pos (.inl hin)]
     exact ⟨F1, H.hm, ⟨tv, c1', g1', h3⟩, m1⟩
 · have hf := metE_none hin
   by_cases h0 : r = 0
   · refine ⟨s1, ?_, ?_⟩
     · simp -implicitDefEqProofs (maxSteps := 5000000) (disch := first | assumption | omega | (simp only [dz, dl, Nat.zero_add, Nat.reduceAdd, Bool.and_self]; done) | (simp only [dl]; omega)) only [go_sem, fAdd_eq, dLd_at hw h1, p1, dLd_at f1.wf c1, dLk_eq m1, lkV_none hf, h0, eq_self]
       simp only [h0] at hf
       simp -implicitDefEqProofs (maxSteps := 5000000) (disch := first | assumption | omega | (simp only [dz, dl, Nat.zero_add, Nat.reduceAdd, Bool.and_self]; done) | (simp only [dl]; omega)) only [go_sem, fAdd_eq, dLk_eq m1, lkV_none hf]
     · unfold markM markT
       rw [if_pos (.inr h0), if_pos (.inr h0)]
       exact ⟨F1, H.hm, ⟨tv, c1', g1', h3⟩, m1⟩
   · obtain ⟨s2, p2, m2, f2, n2⟩ := eMu_new (y := .i ((metE met).length : Nat)) f1.wf m1 hf
     have c2 := f2.cl f1.wf c1' (by simpa using hne)
     have g2' := g1'.fr f1.wf f2 (fun b hb => by
      rcases g1' with ⟨_, rfl⟩ | ⟨b1, L, rfl, hc, _⟩
      · simp [blkV] at hb
      · simp [blkV] at hb; subst hb; simp; exact cl_mp_ne f1.wf hc m1)
     obtain ⟨s3, s4, p3, p4, g4', f4, n4⟩ := g2'.push f2.wf (x := .i r) rfl (fun y hy => by obtain ⟨a, _, rfl⟩ := List.mem_map.1 hy; rfl) (by rw [List.length_map]; omega)
     have c4 := f4.cl f2.wf c2 (fun hm' => (h3 _ hm').2 rfl)
     obtain ⟨s5, p5, c5, f5, n5⟩ := eSt_ex (s := s4) (b := m) (o := 2) (v := .slice (s2.next + 1) 0 ((todo.map V.i).length + 1) none 1) f4.wf c4 (by simp) rfl
     simp only [List.set_cons_zero, List.set_cons_succ] at c5
     have hml := cl_lt f2.wf c2
     have hn0 := F1.nx
     have g5' := g4'.fr f4.wf f5 (fun b hb => by simp [blkV] at hb; subst hb; simp; omega)
     have m4 : s4.mp mb = some (metE met ++ [(.i r, .i ((metE met).length : Nat))], List.range met.length ++ [met.length], met.length + 1) := f4.mp f2.wf m2 (fun hm' => by
      rcases g2' with ⟨_, rfl⟩ | ⟨b1, L, rfl, hc, _⟩
      · simp [blkV] at hm'
      · simp [blkV] at hm'; subst hm'; exact cl_mp_ne f2.wf hc m2 rfl)
     have m5 := f5.mp f4.wf m4 (by simpa using hne.symm)
     refine ⟨s5, ?_, ?_⟩
     · simp -implicitDefEqProofs (maxSteps := 5000000) (disch := first | assumption | omega | (simp only [dz, dl, Nat.zero_add, Nat.reduceAdd, Bool.and_self]; done) | (simp only [dl]; omega)) only [go_sem, fAdd_eq, dLd_at hw h1, p1, dLd_at f1.wf c1, dLk_eq m1, lkV_none hf, h0, dLenM_eq m1, p2, dLd_at f2.wf c2, p3, p4, p5]
     · unfold markM markT
       rw [if_neg (by simp [hin, h0]), if_neg (by simp [hin, h0])]
       refine ⟨((F1.trans' f2 (fun b hb => .inr (by simp at hb; subst hb; exact H.hm.2))).trans' f4 (fun b hb => .inr (h3 b hb).1)).trans' f5 (fun b hb => .inr (by simp at hb; subst hb; exact H.hm.1)), H.hm, ⟨_, c5, ?_, fun b hb => ?_⟩, ?_⟩
       · rw [List.map_append]; exact g5'.gp
       · simp [blkV] at hb; subst hb; omega
       · rw [m5, metE_snoc, metE_len, List.length_append, List.length_singleton, List.range_succ]
end
end Go.Proofs.YtgkcpceppmppfaaLab
namespace Go.Proofs.YtgkcpceppmppfaaLab
open Go
set_option linter.all false
set_option maxRecDepth 10000
noncomputable section
theorem markM_mem {met : List Int} {r x : Int} : x ∈ markM met r ↔ x ∈ met ∨ (x = r ∧ r ≠ 0) := by
 unfold markM
 by_cases h : r ∈ met ∨ r = 0
 · rw [if_pos h]
   constructor
   · exact .inl
   · rintro (h' | ⟨rfl, h0⟩)
     · exact h'
     · exact h.resolve_right h0
 · rw [if_neg h, List.mem_append, List.mem_singleton]
   constructor
   · rintro (h' | rfl)
     · exact .inl h'
     · exact .inr ⟨rfl, fun h0 => h (.inr h0)⟩
   · rintro (h' | ⟨rfl, _⟩)
     · exact .inl h'
     · exact .inr rfl
structure MI (os : List O) (shapes : List (List Bool)) (roots met todo out : List Int) : Prop where
 so : ∀ r ∈ met, Reach os shapes roots r
 nd : met.Nodup
 ps : met.Perm (out ++ todo)
theorem nodup_len {α : Type} [DecidableEq α] : ∀ {l1 l2 : List α}, l1.Nodup → (∀ x ∈ l1, x ∈ l2) → l1.length ≤ l2.length
 | [], _, _, _ => Nat.zero_le _
 | a :: l1, l2, h, hs => by
   have ha := hs a (by simp)
   obtain ⟨hn, h1⟩ := List.nodup_cons.1 h
   have := nodup_len (l2 := l2.erase a) h1 fun x hx => (List.mem_erase_of_ne (fun e => by subst e; exact hn hx)).2 (hs x (by simp [hx]))
   rw [List.length_erase_of_mem ha] at this
   have := List.length_pos_of_mem ha
   simp; omega
theorem obj_b {os : List O} {x : Int} (h : (at? os x).isSome) : 1 ≤ x ∧ x ≤ (lay os).length := by
 obtain ⟨o, ho⟩ := Option.isSome_iff_exists.1 h
 have := lay_lt ho
 have := o.n_pos
 omega
theorem MI.len {os : List O} {shapes : List (List Bool)} {roots met todo out : List Int} (h : MI os shapes roots met todo out) (hRf : RefOk os shapes) (hRo : RootOk os roots) : met.length ≤ (lay os).length := by
 have h1 := nodup_len (l2 := (List.range (lay os).length).map fun i : Nat => ((i : Int) + 1)) h.nd fun x hx => by
  have hb := obj_b ((h.so x hx).isSome hRf hRo)
  exact List.mem_map.2 ⟨(x - 1).toNat, by simp; omega, by omega⟩
 simpa using h1
theorem MI.mark {os : List O} {shapes : List (List Bool)} {roots met todo out : List Int} (h : MI os shapes roots met todo out) {r : Int} (hr : r = 0 ∨ Reach os shapes roots r) : MI os shapes roots (markM met r) (markT met todo r) out := by
 refine ⟨fun x hx => ?_, ?_, ?_⟩
 · rcases markM_mem.1 hx with hx | ⟨rfl, h0⟩
   · exact h.so x hx
   · exact hr.resolve_left h0
 · unfold markM
   by_cases c : r ∈ met ∨ r = 0
   · rw [if_pos c]; exact h.nd
   · rw [if_neg c, List.nodup_append]
     exact ⟨h.nd, by simp, fun a ha b hb e => by simp at hb; subst hb; subst e; exact c (.inl ha)⟩
 · unfold markM markT
   by_cases c : r ∈ met ∨ r = 0
   · rw [if_pos c, if_pos c]; exact h.ps
   · rw [if_neg c, if_neg c, ← List.append_assoc]; exact h.ps.append_right _
def DoneM (os : List O) (shapes : List (List Bool)) (met out : List Int) : Prop := ∀ r ∈ out, ∀ o, at? os r = some o → ∀ (k : Nat) x, o.f[k]? = some x → refB shapes o k = true → x = 0 ∨ x ∈ met
theorem DoneM.mono {os : List O} {shapes : List (List Bool)} {met met' out : List Int} (h : DoneM os shapes met out) (hm : ∀ x ∈ met, x ∈ met') : DoneM os shapes met' out := fun r hr o ho k x hx hb => (h r hr o ho k x hx hb).imp_right (hm x)
theorem rnd_inv {r : Res} {N : E → St → Prop} (h : rnd r N fun _ => False) : ∃ e s, r = .nrm e s ∧ N e s := by
 unfold rnd at h
 cases r with
 | nrm e s => exact ⟨e, s, rfl, h⟩
 | _ => exact h.elim
section
variable {s0 : St} {p bw bb n bm : Nat} {os : List O} {z : List Int} {shapes : List (List Bool)} {F : List Nat} (H : HS s0 p bw bb n os z shapes bm F)
include H
theorem HS.lay_le : (lay os).length ≤ 20000 := by
 obtain ⟨sh, hA, _⟩ := H.H
 have := hA.size
 have := hA.nn
 omega
theorem MK.fields (hRf : RefOk os shapes) {s : St} {m mb : Nat} {met todo roots out : List Int} {steps : Nat} (M : MK s0 s m mb p met todo steps) {r : Int} {o : O} (ho : at? os r = some o) (I : MI os shapes roots met todo (out ++ [r])) (hR : Reach os shapes roots r) (hst0 : steps ≤ 100000000000000) (d : Nat) {e : E} (i0 : g0 e = .ptr m 0) (i6 : g6 e = .i r) (i57 : g57 e = .i (o.f.length : Nat)) (i58 : g58 e = .i 0) (hl : met.length ≤ 100000) :
 rnd (p63_28 (K (d + 4)) e s) (fun e' t => g0 e' = .ptr m 0 ∧ ∃ met' todo' steps', MK s0 t m mb p met' todo' steps' ∧ MI os shapes roots met' todo' (out ++ [r]) ∧ (∀ x ∈ met, x ∈ met') ∧ met'.length ≤ met.length + o.f.length ∧ steps' ≤ steps + 2 * o.f.length ∧ (∀ (k : Nat) x, o.f[k]? = some x → refB shapes o k = true → x = 0 ∨ x ∈ met')) (fun _ => False) := by
 have hol : o.f.length ≤ 20000 := by
  have := (lay_lt ho).2
  have hn : o.n = 3 + o.f.length := rfl
  have := H.lay_le
  omega
 replace i0 : e.a0.a0 = _ := i0
 replace i6 : e.a0.a6 = _ := i6
 replace i57 : e.a3.a9 = _ := i57
 replace i58 : e.a3.a10 = _ := i58
 simp -implicitDefEqProofs (maxSteps := 5000000) (disch := first | assumption | omega | (simp only [dz, dl, Nat.zero_add, Nat.reduceAdd, Bool.and_self]; done) | (simp only [dl]; omega)) only [go_sem, fAdd_eq, p63_28.eq_1]
 refine loop_at (Q := fun r => rnd (blkR 4 r) _ _) (fun q e' t => ∃ (k : Nat) (met' todo' : List Int) (steps' : Nat), q = o.f.length - k ∧ k ≤ o.f.length ∧ MK s0 t m mb p met' todo' steps' ∧ MI os shapes roots met' todo' (out ++ [r]) ∧ (∀ x ∈ met, x ∈ met') ∧ met'.length ≤ met.length + k ∧ steps' ≤ steps + 2 * k ∧ (∀ (j : Nat) x, j < k → o.f[j]? = some x → refB shapes o j = true → x = 0 ∨ x ∈ met') ∧ g0 e' = .ptr m 0 ∧ g6 e' = .i r ∧ g57 e' = .i (o.f.length : Nat) ∧ g58 e' = .i k) ?_ (n := o.f.length) (by omega) ⟨0, met, todo, steps, by omega, by omega, M, I, fun x hx => hx, by omega, by omega, fun j x hj => by omega, i0, i6, i57, i58⟩
 clear i0 i6 i57 i58 M I e
 rintro q e t ⟨k, met', todo', steps', rfl, hk, M, I, hsub, hlen, hst, hdone, i0, i6, i57, i58⟩
 replace i0 : e.a0.a0 = _ := i0
 replace i6 : e.a0.a6 = _ := i6
 replace i57 : e.a3.a9 = _ := i57
 replace i58 : e.a3.a10 = _ := i58
 by_cases c : (k : Int) < ((o.f.length : Nat) : Int)
 · have hkl : k < o.f.length := by omega
   obtain ⟨x, hx⟩ : ∃ x, o.f[k]? = some x := ⟨_, List.getElem?_eq_getElem hkl⟩
   obtain ⟨tv, h1, h2, h3⟩ := M.ex
   have hwt := M.f.wf
   obtain ⟨s1, p1, c1, f1, n1⟩ := eSt_ex (s := t) (b := m) (o := 3) (v := .i ((steps' : Int) + 1)) hwt h1 (by simp) rfl
   simp only [List.set_cons_zero, List.set_cons_succ] at c1
   have hmm := M.mp
   have hne : m ≠ mb := cl_mp_ne hwt h1 hmm
   have hcast : ((steps' : Int) + 1) = ((steps' + 1 : Nat) : Int) := by omega
   have M1 : MK s0 s1 m mb p met' todo' (steps' + 1) := ⟨M.f.trans' f1 (fun b hb => .inr (by simp at hb; subst hb; exact M.hm.1)), M.hm, ⟨tv, by rw [c1, hcast], h2.fr hwt f1 (fun b hb => by simp; exact (h3 b hb).2), h3⟩, f1.mp hwt hmm (by simpa using hne.symm)⟩
   have H1 := H.fr M1.f (by simp) (by simp) (by simp) (by simp) (by simp)
   obtain ⟨sh, hA, hS⟩ := H1.H
   have e1 := hA.isRef hS H1.ok d r (k : Nat)
   have hrO := refO_at (shapes := shapes) ho hkl
   rw [hrO] at e1
   have e2 := hA.get d r (k : Nat)
   have hg : getO os r (k : Nat) = some x := by
    unfold getO; rw [ho]; simp only
    rw [if_pos (by omega), Int.toNat_natCast]; exact hx
   rw [hg] at e2
   simp only at e2
   have htl : todo'.length ≤ 1000000 := by
    have := I.ps.length_eq; simp at this; omega
   cases hb : refB shapes o k with
   | false =>
     rw [hb] at e1
     simp -implicitDefEqProofs (maxSteps := 5000000) (disch := first | assumption | omega | (simp only [dz, dl, Nat.zero_add, Nat.reduceAdd, Bool.and_self]; done) | (simp only [dl]; omega)) only [go_sem, fAdd_eq, i0, i6, i57, i58, c, dLd_at hwt h1, p1, dLd_at f1.wf c1, e1]
     exact ⟨o.f.length - (k + 1), by omega, k + 1, met', todo', steps' + 1, rfl, by omega, M1, I, hsub, by omega, by omega, fun j y hj hy hby => by
      by_cases ej : j = k
      · subst ej; rw [hb] at hby; cases hby
      · exact hdone j y (by omega) hy hby, (by first | trivial | rfl | assumption), (by first | trivial | rfl | assumption), (by first | trivial | rfl | assumption), (by first | trivial | rfl | assumption)⟩
   | true =>
     rw [hb] at e1
     obtain ⟨s2, q2, M2⟩ := M1.mark (d + 3) x (by omega) htl
     have hxr : x = 0 ∨ Reach os shapes roots x := by
      by_cases h0 : x = 0
      · exact .inl h0
      · exact .inr (.step hR ho hx hb h0)
     simp -implicitDefEqProofs (maxSteps := 5000000) (disch := first | assumption | omega | (simp only [dz, dl, Nat.zero_add, Nat.reduceAdd, Bool.and_self]; done) | (simp only [dl]; omega)) only [go_sem, fAdd_eq, i0, i6, i57, i58, c, dLd_at hwt h1, p1, dLd_at f1.wf c1, e1, e2, q2]
     refine ⟨o.f.length - (k + 1), by omega, k + 1, _, _, steps' + 1 + 1, rfl, by omega, M2, I.mark hxr, fun y hy => markM_mem.2 (.inl (hsub y hy)), ?_, by omega, fun j y hj hy hby => ?_, (by first | trivial | rfl | assumption), (by first | trivial | rfl | assumption), (by first | trivial | rfl | assumption), (by first | trivial | rfl | assumption)⟩
     · unfold markM; split
       · omega
       · simp; omega
     · by_cases ej : j = k
       · subst ej
         rw [hx] at hy; cases hy
         by_cases h0 : x = 0
         · exact .inl h0
         · exact .inr (markM_mem.2 (.inr ⟨rfl, h0⟩))
       · exact (hdone j y (by omega) hy hby).imp_right fun h => markM_mem.2 (.inl h)
 · have : k = o.f.length := by omega
   subst this
   simp -implicitDefEqProofs (maxSteps := 5000000) (disch := first | assumption | omega | (simp only [dz, dl, Nat.zero_add, Nat.reduceAdd, Bool.and_self]; done) | (simp only [dl]; omega)) only [go_sem, fAdd_eq, i0, i6, i57, i58, c]
   exact ⟨(by first | trivial | rfl | assumption), met', todo', steps', M, I, hsub, hlen, hst, fun k x hx hb => hdone k x (List.getElem?_eq_some_iff.1 hx).1 hx hb⟩
end
end
end Go.Proofs.YtgkcpceppmppfaaLab
namespace Go.Proofs.YtgkcpceppmppfaaLab
open Go
set_option linter.all false
set_option maxRecDepth 10000
noncomputable section
theorem rnd_blk {id : Nat} {r : Res} {N N' : E → St → Prop} {Q : Res → Prop} (h : rnd r N' fun _ => False) (hN : ∀ e s, N' e s → N e s) : rnd (blkR id r) N Q := by
 obtain ⟨e, s, rfl, h⟩ := rnd_inv h
 exact hN e s h
theorem MI.fin {os : List O} {shapes : List (List Bool)} {roots met out : List Int} (I : MI os shapes roots met [] out) (hD : DoneM os shapes met out) (hr : ∀ r ∈ roots, r = 0 ∨ r ∈ met) : ∀ x, x ∈ met ↔ Reach os shapes roots x := fun x => by
 refine ⟨I.so x, fun h => ?_⟩
 induction h with
 | root h h0 => exact (hr _ h).resolve_left h0
 | step _ ho hx hb h0 ih => exact (hD _ (by have := I.ps.subset ih; simpa using this) _ ho _ _ hx hb).resolve_left h0
section
variable {s0 : St} {p bw bb n bm : Nat} {os : List O} {z : List Int} {shapes : List (List Bool)} {F : List Nat} (H : HS s0 p bw bb n os z shapes bm F)
include H
theorem MK.run2 (hRf : RefOk os shapes) {roots : List Int} (hRo : RootOk os roots) {s : St} {m mb : Nat} {met todo : List Int} {steps : Nat} (M : MK s0 s m mb p met todo steps) (I : MI os shapes roots met todo []) (hr : ∀ r ∈ roots, r = 0 ∨ r ∈ met) (hst : steps ≤ 20000000000000) (hml : met.length ≤ 60000) (d : Nat) {e : E} (i0 : g0 e = .ptr m 0) :
 Ret (retR (resV []) (p63_15 (K (d + 4)) e s)) fun x t => x = .tup [] ∧ ∃ met' steps', MK s0 t m mb p met' [] steps' ∧ met'.Nodup ∧ (∀ x, x ∈ met' ↔ Reach os shapes roots x) ∧ steps' ≤ steps + 2 * (lay os).length ∧ met'.length ≤ 90000 := by
 have hlay := H.lay_le
 have hW0 := leftW_nil os 1
 replace i0 : e.a0.a0 = _ := i0
 simp -implicitDefEqProofs (maxSteps := 5000000) (disch := first | assumption | omega | (simp only [dz, dl, Nat.zero_add, Nat.reduceAdd, Bool.and_self]; done) | (simp only [dl]; omega)) only [go_sem, fAdd_eq, p63_15.eq_1]
 refine loop_at (Q := fun r => Ret (retR _ (blkR 2 r)) _) (fun q e' t => ∃ (met' todo' out : List Int) (steps' : Nat), q = leftW os 1 out ∧ MK s0 t m mb p met' todo' steps' ∧ MI os shapes roots met' todo' out ∧ DoneM os shapes met' out ∧ (∀ x ∈ met, x ∈ met') ∧ steps' + 2 * leftW os 1 out ≤ steps + 2 * leftW os 1 [] ∧ met'.length + leftW os 1 out ≤ met.length + leftW os 1 [] ∧ g0 e' = .ptr m 0) ?_ (n := leftW os 1 []) (by omega) ⟨met, todo, [], steps, rfl, M, I, fun r h => by simp at h, fun x h => h, by omega, by omega, i0⟩
 clear i0 M I e
 rintro q e t ⟨met', todo', out, steps', rfl, M, I, hD, hsub, hs2, hl2, i0⟩
 replace i0 : e.a0.a0 = _ := i0
 obtain ⟨tv, h1, h2, h3⟩ := M.ex
 have hwt := M.f.wf
 have hlen := h2.len
 rw [List.length_map] at hlen
 rcases List.eq_nil_or_concat todo' with rfl | ⟨rest, r, rfl⟩
 · replace hlen : uLenS tv = some (.i 0) := hlen
   simp -implicitDefEqProofs (maxSteps := 5000000) (disch := first | assumption | omega | (simp only [dz, dl, Nat.zero_add, Nat.reduceAdd, Bool.and_self]; done) | (simp only [dl]; omega)) only [go_sem, fAdd_eq, i0, dLd_at hwt h1, hlen]
   exact ⟨(by first | trivial | rfl | assumption), met', steps', M, I.nd, I.fin hD (fun r hr' => (hr r hr').imp_right (hsub r)), by omega, by omega⟩
 · rw [List.concat_eq_append] at *
   rw [List.length_append, List.length_singleton] at hlen
   have h2' := h2
   rw [List.map_append, List.map_cons, List.map_nil] at h2'
   obtain ⟨tv', k1, k2, k3⟩ := h2'.pop
   rw [List.length_map] at k1
   have em : ((rest.length + 1 : Nat) : Int) - 1 = (rest.length : Nat) := by omega
   rw [em] at k1
   have hrb : rest.length ≤ 100000 := by have := I.ps.length_eq; simp at this; omega
   have c0 : (0 : Int) < ((rest.length + 1 : Nat) : Int) := by omega
   obtain ⟨qq, a1, a2⟩ := (h2.sl hwt).at hwt (j := rest.length) (x := .i r) (by rw [List.getElem?_map]; simp)
   have hone : tv'.one = true := by
    rcases k2 with ⟨_, rfl⟩ | ⟨b, L, rfl, _⟩ <;> rfl
   obtain ⟨s1, p1, c1, f1, n1⟩ := eSt_ex (s := t) (b := m) (o := 2) (v := tv') hwt h1 (by simp) hone
   simp only [List.set_cons_zero, List.set_cons_succ] at c1
   have hmm := M.mp
   have hne : m ≠ mb := cl_mp_ne hwt h1 hmm
   have M1 : MK s0 s1 m mb p met' rest steps' := ⟨M.f.trans' f1 (fun b hb => .inr (by simp at hb; subst hb; exact M.hm.1)), M.hm, ⟨tv', c1, k2.fr hwt f1 (fun b hb => by rw [k3] at hb; simp; exact (h3 b hb).2), fun b hb => by rw [k3] at hb; exact h3 b hb⟩, f1.mp hwt hmm (by simpa using hne.symm)⟩
   have hrm : r ∈ met' := I.ps.symm.subset (by simp)
   have hR := I.so r hrm
   obtain ⟨o, ho⟩ := Option.isSome_iff_exists.1 (hR.isSome hRf hRo)
   have hrl := at_pos (hR.isSome hRf hRo)
   have hnd2 : (out ++ (rest ++ [r])).Nodup := I.ps.nodup_iff.1 I.nd
   have hrn : r ∉ out := fun hm => by
    rw [List.nodup_append] at hnd2
    exact hnd2.2.2 r hm r (by simp) rfl
   have hW : leftW os 1 (out ++ [r]) + 1 + o.f.length = leftW os 1 out := by
    have := leftW_snoc os 1 out (r - 1) o ho (by rw [show r - 1 + ((1 : Nat) : Int) = r by omega]; exact hrn)
    rwa [show r - 1 + ((1 : Nat) : Int) = r by omega] at this
   have I1 : MI os shapes roots met' rest (out ++ [r]) := ⟨I.so, I.nd, I.ps.trans (by
    rw [List.append_assoc]
    exact (List.perm_append_comm).append_left _)⟩
   have H1 := H.fr M1.f (by simp) (by simp) (by simp) (by simp) (by simp)
   obtain ⟨sh, hA, hS⟩ := H1.H
   have e1 := hA.len (d + 2) r
   have hlo : lenO os r = (o.f.length : Nat) := by unfold lenO; rw [ho]
   rw [hlo] at e1
   simp -implicitDefEqProofs (maxSteps := 5000000) (disch := first | assumption | omega | (simp only [dz, dl, Nat.zero_add, Nat.reduceAdd, Bool.and_self]; done) | (simp only [dl]; omega)) only [go_sem, fAdd_eq, i0, dLd_at hwt h1, hlen, c0, em, a1, a2, k1, p1, dLd_at f1.wf c1, e1]
   refine rnd_blk (M1.fields H hRf ho I1 hR (by omega) d (by first | trivial | rfl | assumption) (by first | trivial | rfl | assumption) (by first | trivial | rfl | assumption) (by first | trivial | rfl | assumption) (by omega)) ?_
   rintro e' t' ⟨j0, met2, todo2, steps2, M2, I2, hs3, hl3, hst3, hdn⟩
   refine ⟨leftW os 1 (out ++ [r]), by omega, met2, todo2, out ++ [r], steps2, rfl, M2, I2, ?_, fun x hx => hs3 x (hsub x hx), by omega, by omega, j0⟩
   intro x hx o' ho' k y hy hb
   rcases List.mem_append.1 hx with hx | hx
   · exact (hD x hx o' ho' k y hy hb).imp_right (hs3 y)
   · simp at hx; subst hx
     rw [ho] at ho'; cases ho'
     exact hdn k y hy hb
theorem MK.run (hRf : RefOk os shapes) {roots : List Int} (hRo : RootOk os roots) {s : St} {m mb : Nat} (M : MK s0 s m mb p [] [] 0) {v : V} (hk : SL s0 v (roots.map .i)) (hl : roots.length ≤ 17592186044416) (d : Nat) :
 Ret ((K (d + 5)).call 63 [.ptr m 0, v] s) fun x t => x = .tup [] ∧ ∃ met' steps', MK s0 t m mb p met' [] steps' ∧ met'.Nodup ∧ (∀ x, x ∈ met' ↔ Reach os shapes roots x) ∧ steps' ≤ roots.length + 2 * (lay os).length ∧ met'.length ≤ 90000 := by
 have hw0 := H.wf
 have hlen := hk.len
 rw [List.length_map] at hlen
 simp -implicitDefEqProofs (maxSteps := 5000000) (disch := first | assumption | omega | (simp only [dz, dl, Nat.zero_add, Nat.reduceAdd, Bool.and_self]; done) | (simp only [dl]; omega)) only [op63, go_sem, fAdd_eq, hlen]
 refine loop_at (Q := fun r => Ret (retR _ (seqR (blkR 0 r) _)) _) (fun q e' t => ∃ (j : Nat) (met' todo' : List Int), q = roots.length - j ∧ j ≤ roots.length ∧ MK s0 t m mb p met' todo' j ∧ MI os shapes roots met' todo' [] ∧ (∀ r ∈ roots.take j, r = 0 ∨ r ∈ met') ∧ met'.length ≤ j ∧ g0 e' = .ptr m 0 ∧ g10 e' = v ∧ g11 e' = .i (roots.length : Nat) ∧ g12 e' = .i j) ?_ (n := roots.length) (by omega) ⟨0, [], [], by omega, by omega, M, ⟨fun r h => by simp at h, List.nodup_nil, by simp⟩, by simp, by simp, (by first | trivial | rfl | assumption), (by first | trivial | rfl | assumption), (by first | trivial | rfl | assumption), (by first | trivial | rfl | assumption)⟩
 rintro q e t ⟨j, met', todo', rfl, hj, M, I, hr, hml, i0, i10, i11, i12⟩
 replace i0 : e.a0.a0 = _ := i0
 replace i10 : e.a0.a10 = _ := i10
 replace i11 : e.a0.a11 = _ := i11
 replace i12 : e.a0.a12 = _ := i12
 by_cases c : (j : Int) < ((roots.length : Nat) : Int)
 · obtain ⟨r, hrj⟩ : ∃ r, roots[j]? = some r := ⟨_, List.getElem?_eq_getElem (by omega)⟩
   obtain ⟨qq, a1, a2⟩ := (hk.fr hw0 M.f (by simp)).at M.f.wf (j := j) (x := .i r) (by rw [List.getElem?_map, hrj]; rfl)
   have hts := take_snoc hrj
   have hlay := H.lay_le
   have hIl := I.len hRf hRo
   obtain ⟨s2, q2, M2⟩ := M.mark (d + 3) r (by omega) (by have := I.ps.length_eq; simp at this; omega)
   have hrm := List.mem_of_getElem? hrj
   have hxr : r = 0 ∨ Reach os shapes roots r := by
    by_cases h0 : r = 0
    · exact .inl h0
    · exact .inr (.root hrm h0)
   simp -implicitDefEqProofs (maxSteps := 5000000) (disch := first | assumption | omega | (simp only [dz, dl, Nat.zero_add, Nat.reduceAdd, Bool.and_self]; done) | (simp only [dl]; omega)) only [go_sem, fAdd_eq, i0, i10, i11, i12, c, a1, a2, q2]
   refine ⟨roots.length - (j + 1), by omega, j + 1, _, _, rfl, by omega, M2, I.mark hxr, fun x hx => ?_, ?_, (by first | trivial | rfl | assumption), (by first | trivial | rfl | assumption), (by first | trivial | rfl | assumption), (by first | trivial | rfl | assumption)⟩
   · rw [hts] at hx
     rcases List.mem_append.1 hx with hx | hx
     · exact (hr x hx).imp_right fun h => markM_mem.2 (.inl h)
     · simp at hx; subst hx
       by_cases h0 : x = 0
       · exact .inl h0
       · exact .inr (markM_mem.2 (.inr ⟨rfl, h0⟩))
   · unfold markM; split
     · omega
     · simp; omega
 · have : j = roots.length := by omega
   subst this
   rw [List.take_length] at hr
   simp -implicitDefEqProofs (maxSteps := 5000000) (disch := first | assumption | omega | (simp only [dz, dl, Nat.zero_add, Nat.reduceAdd, Bool.and_self]; done) | (simp only [dl]; omega)) only [go_sem, fAdd_eq, i0, i10, i11, i12, c]
   have hlay := H.lay_le
   have hIl := I.len hRf hRo
   exact M.run2 H hRf hRo I hr (by omega) (by omega) d (by first | trivial | rfl | assumption)
end
end
end Go.Proofs.YtgkcpceppmppfaaLab
