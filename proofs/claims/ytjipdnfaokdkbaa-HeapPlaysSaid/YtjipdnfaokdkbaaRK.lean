/- What is reached. No condition on the program. -/
import Derived.Test.YtjipdnfaokdkbaaRJ
namespace Go.Proofs.YtjipdnfaokdkbaaLab
open Go
set_option linter.all false
set_option maxRecDepth 10000
noncomputable section
theorem RootOk.snoc {os : List O} {l : List Int} {r : Int} (h : RootOk os l) (hr : r = 0 ∨ (at? os r).isSome) : RootOk os (l ++ [r]) := fun x hx => by
  rcases List.mem_append.1 hx with hx | hx
  · exact h x hx
  · simp at hx; subst hx; exact hr
/-- What is known while the graph is gone through. -/
structure MkI (os : List O) (shapes : List (List Bool)) (roots out left : List Int) : Prop where
  so : ∀ r ∈ out, Reach os shapes roots r
  sl : ∀ r ∈ left, r = 0 ∨ Reach os shapes roots r
  ro : ∀ r ∈ roots, r = 0 ∨ r ∈ out ∨ r ∈ left
  cl : ∀ r ∈ out, ∀ o, at? os r = some o → ∀ (k : Nat) x, o.f[k]? = some x → refB shapes o k = true → x = 0 ∨ x ∈ out ∨ x ∈ left
  nd : out.Nodup
def MarkQ (s : St) (os : List O) (shapes : List (List Bool)) (roots : List Int) (r : V) (s' : St) : Prop :=
  (¬ RootOk os roots → r = .tup [.nils, .bool false] ∧ Fr s s' []) ∧
  (RootOk os roots → ∃ (v : V) (l : List Int), r = .tup [v, .bool true] ∧ GL s' v (l.map .i) ∧ Fr s s' [] ∧ (∀ b ∈ blkV v, s.next ≤ b) ∧ l.Pairwise (· < ·) ∧ ∀ x, x ∈ l ↔ Reach os shapes roots x)
theorem blk_lt {s : St} {v : V} {l : List V} (hw : Wf s) (h : GL s v l) : ∀ b ∈ blkV v, b < s.next := fun b hb => by
  rcases h with ⟨_, rfl⟩ | ⟨b', rfl, h2⟩
  · simp [blkV] at hb
  · simp [blkV] at hb; subst hb; exact cl_lt hw h2
theorem blk_ltP {s : St} {v : V} {l : List V} (hw : Wf s) (h : GP s v l) : ∀ b ∈ blkV v, b < s.next := fun b hb => by
  rcases h with ⟨_, rfl⟩ | ⟨b', L, rfl, h2, _⟩
  · simp [blkV] at hb
  · simp [blkV] at hb; subst hb; exact cl_lt hw h2
theorem perm_lt {l out : List Int} (hp : l.Perm out) (hs : l.Pairwise (· ≤ ·)) (hn : out.Nodup) : l.Pairwise (· < ·) := by
  have hn2 : l.Nodup := hp.nodup_iff.2 hn
  have := List.Pairwise.and hs hn2
  exact this.imp fun h => by omega
theorem at_pos {os : List O} {r : Int} (h : (at? os r).isSome) : 1 ≤ r := by
  obtain ⟨o, ho⟩ := Option.isSome_iff_exists.1 h
  exact (lay_lt ho).1
theorem ld_same {s s' : St} {b o : Nat} (h : s'.heap.get b = s.heap.get b) : ldP (.ptr b o) s' = ldP (.ptr b o) s := by
  show (match rdOf s' b with | some (n, xs) => Bool.casesOn (motive := fun _ => Option V) (Nat.blt o n) none (xs o) | none => none) = (match rdOf s b with | some (n, xs) => Bool.casesOn (motive := fun _ => Option V) (Nat.blt o n) none (xs o) | none => none)
  rw [rd_same h]
theorem ObP.same {s s' : St} {FO : List Nat} {o : O} {a b i bf : Nat} {c : Option Nat} (ob : ObP s FO o a b i bf c) (h : ∀ b ∈ FO, s'.heap.get b = s.heap.get b) : ObP s' FO o a b i bf c :=
  ⟨(ld_same (h b ob.mb)).trans ob.at0, (ld_same (h b ob.mb)).trans ob.sh, (ld_same (h b ob.mb)).trans ob.f, (ld_same (h b ob.mb)).trans ob.tag, (cl_same (h bf ob.mf)).trans ob.cl, ob.mb, ob.mf⟩
section
variable {s : St} {rp : Nat} {w : Int} {os : List O} {shapes : List (List Bool)} {FO FS : List Nat} (H : RR s rp w os shapes FO FS)
include H
theorem RR.mark (ok : ShOk os shapes) (hRf : RefOk os shapes) {v : V} {roots : List Int} (hk : SL s v (roots.map .i)) (hl : roots.length ≤ 50000) (d : Nat) :
    Ret ((K (d + 3)).call 34 [.ptr rp 0, v] s) (MarkQ s os shapes roots) := by
  have hw := H.wf
  have hw0 := H.w0
  have hlw := H.lw
  have hlen := hk.len
  rw [List.length_map] at hlen
  simp -implicitDefEqProofs (maxSteps := 5000000) (disch := first | assumption | omega | (simp only [one_i, one_int, one_bool, one_str, one_ptr, one_nilp, one_nils, one_slice, one_map, one_nilm, one_func, one_iface, same_i, same_bool, same_nils, same_ptr, same_map, same_slice, List.length_cons, List.length_nil, Nat.zero_add, Nat.reduceAdd, allOne_cons, allOne_nil, Bool.and_self]; done) | (simp only [List.length_cons, List.length_nil, List.length_map, List.length_set]; omega)) only [op34, go_sem, fAdd_eq]
  refine loop_at (Q := fun r => Ret (retR _ (seqR (blkR 0 r) _)) _) (fun m e t => ∃ (j : Nat) (lv : V), m = roots.length - j ∧ j ≤ roots.length ∧ Fr s t [] ∧ RootOk os (roots.take j) ∧ GL t lv ((roots.take j).map .i) ∧ (∀ b ∈ blkV lv, s.next ≤ b) ∧ g0 e = .ptr rp 0 ∧ g1 e = v ∧ g6 e = .nils ∧ g7 e = lv ∧ g8 e = .i j) ?_ (n := roots.length) (by omega) ⟨0, .nils, by omega, by omega, Fr.refl hw _, by simp [RootOk], .inl ⟨rfl, rfl⟩, by simp [blkV], (by first | trivial | rfl | assumption), (by first | trivial | rfl | assumption), (by first | trivial | rfl | assumption), (by first | trivial | rfl | assumption), (by first | trivial | rfl | assumption)⟩
  rintro m e t ⟨j, lv, rfl, hj, ft, hro, hg, hb, i0, i1, i6, i7, i8⟩
  replace i0 : e.a0.a0 = _ := i0
  replace i1 : e.a0.a1 = _ := i1
  replace i6 : e.a0.a6 = _ := i6
  replace i7 : e.a0.a7 = _ := i7
  replace i8 : e.a0.a8 = _ := i8
  have hwt := ft.wf
  have hkt := hk.fr hw ft (by simp)
  have Ht := H.fr ft (by simp) (by simp) (by simp)
  by_cases c : (j : Int) < ((roots.length : Nat) : Int)
  · have hoj : roots[j]? = some roots[j] := List.getElem?_eq_getElem (by omega)
    obtain ⟨q, a1, a2⟩ := hkt.at hwt (j := j) (x := .i roots[j]) (by rw [List.getElem?_map, hoj]; rfl)
    have hts := take_snoc hoj
    generalize roots[j] = r at *
    obtain ⟨f0, f1⟩ := Ht.find (d + 1) r
    obtain ⟨s1, s2, p1, p2, hg2, f2, n2⟩ := hg.push hwt (x := .i r) rfl (fun y hy => by obtain ⟨a, _, rfl⟩ := List.mem_map.1 hy; rfl) (by rw [List.length_map, List.length_take]; omega)
    have F2 : Fr s s2 [] := ft.trans' f2 (fun x hx => .inr (hb x hx))
    have hnx := ft.nx
    have fin : (r = 0 ∨ (at? os r).isSome) → ∃ m, m < roots.length - j ∧ ∃ (j' : Nat) (lv' : V), m = roots.length - j' ∧ j' ≤ roots.length ∧ Fr s s2 [] ∧ RootOk os (roots.take j') ∧ GL s2 lv' ((roots.take j').map .i) ∧ (∀ b ∈ blkV lv', s.next ≤ b) ∧ j' = j + 1 ∧ lv' = .slice (t.next + 1) 0 (((roots.take j).map V.i).length + 1) none 1 := fun h => by
      refine ⟨roots.length - (j + 1), by omega, j + 1, _, rfl, by omega, F2, ?_, ?_, ?_, rfl, rfl⟩
      · rw [hts]; exact hro.snoc h
      · rw [hts, List.map_append]; exact hg2
      · simp [blkV]; omega
    by_cases c0 : r = 0
    · obtain ⟨m, h1, j', lv', h2, h3, h4, h5, h6, h7, rfl, rfl⟩ := fin (.inl c0)
      subst c0
      simp -implicitDefEqProofs (maxSteps := 5000000) (disch := first | assumption | omega | (simp only [one_i, one_int, one_bool, one_str, one_ptr, one_nilp, one_nils, one_slice, one_map, one_nilm, one_func, one_iface, same_i, same_bool, same_nils, same_ptr, same_map, same_slice, List.length_cons, List.length_nil, Nat.zero_add, Nat.reduceAdd, allOne_cons, allOne_nil, Bool.and_self]; done) | (simp only [List.length_cons, List.length_nil, List.length_map, List.length_set]; omega)) only [go_sem, fAdd_eq, i0, i1, i6, i7, i8, c, hlen, a1, a2, p1, p2, eq_self, Bool.not_true]
      exact ⟨m, h1, j + 1, _, h2, h3, h4, h5, h6, h7, (by first | trivial | rfl | assumption), (by first | trivial | rfl | assumption), (by first | trivial | rfl | assumption), rfl, (by first | trivial | rfl | assumption)⟩
    · cases hat : at? os r with
      | none =>
        have e1 := f0 hat
        have hbad : ¬ RootOk os roots := fun h => by
          have := h r (List.mem_of_getElem? hoj)
          rw [hat] at this
          exact this.elim c0 (by simp)
        simp -implicitDefEqProofs (maxSteps := 5000000) (disch := first | assumption | omega | (simp only [one_i, one_int, one_bool, one_str, one_ptr, one_nilp, one_nils, one_slice, one_map, one_nilm, one_func, one_iface, same_i, same_bool, same_nils, same_ptr, same_map, same_slice, List.length_cons, List.length_nil, Nat.zero_add, Nat.reduceAdd, allOne_cons, allOne_nil, Bool.and_self]; done) | (simp only [List.length_cons, List.length_nil, List.length_map, List.length_set]; omega)) only [go_sem, fAdd_eq, i0, i1, i6, i7, i8, c, hlen, a1, a2, c0, e1]
        exact ⟨fun _ => ⟨rfl, ft⟩, fun h => absurd h hbad⟩
      | some o =>
        obtain ⟨b, i, bf, cc, e1, ob, oi, ol, oL⟩ := f1 o hat
        obtain ⟨m, h1, j', lv', h2, h3, h4, h5, h6, h7, rfl, rfl⟩ := fin (.inr (by rw [hat]; rfl))
        simp -implicitDefEqProofs (maxSteps := 5000000) (disch := first | assumption | omega | (simp only [one_i, one_int, one_bool, one_str, one_ptr, one_nilp, one_nils, one_slice, one_map, one_nilm, one_func, one_iface, same_i, same_bool, same_nils, same_ptr, same_map, same_slice, List.length_cons, List.length_nil, Nat.zero_add, Nat.reduceAdd, allOne_cons, allOne_nil, Bool.and_self]; done) | (simp only [List.length_cons, List.length_nil, List.length_map, List.length_set]; omega)) only [go_sem, fAdd_eq, i0, i1, i6, i7, i8, c, hlen, a1, a2, c0, e1, p1, p2]
        exact ⟨m, h1, j + 1, _, h2, h3, h4, h5, h6, h7, (by first | trivial | rfl | assumption), (by first | trivial | rfl | assumption), (by first | trivial | rfl | assumption), rfl, (by first | trivial | rfl | assumption)⟩
  · have : j = roots.length := by omega
    subst this
    rw [List.take_length] at hro hg
    simp -implicitDefEqProofs (maxSteps := 5000000) (disch := first | assumption | omega | (simp only [one_i, one_int, one_bool, one_str, one_ptr, one_nilp, one_nils, one_slice, one_map, one_nilm, one_func, one_iface, same_i, same_bool, same_nils, same_ptr, same_map, same_slice, List.length_cons, List.length_nil, Nat.zero_add, Nat.reduceAdd, allOne_cons, allOne_nil, Bool.and_self]; done) | (simp only [List.length_cons, List.length_nil, List.length_map, List.length_set]; omega)) only [go_sem, fAdd_eq, i0, i1, i6, i7, i8, c, hlen]
    have hw1 := leftW_nil os 1
    refine loop_at (Q := fun r => Ret (retR _ (seqR (blkR 2 r) _)) _) (fun m e t => ∃ (out left : List Int) (ov lv : V), m = left.length + leftW os 1 out ∧ m ≤ 50000 + (lay os).length ∧ Fr s t [] ∧ MkI os shapes roots out left ∧ out.length + leftW os 1 out ≤ (lay os).length ∧ GL t ov (out.map .i) ∧ GP t lv (left.map .i) ∧ (∀ b ∈ blkV lv, s.next ≤ b ∧ b ∉ blkV ov) ∧ (∀ b ∈ blkV ov, s.next ≤ b) ∧ g0 e = .ptr rp 0 ∧ g6 e = ov ∧ g7 e = lv) ?_ (n := roots.length + leftW os 1 []) (by omega) ⟨[], roots, .nils, lv, rfl, by omega, ft, ⟨by simp, ?_, fun r hr => ?_, by simp, by simp⟩, by simpa using hw1, .inl ⟨rfl, rfl⟩, hg.gp, fun b hb' => ⟨hb b hb', by simp [blkV]⟩, by simp [blkV], (by first | trivial | rfl | assumption), (by first | trivial | rfl | assumption), (by first | trivial | rfl | assumption)⟩
    rotate_left
    · intro r hr
      by_cases c0 : r = 0
      · exact .inl c0
      · exact .inr (.root hr c0)
    · exact .inr (.inr hr)
    clear i0 i1 i6 i7 i8 c hj e hg hb hkt Ht ft hwt lv t
    rintro m e t ⟨out, left, ov, lv, rfl, hm, ft, hI, hol, hg, hgp, hb, hbo, i0, i6, i7⟩
    replace i0 : e.a0.a0 = _ := i0
    replace i6 : e.a0.a6 = _ := i6
    replace i7 : e.a0.a7 = _ := i7
    have hwt := ft.wf
    have hlenL : uLenS lv = some (.i (left.length : Nat)) := by have := hgp.len; rwa [List.length_map] at this
    rcases List.eq_nil_or_concat left with rfl | ⟨left, n, rfl⟩
    · replace hlenL : uLenS lv = some (.i 0) := hlenL
      simp -implicitDefEqProofs (maxSteps := 5000000) (disch := first | assumption | omega | (simp only [one_i, one_int, one_bool, one_str, one_ptr, one_nilp, one_nils, one_slice, one_map, one_nilm, one_func, one_iface, same_i, same_bool, same_nils, same_ptr, same_map, same_slice, List.length_cons, List.length_nil, Nat.zero_add, Nat.reduceAdd, allOne_cons, allOne_nil, Bool.and_self]; done) | (simp only [List.length_cons, List.length_nil, List.length_map, List.length_set]; omega)) only [go_sem, fAdd_eq, i0, i6, i7, hlenL]
      refine (sort_tail (out := out) (v := ov) (s0 := s) hwt ft hg (by omega) hbo d _ (by first | trivial | rfl | assumption)).mono fun r s' hq => ?_
      obtain ⟨l, rfl, q2, q3, q4, q5⟩ := hq
      refine ⟨fun h => absurd hro h, fun _ => ⟨ov, l, rfl, q2, q5, hbo, perm_lt q3 q4 hI.nd, fun x => ?_⟩⟩
      rw [q3.mem_iff]
      constructor
      · exact hI.so x
      · intro h
        induction h with
        | root h h0 => exact (hI.ro _ h).elim (fun h => absurd h h0) (fun h => h.elim id (by simp))
        | step h ho hx hr h0 ih => exact (hI.cl _ ih _ ho _ _ hx hr).elim (fun h => absurd h h0) (fun h => h.elim id (by simp))
    · rw [List.concat_eq_append] at *
      have hL : (left ++ [n]).length = left.length + 1 := by simp
      rw [hL] at hm hlenL
      have c1 : (0 : Int) < ((left.length + 1 : Nat) : Int) := by omega
      have em : ((left.length + 1 : Nat) : Int) - 1 = ((left.length : Nat) : Int) := by omega
      rw [List.map_append] at hgp
      obtain ⟨q, a1, a2⟩ := (hgp.sl hwt).at hwt (j := left.length) (x := .i n) (by simp)
      obtain ⟨lv', p1, hgp', hbl⟩ := hgp.pop
      rw [List.length_map, em] at p1
      have eh := has_eq hwt (hg.sl hwt) (by omega) n (d + 1)
      by_cases c0 : n = 0
      · simp -implicitDefEqProofs (maxSteps := 5000000) (disch := first | assumption | omega | (simp only [one_i, one_int, one_bool, one_str, one_ptr, one_nilp, one_nils, one_slice, one_map, one_nilm, one_func, one_iface, same_i, same_bool, same_nils, same_ptr, same_map, same_slice, List.length_cons, List.length_nil, Nat.zero_add, Nat.reduceAdd, allOne_cons, allOne_nil, Bool.and_self]; done) | (simp only [List.length_cons, List.length_nil, List.length_map, List.length_set]; omega)) only [go_sem, fAdd_eq, i0, i6, i7, hlenL, c1, em, a1, a2, p1, c0]
        refine ⟨left.length + leftW os 1 out, by rw [List.length_append, List.length_singleton]; omega, out, left, ov, lv', rfl, by omega, ft, ⟨hI.so, fun r hr => hI.sl r (by simp [hr]), fun r hr => ?_, fun r hr o ho k x hx hb => ?_, hI.nd⟩, hol, hg, hgp', by rw [hbl]; exact hb, hbo, (by first | trivial | rfl | assumption), (by first | trivial | rfl | assumption), (by first | trivial | rfl | assumption)⟩
        · rcases hI.ro r hr with h | h | h
          · exact .inl h
          · exact .inr (.inl h)
          · rcases List.mem_append.1 h with h | h
            · exact .inr (.inr h)
            · simp at h; exact .inl (h.trans c0)
        · rcases hI.cl r hr o ho k x hx hb with h | h | h
          · exact .inl h
          · exact .inr (.inl h)
          · rcases List.mem_append.1 h with h | h
            · exact .inr (.inr h)
            · simp at h; exact .inl (h.trans c0)
      · by_cases ch : 0 ≤ hasI out n
        · have hmem : n ∈ out := Classical.byContradiction fun h => by have := hasI_neg.2 h; omega
          simp -implicitDefEqProofs (maxSteps := 5000000) (disch := first | assumption | omega | (simp only [one_i, one_int, one_bool, one_str, one_ptr, one_nilp, one_nils, one_slice, one_map, one_nilm, one_func, one_iface, same_i, same_bool, same_nils, same_ptr, same_map, same_slice, List.length_cons, List.length_nil, Nat.zero_add, Nat.reduceAdd, allOne_cons, allOne_nil, Bool.and_self]; done) | (simp only [List.length_cons, List.length_nil, List.length_map, List.length_set]; omega)) only [go_sem, fAdd_eq, i0, i6, i7, hlenL, c1, em, a1, a2, p1, c0, eh, ch]
          refine ⟨left.length + leftW os 1 out, by rw [List.length_append, List.length_singleton]; omega, out, left, ov, lv', rfl, by omega, ft, ⟨hI.so, fun r hr => hI.sl r (by simp [hr]), fun r hr => ?_, fun r hr o ho k x hx hb => ?_, hI.nd⟩, hol, hg, hgp', by rw [hbl]; exact hb, hbo, (by first | trivial | rfl | assumption), (by first | trivial | rfl | assumption), (by first | trivial | rfl | assumption)⟩
          · rcases hI.ro r hr with h | h | h
            · exact .inl h
            · exact .inr (.inl h)
            · rcases List.mem_append.1 h with h | h
              · exact .inr (.inr h)
              · simp at h; subst h; exact .inr (.inl hmem)
          · rcases hI.cl r hr o ho k x hx hb with h | h | h
            · exact .inl h
            · exact .inr (.inl h)
            · rcases List.mem_append.1 h with h | h
              · exact .inr (.inr h)
              · simp at h; subst h; exact .inr (.inl hmem)
        · have hnm : n ∉ out := hasI_neg.1 (by omega)
          have hre : Reach os shapes roots n := (hI.sl n (by simp)).resolve_left c0
          obtain ⟨o, ho⟩ := Option.isSome_iff_exists.1 (hre.isSome hRf hro)
          have hlo := lay_lt ho
          have hon : o.n = 3 + o.f.length := rfl
          have hW := leftW_snoc os 1 out (n - 1) o ho (by rw [show n - 1 + ((1 : Nat) : Int) = n by omega]; exact hnm)
          rw [show n - 1 + ((1 : Nat) : Int) = n by omega] at hW
          have hos := H.lens
          obtain ⟨x1, x2, p2, p3, hg2, f2, n2⟩ := hg.push hwt (x := .i n) rfl (fun y hy => by obtain ⟨a, _, rfl⟩ := List.mem_map.1 hy; rfl) (by rw [List.length_map]; omega)
          rw [List.length_map] at p3 hg2
          have F2 : Fr s x2 [] := ft.trans' f2 (fun x hx => .inr (hbo x hx))
          have H2 := H.fr F2 (by simp) (by simp) (by simp)
          obtain ⟨b, i, bf, cc, e1, ob, oi, ol, oL⟩ := (H2.find (d + 1) n).2 o ho
          have hbl' : ∀ b ∈ blkV lv', s.next ≤ b ∧ b ∉ blkV ov := by rw [hbl]; exact hb
          have hgp2 := hgp'.fr hwt f2 (fun b hb' => (hbl' b hb').2)
          have hlvt := blk_ltP hwt hgp'
          simp -implicitDefEqProofs (maxSteps := 5000000) (disch := first | assumption | omega | (simp only [one_i, one_int, one_bool, one_str, one_ptr, one_nilp, one_nils, one_slice, one_map, one_nilm, one_func, one_iface, same_i, same_bool, same_nils, same_ptr, same_map, same_slice, List.length_cons, List.length_nil, Nat.zero_add, Nat.reduceAdd, allOne_cons, allOne_nil, Bool.and_self]; done) | (simp only [List.length_cons, List.length_nil, List.length_map, List.length_set]; omega)) only [go_sem, fAdd_eq, i0, i6, i7, hlenL, c1, em, a1, a2, p1, c0, eh, ch, p2, p3, e1]
          have hnx := ft.nx
          refine loop_at (Q := fun r => rnd (blkR 3 (blkR 4 r)) _ _) (fun m e u => ∃ (k : Nat) (left2 : List Int) (lv2 : V), m = o.f.length - k ∧ k ≤ o.f.length ∧ Fr s u [] ∧ left2.length ≤ left.length + k ∧ (∀ r ∈ left, r ∈ left2) ∧ (∀ r ∈ left2, r ∈ left ∨ r = 0 ∨ Reach os shapes roots r) ∧ (∀ (k' : Nat) x, k' < k → o.f[k']? = some x → refB shapes o k' = true → x ∈ left2) ∧ GL u (.slice (t.next + 1) 0 (out.length + 1) none 1) ((out ++ [n]).map .i) ∧ GP u lv2 (left2.map .i) ∧ (∀ b ∈ blkV lv2, s.next ≤ b ∧ b ≠ t.next + 1) ∧ g0 e = .ptr rp 0 ∧ g6 e = .slice (t.next + 1) 0 (out.length + 1) none 1 ∧ g7 e = lv2 ∧ g9 e = .i n ∧ g10 e = .ptr b (4 * i) ∧ g11 e = .i k) ?_ (n := o.f.length) (by omega) ⟨0, left, lv', by omega, by omega, F2, by omega, fun r hr => hr, fun r hr => .inl hr, by simp, by rw [List.map_append]; exact hg2, hgp2, fun b hb' => ⟨(hbl' b hb').1, by have := hlvt b hb'; omega⟩, (by first | trivial | rfl | assumption), (by first | trivial | rfl | assumption), (by first | trivial | rfl | assumption), (by first | trivial | rfl | assumption), (by first | trivial | rfl | assumption), (by first | trivial | rfl | assumption)⟩
          clear i0 i6 i7 e
          rintro m e u ⟨k, left2, lv2, rfl, hk', fu, hl2, hs1, hs2, hs3, hgu, hgp3, hb3, i0, i6, i7, i9, i10, i11⟩
          replace i0 : e.a0.a0 = _ := i0
          replace i6 : e.a0.a6 = _ := i6
          replace i7 : e.a0.a7 = _ := i7
          replace i9 : e.a0.a9 = _ := i9
          replace i10 : e.a0.a10 = _ := i10
          replace i11 : e.a0.a11 = _ := i11
          have hwu := fu.wf
          have Hu := H.fr fu (by simp) (by simp) (by simp)
          have obu := ob.same (s' := u) (fun y hy => (fu.same y (H.ltO y hy) (by simp)).trans (F2.same y (H.ltO y hy) (by simp)).symm)
          have e2 := obu.f
          by_cases ck : (k : Int) < ((o.f.length : Nat) : Int)
          · have hx : o.f[k]? = some o.f[k] := List.getElem?_eq_getElem (by omega)
            obtain ⟨b1, b2⟩ := obu.getN hwu hx
            generalize o.f[k] = x at *
            have er := Hu.isRef ok d n k
            rw [refO_at ho (by omega)] at er
            cases hr : refB shapes o k with
            | false =>
              rw [hr] at er
              simp -implicitDefEqProofs (maxSteps := 5000000) (disch := first | assumption | omega | (simp only [one_i, one_int, one_bool, one_str, one_ptr, one_nilp, one_nils, one_slice, one_map, one_nilm, one_func, one_iface, same_i, same_bool, same_nils, same_ptr, same_map, same_slice, List.length_cons, List.length_nil, Nat.zero_add, Nat.reduceAdd, allOne_cons, allOne_nil, Bool.and_self]; done) | (simp only [List.length_cons, List.length_nil, List.length_map, List.length_set]; omega)) only [go_sem, fAdd_eq, i0, i6, i7, i9, i10, i11, ck, e2, er]
              refine ⟨o.f.length - (k + 1), by omega, k + 1, left2, lv2, rfl, by omega, fu, by omega, hs1, hs2, ?_, hgu, hgp3, hb3, (by first | trivial | rfl | assumption), (by first | trivial | rfl | assumption), (by first | trivial | rfl | assumption), (by first | trivial | rfl | assumption), (by first | trivial | rfl | assumption), (by first | trivial | rfl | assumption)⟩
              intro k' x' hk2 hx' hr'
              by_cases e : k' = k
              · subst e; rw [hr] at hr'; cases hr'
              · exact hs3 k' x' (by omega) hx' hr'
            | true =>
              rw [hr] at er
              obtain ⟨y1, y2, p4, p5, hg4, f4, n4⟩ := hgp3.push hwu (x := .i x) rfl (fun y hy => by obtain ⟨a, _, rfl⟩ := List.mem_map.1 hy; rfl) (by rw [List.length_map]; omega)
              rw [List.length_map] at p5 hg4
              have hun := fu.nx
              have hgub := blk_lt hwu hgu _ (by simp [blkV]; rfl)
              simp -implicitDefEqProofs (maxSteps := 5000000) (disch := first | assumption | omega | (simp only [one_i, one_int, one_bool, one_str, one_ptr, one_nilp, one_nils, one_slice, one_map, one_nilm, one_func, one_iface, same_i, same_bool, same_nils, same_ptr, same_map, same_slice, List.length_cons, List.length_nil, Nat.zero_add, Nat.reduceAdd, allOne_cons, allOne_nil, Bool.and_self]; done) | (simp only [List.length_cons, List.length_nil, List.length_map, List.length_set]; omega)) only [go_sem, fAdd_eq, i0, i6, i7, i9, i10, i11, ck, e2, er, b1, b2, p4, p5]
              refine ⟨o.f.length - (k + 1), by omega, k + 1, left2 ++ [x], _, rfl, by omega, fu.trans' f4 (fun y hy => .inr (hb3 y hy).1), by simp; omega, fun r hr => by simp [hs1 r hr], ?_, ?_, hgu.fr hwu f4 (fun y hy => by simp [blkV] at hy; subst hy; exact fun hm => (hb3 _ hm).2 rfl), by rw [List.map_append]; exact hg4.gp, ?_, (by first | trivial | rfl | assumption), (by first | trivial | rfl | assumption), rfl, (by first | trivial | rfl | assumption), (by first | trivial | rfl | assumption), (by first | trivial | rfl | assumption)⟩
              · intro r hr'
                rcases List.mem_append.1 hr' with hr' | hr'
                · exact hs2 r hr'
                · simp at hr'; subst hr'
                  by_cases e : r = 0
                  · exact .inr (.inl e)
                  · exact .inr (.inr (.step hre ho hx hr e))
              · intro k' x' hk2 hx' hr'
                by_cases e : k' = k
                · subst e; rw [hx] at hx'; cases hx'; simp
                · simp [hs3 k' x' (by omega) hx' hr']
              · simp [blkV]; omega
          · have : k = o.f.length := by omega
            subst this
            simp -implicitDefEqProofs (maxSteps := 5000000) (disch := first | assumption | omega | (simp only [one_i, one_int, one_bool, one_str, one_ptr, one_nilp, one_nils, one_slice, one_map, one_nilm, one_func, one_iface, same_i, same_bool, same_nils, same_ptr, same_map, same_slice, List.length_cons, List.length_nil, Nat.zero_add, Nat.reduceAdd, allOne_cons, allOne_nil, Bool.and_self]; done) | (simp only [List.length_cons, List.length_nil, List.length_map, List.length_set]; omega)) only [go_sem, fAdd_eq, i0, i6, i7, i9, i10, i11, ck, e2]
            refine ⟨left2.length + leftW os 1 (out ++ [n]), ?_, out ++ [n], left2, _, lv2, rfl, by omega, fu, ⟨fun r hr => ?_, fun r hr => ?_, fun r hr => ?_, fun r hr o' ho' k x hx hb => ?_, ?_⟩, by simp; omega, hgu, hgp3, fun b hb' => ⟨(hb3 b hb').1, by simp [blkV]; exact (hb3 b hb').2⟩, by simp [blkV]; omega, (by first | trivial | rfl | assumption), rfl, (by first | trivial | rfl | assumption)⟩
            · simp; omega
            · rcases List.mem_append.1 hr with hr | hr
              · exact hI.so r hr
              · simp at hr; subst hr; exact hre
            · rcases hs2 r hr with h | h
              · exact hI.sl r (by simp [h])
              · exact h
            · rcases hI.ro r hr with h | h | h
              · exact .inl h
              · exact .inr (.inl (by simp [h]))
              · rcases List.mem_append.1 h with h | h
                · exact .inr (.inr (hs1 r h))
                · simp at h; subst h; exact .inr (.inl (by simp))
            · rcases List.mem_append.1 hr with hr | hr
              · rcases hI.cl r hr o' ho' k x hx hb with h | h | h
                · exact .inl h
                · exact .inr (.inl (by simp [h]))
                · rcases List.mem_append.1 h with h | h
                  · exact .inr (.inr (hs1 x h))
                  · simp at h; subst h; exact .inr (.inl (by simp))
              · simp at hr; subst hr
                rw [ho] at ho'; cases ho'
                exact .inr (.inr (hs3 k x (List.getElem?_eq_some_iff.1 hx).1 hx hb))
            · rw [List.nodup_append]
              exact ⟨hI.nd, by simp, fun a ha b hb' => by simp at hb'; subst hb'; rintro rfl; exact hnm ha⟩
end
end
end Go.Proofs.YtjipdnfaokdkbaaLab
