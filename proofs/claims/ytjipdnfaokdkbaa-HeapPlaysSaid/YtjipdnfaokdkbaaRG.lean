/- The document's heap slid. No condition on the program. -/
import Derived.Test.YtjipdnfaokdkbaaRF
namespace Go.Proofs.YtjipdnfaokdkbaaLab
open Go
set_option linter.all false
set_option maxRecDepth 10000
noncomputable section
theorem take4 {α : Type} {L : List α} {n : Nat} {a b c d : α} (h0 : L[n]? = some a) (h1 : L[n + 1]? = some b) (h2 : L[n + 2]? = some c) (h3 : L[n + 3]? = some d) : (L.drop n).take 4 = [a, b, c, d] := by
  obtain ⟨l0, e0⟩ := List.getElem?_eq_some_iff.1 h0
  obtain ⟨l1, e1⟩ := List.getElem?_eq_some_iff.1 h1
  obtain ⟨l2, e2⟩ := List.getElem?_eq_some_iff.1 h2
  obtain ⟨l3, e3⟩ := List.getElem?_eq_some_iff.1 h3
  rw [List.drop_eq_getElem_cons l0, List.drop_eq_getElem_cons l1, List.drop_eq_getElem_cons l2, List.drop_eq_getElem_cons l3, e0, e1, e2, e3]
  rfl
/-- append([]T{}, x...). -/
theorem copyN {s s1 : St} {y : V} {n : Nat} {new : List V} (hw : Wf s1) (hy : Src s1 1 y n new) {b0 : Nat} (c1 : s1.cl b0 = some []) : ∃ s2 b cc, apP 1 (.slice b0 0 0 (some 0) 1) y s1 = some (.slice b 0 n cc 1, s2) ∧ s2.cl b = some new ∧ (b = b0 ∨ b = s1.next) ∧ Fr s1 s2 [] := by
  by_cases hn : n = 0
  · subst hn
    have : new = [] := List.length_eq_zero_iff.1 (by have := hy.len; omega)
    subst this
    exact ⟨s1, _, _, eAp_zero (b := b0) (o := 0) (len := 0) (cap := some 0) hy (by omega), c1, .inl rfl, Fr.refl hw _⟩
  · obtain ⟨s2, e2, c2, f2, n2⟩ := eAp_grow (es := 1) (b := b0) (o := 0) (len := 0) (c := 0) hw hy (by omega) (by omega) (by omega) c1 (by simp)
    rw [Nat.zero_add] at e2
    exact ⟨s2, _, _, e2, by rw [c2]; simp, .inr rfl, f2⟩
theorem ObP.getN {s : St} {FO : List Nat} {o : O} {a b i bf k : Nat} {c : Option Nat} {x : Int} (hw : Wf s) (ob : ObP s FO o a b i bf c) (h : o.f[k]? = some x) : bIdx 1 (.slice bf 0 o.f.length c 1) (.i (k : Nat)) = some (.ptr bf k) ∧ ldP (.ptr bf k) s = some (.i x) := by
  have hk := (List.getElem?_eq_some_iff.1 h).1
  refine ⟨by rw [bIdx1_eq (by omega) (by omega), Nat.zero_add, Int.toNat_natCast], dLd_eq hw ob.cl ?_⟩
  rw [List.getElem?_map, h]; rfl
def SlideQ (s : St) (rp : Nat) (w : Int) (os : List O) (shapes : List (List Bool)) (FO FS : List Nat) (keep : List Int) (r : V) (s' : St) : Prop :=
  (¬ (Kept os keep ∧ Clo os shapes keep keep) → r = .tup [.nils, .i 1] ∧ s' = s) ∧
  (Kept os keep ∧ Clo os shapes keep keep → ∃ tv FO', r = .tup [tv, .i 0] ∧ GL s' tv ((tos os keep).map .i) ∧ RR s' rp w (slid os shapes keep) shapes FO' FS ∧ (∀ b ∈ FO', s.next ≤ b) ∧ Fr s s' [rp] ∧ ∀ b ∈ blkV tv, s.next ≤ b ∧ b ∉ FO')
section
variable {s : St} {rp : Nat} {w : Int} {os : List O} {shapes : List (List Bool)} {FO FS : List Nat} (H : RR s rp w os shapes FO FS)
include H
theorem RR.slide_tail (ok : ShOk os shapes) {v : V} {keep : List Int} (hk : SL s v (keep.map .i)) (hl : keep.length ≤ 100000) (hK : Kept os keep) (hC : Clo os shapes keep keep) (d : Nat) (e0 : E) (z0 : e0.a0.a0 = .ptr rp 0) (z1 : e0.a0.a1 = v) (hvb : ∀ b ∈ blkV v, b < s.next) :
    Ret (retR (resV [rT g4, rT g5]) (p35_38 (K (d + 2)) e0 s)) (SlideQ s rp w os shapes FO FS keep) := by
  obtain ⟨lV, sh, h1, hO, hS⟩ := H.ex
  have hw := H.wf
  have hw0 := H.w0
  have hlw := H.lw
  have hlen := hk.len
  have hrp := cl_lt hw h1
  rw [List.length_map] at hlen
  have hfit := hK.fits
  have hob := objs_len hK.inn
  have hl3 := lay_len3 (objs os keep)
  simp -implicitDefEqProofs (maxSteps := 5000000) (disch := first | assumption | omega | (simp only [one_i, one_int, one_bool, one_str, one_ptr, one_nilp, one_nils, one_slice, one_map, one_nilm, one_func, one_iface, same_i, same_bool, same_nils, same_ptr, same_map, same_slice, List.length_cons, List.length_nil, Nat.zero_add, Nat.reduceAdd, allOne_cons, allOne_nil, Bool.and_self]; done) | (simp only [List.length_cons, List.length_nil, List.length_map, List.length_set]; omega)) only [go_sem, ↓p35_21.eq_1, ↓p35_38.eq_1, fAdd_eq, z0, z1]
  refine loop_at (Q := fun r => Ret (retR _ (seqR (blkR 4 r) _)) _) (fun m e t => ∃ (j : Nat) (tv : V), m = keep.length - j ∧ j ≤ keep.length ∧ Fr s t [] ∧ GL t tv ((tos os (keep.take j)).map .i) ∧ (∀ b ∈ blkV tv, s.next ≤ b) ∧ g0 e = .ptr rp 0 ∧ g1 e = v ∧ g9 e = tv ∧ g10 e = .i ((1 + (lay (objs os (keep.take j))).length : Nat) : Int) ∧ g11 e = .i j) ?_ (n := keep.length) (by omega) ⟨0, .nils, by omega, by omega, Fr.refl hw _, by simp [tos, objs, starts]; exact .inl ⟨rfl, rfl⟩, by simp [blkV], (by first | trivial | rfl | assumption), (by first | trivial | rfl | assumption), (by first | trivial | rfl | assumption), by simp [objs, lay]; rfl, (by first | trivial | rfl | assumption)⟩
  rintro m e t ⟨j, tv, rfl, hj, ft, hg, hb, i0, i1, i9, i10, i11⟩
  replace i0 : e.a0.a0 = _ := i0
  replace i1 : e.a0.a1 = _ := i1
  replace i9 : e.a0.a9 = _ := i9
  replace i10 : e.a0.a10 = _ := i10
  replace i11 : e.a0.a11 = _ := i11
  have hwt := ft.wf
  have hkt := hk.fr hw ft (by simp)
  by_cases c : (j : Int) < ((keep.length : Nat) : Int)
  · have hoj : keep[j]? = some keep[j] := List.getElem?_eq_getElem (by omega)
    have hts := take_snoc hoj
    obtain ⟨o, hat⟩ := Option.isSome_iff_exists.1 (hK.inn _ (List.mem_of_getElem? hoj))
    have hle := hK.le j _ hoj
    have hlt := lay_lt hat
    have hon : o.n = 3 + o.f.length := rfl
    obtain ⟨s1, s2, p1, p2, hg2, f2, n2⟩ := hg.push hwt (x := .i ((1 + (lay (objs os (keep.take j))).length : Nat) : Int)) rfl (fun y hy => by obtain ⟨a, _, rfl⟩ := List.mem_map.1 hy; rfl) (by rw [List.length_map, tos_len (hK.take j).inn, List.length_take]; omega)
    have F2 : Fr s s2 [] := ft.trans' f2 (fun x hx => .inr (hb x hx))
    have H2 := H.fr F2 (by simp) (by simp) (by simp)
    obtain ⟨q, a1, a2⟩ := (hk.fr hw F2 (by simp)).at F2.wf (j := j) (x := .i keep[j]) (by rw [List.getElem?_map, hoj]; rfl)
    obtain ⟨b, i, bf, cc, e1, ob, oi, ol, oL⟩ := (H2.find (d + 1) keep[j]).2 o hat
    have e2 := ob.f
    simp -implicitDefEqProofs (maxSteps := 5000000) (disch := first | assumption | omega | (simp only [one_i, one_int, one_bool, one_str, one_ptr, one_nilp, one_nils, one_slice, one_map, one_nilm, one_func, one_iface, same_i, same_bool, same_nils, same_ptr, same_map, same_slice, List.length_cons, List.length_nil, Nat.zero_add, Nat.reduceAdd, allOne_cons, allOne_nil, Bool.and_self]; done) | (simp only [List.length_cons, List.length_nil, List.length_map, List.length_set]; omega)) only [go_sem, ↓p35_21.eq_1, ↓p35_38.eq_1, fAdd_eq, i0, i1, i9, i10, i11, c, hlen, p1, p2, a1, a2, e1, e2]
    refine ⟨keep.length - (j + 1), by omega, j + 1, _, rfl, by omega, F2, ?_, ?_, (by first | trivial | rfl | assumption), (by first | trivial | rfl | assumption), rfl, ?_, (by first | trivial | rfl | assumption)⟩
    · rw [hts]
      unfold tos
      rw [objs_append, objs_one hat, starts_append]
      simp only [starts, List.map_append, List.map_cons, List.map_nil]
      exact hg2
    · simp [blkV]; have := ft.nx; omega
    · rw [hts, objs_append, objs_one hat, lay_append]
      show V.i _ = V.i _
      congr 1
      simp [lay, O.ws_len, hon]; omega
  · have : j = keep.length := by omega
    subst this
    rw [List.take_length] at hg
    simp -implicitDefEqProofs (maxSteps := 5000000) (disch := first | assumption | omega | (simp only [one_i, one_int, one_bool, one_str, one_ptr, one_nilp, one_nils, one_slice, one_map, one_nilm, one_func, one_iface, same_i, same_bool, same_nils, same_ptr, same_map, same_slice, List.length_cons, List.length_nil, Nat.zero_add, Nat.reduceAdd, allOne_cons, allOne_nil, Bool.and_self]; done) | (simp only [List.length_cons, List.length_nil, List.length_map, List.length_set]; omega)) only [go_sem, ↓p35_21.eq_1, ↓p35_38.eq_1, fAdd_eq, i0, i1, i9, i10, i11, c, hlen]
    have hgl := hg.len
    have hbt : ∀ b ∈ blkV tv, b < t.next := by
      intro b hb'
      rcases hg with ⟨_, rfl⟩ | ⟨b', rfl, h2⟩
      · simp [blkV] at hb'
      · simp [blkV] at hb'; subst hb'; exact cl_lt hwt h2
    refine loop_at (Q := fun r => Ret (retR _ (seqR (blkR 6 r) _)) _) (fun m e t' => ∃ (j : Nat) (lv : V) (FO2 : List Nat), m = keep.length - j ∧ j ≤ keep.length ∧ Fr t t' [] ∧ ROs t' FO2 lv ((objs os (keep.take j)).map (mvO os shapes keep)) ∧ (∀ b ∈ FO2, t.next ≤ b ∧ b < t'.next) ∧ g0 e = .ptr rp 0 ∧ g1 e = v ∧ g9 e = tv ∧ g12 e = lv ∧ g13 e = .i j) ?_ (n := keep.length) (by omega) ⟨0, .nils, [], by omega, by omega, Fr.refl hwt _, .inl ⟨by simp [objs], rfl⟩, by simp, (by first | trivial | rfl | assumption), (by first | trivial | rfl | assumption), (by first | trivial | rfl | assumption), (by first | trivial | rfl | assumption), (by first | trivial | rfl | assumption)⟩
    clear i0 i1 i9 i10 i11 c hj e
    rintro m e t' ⟨j, lv, FO2, rfl, hj, ft', hR, hFO2, i0, i1, i9, i12, i13⟩
    replace i0 : e.a0.a0 = _ := i0
    replace i1 : e.a0.a1 = _ := i1
    replace i9 : e.a0.a9 = _ := i9
    replace i12 : e.a0.a12 = _ := i12
    replace i13 : e.a0.a13 = _ := i13
    have hwt' := ft'.wf
    have Ft' : Fr s t' [] := ft.trans ft'
    have hkt' := hk.fr hw Ft' (by simp)
    by_cases c : (j : Int) < ((keep.length : Nat) : Int)
    · have hoj : keep[j]? = some keep[j] := List.getElem?_eq_getElem (by omega)
      have hts := take_snoc hoj
      obtain ⟨o, hat⟩ := Option.isSome_iff_exists.1 (hK.inn _ (List.mem_of_getElem? hoj))
      have hCo := hC _ (List.mem_of_getElem? hoj) o hat
      have hle := hK.le j _ hoj
      have hlt := lay_lt hat
      have hon : o.n = 3 + o.f.length := rfl
      obtain ⟨q, a1, a2⟩ := hkt'.at hwt' (j := j) (x := .i keep[j]) (by rw [List.getElem?_map, hoj]; rfl)
      have H' := H.fr Ft' (by simp) (by simp) (by simp)
      obtain ⟨b, i, bf, cc, e1, ob, oi, ol, oL⟩ := (H'.find (d + 1) keep[j]).2 o hat
      obtain ⟨lV', sh', h1', hO', hS'⟩ := H'.ex
      rw [dLd_at hwt' h1' (by simp)] at oL
      simp at oL; subst oL
      obtain ⟨bs, _, h2', h3', h4', h5', h6', h8', h7'⟩ := hO'.inv hwt' oi ob.f
      obtain ⟨y0, y1, y2, y3⟩ := flat_at 1 os bs i o bf cc oi h8'
      have hst4 := take4 y0 y1 y2 y3
      have eN := dLdN_eq (o := 4 * i) (m := 4) hwt' h2' (by have := (List.getElem?_eq_some_iff.1 y3).1; omega)
      rw [hst4] at eN
      obtain ⟨s1, p1, c1, f1, n1⟩ := new_ex (s := t') (l := [V.i 0, .i 0, .nils, .i 0]) (n := 4) hwt' rfl
      obtain ⟨s2, p2, c2, f2, n2⟩ := eSt_exN (s := s1) (b := t'.next) (o := 0) (vs := [.i ((1 + (lay (os.take i)).length : Nat) : Int), .i o.shape, .slice bf 0 o.f.length cc 1, .i o.tag]) (m := 4) f1.wf c1 rfl (by simp) (by intro v hv; simp at hv; rcases hv with rfl | rfl | rfl | rfl <;> rfl)
      simp only [putL, List.take_zero, List.nil_append, List.length_cons, List.length_nil, Nat.zero_add, Nat.reduceAdd, List.drop_succ_cons, List.drop_zero, List.append_nil] at c2
      obtain ⟨s3, p3, c3, f3, n3⟩ := new_ex (s := s2) (l := []) (n := 0) f2.wf rfl
      have F3 : Fr t' s3 [] := (f1.trans' f2 (by simp)).trans f3
      have c23 := f3.cl f2.wf c2 (by simp)
      have e0' : ∀ id, bslP 0 1 [] [] id = some (.slice id 0 0 (some 0) 1, .cells 0 (ofL [])) := fun id => rfl
      obtain ⟨s4, B, cB, p4, c4, hB, f4⟩ := copyN (s := s2) (b0 := s2.next) f3.wf (Src.full (n2 := o.f.length) (c2 := cc) f3.wf (F3.cl hwt' ob.cl (by simp)) (by simp) (by intro v hv; obtain ⟨a, _, rfl⟩ := List.mem_map.1 hv; rfl) (by omega)) c3
      have F4 : Fr t' s4 [] := F3.trans f4
      have hBge : t'.next < B := by rcases hB with rfl | rfl <;> omega
      have hB4 := cl_lt f4.wf c4
      have cX := f4.cl f3.wf c23 (by simp)
      simp -implicitDefEqProofs (maxSteps := 5000000) (disch := first | assumption | omega | (simp only [one_i, one_int, one_bool, one_str, one_ptr, one_nilp, one_nils, one_slice, one_map, one_nilm, one_func, one_iface, same_i, same_bool, same_nils, same_ptr, same_map, same_slice, List.length_cons, List.length_nil, Nat.zero_add, Nat.reduceAdd, allOne_cons, allOne_nil, Bool.and_self]; done) | (simp only [List.length_cons, List.length_nil, List.length_map, List.length_set]; omega)) only [go_sem, ↓p35_21.eq_1, ↓p35_38.eq_1, fAdd_eq, i0, i1, i9, i12, i13, c, hlen, a1, a2, e1, eN, p1, p2, aAl_eq, e0', p3, dLd_at f3.wf c23, p4]
      refine loop_at (Q := fun r => rnd (seqR (blkR 7 (seqR (blkR 8 r) _)) _) _ _) (fun m e u => ∃ k : Nat, m = o.f.length - k ∧ k ≤ o.f.length ∧ Fr s4 u [B] ∧ u.cl B = some ((part os shapes keep o k).map .i) ∧ g0 e = .ptr rp 0 ∧ g1 e = v ∧ g9 e = tv ∧ g12 e = lv ∧ g13 e = .i j ∧ g14 e = .ptr t'.next 0 ∧ g15 e = .slice B 0 o.f.length cB 1 ∧ g16 e = .i k) ?_ (n := o.f.length) (by omega) ⟨0, by omega, by omega, Fr.refl f4.wf _, by rw [part_zero]; exact c4, (by first | trivial | rfl | assumption), (by first | trivial | rfl | assumption), (by first | trivial | rfl | assumption), (by first | trivial | rfl | assumption), (by first | trivial | rfl | assumption), (by first | trivial | rfl | assumption), (by first | trivial | rfl | assumption), (by first | trivial | rfl | assumption)⟩
      clear i0 i1 i9 i12 i13 e
      rintro m e u ⟨k, rfl, hk', fu, cu, i0, i1, i9, i12, i13, i14, i15, i16⟩
      replace i0 : e.a0.a0 = _ := i0
      replace i1 : e.a0.a1 = _ := i1
      replace i9 : e.a0.a9 = _ := i9
      replace i12 : e.a0.a12 = _ := i12
      replace i13 : e.a0.a13 = _ := i13
      replace i14 : e.a0.a14 = _ := i14
      replace i15 : e.a0.a15 = _ := i15
      replace i16 : e.a1.a0 = _ := i16
      have hwu := fu.wf
      have hnt := ft.nx
      have hnt' := ft'.nx
      have Fu : Fr t' u [] := F4.trans' fu (fun x hx => .inr (by simp at hx; omega))
      have Fsu : Fr s u [] := Ft'.trans Fu
      have hku := hk.fr hw Fsu (by simp)
      obtain ⟨q', a1', a2'⟩ := hku.at hwu (j := j) (x := .i keep[j]) (by rw [List.getElem?_map, hoj]; rfl)
      have htu := (hg.fr hwt (ft'.trans Fu) (by simp)).sl hwu
      by_cases ck : (k : Int) < ((o.f.length : Nat) : Int)
      · have hx : o.f[k]? = some o.f[k] := List.getElem?_eq_getElem (by omega)
        have hpa := part_at (os := os) (shapes := shapes) (keep := keep) hx
        have hCx := hCo k _ hx
        have hps := part_succ (os := os) (shapes := shapes) (keep := keep) hx
        have hpm := part_same (os := os) (shapes := shapes) (keep := keep) hx
        generalize o.f[k] = x at *
        have er := (H.fr Fsu (by simp) (by simp) (by simp)).isRef ok d keep[j] k
        rw [refO_at hat (by omega)] at er
        have ld := dLd_eq (o := k) (v := .i x) hwu cu (by rw [List.getElem?_map, hpa]; rfl)
        have eB : bIdx 1 (.slice B 0 o.f.length cB 1) (.i (k : Nat)) = some (.ptr B k) := by rw [bIdx1_eq (by omega) (by omega), Nat.zero_add, Int.toNat_natCast]
        cases hr : refB shapes o k with
        | false =>
          rw [hr] at er
          simp -implicitDefEqProofs (maxSteps := 5000000) (disch := first | assumption | omega | (simp only [one_i, one_int, one_bool, one_str, one_ptr, one_nilp, one_nils, one_slice, one_map, one_nilm, one_func, one_iface, same_i, same_bool, same_nils, same_ptr, same_map, same_slice, List.length_cons, List.length_nil, Nat.zero_add, Nat.reduceAdd, allOne_cons, allOne_nil, Bool.and_self]; done) | (simp only [List.length_cons, List.length_nil, List.length_map, List.length_set]; omega)) only [go_sem, ↓p35_21.eq_1, ↓p35_38.eq_1, fAdd_eq, i0, i1, i9, i12, i13, i14, i15, i16, ck, a1', a2', er]
          exact ⟨o.f.length - (k + 1), by omega, k + 1, rfl, by omega, fu, by rw [hpm (by simp [mvF, hr])]; exact cu, (by first | trivial | rfl | assumption), (by first | trivial | rfl | assumption), (by first | trivial | rfl | assumption), (by first | trivial | rfl | assumption), (by first | trivial | rfl | assumption), (by first | trivial | rfl | assumption), (by first | trivial | rfl | assumption), (by first | trivial | rfl | assumption)⟩
        | true =>
          rw [hr] at er
          by_cases c0 : x = 0
          · simp -implicitDefEqProofs (maxSteps := 5000000) (disch := first | assumption | omega | (simp only [one_i, one_int, one_bool, one_str, one_ptr, one_nilp, one_nils, one_slice, one_map, one_nilm, one_func, one_iface, same_i, same_bool, same_nils, same_ptr, same_map, same_slice, List.length_cons, List.length_nil, Nat.zero_add, Nat.reduceAdd, allOne_cons, allOne_nil, Bool.and_self]; done) | (simp only [List.length_cons, List.length_nil, List.length_map, List.length_set]; omega)) only [go_sem, ↓p35_21.eq_1, ↓p35_38.eq_1, fAdd_eq, i0, i1, i9, i12, i13, i14, i15, i16, ck, a1', a2', er, eB, ld, c0]
            exact ⟨o.f.length - (k + 1), by omega, k + 1, rfl, by omega, fu, by rw [hpm (by simp [mvF, hr, c0, mv])]; exact cu, (by first | trivial | rfl | assumption), (by first | trivial | rfl | assumption), (by first | trivial | rfl | assumption), (by first | trivial | rfl | assumption), (by first | trivial | rfl | assumption), (by first | trivial | rfl | assumption), (by first | trivial | rfl | assumption), (by first | trivial | rfl | assumption)⟩
          · have hmem := (hCx hr).resolve_left c0
            obtain ⟨n, hn⟩ := idxI_mem hmem
            have hnk := idxI_get hn
            have hnl := (List.getElem?_eq_some_iff.1 hnk).1
            have eh := has_eq hwu hku (by omega) x (d + 1)
            have hh : hasI keep x = (n : Nat) := by unfold hasI; rw [hn]
            rw [hh] at eh
            have htg := tos_get hK.inn hnl
            obtain ⟨q2, b1, b2⟩ := htu.at hwu (j := n) (x := .i ((1 + (lay (objs os (keep.take n))).length : Nat) : Int)) (by rw [List.getElem?_map, htg]; rfl)
            have hmv : mvF os shapes keep o k x = ((1 + (lay (objs os (keep.take n))).length : Nat) : Int) := by
              unfold mvF mv; rw [hr, if_pos rfl, if_neg c0, hn]; simp only; rw [htg]; rfl
            obtain ⟨uu2, p5, c5, f5, n5⟩ := eSt_ex (s := u) (o := k) (v := .i ((1 + (lay (objs os (keep.take n))).length : Nat) : Int)) hwu cu (by rw [List.length_map, part_len]; omega) rfl
            simp -implicitDefEqProofs (maxSteps := 5000000) (disch := first | assumption | omega | (simp only [one_i, one_int, one_bool, one_str, one_ptr, one_nilp, one_nils, one_slice, one_map, one_nilm, one_func, one_iface, same_i, same_bool, same_nils, same_ptr, same_map, same_slice, List.length_cons, List.length_nil, Nat.zero_add, Nat.reduceAdd, allOne_cons, allOne_nil, Bool.and_self]; done) | (simp only [List.length_cons, List.length_nil, List.length_map, List.length_set]; omega)) only [go_sem, ↓p35_21.eq_1, ↓p35_38.eq_1, fAdd_eq, i0, i1, i9, i12, i13, i14, i15, i16, ck, a1', a2', er, eB, ld, c0, eh, b1, b2, p5]
            exact ⟨o.f.length - (k + 1), by omega, k + 1, rfl, by omega, fu.trans f5, by rw [c5, hps, hmv, List.map_set], (by first | trivial | rfl | assumption), (by first | trivial | rfl | assumption), (by first | trivial | rfl | assumption), (by first | trivial | rfl | assumption), (by first | trivial | rfl | assumption), (by first | trivial | rfl | assumption), (by first | trivial | rfl | assumption), (by first | trivial | rfl | assumption)⟩
      · have : k = o.f.length := by omega
        subst this
        rw [part_end] at cu
        have cXu := fu.cl f4.wf cX (by simp; omega)
        have htg := tos_get hK.inn (i := j) (by omega)
        obtain ⟨q2, b1, b2⟩ := htu.at hwu (j := j) (x := .i ((1 + (lay (objs os (keep.take j))).length : Nat) : Int)) (by rw [List.getElem?_map, htg]; rfl)
        have hRu := hR.fr hwt' Fu (by simp)
        obtain ⟨uu1, p5, c5, f5, n5⟩ := new_ex (s := u) (l := [V.i ((1 + (lay (objs os (keep.take j))).length : Nat) : Int), .i o.shape, .slice B 0 o.f.length cB 1, .i o.tag]) (n := 4) hwu rfl
        have hBF : B ∉ FO2 := fun hm => by have := (hFO2 B hm).2; omega
        have hlm : (lay ((objs os (keep.take j)).map (mvO os shapes keep))).length = (lay (objs os (keep.take j))).length := lay_map_len _
        have hsrc : Src uu1 4 (.slice u.next 0 1 (some 1) 4) 1 [.i ((1 + (lay ((objs os (keep.take j)).map (mvO os shapes keep))).length : Nat) : Int), .i (mvO os shapes keep o).shape, .slice B 0 (mvO os shapes keep o).f.length cB 1, .i (mvO os shapes keep o).tag] := by
          refine Src.full f5.wf ?_ rfl (by intro v hv; simp at hv; rcases hv with rfl | rfl | rfl | rfl <;> rfl) (by omega)
          rw [c5, hlm, mvO_len]; rfl
        have hlj : ((objs os (keep.take j)).map (mvO os shapes keep)).length = j := by rw [List.length_map, objs_len (hK.take j).inn, List.length_take]; omega
        obtain ⟨uu2, p6, hR2, f6, n6⟩ := (hRu.fr hwu f5 (by simp)).push f5.wf (o := mvO os shapes keep o) (B := B) (c := cB) hsrc (f5.cl hwu cu (by simp)) hBF (by omega)
        rw [hlj] at p6 hR2
        obtain ⟨bl1, bl2⟩ := hR.blk
        have F6 : Fr t uu2 [] := ((ft'.trans Fu).trans f5).trans' f6 (fun x hx => .inr (hFO2 x (bl1 x hx)).1)
        have hu := Fu.nx
        have hfu := fu.nx
        have hu5 := f5.nx
        have hu6 := f6.nx
        simp -implicitDefEqProofs (maxSteps := 5000000) (disch := first | assumption | omega | (simp only [one_i, one_int, one_bool, one_str, one_ptr, one_nilp, one_nils, one_slice, one_map, one_nilm, one_func, one_iface, same_i, same_bool, same_nils, same_ptr, same_map, same_slice, List.length_cons, List.length_nil, Nat.zero_add, Nat.reduceAdd, allOne_cons, allOne_nil, Bool.and_self]; done) | (simp only [List.length_cons, List.length_nil, List.length_map, List.length_set]; omega)) only [go_sem, ↓p35_21.eq_1, ↓p35_38.eq_1, fAdd_eq, i0, i1, i9, i12, i13, i14, i15, i16, ck, b1, b2, dLd_at hwu cXu, p5, p6]
        refine ⟨keep.length - (j + 1), by omega, j + 1, _, uu1.next :: B :: FO2, rfl, by omega, F6, ?_, ?_, (by first | trivial | rfl | assumption), (by first | trivial | rfl | assumption), (by first | trivial | rfl | assumption), rfl, (by first | trivial | rfl | assumption)⟩
        · rw [hts, objs_append, objs_one hat, List.map_append]; exact hR2
        · intro x hx
          simp only [List.mem_cons] at hx
          rcases hx with rfl | rfl | hx
          · omega
          · omega
          · have := hFO2 x hx; omega
    · have : j = keep.length := by omega
      subst this
      rw [List.take_length] at hR
      have h1t := Ft'.cl hw h1 (by simp)
      have hnt := ft.nx
      have hnt' := ft'.nx
      obtain ⟨uu1, p1, c1, f1, n1⟩ := eSt_ex (s := t') (o := 1) (v := lv) hwt' h1t (by simp) (by rcases hR with ⟨_, rfl⟩ | ⟨b, bs, rfl, _⟩ <;> rfl)
      simp only [List.set_cons_succ, List.set_cons_zero] at c1
      have F1 : Fr s uu1 [rp] := (Ft'.mono (by simp)).trans f1
      simp -implicitDefEqProofs (maxSteps := 5000000) (disch := first | assumption | omega | (simp only [one_i, one_int, one_bool, one_str, one_ptr, one_nilp, one_nils, one_slice, one_map, one_nilm, one_func, one_iface, same_i, same_bool, same_nils, same_ptr, same_map, same_slice, List.length_cons, List.length_nil, Nat.zero_add, Nat.reduceAdd, allOne_cons, allOne_nil, Bool.and_self]; done) | (simp only [List.length_cons, List.length_nil, List.length_map, List.length_set]; omega)) only [go_sem, ↓p35_21.eq_1, ↓p35_38.eq_1, fAdd_eq, i0, i1, i9, i12, i13, c, hlen, p1]
      refine ⟨fun hn => absurd ⟨hK, hC⟩ hn, fun _ => ⟨tv, FO2, rfl, ?_, ⟨f1.wf, ⟨lv, sh, c1, hR.fr hwt' f1 ?_, hS.fr hw F1 ?_⟩, ?_, H.nS, ?_, ?_, H.w0, ?_, ?_, ?_⟩, fun b hb' => by have := (hFO2 b hb').1; omega, F1, fun b hb' => ⟨hb b hb', fun hm => by have := (hFO2 b hm).1; have := hbt b hb'; omega⟩⟩⟩
      · exact (hg.fr hwt ft' (by simp)).fr hwt' f1 (fun b hb' => by have := hb b hb'; simp; omega)
      · intro b hb'; simp; have := (hFO2 b hb').1; omega
      · intro b hb'; simp; rintro rfl; exact H.nS hb'
      · intro hm; have := (hFO2 _ hm).1; omega
      · intro b hb' hm; have := (hFO2 _ hb').1; have := H.ltS _ hm; omega
      · unfold slid; rw [lay_map_len]; omega
      · unfold slid; rw [lay_map_len]; omega
      · intro b hb'; have := (hFO2 _ hb').2; have := f1.nx; omega
      · intro b hb'; have := H.ltS _ hb'; have := F1.nx; omega
end
end
end Go.Proofs.YtjipdnfaokdkbaaLab
