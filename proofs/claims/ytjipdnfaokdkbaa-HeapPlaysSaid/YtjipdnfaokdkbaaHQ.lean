/- The heap slid: are all references kept; they are turned. No condition on the program. -/
import Derived.Test.YtjipdnfaokdkbaaHO
namespace Go.Proofs.YtjipdnfaokdkbaaLab
open Go
set_option linter.all false
set_option maxRecDepth 10000
noncomputable section
/-- The boxes of the closures. -/
structure SlB (t : St) (kb hb mb bM p : Nat) (kv : V) (es : List (V × V)) : Prop where
  wf : Wf t
  k : t.cl kb = some [kv]
  h : t.cl hb = some [.ptr p 0]
  m : t.cl mb = some [.map bM]
  e : ∃ bs cl, t.mp bM = some (es, bs, cl)
theorem SlB.fr {t t' : St} {kb hb mb bM p : Nat} {kv : V} {es : List (V × V)} {l : List Nat} (B : SlB t kb hb mb bM p kv es) (f : Fr t t' l) (h1 : kb ∉ l) (h2 : hb ∉ l) (h3 : mb ∉ l) (h4 : bM ∉ l) : SlB t' kb hb mb bM p kv es := by
  obtain ⟨bs, cl, e⟩ := B.e
  exact ⟨f.wf, f.cl B.wf B.k h1, f.cl B.wf B.h h2, f.cl B.wf B.m h3, ⟨bs, cl, f.mp B.wf e h4⟩⟩
section
variable {s : St} {p bw bb n : Nat} {os os0 : List O} {sh mp : V} {z : List Int} {shapes : List (List Bool)} {keep : List Int} {kb hb mb bM : Nat} {kv : V} (H : AH s p bw bb n os sh mp z)
include H
theorem AH.get43 (B : SlB s kb hb mb bM p kv (mvE os0 keep)) (hin : ∀ r ∈ keep, (at? os0 r).isSome) (d : Nat) {r k x : Int} (ho : getO os r k = some x) :
    (K (d + 1)).call 43 [.i r, .i k, .ptr mb 0, .ptr hb 0] s = some (.bool (decide (x = 0 ∨ x ∈ keep)), s) := by
  have hn := H.nn
  have hw := H.hr.wf
  have h1 := H.hr.hp
  have h2 := H.hr.hw
  obtain ⟨a0, b0, a1, a2, a3, a4, _⟩ := H.atF ho
  obtain ⟨bs, cl, hm⟩ := B.e
  have eL := dLk_eq (q := eqKI) (z := .i 0) (ok := true) (x := .i x) hm
  rw [op43]
  by_cases c : x = 0 ∨ x ∈ keep
  · obtain ⟨m, hf⟩ := mvE_some hin c
    rw [lkV_some hf] at eL
    simp -implicitDefEqProofs (maxSteps := 5000000) (disch := first | assumption | omega | (simp only [one_i, one_int, one_bool, one_str, one_ptr, one_nilp, one_nils, one_slice, one_map, one_nilm, one_func, one_iface, same_i, same_bool, same_nils, same_ptr, same_map, same_slice, List.length_cons, List.length_nil, Nat.zero_add, Nat.reduceAdd, allOne_cons, allOne_nil, Bool.and_self]; done) | (simp only [List.length_cons, List.length_nil, List.length_map, List.length_set]; omega)) only [go_sem, fAdd_eq, dLd_at hw B.m, dLd_at hw B.h, dLd_at hw h1, dLd_eq hw h2 a4, eL, c]
  · have hf := mvE_none hin (fun h => c (.inl h)) (fun h => c (.inr h))
    rw [lkV_none hf] at eL
    simp -implicitDefEqProofs (maxSteps := 5000000) (disch := first | assumption | omega | (simp only [one_i, one_int, one_bool, one_str, one_ptr, one_nilp, one_nils, one_slice, one_map, one_nilm, one_func, one_iface, same_i, same_bool, same_nils, same_ptr, same_map, same_slice, List.length_cons, List.length_nil, Nat.zero_add, Nat.reduceAdd, allOne_cons, allOne_nil, Bool.and_self]; done) | (simp only [List.length_cons, List.length_nil, List.length_map, List.length_set]; omega)) only [go_sem, fAdd_eq, dLd_at hw B.m, dLd_at hw B.h, dLd_at hw h1, dLd_eq hw h2 a4, eL, c]
theorem AH.get44 (B : SlB s kb hb mb bM p kv (mvE os0 keep)) (hin : ∀ r ∈ keep, (at? os0 r).isSome) (d : Nat) {r k x : Int} (ho : getO os r k = some x) (c : x = 0 ∨ x ∈ keep) :
    ∃ s', (K (d + 1)).call 44 [.i r, .i k, .ptr mb 0, .ptr hb 0] s = some (.bool true, s') ∧ AH s' p bw bb n (turn (O.setF k (mv os0 keep x)) os (r - 1)) sh mp z ∧ Fr s s' [bw] := by
  have hn := H.nn
  have hw := H.hr.wf
  have h1 := H.hr.hp
  have h2 := H.hr.hw
  have hl := H.hr.lw
  obtain ⟨a0, b0, a1, a2, a3, a4, _⟩ := H.atF ho
  obtain ⟨o, q1, q2, q3, q4⟩ := getO_some ho
  obtain ⟨bs, cl, hm⟩ := B.e
  have eL := dLk_eq (q := eqKI) (z := .i 0) (ok := false) (x := .i x) hm
  obtain ⟨m, hf⟩ := mvE_some hin c
  rw [lkV1_some hf] at eL
  obtain ⟨s1, E1, c1, f1, n1⟩ := eSt_ex (s := s) (o := (r + 3 + k).toNat) (v := .i (mv os0 keep x)) hw h2 (by rw [List.length_map, hl]; omega) rfl
  refine ⟨s1, ?_, H.store q1 (O.setF k (mv os0 keep x)) (3 + k.toNat) (mv os0 keep x) (by simp [O.n]; omega) (O.setF_ws k _ o) (by simp [O.setF]) f1 (by rw [c1]; congr 2; omega), f1⟩
  rw [op44]
  simp -implicitDefEqProofs (maxSteps := 5000000) (disch := first | assumption | omega | (simp only [one_i, one_int, one_bool, one_str, one_ptr, one_nilp, one_nils, one_slice, one_map, one_nilm, one_func, one_iface, same_i, same_bool, same_nils, same_ptr, same_map, same_slice, List.length_cons, List.length_nil, Nat.zero_add, Nat.reduceAdd, allOne_cons, allOne_nil, Bool.and_self]; done) | (simp only [List.length_cons, List.length_nil, List.length_map, List.length_set]; omega)) only [go_sem, fAdd_eq, dLd_at hw B.m, dLd_at hw B.h, dLd_at hw h1, dLd_eq hw h2 a4, eL, E1]
/-- Are all references kept? -/
theorem AH.each1 {F : List Nat} (hs : ShR s F sh shapes) (ok : ShOk os shapes) (B : SlB s kb hb mb bM p kv (mvE os keep)) (hk : SL s kv (keep.map .i)) (hl : keep.length ≤ 100000) (hK : Kept os keep) (d : Nat) :
    Ret ((K (d + 5)).call 42 [.func 43 [] [.ptr mb 0, .ptr hb 0], .ptr kb 0, .ptr hb 0] s) fun v t => ∃ b : Bool, v = .bool b ∧ t = s ∧ (b = true ↔ Clo os shapes keep keep) := by
  have hw := H.hr.wf
  have hn := H.nn
  have hz := H.size
  obtain ⟨v, t, e, b, hv, h1, h2⟩ := each_eq (s := s) (keep := keep) (gf := 43) (caps := [.ptr mb 0, .ptr hb 0]) (kb := kb) (hb := hb) (hp := .ptr p 0) (kv := kv)
    (len := fun i => match (objs os keep)[i]? with | some o => o.f.length | none => 0)
    (rf := fun i k => match (objs os keep)[i]? with | some o => refB shapes o k | none => false)
    (fun i k t => t = s ∧ Clo os shapes keep (keep.take i) ∧ ∀ r o, keep[i]? = some r → at? os r = some o → ∀ (n : Nat) x, n < k → o.f[n]? = some x → refB shapes o n = true → x = 0 ∨ x ∈ keep)
    (fun t => t = s ∧ ¬ Clo os shapes keep keep) d
    (by rintro i k t ⟨rfl, _⟩; exact ⟨hw, dLd_at hw B.k (by simp), dLd_at hw B.h (by simp), hk⟩)
    (by
      rintro i k t r ⟨rfl, _⟩ hi
      obtain ⟨o, ho⟩ := Option.isSome_iff_exists.1 (hK.inn r (List.mem_of_getElem? hi))
      rw [H.len (d + 2) r, objs_get hK.inn hi, ho]
      unfold lenO; rw [ho])
    (by
      rintro i k t r ⟨rfl, _⟩ hi hk'
      obtain ⟨o, ho⟩ := Option.isSome_iff_exists.1 (hK.inn r (List.mem_of_getElem? hi))
      rw [objs_get hK.inn hi, ho] at hk' ⊢
      rw [H.isRef hs ok d r k, refO_at ho hk'])
    (by
      rintro i k t ⟨rfl, hC, hn'⟩ hk' hi hr
      refine ⟨rfl, hC, fun r o hr' ho n x hnk hx hb => ?_⟩
      rw [objs_get hK.inn hr', ho] at hr
      by_cases e : n = k
      · subst e; simp only at hr; rw [hr] at hb; cases hb
      · exact hn' r o hr' ho n x (by omega) hx hb)
    (by
      rintro i k t r ⟨rfl, hC, hn'⟩ hi hk' hr
      obtain ⟨o, ho⟩ := Option.isSome_iff_exists.1 (hK.inn r (List.mem_of_getElem? hi))
      rw [objs_get hK.inn hi, ho] at hk' hr
      simp only at hk' hr
      have hx : o.f[k]? = some o.f[k] := List.getElem?_eq_getElem hk'
      have hgo : getO os r (k : Int) = some o.f[k] := by unfold getO; rw [ho]; simp only; rw [if_pos (by omega), Int.toNat_natCast, hx]
      refine ⟨_, _, H.get43 B hK.inn (d + 3) hgo, fun hd => ?_, fun hd => ⟨rfl, fun hcl => ?_⟩⟩
      · have hd := of_decide_eq_true hd
        refine ⟨rfl, hC, fun r' o' hr' ho' n x hnk hx' hb => ?_⟩
        rw [hi] at hr'; cases hr'
        rw [ho] at ho'; cases ho'
        by_cases e : n = k
        · subst e; rw [hx] at hx'; cases hx'; exact hd
        · exact hn' r o hi ho n x (by omega) hx' hb
      · exact of_decide_eq_false hd (hcl r (List.mem_of_getElem? hi) o ho k _ hx hr))
    (by
      rintro i t hi ⟨rfl, hC, hn'⟩
      have hoi : keep[i]? = some keep[i] := List.getElem?_eq_getElem hi
      obtain ⟨o, ho⟩ := Option.isSome_iff_exists.1 (hK.inn _ (List.mem_of_getElem? hoi))
      rw [objs_get hK.inn hoi, ho] at hn'
      simp only at hn'
      refine ⟨rfl, ?_, fun r o _ _ n x h => absurd h (by omega)⟩
      rw [take_snoc hoi]
      intro r' hr' o' ho' n x hx hb
      rcases List.mem_append.1 hr' with hr' | hr'
      · exact hC r' hr' o' ho' n x hx hb
      · simp at hr'; subst hr'
        rw [ho] at ho'; cases ho'
        exact hn' _ o hoi ho n x (List.getElem?_eq_some_iff.1 hx).1 hx hb)
    (by
      intro i hi
      have hoi : keep[i]? = some keep[i] := List.getElem?_eq_getElem hi
      obtain ⟨o, ho⟩ := Option.isSome_iff_exists.1 (hK.inn _ (List.mem_of_getElem? hoi))
      rw [objs_get hK.inn hoi, ho]
      simp only
      have := lay_lt ho
      have : o.n = 3 + o.f.length := rfl
      omega)
    hl ⟨rfl, by simp [Clo], fun r o _ _ n x h => absurd h (by omega)⟩ fok43
  refine ⟨v, t, e, b, hv, ?_⟩
  cases b with
  | true =>
    obtain ⟨rfl, hC, _⟩ := h1 rfl
    rw [List.take_length] at hC
    exact ⟨rfl, by simp [hC]⟩
  | false =>
    obtain ⟨rfl, hC⟩ := h2 rfl
    exact ⟨rfl, by simp [hC]⟩
/-- They are turned. -/
theorem AH.each2 {F : List Nat} (hs : ShR s F sh shapes) (ok : ShOk os shapes) (B : SlB s kb hb mb bM p kv (mvE os keep)) (hk : SL s kv (keep.map .i)) (hl : keep.length ≤ 100000) (hK : Kept os keep) (hC : Clo os shapes keep keep) (d : Nat)
    (hne : kb ≠ bw ∧ hb ≠ bw ∧ mb ≠ bw ∧ bM ≠ bw) (hF : ∀ b ∈ F, b ≠ bw) (hkv : ∀ b ∈ blkV kv, b ≠ bw) :
    Ret ((K (d + 5)).call 42 [.func 44 [] [.ptr mb 0, .ptr hb 0], .ptr kb 0, .ptr hb 0] s) fun v t => v = .bool true ∧ AH t p bw bb n (mapAt (phi os shapes keep keep.length 0) 1 os) sh mp z ∧ Fr s t [bw] := by
  have hw := H.hr.wf
  have hn := H.nn
  have hz := H.size
  obtain ⟨v, t, e, b, hv, h1, h2⟩ := each_eq (s := s) (keep := keep) (gf := 44) (caps := [.ptr mb 0, .ptr hb 0]) (kb := kb) (hb := hb) (hp := .ptr p 0) (kv := kv)
    (len := fun i => match (objs os keep)[i]? with | some o => o.f.length | none => 0)
    (rf := fun i k => match (objs os keep)[i]? with | some o => refB shapes o k | none => false)
    (fun i k t => AH t p bw bb n (mapAt (phi os shapes keep i k) 1 os) sh mp z ∧ Fr s t [bw])
    (fun t => False) d
    (by
      rintro i k t ⟨Ht, f⟩
      have Bt := B.fr f (by simp; exact hne.1) (by simp; exact hne.2.1) (by simp; exact hne.2.2.1) (by simp; exact hne.2.2.2)
      exact ⟨f.wf, dLd_at f.wf Bt.k (by simp), dLd_at f.wf Bt.h (by simp), hk.fr hw f (by simpa using hkv)⟩)
    (by
      rintro i k t r ⟨Ht, f⟩ hi
      obtain ⟨o, ho⟩ := Option.isSome_iff_exists.1 (hK.inn r (List.mem_of_getElem? hi))
      rw [Ht.len (d + 2) r, objs_get hK.inn hi, ho, phi_lenO]
      unfold lenO; rw [ho])
    (by
      rintro i k t r ⟨Ht, f⟩ hi hk'
      obtain ⟨o, ho⟩ := Option.isSome_iff_exists.1 (hK.inn r (List.mem_of_getElem? hi))
      rw [objs_get hK.inn hi, ho] at hk' ⊢
      rw [Ht.isRef (hs.fr hw f (by simpa using hF)) (phi_ok ok) d r k, phi_ref, refO_at ho hk'])
    (by
      rintro i k t ⟨Ht, f⟩ hk' hi hr
      have hoi : keep[i]? = some keep[i] := List.getElem?_eq_getElem hi
      obtain ⟨o, ho⟩ := Option.isSome_iff_exists.1 (hK.inn _ (List.mem_of_getElem? hoi))
      rw [objs_get hK.inn hoi, ho] at hk' hr
      simp only at hk' hr
      refine ⟨?_, f⟩
      rw [phi_same hK hoi ho (List.getElem?_eq_getElem hk') (by unfold mvF; rw [hr]; rfl)]
      exact Ht)
    (by
      rintro i k t r ⟨Ht, f⟩ hi hk' hr
      obtain ⟨o, ho⟩ := Option.isSome_iff_exists.1 (hK.inn r (List.mem_of_getElem? hi))
      rw [objs_get hK.inn hi, ho] at hk' hr
      simp only at hk' hr
      have hx : o.f[k]? = some o.f[k] := List.getElem?_eq_getElem hk'
      have Bt := B.fr f (by simp; exact hne.1) (by simp; exact hne.2.1) (by simp; exact hne.2.2.1) (by simp; exact hne.2.2.2)
      obtain ⟨t', e, Ht', f'⟩ := Ht.get44 Bt hK.inn (d + 3) (phi_get hK hi ho hx) (hC r (List.mem_of_getElem? hi) o ho k _ hx hr)
      refine ⟨_, _, e, fun _ => ⟨?_, f.trans f'⟩, by simp⟩
      have := phi_turn (shapes := shapes) hK hi ho hx
      unfold mvF at this
      rw [hr, if_pos rfl] at this
      rw [this] at Ht'
      exact Ht')
    (by
      rintro i t hi ⟨Ht, f⟩
      have hoi : keep[i]? = some keep[i] := List.getElem?_eq_getElem hi
      obtain ⟨o, ho⟩ := Option.isSome_iff_exists.1 (hK.inn _ (List.mem_of_getElem? hoi))
      rw [objs_get hK.inn hoi, ho] at Ht
      simp only at Ht
      rw [phi_next hK hoi ho] at Ht
      exact ⟨Ht, f⟩)
    (by
      intro i hi
      have hoi : keep[i]? = some keep[i] := List.getElem?_eq_getElem hi
      obtain ⟨o, ho⟩ := Option.isSome_iff_exists.1 (hK.inn _ (List.mem_of_getElem? hoi))
      rw [objs_get hK.inn hoi, ho]
      simp only
      have := lay_lt ho
      have : o.n = 3 + o.f.length := rfl
      omega)
    hl ⟨by rw [phi_zero]; exact H, Fr.refl hw _⟩ fok44
  refine ⟨v, t, e, ?_⟩
  cases b with
  | true => exact ⟨hv, h1 rfl⟩
  | false => exact (h2 rfl).elim
end
end
end Go.Proofs.YtjipdnfaokdkbaaLab
