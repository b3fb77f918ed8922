/- The document's heap: objects in a row of structs; what is found. No condition on the program. -/
import Derived.Test.YtjipdnfaokdkbaaHK
namespace Go.Proofs.YtjipdnfaokdkbaaLab
open Go
set_option linter.all false
set_option maxRecDepth 10000
noncomputable section
/-- The structs of objects. -/
def flat : Nat → List O → List (Nat × Option Nat) → List V
  | a, o :: os, (b, c) :: bs => .i (a : Nat) :: .i o.shape :: .slice b 0 o.f.length c 1 :: .i o.tag :: flat (a + o.n) os bs
  | _, _, _ => []
theorem flat_len : ∀ (a : Nat) (os : List O) (bs : List (Nat × Option Nat)), bs.length = os.length → (flat a os bs).length = 4 * os.length
  | a, [], bs, h => by simp [flat]
  | a, o :: os, [], h => by simp at h
  | a, o :: os, (b, c) :: bs, h => by simp [flat, flat_len (a + o.n) os bs (by simpa using h)]; omega
theorem flat_at : ∀ (a : Nat) (os : List O) (bs : List (Nat × Option Nat)) (i : Nat) (o : O) (b : Nat) (c : Option Nat), os[i]? = some o → bs[i]? = some (b, c) →
    (flat a os bs)[4 * i]? = some (.i ((a + (lay (os.take i)).length : Nat) : Int)) ∧ (flat a os bs)[4 * i + 1]? = some (.i o.shape) ∧ (flat a os bs)[4 * i + 2]? = some (.slice b 0 o.f.length c 1) ∧ (flat a os bs)[4 * i + 3]? = some (.i o.tag)
  | a, [], bs, i, o, b, c, h, _ => by simp at h
  | a, x :: os, [], i, o, b, c, _, h => by simp at h
  | a, x :: os, (b0, c0) :: bs, 0, o, b, c, h, h' => by
    simp at h h'
    obtain ⟨rfl, rfl⟩ := h'
    subst h
    simp [flat, lay]
  | a, x :: os, (b0, c0) :: bs, i + 1, o, b, c, h, h' => by
    obtain ⟨h1, h2, h3, h4⟩ := flat_at (a + x.n) os bs i o b c (by simpa using h) (by simpa using h')
    rw [show 4 * (i + 1) = 4 * i + 1 + 1 + 1 + 1 by omega]
    refine ⟨?_, ?_, ?_, ?_⟩
    · simp only [flat, List.getElem?_cons_succ, h1, List.take_succ_cons, lay, List.length_append, O.ws_len, Nat.add_assoc]
    · simp only [flat, List.getElem?_cons_succ, h2]
    · simp only [flat, List.getElem?_cons_succ, h3]
    · simp only [flat, List.getElem?_cons_succ, h4]
/-- The objects in memory. -/
def ROs (s : St) (FO : List Nat) (lV : V) (os : List O) : Prop :=
  (os = [] ∧ lV = .nils) ∨ ∃ b bs, lV = .slice b 0 os.length none 4 ∧ s.cl b = some (flat 1 os bs) ∧ bs.length = os.length ∧ b ∈ FO ∧ (∀ q ∈ bs, q.1 ∈ FO) ∧ (b :: bs.map (·.1)).Nodup ∧
    ∀ (i : Nat) o, os[i]? = some o → ∃ q, bs[i]? = some q ∧ s.cl q.1 = some (o.f.map .i)
structure RR (s : St) (rp : Nat) (w : Int) (os : List O) (shapes : List (List Bool)) (FO FS : List Nat) : Prop where
  wf : Wf s
  ex : ∃ lV shV, s.cl rp = some [.i w, lV, shV] ∧ ROs s FO lV os ∧ ShR s FS shV shapes
  nO : rp ∉ FO
  nS : rp ∉ FS
  nOS : ∀ b ∈ FO, b ∉ FS
  sz : (lay os).length < 100000
  w0 : 0 ≤ w ∧ w ≤ 16384
  lw : ((lay os).length : Int) ≤ w
  ltO : ∀ b ∈ FO, b < s.next
  ltS : ∀ b ∈ FS, b < s.next
theorem ROs.fr {s s' : St} {FO l : List Nat} {lV : V} {os : List O} (h : ROs s FO lV os) (hw : Wf s) (f : Fr s s' l) (hd : ∀ b ∈ FO, b ∉ l) : ROs s' FO lV os := by
  rcases h with h | ⟨b, bs, h1, h2, h3, h4, h5, h6, h7⟩
  · exact .inl h
  · refine .inr ⟨b, bs, h1, f.cl hw h2 (hd b h4), h3, h4, h5, h6, fun i o hi => ?_⟩
    obtain ⟨q, q1, q2⟩ := h7 i o hi
    exact ⟨q, q1, f.cl hw q2 (hd _ (h5 q (List.mem_of_getElem? q1)))⟩
theorem RR.fr {s s' : St} {rp : Nat} {w : Int} {os : List O} {shapes : List (List Bool)} {FO FS l : List Nat} (h : RR s rp w os shapes FO FS) (f : Fr s s' l) (h1 : rp ∉ l) (h2 : ∀ b ∈ FO, b ∉ l) (h3 : ∀ b ∈ FS, b ∉ l) : RR s' rp w os shapes FO FS := by
  obtain ⟨lV, shV, e1, e2, e3⟩ := h.ex
  exact ⟨f.wf, ⟨lV, shV, f.cl h.wf e1 h1, e2.fr h.wf f h2, e3.fr h.wf f h3⟩, h.nO, h.nS, h.nOS, h.sz, h.w0, h.lw, fun b hb => Nat.lt_of_lt_of_le (h.ltO b hb) f.nx, fun b hb => Nat.lt_of_lt_of_le (h.ltS b hb) f.nx⟩
theorem ROs.len {s : St} {FO : List Nat} {lV : V} {os : List O} (h : ROs s FO lV os) : uLenS lV = some (.i (os.length : Nat)) := by
  rcases h with ⟨rfl, rfl⟩ | ⟨b, bs, rfl, _⟩ <;> rfl
/-- An object's struct: where it lies, what it holds. -/
structure ObP (s : St) (FO : List Nat) (o : O) (a b i : Nat) (bf : Nat) (c : Option Nat) : Prop where
  at0 : ldP (.ptr b (4 * i)) s = some (.i (a : Nat))
  sh : ldP (.ptr b (4 * i + 1)) s = some (.i o.shape)
  f : ldP (.ptr b (4 * i + 2)) s = some (.slice bf 0 o.f.length c 1)
  tag : ldP (.ptr b (4 * i + 3)) s = some (.i o.tag)
  cl : s.cl bf = some (o.f.map .i)
  mb : b ∈ FO
  mf : bf ∈ FO
theorem ROs.ob {s : St} {FO : List Nat} {lV : V} {os : List O} (hw : Wf s) (h : ROs s FO lV os) {i : Nat} {o : O} (hi : os[i]? = some o) : ∃ b bf c, bIdx 4 lV (.i (i : Nat)) = some (.ptr b (4 * i)) ∧ ObP s FO o (1 + (lay (os.take i)).length) b i bf c ∧ lV = .slice b 0 os.length none 4 := by
  have hl := (List.getElem?_eq_some_iff.1 hi).1
  rcases h with ⟨rfl, _⟩ | ⟨b, bs, rfl, h2, h3, h4, h5, h6, h7⟩
  · simp at hl
  · obtain ⟨⟨bf, c⟩, q1, q2⟩ := h7 i o hi
    obtain ⟨f1, f2, f3, f4⟩ := flat_at 1 os bs i o bf c hi q1
    refine ⟨b, bf, c, ?_, ⟨dLd_eq hw h2 f1, dLd_eq hw h2 f2, dLd_eq hw h2 f3, dLd_eq hw h2 f4, q2, h4, h5 _ (List.mem_of_getElem? q1)⟩, rfl⟩
    rw [bIdx_eq (by omega) (by omega)]
    congr 2; omega
section
variable {s : St} {rp : Nat} {w : Int} {os : List O} {shapes : List (List Bool)} {FO FS : List Nat} (H : RR s rp w os shapes FO FS)
include H
theorem RR.find (d : Nat) (r : Int) : (at? os r = none → (K (d + 1)).call 47 [.ptr rp 0, .i r] s = some (.nilp, s)) ∧
    (∀ o, at? os r = some o → ∃ b i bf c, (K (d + 1)).call 47 [.ptr rp 0, .i r] s = some (.ptr b (4 * i), s) ∧ ObP s FO o r.toNat b i bf c ∧ os[i]? = some o ∧ (lay (os.take i)).length = (r - 1).toNat ∧ ldP (.ptr rp 1) s = some (.slice b 0 os.length none 4)) := by
  obtain ⟨lV, shV, h1, hO, hS⟩ := H.ex
  have hw := H.wf
  have eL := hO.len
  have hsz := H.sz
  have h3 := lay_len3 os
  have key : Ret ((K (d + 1)).call 47 [.ptr rp 0, .i r] s) fun v s' => s' = s ∧ ((at? os r = none ∧ v = .nilp) ∨ ∃ o b i bf c, at? os r = some o ∧ v = .ptr b (4 * i) ∧ ObP s FO o r.toNat b i bf c ∧ os[i]? = some o ∧ (lay (os.take i)).length = (r - 1).toNat ∧ ldP (.ptr rp 1) s = some (.slice b 0 os.length none 4)) := by
    simp -implicitDefEqProofs (maxSteps := 5000000) (disch := first | assumption | omega | (simp only [one_i, one_int, one_bool, one_str, one_ptr, one_nilp, one_nils, one_slice, one_map, one_nilm, one_func, one_iface, same_i, same_bool, same_nils, same_ptr, same_map, same_slice, List.length_cons, List.length_nil, Nat.zero_add, Nat.reduceAdd, allOne_cons, allOne_nil, Bool.and_self]; done) | (simp only [List.length_cons, List.length_nil, List.length_map, List.length_set]; omega)) only [op47, go_sem, fAdd_eq]
    refine loop_at (Q := fun x => Ret (retR _ (seqR (blkR 0 x) _)) _) (fun m e t => ∃ j : Nat, m = os.length - j ∧ j ≤ os.length ∧ s = t ∧ look os (r - 1) = look (os.drop j) (r - 1 - ((lay (os.take j)).length : Nat)) ∧ g0 e = .ptr rp 0 ∧ g1 e = .i r ∧ g5 e = .i j) ?_ (n := os.length) (by omega) ⟨0, by omega, by omega, rfl, by simp [lay], (by first | trivial | rfl | assumption), (by first | trivial | rfl | assumption), (by first | trivial | rfl | assumption)⟩
    rintro m e t ⟨j, rfl, hj, rfl, hl, i0, i1, i5⟩
    replace i0 : e.a0.a0 = _ := i0
    replace i1 : e.a0.a1 = _ := i1
    replace i5 : e.a0.a5 = _ := i5
    by_cases c : (j : Int) < ((os.length : Nat) : Int)
    · have hoj : os[j]? = some os[j] := List.getElem?_eq_getElem (by omega)
      obtain ⟨b, bf, cc, e1, ob, olv⟩ := hO.ob hw hoj
      have a0 := ob.at0
      have hd : os.drop j = os[j] :: os.drop (j + 1) := List.drop_eq_getElem_cons (by omega)
      have htk : (lay (os.take (j + 1))).length = (lay (os.take j)).length + os[j].n := by
        rw [List.take_succ, hoj, lay_append]; simp [lay, O.ws_len]
      by_cases c2 : ((1 + (lay (os.take j)).length : Nat) : Int) = r
      · have hr : r.toNat = 1 + (lay (os.take j)).length := by omega
        have hl2 : at? os r = some os[j] := by
          unfold at?; rw [hl, hd]; unfold look; rw [if_pos (by omega)]
        rw [← hr] at ob
        simp -implicitDefEqProofs (maxSteps := 5000000) (disch := first | assumption | omega | (simp only [one_i, one_int, one_bool, one_str, one_ptr, one_nilp, one_nils, one_slice, one_map, one_nilm, one_func, one_iface, same_i, same_bool, same_nils, same_ptr, same_map, same_slice, List.length_cons, List.length_nil, Nat.zero_add, Nat.reduceAdd, allOne_cons, allOne_nil, Bool.and_self]; done) | (simp only [List.length_cons, List.length_nil, List.length_map, List.length_set]; omega)) only [go_sem, fAdd_eq, i0, i1, i5, c, dLd_at hw h1, eL, e1, a0, c2]
        exact ⟨(by first | trivial | rfl | assumption), .inr ⟨_, b, j, bf, cc, hl2, rfl, ob, hoj, by omega, by rw [olv]⟩⟩
      · simp -implicitDefEqProofs (maxSteps := 5000000) (disch := first | assumption | omega | (simp only [one_i, one_int, one_bool, one_str, one_ptr, one_nilp, one_nils, one_slice, one_map, one_nilm, one_func, one_iface, same_i, same_bool, same_nils, same_ptr, same_map, same_slice, List.length_cons, List.length_nil, Nat.zero_add, Nat.reduceAdd, allOne_cons, allOne_nil, Bool.and_self]; done) | (simp only [List.length_cons, List.length_nil, List.length_map, List.length_set]; omega)) only [go_sem, fAdd_eq, i0, i1, i5, c, dLd_at hw h1, eL, e1, a0, c2]
        refine ⟨os.length - (j + 1), by omega, j + 1, rfl, by omega, trivial, ?_, (by first | trivial | rfl | assumption), (by first | trivial | rfl | assumption), (by first | trivial | rfl | assumption)⟩
        rw [hl, hd]
        show (if r - 1 - ((lay (os.take j)).length : Nat) = 0 then _ else look (os.drop (j + 1)) _) = _
        rw [if_neg (by omega), htk]
        congr 1; omega
    · have : j = os.length := by omega
      subst this
      rw [List.drop_length] at hl
      simp -implicitDefEqProofs (maxSteps := 5000000) (disch := first | assumption | omega | (simp only [one_i, one_int, one_bool, one_str, one_ptr, one_nilp, one_nils, one_slice, one_map, one_nilm, one_func, one_iface, same_i, same_bool, same_nils, same_ptr, same_map, same_slice, List.length_cons, List.length_nil, Nat.zero_add, Nat.reduceAdd, allOne_cons, allOne_nil, Bool.and_self]; done) | (simp only [List.length_cons, List.length_nil, List.length_map, List.length_set]; omega)) only [go_sem, fAdd_eq, i0, i1, i5, c, dLd_at hw h1, eL]
      exact ⟨(by first | trivial | rfl | assumption), .inl ⟨hl, (by first | trivial | rfl | assumption)⟩⟩
  obtain ⟨v, _, e1, rfl, h | ⟨o, b, i, bf, c, h1, h2, h3⟩⟩ := key
  · exact ⟨fun _ => by rw [e1, h.2], fun o ho => by rw [h.1] at ho; cases ho⟩
  · refine ⟨fun hn => (by rw [h1] at hn; cases hn), fun o' ho' => ?_⟩
    rw [h1] at ho'; cases ho'
    exact ⟨b, i, bf, c, by rw [e1, h2], h3⟩
end
end
end Go.Proofs.YtjipdnfaokdkbaaLab
