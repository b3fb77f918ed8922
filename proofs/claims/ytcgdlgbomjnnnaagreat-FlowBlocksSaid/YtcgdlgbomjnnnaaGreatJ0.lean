/- Parts of the proof: contracts of functions, joined. No condition on the program. -/
import Derived.Test.YtcgdlgbomjnnnaaGreatAt
namespace Go.Proofs.YtcgdlgbomjnnnaaGreatLab
open Go
set_option linter.all false
set_option maxRecDepth 10000
noncomputable section
theorem po {p : Prop} (h : p := by omega) : p := h
theorem pm {p : Prop} (h : p := by simp) : p := h
theorem pt {p : Prop} (h : p := by trivial) : p := h
def Row (es : Nat) (x : List V) : Prop := x.length = es ∧ ∀ v ∈ x, v.one = true
theorem ju {es : Nat} : ∀ {l : List (List V)}, (∀ x ∈ l, Row es x) → l.flatten.length = l.length * es
 | [], _ => by simp
 | x :: l, h => by
   rw [List.flatten_cons, List.length_append, ju (fun y hy => h y (by simp [hy])), (h x pm).1, List.length_cons, Nat.add_mul]; omega
theorem mQ {es : Nat} : ∀ {l : List (List V)} {i j : Nat} {x : List V}, (∀ x ∈ l, Row es x) → l[i]? = some x → j < es → l.flatten[i * es + j]? = x[j]?
 | [], i, j, x, _, hi, _ => by simp at hi
 | y :: l, 0, j, x, h, hi, hj => by
   simp at hi; subst hi;have := (h y pm).1;rw [List.flatten_cons, List.getElem?_append_left po]; congr 1; omega
 | y :: l, i + 1, j, x, h, hi, hj => by
   have := (h y pm).1;rw [List.flatten_cons, List.getElem?_append_right (by rw [Nat.add_mul]; omega), ← mQ (fun z hz => h z (by simp [hz])) (show l[i]? = some x by simpa using hi) hj]
   congr 1; rw [Nat.add_mul]; omega
theorem Hs {es : Nat} {l : List (List V)} (h : ∀ x ∈ l, Row es x) : ∀ v ∈ l.flatten, v.one = true := fun v hv => by
 obtain ⟨x, hx, hv⟩ := List.mem_flatten.1 hv;exact (h x hx).2 v hv
def RN (es : Nat) (s : St) (v : V) (l : List (List V)) : Prop := (∀ x ∈ l, Row es x) ∧ ((l = [] ∧ (v = .ay ∨ ∃ b o c, v = .slice b o 0 c es)) ∨ ∃ b o c n f, v = .slice b o l.length c es ∧ fQ s b = some (n, f) ∧ o + l.length * es ≤ n ∧ ∀ i x, l[i]? = some x → ∀ j, j < es → f (o + i * es + j) = x[j]?)
def GN (es : Nat) (s : St) (v : V) (l : List (List V)) : Prop := (∀ x ∈ l, Row es x) ∧ ((l = [] ∧ (v = .ay ∨ ∃ b, v = .slice b 0 0 (some 0) es ∧ s.cl b = some [])) ∨ ∃ b, v = .slice b 0 l.length none es ∧ s.cl b = some l.flatten)
section
variable {es : Nat} {s s' : St} {v : V} {l : List (List V)} {L : List Nat}
theorem RN.len (h : RN es s v l) : aM v = some (.i (l.length : Nat)) := by
 rcases h.2 with ⟨rfl, rfl | ⟨b, o, c, rfl⟩⟩ | ⟨b, o, c, n, f, rfl, h2⟩ <;> rfl
theorem GN.len (h : GN es s v l) : aM v = some (.i (l.length : Nat)) := by
 rcases h.2 with ⟨rfl, rfl | ⟨b, rfl, _⟩⟩ | ⟨b, rfl, h2⟩ <;> rfl
theorem RN.fr (h : RN es s v l) (hw : Wf s) (f : Fr s s' L) (hd : ∀ b ∈ aB v, b ∉ L) : RN es s' v l := by
 refine ⟨h.1, ?_⟩;rcases h.2 with h | ⟨b, o, c, n, g, rfl, h2, h3⟩
 · exact .inl h
 · exact .inr ⟨b, o, c, n, g, rfl, (oL (f.same b (xO hw h2) (hd b (by simp [aB])))).trans h2, h3⟩
theorem GN.fr (h : GN es s v l) (hw : Wf s) (f : Fr s s' L) (hd : ∀ b ∈ aB v, b ∉ L) : GN es s' v l := by
 refine ⟨h.1, ?_⟩;rcases h.2 with ⟨h0, rfl | ⟨b, rfl, hb⟩⟩ | ⟨b, rfl, h2⟩
 · exact .inl ⟨h0, .inl rfl⟩
 · exact .inl ⟨h0, .inr ⟨b, rfl, f.cl hw hb (hd b (by simp [aB]))⟩⟩
 · exact .inr ⟨b, rfl, f.cl hw h2 (hd b (by simp [aB]))⟩
theorem GN.lt (h : GN es s v l) (hw : Wf s) : ∀ b ∈ aB v, b < s.next := by
 rcases h.2 with ⟨h0, rfl | ⟨b, rfl, hb⟩⟩ | ⟨b, rfl, h2⟩
 · simp [aB]
 · intro x hx; simp [aB] at hx; subst hx; exact bQ hw hb
 · intro x hx; simp [aB] at hx; subst hx; exact bQ hw h2
theorem RN.of {b o : Nat} {c : Option Nat} {M : List V} (hr : ∀ x ∈ l, Row es x) (hw : Wf s) (h : s.cl b = some M) (h2 : o + l.length * es ≤ M.length) (h3 : ∀ i x, l[i]? = some x → ∀ j, j < es → M[o + i * es + j]? = x[j]?) : RN es s (.slice b o l.length c es) l := by
 obtain ⟨xs, q1, q2, _⟩ := fl hw h;refine ⟨hr, .inr ⟨b, o, c, _, _, rfl, fq q1, h2, fun i x hi j hj => ?_⟩⟩
 have hil := (List.getElem?_eq_some_iff.1 hi).1;have : i * es + es ≤ l.length * es := by rw [← Nat.succ_mul]; exact Nat.mul_le_mul_right _ hil
 rw [q2 _ po]; exact h3 i x hi j hj
theorem GN.rn (hw : Wf s) (h : GN es s v l) : RN es s v l := by
 rcases h.2 with ⟨h0, rfl | ⟨b, rfl, hb⟩⟩ | ⟨b, rfl, h2⟩
 · exact ⟨h.1, .inl ⟨h0, .inl rfl⟩⟩
 · exact ⟨h.1, .inl ⟨h0, .inr ⟨_, _, _, rfl⟩⟩⟩
 · refine RN.of h.1 hw h2 (by rw [ju h.1]; omega) fun i x hi j hj => ?_
   rw [Nat.zero_add]; exact mQ h.1 hi hj
theorem Qn {f : Nat → Option V} {x : List V} {m o : Nat} (hx : x.length = m) (h : ∀ j, j < m → f (o + j) = x[j]?) : qA f m o = some x := jd hx h
theorem RN.at (hw : Wf s) (h : RN es s v l) {i : Nat} {x : List V} (hx : l[i]? = some x) : ∃ b o, aP es v (.i (i : Nat)) = some (.ptr b o) ∧ b ∈ aB v ∧ (∀ j y, x[j]? = some y → cP (.ptr b (o + j)) s = some y) ∧ gH es (.ptr b o) s = some (.agg x) := by
 have hi := (List.getElem?_eq_some_iff.1 hx).1;have hR := h.1 x (List.mem_of_getElem? hx);rcases h.2 with ⟨rfl, _⟩ | ⟨b, o, c, n, f, rfl, h2, h3, h4⟩
 · simp at hx
 · have hle : i * es + es ≤ l.length * es := by rw [← Nat.succ_mul]; exact Nat.mul_le_mul_right _ hi
   refine ⟨b, o + i * es, ?_, by simp [aB], fun j y hj => ?_, ?_⟩
   · rw [jN po po, show ((i : Nat) : Int).toNat = i by omega]
   · have hjl := (List.getElem?_eq_some_iff.1 hj).1;rw [hR.1] at hjl;rw [JN h2 po, h4 i x hx j hjl, hj]
   · show (match fQ s b with | some (n, xs) => Bool.casesOn (motive := fun _ => Option V) (Nat.ble (Nat.add (o + i * es) es) n) none (match qA xs es (o + i * es) with | some l => some (.agg l) | none => none) | none => none) = _
     rw [h2]; simp only;rw [cF (show Nat.add (o + i * es) es ≤ n by show o + i * es + es ≤ n; omega), Qn hR.1 (fun j hj => h4 i x hx j hj)]
theorem Jq {l : List (List V)} {f : Nat → Option V} {o : Nat} (hr : ∀ x ∈ l, Row es x) (h : ∀ i x, l[i]? = some x → ∀ j, j < es → f (o + i * es + j) = x[j]?) : ∀ k, k < l.length * es → f (o + k) = l.flatten[k]? := fun k hk => by
 have he : 0 < es := by rcases Nat.eq_zero_or_pos es with h | h; subst h; simp at hk; exact h
 have h1 : k / es < l.length := Nat.div_lt_of_lt_mul (by rw [Nat.mul_comm]; exact hk)
 have h2 := Nat.mod_lt k he;have h3 : k / es * es + k % es = k := by rw [Nat.mul_comm]; exact Nat.div_add_mod k es
 have hx : l[k / es]? = some l[k / es] := List.getElem?_eq_getElem h1;have a := h _ _ hx _ h2;have b := mQ hr hx h2;rw [Nat.add_assoc, h3] at a;rw [h3] at b;rw [a, b]
theorem RN.src (h : RN es s v l) (hl : l.length ≤ 100000000) : Src s es v l.length l.flatten := by
 have h1 := Hs h.1;have h0 := ju h.1;rcases h.2 with ⟨rfl, rfl | ⟨b, o, c, rfl⟩⟩ | ⟨b, o, c, n, f, rfl, h2, h3, h4⟩
 · exact Src.ay
 · exact ⟨by show (Bool.casesOn (motive := fun _ => Option (Nat × List V)) (Nat.beq es es) none _) = _; rw [Nat.beq_refl]; rfl, rfl, pm, pm⟩
 · refine ⟨?_, bN h1, h0, hl⟩;cases hq : l.length with
   | zero =>
     have : l = [] := List.length_eq_zero_iff.1 hq;subst this;show (Bool.casesOn (motive := fun _ => Option (Nat × List V)) (Nat.beq es es) none _) = _
     rw [Nat.beq_refl]; rfl
   | succ k =>
     show (Bool.casesOn (motive := fun _ => Option (Nat × List V)) (Nat.beq es es) none (match fQ s b with
      | some (n, xs) => Bool.casesOn (motive := fun _ => Option (Nat × List V)) (Nat.ble (Nat.add o (Nat.mul (k + 1) es)) n) none (match qA xs (Nat.mul (k + 1) es) o with | some l => some (k + 1, l) | none => none)
      | none => none)) = _
     rw [h2]; simp only;rw [hq] at h0 h3;have e1 : Nat.ble (Nat.add o (Nat.mul (k + 1) es)) n = true := cF (show o + (k + 1) * es ≤ n by omega)
     have e2 : qA f (Nat.mul (k + 1) es) o = some l.flatten := jd (show l.flatten.length = (k + 1) * es from h0) (fun i hi => by
      refine Jq h.1 h4 i ?_;rw [hq]; exact hi)
     rw [Nat.beq_refl, e1, e2]
theorem GN.app {y : V} {l2 : List (List V)} (hw : Wf s) (h : GN es s v l) (hy : Src s es y l2.length l2.flatten) (hr : ∀ x ∈ l2, Row es x) (hl : l.length ≤ 100000000) :
 ∃ v' s', vF es v y s = some (v', s') ∧ GN es s' v' (l ++ l2) ∧ Fr s s' (aB v) ∧ (∀ b ∈ aB v', b ∈ aB v ∨ s.next ≤ b) := by
 have hR : ∀ x ∈ l ++ l2, Row es x := fun x hx => (List.mem_append.1 hx).elim (h.1 x) (hr x)
 cases hq : l2 with
 | nil =>
   subst hq;have hy0 : Src s es y 0 [] := hy;rw [List.append_nil];refine ⟨v, s, ?_, h, Fr.refl hw _, fun b hb => .inl hb⟩
   rcases h.2 with ⟨h0, rfl | ⟨b, rfl, hb⟩⟩ | ⟨b, rfl, h2⟩
   · exact yU hy0
   · exact sy hy0 po
   · exact sy hy0 hl
 | cons z zs =>
   rw [← hq];have hn : 0 < l2.length := by rw [hq]; simp
   rcases h.2 with ⟨rfl, rfl | ⟨b, rfl, hb⟩⟩ | ⟨b, rfl, h2⟩
   · obtain ⟨s', e, c, f, n⟩ := AN hw hy hn;exact ⟨_, s', e, ⟨hR, .inr ⟨s.next, pm, by simpa using c⟩⟩, f.mono pm, fun b hb => by simp [aB] at hb; omega⟩
   · obtain ⟨s', e, c, f, n⟩ := rB (b := b) (o := 0) (len := 0) (c := 0) (l := []) hw hy hn po po hb pm;rw [Nat.zero_add] at e;exact ⟨_, s', e, ⟨hR, .inr ⟨s.next, pm, by simpa using c⟩⟩, f.mono pm, fun b hb => by simp [aB] at hb; omega⟩
   · have h0 := ju h.1;obtain ⟨s', e, c, f, n⟩ := rS (b := b) (o := 0) hw hy hn hl h2 po;refine ⟨_, s', e, ⟨hR, .inr ⟨s.next, pm, ?_⟩⟩, f.mono (by simp [aB]), fun b hb => by simp [aB] at hb; omega⟩
     rw [c, List.drop_zero, ← h0, List.take_length]; simp
theorem GN.push {x : List V} (hw : Wf s) (h : GN es s v l) (hx : Row es x) (hl : l.length ≤ 100000000) :
 ∃ s1 v' s2, s.new (.cells es (cK x)) = s1 ∧ vF es v (.slice s.next 0 1 (some 1) es) s1 = some (v', s2) ∧ GN es s2 v' (l ++ [x]) ∧ Fr s s2 (aB v) ∧ (∀ b ∈ aB v', s.next ≤ b) := by
 obtain ⟨s1, e1, c1, f1, n1⟩ := bu (s := s) (l := x) (n := es) hw hx.1.symm;have hy : Src s1 es (.slice s.next 0 1 (some 1) es) [x].length [x].flatten := by
  have := Src.full (es := es) (n2 := 1) (c2 := some 1) f1.wf c1 (by rw [hx.1]; omega) hx.2 po
  simpa using this
 have hd : ∀ b ∈ aB v, b ∉ ([] : List Nat) := by simp
 obtain ⟨v', s2, e2, g2, f2, hb⟩ := (h.fr hw f1 hd).app f1.wf hy (by simpa using hx) hl
 refine ⟨s1, v', s2, e1, e2, g2, (f1.mono pm).trans f2, fun b hbb => ?_⟩
 have hlt := h.lt hw;rcases g2.2 with ⟨h0, _⟩ | ⟨c, rfl, hc⟩
 · simp at h0
 · simp [aB] at hbb; subst hbb;rcases hb b (by simp [aB]) with h3 | h3
   · exfalso;rcases h.2 with ⟨h0, rfl | ⟨b', rfl, hb'⟩⟩ | ⟨b', rfl, h2'⟩
     · simp [aB] at h3
     · simp [aB] at h3; subst h3;obtain ⟨s9, e9, _⟩ := rB (b := b) (o := 0) (len := 0) (c := 0) (l := []) f1.wf hy pm po pm (f1.cl hw hb' pm) pm;rw [e9] at e2
       injection e2 with e2; injection e2 with e2 _; injection e2 with e2 _
       have := bQ hw hb'; omega
     · simp [aB] at h3; subst h3;have h0 := ju h.1;obtain ⟨s9, e9, _⟩ := rS (b := b) (o := 0) f1.wf hy pm hl (f1.cl hw h2' pm) po;rw [e9] at e2
       injection e2 with e2; injection e2 with e2 _; injection e2 with e2 _
       have := bQ hw h2'; omega
   · omega
end
inductive L where
 | op (o a b : Int)
 | jmp (o : Int) (l : Nat)
 | here (l : Nat)
def L.cells : L → List V
 | .op o a b => [.i 0, .i o, .i a, .i b, .i (-1), .i (-1)]
 | .jmp o l => [.i 0, .i o, .i 0, .i 0, .i (l : Nat), .i (-1)]
 | .here l => [.i 0, .i (-1), .i 0, .i 0, .i (-1), .i (l : Nat)]
theorem L.row (x : L) : Row 6 x.cells := by
 cases x <;> exact ⟨rfl, by intro v hv; simp [L.cells] at hv; rcases hv with rfl | rfl | rfl | rfl | rfl | rfl <;> rfl⟩
def hC (x : Nat × Nat × Nat) : List V := [.i (x.1 : Nat), .i (x.2.1 : Nat), .i (x.2.2 : Nat)]
theorem aaz (x : Nat × Nat × Nat) : Row 3 (hC x) := ⟨rfl, by intro v hv; simp [hC] at hv; rcases hv with rfl | rfl | rfl <;> rfl⟩
def fc.cells (x : fc) : List V := [.i x.k, .int .i32 x.n, .str x.a, .str x.b, .str x.c]
theorem fc.row (x : fc) : Row 5 x.cells := ⟨rfl, by intro v hv; simp [fc.cells] at hv; rcases hv with rfl | rfl | rfl | rfl | rfl <;> rfl⟩
theorem I3 {α : Type} {es : Nat} {f : α → List V} (h : ∀ x, Row es (f x)) (l : List α) : ∀ x ∈ l.map f, Row es x := fun x hx => by
 obtain ⟨y, _, rfl⟩ := List.mem_map.1 hx;exact h y
structure G where
 ls : List L
 aj : Nat
 plain : Bool
 left : Int
 depth : Int
 hs : List (Nat × Nat × Nat)
 th : List Nat
def oF (g : G) (rb : Nat) (pv lv hv tv : V) : List V := [.ptr rb 0, pv, lv, .i (g.aj : Nat), .bool g.plain, .i g.left, .i g.depth, hv, tv, .ay]
def RC (s0 s : St) (rb : Nat) : Prop := ∃ (lv : V) (l : List Int) (a : Nat), s.cl rb = some [lv, .i (a : Nat)] ∧ SL s lv (l.map V.i) ∧ (∀ x ∈ l, XQ x) ∧ a ≤ l.length ∧ l.length ≤ 17592186044416 ∧ ∀ b ∈ aB lv, b < s0.next ∧ b ≠ rb ∧ b < rb
structure MK (s0 s : St) (mb rb : Nat) (g : G) : Prop where
 fr : Fr s0 s [rb]
 rc : RC s0 s rb
 hrb : rb < s0.next
 hmb : s0.next ≤ mb
 ex : ∃ (pv lv hv tv : V) (pool : List fc), s.cl mb = some (oF g rb pv lv hv tv) ∧ RN 5 s pv (pool.map fc.cells) ∧ pool.length ≤ 256 ∧ GN 6 s lv (g.ls.map L.cells) ∧ GN 3 s hv (g.hs.map hC) ∧ GL s tv (g.th.map fun n => .i (n : Nat)) ∧
  (∀ b ∈ aB lv, s0.next ≤ b ∧ b ≠ mb ∧ b ∉ aB hv ∧ b ∉ aB tv ∧ b ∉ aB pv) ∧ (∀ b ∈ aB hv, s0.next ≤ b ∧ b ≠ mb ∧ b ∉ aB tv ∧ b ∉ aB pv) ∧ (∀ b ∈ aB tv, s0.next ≤ b ∧ b ≠ mb ∧ b ∉ aB pv) ∧ (∀ b ∈ aB pv, b ≠ mb ∧ b ≠ rb ∧ b < s.next)
theorem RC.fr {s0 s s' : St} {rb : Nat} {L : List Nat} (h : RC s0 s rb) (hw : Wf s) (hrb : rb < s0.next) (f : Fr s s' L) (hd : ∀ b ∈ L, s0.next ≤ b) : RC s0 s' rb := by
 obtain ⟨lv, l, a, h1, h2, h3, h4, h5, h6⟩ := h;exact ⟨lv, l, a, f.cl hw h1 (fun hb => by have := hd _ hb; omega), h2.fr hw f (fun b hb hb' => by have := hd _ hb'; have := (h6 b hb).1; omega), h3, h4, h5, h6⟩
theorem GL.lt {s : St} {v : V} {l : List V} (h : GL s v l) (hw : Wf s) : ∀ b ∈ aB v, b < s.next := by
 rcases h with ⟨_, rfl⟩ | ⟨b, rfl, h2⟩
 · simp [aB]
 · intro x hx; simp [aB] at hx; subst hx; exact bQ hw h2
theorem YI (a b c d x y : Int) : cN [V.i 0, .i 0, .i 0, .i 0, .i 0, .i 0] [(0, 4, .agg [.i a, .i b, .i c, .i d]), (4, 1, .i x), (5, 1, .i y)] = some [.i a, .i b, .i c, .i d, .i x, .i y] := (rfl)
def K9 (s : St) (mb : Nat) : List Nat := match s.cl mb with
 | some (_ :: _ :: lv :: _ :: _ :: _ :: _ :: hv :: tv :: _) => aB lv ++ aB hv ++ aB tv
 | _ => []
theorem mP {s : St} {mb rb : Nat} {g : G} {pv lv hv tv : V} (h : s.cl mb = some (oF g rb pv lv hv tv)) : K9 s mb = aB lv ++ aB hv ++ aB tv := by unfold K9; rw [h]; rfl
def Kept (s : St) (mb b : Nat) (l : List V) : Prop := s.cl b = some l ∧ b ≠ mb ∧ b ∉ K9 s mb
theorem RC.take {s0 s : St} {rb : Nat} (h : RC s0 s rb) (hw : Wf s) (hrb : rb < s0.next) {n : Int} (hn : 0 < n) (hn2 : n < 4611686018427387904) {m : Nat} (hm : 1 ≤ m) :
 ∃ k t, (K m).call 38 [.ptr rb 0, .i n] s = some (.i k, t) ∧ 0 ≤ k ∧ k < n ∧ RC s0 t rb ∧ Fr s t [rb] ∧ t.next = s.next := by
 obtain ⟨lv, l, a, h1, h2, h3, h4, h5, h6⟩ := h;obtain ⟨d, rfl⟩ : ∃ d, m = d + 1 := ⟨m - 1, po⟩;have hlen := h2.len;rw [List.length_map] at hlen;have r1 : cP (.ptr rb 0) s = some lv := by rw [cS hw h1 pm]; rfl
 have r2 : cP (.ptr rb 1) s = some (.i (a : Nat)) := by rw [cS hw h1 pm]; rfl
 have hn0 : n ≠ 0 := po;have fin : ∀ x : Int, XQ x → ∃ k, 0 ≤ k ∧ k < n ∧ (if x < 0 then (-(x + 1)).tmod n else x.tmod n) = k := fun x hx => by
  refine ⟨_, ?_, ?_, rfl⟩
  · split
    · exact Int.tmod_nonneg n po
    · exact Int.tmod_nonneg n po
  · split
    · exact Int.tmod_lt_of_pos _ hn
    · exact Int.tmod_lt_of_pos _ hn
 by_cases c : (a : Int) < ((l.length : Nat) : Int)
 · obtain ⟨x, hx⟩ : ∃ x, l[a]? = some x := ⟨_, List.getElem?_eq_getElem po⟩;obtain ⟨q, a1, a2⟩ := h2.at hw (j := a) (x := .i x) (by rw [List.getElem?_map, hx]; rfl)
   have hxi := h3 x (List.mem_of_getElem? hx);unfold XQ at hxi;obtain ⟨s', p1, c1, f1, n1⟩ := cC (s := s) (b := rb) (o := 1) (v := .i ((a : Int) + 1)) hw h1 pm rfl;simp only [List.set_cons_zero, List.set_cons_succ] at c1;obtain ⟨k, k0, k1, ke⟩ := fin x hxi;refine ⟨k, s', ?_, k0, k1, ⟨lv, l, a + 1, by rw [c1]; simp, h2.fr hw f1 (fun b hb hb' => (h6 b hb).2.1 (by simpa using hb')), h3, po, h5, h6⟩, f1, n1⟩
   rw [ac0];by_cases cx : x < 0
   · rw [if_pos cx] at ke;simp -implicitDefEqProofs (disch := first|go_size|fail) only [go_sem, r1, r2, hlen, c, a1, a2, p1, cx, Nat.zero_add, xp, ke]
   · rw [if_neg cx] at ke;simp -implicitDefEqProofs (disch := first|go_size|fail) only [go_sem, r1, r2, hlen, c, a1, a2, p1, cx, Nat.zero_add, ke]
 · refine ⟨0, s, ?_, po, hn, ⟨lv, l, a, h1, h2, h3, h4, h5, h6⟩, Fr.refl hw _, rfl⟩;have e0 : (0 : Int).tmod n = 0 := Int.zero_tmod n;rw [ac0];simp -implicitDefEqProofs (disch := first|go_size|fail) only [go_sem, r1, r2, hlen, c, Nat.zero_add, e0]
section
variable {s0 s : St} {mb rb : Nat} {g : G} (H : MK s0 s mb rb g)
include H
theorem MK.wf : Wf s := H.fr.wf
theorem MK.mlt : mb < s.next := by obtain ⟨pv, lv, hv, tv, pool, h1, _⟩ := H.ex; exact bQ H.wf h1
theorem MK.ld {i : Nat} {v : V} (h : ∀ pv lv hv tv, (oF g rb pv lv hv tv)[i]? = some v) : cP (.ptr mb i) s = some v := by
 obtain ⟨pv, lv, hv, tv, pool, h1, _⟩ := H.ex;exact aK H.wf h1 (h pv lv hv tv)
theorem MK.fe : cP (.ptr mb 0) s = some (.ptr rb 0) := H.ld fun _ _ _ _ => rfl
theorem MK.Sz : cP (.ptr mb 3) s = some (.i (g.aj : Nat)) := H.ld fun _ _ _ _ => rfl
theorem MK.ld4 : cP (.ptr mb 4) s = some (.bool g.plain) := H.ld fun _ _ _ _ => rfl
theorem MK.RO : cP (.ptr mb 5) s = some (.i g.left) := H.ld fun _ _ _ _ => rfl
theorem MK.tW : cP (.ptr mb 6) s = some (.i g.depth) := H.ld fun _ _ _ _ => rfl
theorem MK.ld9 : cP (.ptr mb 9) s = some .ay := H.ld fun _ _ _ _ => rfl
theorem MK.mv {s' : St} {M : List Nat} (f : Fr s s' M) (hM : ∀ b ∈ M, s.next ≤ b) : MK s0 s' mb rb g := by
 have hM0 : ∀ b ∈ M, s0.next ≤ b := fun b hb => Nat.le_trans H.fr.nx (hM b hb)
 obtain ⟨pv, lv, hv, tv, pool, h1, h2, h3, h4, h5, h6, d1, d2, d3, d4⟩ := H.ex;have hw := H.wf;have l4 := h4.lt hw;have l5 := h5.lt hw;have l6 := h6.lt hw;have no : ∀ b, b < s.next → b ∉ M := fun b hb hm => by have := hM b hm; omega
 exact ⟨H.fr.trans' f (fun b hb => .inr (hM0 b hb)), H.rc.fr hw H.hrb f hM0, H.hrb, H.hmb, pv, lv, hv, tv, pool, f.cl hw h1 (no _ (bQ hw h1)), h2.fr hw f (fun b hb => no b (d4 b hb).2.2), h3, h4.fr hw f (fun b hb => no b (l4 b hb)), h5.fr hw f (fun b hb => no b (l5 b hb)), h6.fr hw f (fun b hb => no b (l6 b hb)), d1, d2, d3, fun b hb => ⟨(d4 b hb).1, (d4 b hb).2.1, Nat.lt_of_lt_of_le (d4 b hb).2.2 f.nx⟩⟩
theorem MK.new {l : List V} {n : Nat} (hn : n = l.length) : ∃ s', s.new (.cells n (cK l)) = s' ∧ MK s0 s' mb rb g ∧ s'.cl s.next = some l ∧ Fr s s' [] := by
 obtain ⟨s', e, c, f, n1⟩ := bu (s := s) (l := l) (n := n) H.wf hn;exact ⟨s', e, H.mv f pm, c, f⟩
theorem MK.take {n : Int} (hn : 0 < n) (hn2 : n < 4611686018427387904) {m : Nat} (hm : 1 ≤ m) : ∃ k t, (K m).call 38 [.ptr rb 0, .i n] s = some (.i k, t) ∧ 0 ≤ k ∧ k < n ∧ MK s0 t mb rb g ∧ Fr s t [rb] := by
 obtain ⟨k, t, e, k0, k1, hR, f, n1⟩ := H.rc.take H.wf H.hrb hn hn2 hm;obtain ⟨pv, lv, hv, tv, pool, h1, h2, h3, h4, h5, h6, d1, d2, d3, d4⟩ := H.ex;have hw := H.wf;have hrb := H.hrb;have hmb := H.hmb;refine ⟨k, t, e, k0, k1, ⟨H.fr.trans f, hR, H.hrb, H.hmb, pv, lv, hv, tv, pool, f.cl hw h1 (by simp; omega), h2.fr hw f (fun b hb => by simpa using (d4 b hb).2.1), h3, h4.fr hw f (fun b hb => by have := (d1 b hb).1; simp; omega), h5.fr hw f (fun b hb => by have := (d2 b hb).1; simp; omega), h6.fr hw f (fun b hb => by have := (d3 b hb).1; simp; omega), d1, d2, d3, fun b hb => ⟨(d4 b hb).1, (d4 b hb).2.1, by rw [n1]; exact (d4 b hb).2.2⟩⟩, f⟩
theorem MK.st {i : Nat} {v : V} {g' : G} (hc : ∀ pv lv hv tv, (oF g rb pv lv hv tv).set i v = oF g' rb pv lv hv tv) (hi : i < 10) (hv : v.one = true) (e1 : g'.ls = g.ls) (e2 : g'.hs = g.hs) (e3 : g'.th = g.th) : ∃ s', wH 1 (.ptr mb i) v s = some (.bH [], s') ∧ MK s0 s' mb rb g' ∧ Fr s s' [mb] ∧ K9 s' mb = K9 s mb := by
 obtain ⟨pv, lv, hv', tv, pool, h1, h2, h3, h4, h5, h6, d1, d2, d3, d4⟩ := H.ex;have hw := H.wf;have hrb := H.hrb;have hmb := H.hmb;obtain ⟨s', p1, c1, f, n1⟩ := cC (s := s) (b := mb) (o := i) (v := v) hw h1 (by simp [oF]; omega) hv
 rw [hc] at c1;exact ⟨s', p1, ⟨H.fr.trans' f (fun b hb => .inr (by simp at hb; omega)), H.rc.fr hw hrb f (fun b hb => by simp at hb; omega), hrb, hmb, pv, lv, hv', tv, pool, c1, h2.fr hw f (fun b hb => by simpa using (d4 b hb).1), h3, by rw [e1]; exact h4.fr hw f (fun b hb => by simpa using (d1 b hb).2.1), by rw [e2]; exact h5.fr hw f (fun b hb => by simpa using (d2 b hb).2.1), by rw [e3]; exact h6.fr hw f (fun b hb => by simpa using (d3 b hb).2.1), d1, d2, d3, fun b hb => ⟨(d4 b hb).1, (d4 b hb).2.1, by rw [n1]; exact (d4 b hb).2.2⟩⟩, f, by rw [mP c1, mP h1]⟩
theorem MK.line (x : L) (hl : g.ls.length ≤ 100000) : ∃ lv s1 v' s2 s3, cP (.ptr mb 2) s = some lv ∧ s.new (.cells 6 (cK x.cells)) = s1 ∧ vF 6 lv (.slice s.next 0 1 (some 1) 6) s1 = some (v', s2) ∧ wH 1 (.ptr mb 2) v' s2 = some (.bH [], s3) ∧ MK s0 s3 mb rb { g with ls := g.ls ++ [x] } ∧ ∀ b l, Kept s mb b l → Kept s3 mb b l := by
 obtain ⟨pv, lv, hv, tv, pool, h1, h2, h3, h4, h5, h6, d1, d2, d3, d4⟩ := H.ex;have hw := H.wf;have hrb := H.hrb;have hmb := H.hmb;have hx := H.fr.nx;obtain ⟨s1, v', s2, e1, e2, g2, f2, hb⟩ := h4.push hw x.row (by simp; omega)
 have h1' := f2.cl hw h1 (fun hm => (d1 mb hm).2.1 rfl)
 have hv1 : v'.one = true := by rcases g2.2 with ⟨_, rfl | ⟨b, rfl, _⟩⟩ | ⟨b, rfl, _⟩ <;> rfl
 obtain ⟨s3, p3, c3, f3, n3⟩ := cC (s := s2) (b := mb) (o := 2) (v := v') f2.wf h1' (by simp [oF]) hv1
 have l5 := h5.lt hw;have l6 := h6.lt hw;have a2 := h2.fr hw f2 (fun b hb hm => (d1 b hm).2.2.2.2 hb)
 have a5 := h5.fr hw f2 (fun b hb hm => (d1 b hm).2.2.1 hb)
 have a6 := h6.fr hw f2 (fun b hb hm => (d1 b hm).2.2.2.1 hb)
 have r2 := H.rc.fr hw hrb f2 (fun b hb => (d1 b hb).1)
 have hm2 := bQ f2.wf h1';have hms := bQ hw h1;have c3' : s3.cl mb = some (oF { g with ls := g.ls ++ [x] } rb pv v' hv tv) := by rw [c3]; rfl
 have hK : ∀ b l, Kept s mb b l → Kept s3 mb b l := fun b l ⟨k1, k2, k3⟩ => by
  rw [mP h1] at k3;simp only [List.mem_append, not_or] at k3;refine ⟨f3.cl f2.wf (f2.cl hw k1 k3.1.1) (by simpa using k2), k2, ?_⟩
  rw [mP c3'];simp only [List.mem_append, not_or];exact ⟨⟨fun h => by have := hb b h; have := bQ hw k1; omega, k3.1.2⟩, k3.2⟩
 refine ⟨lv, s1, v', s2, s3, by rw [cS hw h1 (by simp [oF])]; rfl, e1, e2, p3, ⟨(H.fr.trans' f2 (fun b hb => .inr (d1 b hb).1)).trans' f3 (fun b hb => .inr (by simp at hb; omega)), r2.fr f2.wf hrb f3 (fun b hb => by simp at hb; omega), hrb, hmb, pv, v', hv, tv, pool, ?_, a2.fr f2.wf f3 (fun b hb => by simpa using (d4 b hb).1), h3, ?_, a5.fr f2.wf f3 (fun b hb => by simpa using (d2 b hb).2.1), a6.fr f2.wf f3 (fun b hb => by simpa using (d3 b hb).2.1), ?_, d2, d3, fun b hb => ⟨(d4 b hb).1, (d4 b hb).2.1, by have := (d4 b hb).2.2; have := f2.nx; omega⟩⟩, hK⟩
 · rw [c3]; rfl
 · have := g2.fr f2.wf f3 (fun b hbb => by have := hb b hbb; simp; omega)
   simpa using this
 · intro b hbb;have := hb b hbb;exact ⟨po, po, fun h => by have := l5 b h; omega, fun h => by have := l6 b h; omega, fun h => by have := (d4 b h).2.2; omega⟩
theorem MK.put (o a b : Int) (hl : g.ls.length ≤ 100000) (hb : -1000000 ≤ g.left) (hb2 : g.left ≤ 1000000) {m : Nat} (hm : 1 ≤ m) : ∃ t, (K m).call 52 [.ptr mb 0, .i o, .i a, .i b] s = some (.bH [], t) ∧ MK s0 t mb rb { g with ls := g.ls ++ [.op o a b], left := g.left - 1 } ∧ ∀ b l, Kept s mb b l → Kept t mb b l := by
 obtain ⟨d, rfl⟩ : ∃ d, m = d + 1 := ⟨m - 1, po⟩;obtain ⟨lv, s1, v', s2, s3, q1, q2, q3, q4, H3, hK⟩ := H.line (.op o a b) hl;have l5 := H3.RO;obtain ⟨s4, q5, H4, f4, w4⟩ := H3.st (i := 5) (v := .i (g.left - 1)) (g' := { g with ls := g.ls ++ [.op o a b], left := g.left - 1 }) (fun _ _ _ _ => rfl) po rfl rfl rfl rfl
 refine ⟨s4, ?_, H4, fun b l k => ?_⟩
 rotate_left
 · obtain ⟨k1, k2, k3⟩ := hK b l k;exact ⟨f4.cl H3.wf k1 (by simpa using k2), k2, by rw [w4]; exact k3⟩
 rw [afP];replace q2 : s.new (.cells 6 (cK [V.i 0, .i o, .i a, .i b, .i (-1), .i (-1)])) = s1 := q2;simp -implicitDefEqProofs (disch := first|go_size|fail) only [go_sem, q1, YI, dQ, q2, q3, q4, l5, q5, Nat.zero_add, fO]
theorem MK.jump (o : Int) (l : Nat) (hl : g.ls.length ≤ 100000) (hb : -1000000 ≤ g.left) (hb2 : g.left ≤ 1000000) {m : Nat} (hm : 1 ≤ m) : ∃ t, (K m).call 96 [.ptr mb 0, .i o, .i (l : Nat)] s = some (.bH [], t) ∧ MK s0 t mb rb { g with ls := g.ls ++ [.jmp o l], left := g.left - 1 } := by
 obtain ⟨d, rfl⟩ : ∃ d, m = d + 1 := ⟨m - 1, po⟩;obtain ⟨lv, s1, v', s2, s3, q1, q2, q3, q4, H3, hK⟩ := H.line (.jmp o l) hl;have l5 := H3.RO;obtain ⟨s4, q5, H4, _⟩ := H3.st (i := 5) (v := .i (g.left - 1)) (g' := { g with ls := g.ls ++ [.jmp o l], left := g.left - 1 }) (fun _ _ _ _ => rfl) po rfl rfl rfl rfl
 refine ⟨s4, ?_, H4⟩;rw [ag8];replace q2 : s.new (.cells 6 (cK [V.i 0, .i o, .i 0, .i 0, .i (l : Nat), .i (-1)])) = s1 := q2;simp -implicitDefEqProofs (disch := first|go_size|fail) only [go_sem, q1, YI, dQ, q2, q3, q4, l5, q5, Nat.zero_add, fO]
theorem MK.here (l : Nat) (hl : g.ls.length ≤ 100000) {m : Nat} (hm : 1 ≤ m) : ∃ t, (K m).call 97 [.ptr mb 0, .i (l : Nat)] s = some (.bH [], t) ∧ MK s0 t mb rb { g with ls := g.ls ++ [.here l] } := by
 obtain ⟨d, rfl⟩ : ∃ d, m = d + 1 := ⟨m - 1, po⟩;obtain ⟨lv, s1, v', s2, s3, q1, q2, q3, q4, H3, hK⟩ := H.line (.here l) hl;refine ⟨s3, ?_, H3⟩;rw [agH];replace q2 : s.new (.cells 6 (cK [V.i 0, .i (-1), .i 0, .i 0, .i (-1), .i (l : Nat)])) = s1 := q2;simp -implicitDefEqProofs (disch := first|go_size|fail) only [go_sem, q1, YI, dQ, q2, q3, q4, Nat.zero_add, fO]
theorem MK.mark (hl : g.aj ≤ 1000000) {m : Nat} (hm : 1 ≤ m) : ∃ t, (K m).call 95 [.ptr mb 0] s = some (.i (g.aj : Nat), t) ∧ MK s0 t mb rb { g with aj := g.aj + 1 } := by
 obtain ⟨d, rfl⟩ : ∃ d, m = d + 1 := ⟨m - 1, po⟩;have l3 := H.Sz;obtain ⟨s4, q5, H4, _⟩ := H.st (i := 3) (v := .i ((g.aj : Int) + 1)) (g' := { g with aj := g.aj + 1 }) (fun _ _ _ _ => rfl) po rfl rfl rfl rfl
 have l3' := H4.Sz;have e1 : (((g.aj + 1 : Nat) : Int)) - 1 = (g.aj : Nat) := po;refine ⟨s4, ?_, H4⟩;rw [afX];simp -implicitDefEqProofs (disch := first|go_size|fail) only [go_sem, l3, q5, l3', Nat.zero_add, e1]
end
theorem agW {c : fc} (hc : c ∈ lR) (s : St) {m : Nat} (hm : 1 ≤ m) : (K m).call 98 [.agg c.cells] s = some (.bool true, s) := by
 obtain ⟨d, rfl⟩ : ∃ d, m = d + 1 := ⟨m - 1, po⟩;exact gm rfl (KO hc)
theorem vn {n : Int} (h0 : 0 ≤ n) (h1 : n < 256) (s : St) {m : Nat} (hm : 1 ≤ m) : (K m).call 35 [.i n] s = some (.i (bx n), s) := by
 obtain ⟨d, rfl⟩ : ∃ d, m = d + 1 := ⟨m - 1, po⟩;exact gm rfl (jv h0 h1)
theorem oo {n : Int} (h0 : 0 ≤ n) (h1 : n < 256) (s : St) {m : Nat} (hm : 1 ≤ m) : (K m).call 15 [.i n] s = some (.bool (gU n), s) := by
 obtain ⟨d, rfl⟩ : ∃ d, m = d + 1 := ⟨m - 1, po⟩;exact gm rfl (jv h0 h1)
theorem aap {n : Int} (h0 : 0 ≤ n) (h1 : n < 256) (s : St) {m : Nat} (hm : 1 ≤ m) : (K m).call 17 [.i n] s = some (.bool (eN n), s) := by
 obtain ⟨d, rfl⟩ : ∃ d, m = d + 1 := ⟨m - 1, po⟩;exact gm rfl (jv h0 h1)
theorem Zt {n : Int} (h0 : 0 ≤ n) (h1 : n < 256) (s : St) {m : Nat} (hm : 1 ≤ m) : (K m).call 22 [.i n] s = some (.bool (gU n), s) := by
 obtain ⟨d, rfl⟩ : ∃ d, m = d + 1 := ⟨m - 1, po⟩;exact gm rfl (jv h0 h1)
theorem aeq {n : Int} (h0 : 0 ≤ n) (h1 : n < 256) (s : St) {m : Nat} (hm : 1 ≤ m) : (K m).call 24 [.i n] s = some (.bool (eN n), s) := by
 obtain ⟨d, rfl⟩ : ∃ d, m = d + 1 := ⟨m - 1, po⟩;exact gm rfl (jv h0 h1)
theorem adS {n : Int} (h0 : 0 ≤ n) (h1 : n < 256) (s : St) {m : Nat} (hm : 1 ≤ m) : (K m).call 36 [.i n] s = some (.bool (gL n), s) := by
 obtain ⟨d, rfl⟩ : ∃ d, m = d + 1 := ⟨m - 1, po⟩;exact gm rfl (jv h0 h1)
theorem KZ (x y : fc) : ∃ b, LN false [.i, .i, .s, .s, .s] (.agg x.cells) (.agg y.cells) = some (.bool b) := by
 refine ⟨xor false (and (j7 x.k y.k) (and (j7 x.n y.n) (and (iM x.a y.a) (and (iM x.b y.b) (and (iM x.c y.c) true))))), ?_⟩;show (match eqS [.i, .i, .s, .s, .s] (.agg x.cells) (.agg y.cells) with | some r => some (V.bool (xor false r)) | none => none) = _
 have e : eqS [.i, .i, .s, .s, .s] (.agg x.cells) (.agg y.cells) = some (and (j7 x.k y.k) (and (j7 x.n y.n) (and (iM x.a y.a) (and (iM x.b y.b) (and (iM x.c y.c) true))))) := (rfl);rw [e]
theorem afC (id : Nat) : eS 0 5 [] [] id = some (.slice id 0 0 (some 0) 5, .cells 0 (cK [])) := (rfl)
theorem add_eq {s : St} {pv : V} {pool : List fc} (hw : Wf s) (hp : RN 5 s pv (pool.map fc.cells)) (hpl : pool.length ≤ 256) (hpb : ∀ b ∈ aB pv, b < s.next) {c : fc} (hc : c ∈ lR) {m : Nat} (hm : 2 ≤ m) :
 ∃ (t : St) (pv' : V) (pool' : List fc) (n e : Int), (K m).call 92 [pv, .agg c.cells] s = some (.bH [pv', .i n, .i e], t) ∧ RN 5 t pv' (pool'.map fc.cells) ∧ pool'.length ≤ 256 ∧ 0 ≤ n ∧ n < 256 ∧ Fr s t [] ∧ ∀ b ∈ aB pv', s.next ≤ b ∧ b < t.next := by
 obtain ⟨d, rfl⟩ : ∃ d, m = d + 1 := ⟨m - 1, po⟩;obtain ⟨s1, e1, c1, f1, n1⟩ := bu (s := s) (l := c.cells) (n := 5) hw rfl;have e97 := agW hc s1 (m := d) po;obtain ⟨s2, e2, c2, f2, n2⟩ := bu (s := s1) (l := []) (n := 0) f1.wf rfl;have gn2 : GN 5 s2 (.slice s1.next 0 0 (some 0) 5) [] := ⟨pm, .inl ⟨rfl, .inr ⟨_, rfl, c2⟩⟩⟩;have F2 := f1.trans f2;have hp2 := hp.fr hw F2 pm;have hR := I3 fc.row pool;obtain ⟨v', s3, e3, gn3, f3, vC⟩ := gn2.app f2.wf (hp2.src (by simp; omega)) hR pm
 rw [List.nil_append] at gn3;have F3 : Fr s s3 [] := F2.trans' f3 (fun b hb => by simp [aB] at hb; omega)
 have hp3 := hp.fr hw F3 pm;have len3 := hp3.len;rw [List.length_map] at len3;have ld1 : gH 5 (.ptr s.next 0) s1 = some (.agg c.cells) := by rw [dB f1.wf c1 (by simp [fc.cells])]; simp [fc.cells]
 have c3 : s3.cl s.next = some c.cells := f3.cl f2.wf (f2.cl f1.wf c1 pm) (by simp [aB]; omega)
 have Sz : gH 5 (.ptr s.next 0) s3 = some (.agg c.cells) := by rw [dB f3.wf c3 (by simp [fc.cells])]; simp [fc.cells]
 have hvl := gn3.lt f3.wf;have hvb : ∀ b ∈ aB v', s.next ≤ b := fun b hb => by have := vC b hb; simp [aB] at this; have := f2.nx; omega
 have hbox : tJ (.agg c.cells) s.next = some (.ptr s.next 0, .cells 5 (cK c.cells)) := iw (bN c.row.2);have key : dg ((K (d + 1)).call 92 [pv, .agg c.cells] s) fun x t => ∃ (pv' : V) (pool' : List fc) (n e : Int), x = .bH [pv', .i n, .i e] ∧ RN 5 t pv' (pool'.map fc.cells) ∧ pool'.length ≤ 256 ∧ 0 ≤ n ∧ n < 256 ∧ Fr s t [] ∧ ∀ b ∈ aB pv', s.next ≤ b ∧ b < t.next := by
  simp -implicitDefEqProofs (disch := first|go_size|fail) only [afF, go_sem, hbox, e1, ld1, e97, afC, e2, e3, dR]
  refine bf (Q := fun r => dg (aV _ (di (cL 0 r) _)) _) (fun q e t => ∃ j : Nat, q = pool.length - j ∧ j ≤ pool.length ∧ t = s3 ∧ g0 e = pv ∧ g3 e = .ptr s.next 0 ∧ g7 e = v' ∧ g8 e = .i j) ?_ (n := pool.length) po ⟨0, po, po, rfl, pt, pt, pt, pt⟩
  rintro q e t ⟨j, rfl, hj, rfl, i0, i3, i7, i8⟩;replace i0 : e.a0.a0 = _ := i0;replace i3 : e.a0.a3 = _ := i3;replace i7 : e.a0.a7 = _ := i7;replace i8 : e.a0.a8 = _ := i8;by_cases cj : (j : Int) < ((pool.length : Nat) : Int)
  · obtain ⟨x, hx⟩ : ∃ x, pool[j]? = some x := ⟨_, List.getElem?_eq_getElem po⟩;obtain ⟨b, o, a1, _, _, a2⟩ := hp3.at f3.wf (i := j) (x := x.cells) (by rw [List.getElem?_map, hx]; rfl)
    obtain ⟨bv, a3⟩ := KZ x c;cases bv with
    | true =>
      simp -implicitDefEqProofs (disch := first|go_size|fail) only [go_sem, i0, i3, i7, i8, len3, cj, a1, a2, Sz, a3, dR]
      exact ⟨v', pool, j, 0, rfl, gn3.rn f3.wf, hpl, po, po, F3, fun b hb => ⟨hvb b hb, hvl b hb⟩⟩
    | false =>
      simp -implicitDefEqProofs (disch := first|go_size|fail) only [go_sem, i0, i3, i7, i8, len3, cj, a1, a2, Sz, a3, dR]
      exact ⟨pool.length - (j + 1), po, j + 1, rfl, po, pt, pt, pt, pt, pt⟩
  · by_cases cl : ((256 : Int) ≤ ((pool.length : Nat) : Int))
    · simp -implicitDefEqProofs (disch := first|go_size|fail) only [go_sem, i0, i3, i7, i8, len3, cj, cl, dR]
      exact ⟨.ay, [], 0, 4, rfl, ⟨pm, .inl ⟨rfl, .inl rfl⟩⟩, pm, po, po, F3, by simp [aB]⟩
    · obtain ⟨s4, v4, s5, e4, e5, gn5, f5, hb5⟩ := gn3.push f3.wf c.row (by simp; omega)
      have hpc : (pool.map fc.cells) ++ [c.cells] = (pool ++ [c]).map fc.cells := by simp
      rw [hpc] at gn5;have F5 : Fr s s5 [] := F3.trans' f5 (fun b hb => .inr (hvb b hb))
      have wG := (hp.fr hw F5 pm).len;rw [List.length_map] at wG;have al : bn c.cells = true := bN c.row.2;have ab : eS 1 5 [V.i 0, .int .i32 0, .str [], .str [], .str []] [(0, 5, .agg c.cells)] t.next = some (.slice t.next 0 1 (some 1) 5, .cells 5 (cK c.cells)) := dQ rfl rfl al;simp -implicitDefEqProofs (disch := first|go_size|fail) only [go_sem, i0, i3, i7, i8, len3, cj, cl, Sz, ab, e4, e5, wG, dR]
      exact ⟨v4, pool ++ [c], _, _, rfl, gn5.rn f5.wf, by simp; omega, po, po, F5, fun b hb => ⟨by have := hb5 b hb; have := F3.nx; omega, gn5.lt f5.wf b hb⟩⟩
 obtain ⟨x, t, e, pv', pool', n, er, rfl, h⟩ := key;exact ⟨t, pv', pool', n, er, e, h⟩
section
variable {s0 s : St} {mb rb : Nat} {g : G} (H : MK s0 s mb rb g)
include H
theorem MK.constant {c : fc} (hc : c ∈ lR) {m : Nat} (hm : 3 ≤ m) : ∃ n t, (K m).call 73 [.ptr mb 0, .agg c.cells] s = some (.i n, t) ∧ MK s0 t mb rb g ∧ 0 ≤ n ∧ n < 256 := by
 obtain ⟨d, rfl⟩ : ∃ d, m = d + 1 := ⟨m - 1, po⟩;have hbox : tJ (.agg c.cells) s.next = some (.ptr s.next 0, .cells 5 (cK c.cells)) := iw (bN c.row.2);obtain ⟨s1, e1, H1, c1, f1⟩ := H.new (l := c.cells) (n := 5) rfl;have ld1 : gH 5 (.ptr s.next 0) s1 = some (.agg c.cells) := by rw [dB f1.wf c1 (by simp [fc.cells])]; simp [fc.cells]
 obtain ⟨pv, lv, hv, tv, pool, h1, h2, h3, h4, h5, h6, d1, d2, d3, d4⟩ := H1.ex;have hw := H1.wf;have hld : cP (.ptr mb 1) s1 = some pv := by rw [cS hw h1 (by simp [oF])]; rfl
 obtain ⟨t, pv', pool', n, er, e2, p2, pl2, n0, n1, f2, hb2⟩ := add_eq hw h2 h3 (fun b hb => (d4 b hb).2.2) hc (m := d) po
 have h1t := f2.cl hw h1 pm;have hv1 : pv'.one = true := by rcases p2.2 with ⟨_, rfl | ⟨b, o, c, rfl⟩⟩ | ⟨b, o, c, n, f, rfl, _⟩ <;> rfl
 obtain ⟨t2, p3, c3, f3, n3⟩ := cC (s := t) (b := mb) (o := 1) (v := pv') f2.wf h1t (by simp [oF]) hv1
 have hrb := H.hrb;have hmb := H.hmb;have hml := bQ hw h1;have hnx := H1.fr.nx;have l4 := h4.lt hw;have l5 := h5.lt hw;have l6 := h6.lt hw;refine ⟨n, t2, ?_, ⟨(H1.fr.trans' f2 pm).trans' f3 (fun b hb => .inr (by simp at hb; omega)), (H1.rc.fr hw hrb f2 pm).fr f2.wf hrb f3 (fun b hb => by simp at hb; omega), hrb, hmb, pv', lv, hv, tv, pool', by rw [c3]; rfl, p2.fr f2.wf f3 (fun b hb => by have := hb2 b hb; simp; omega), pl2, (h4.fr hw f2 pm).fr f2.wf f3 (fun b hb => by simpa using (d1 b hb).2.1), (h5.fr hw f2 pm).fr f2.wf f3 (fun b hb => by simpa using (d2 b hb).2.1), (h6.fr hw f2 pm).fr f2.wf f3 (fun b hb => by simpa using (d3 b hb).2.1), fun b hb => ⟨(d1 b hb).1, (d1 b hb).2.1, (d1 b hb).2.2.1, (d1 b hb).2.2.2.1, fun h => by have := hb2 b h; have := l4 b hb; omega⟩, fun b hb => ⟨(d2 b hb).1, (d2 b hb).2.1, (d2 b hb).2.2.1, fun h => by have := hb2 b h; have := l5 b hb; omega⟩, fun b hb => ⟨(d3 b hb).1, (d3 b hb).2.1, fun h => by have := hb2 b h; have := l6 b hb; omega⟩, fun b hb => ⟨by have := hb2 b hb; omega, by have := hb2 b hb; omega, by have := hb2 b hb; omega⟩⟩, n0, n1⟩
 rw [agx];simp -implicitDefEqProofs (disch := first|go_size|fail) only [go_sem, hbox, e1, hld, ld1, e2, p3, Nat.zero_add]
theorem MK.field {x y z : List Nat} (hc : (⟨9, 0, x, y, z⟩ : fc) ∈ lR) {m : Nat} (hm : 4 ≤ m) : ∃ n t, (K m).call 75 [.ptr mb 0, .str x, .str y, .str z] s = some (.i n, t) ∧ MK s0 t mb rb g ∧ 0 ≤ n ∧ n < 256 := by
 obtain ⟨d, rfl⟩ : ∃ d, m = d + 1 := ⟨m - 1, po⟩;obtain ⟨n, t, e, H1, h⟩ := H.constant hc (m := d) po;replace e : (K d).call 73 [.ptr mb 0, .agg [.i 9, .int .i32 0, .str x, .str y, .str z]] s = some (.i n, t) := e;refine ⟨n, t, ?_, H1, h⟩;rw [agN];simp -implicitDefEqProofs (disch := first|go_size|fail) only [go_sem, e]
theorem MK.method {x y z : List Nat} (hc : (⟨10, 0, x, y, z⟩ : fc) ∈ lR) {m : Nat} (hm : 4 ≤ m) : ∃ n t, (K m).call 76 [.ptr mb 0, .str x, .str y, .str z] s = some (.i n, t) ∧ MK s0 t mb rb g ∧ 0 ≤ n ∧ n < 256 := by
 obtain ⟨d, rfl⟩ : ∃ d, m = d + 1 := ⟨m - 1, po⟩;obtain ⟨n, t, e, H1, h⟩ := H.constant hc (m := d) po;replace e : (K d).call 73 [.ptr mb 0, .agg [.i 10, .int .i32 0, .str x, .str y, .str z]] s = some (.i n, t) := e;refine ⟨n, t, ?_, H1, h⟩;rw [afK];simp -implicitDefEqProofs (disch := first|go_size|fail) only [go_sem, e]
theorem MK.class {x : List Nat} (hc : (⟨7, 0, x, [], []⟩ : fc) ∈ lR) {m : Nat} (hm : 4 ≤ m) : ∃ n t, (K m).call 77 [.ptr mb 0, .str x] s = some (.i n, t) ∧ MK s0 t mb rb g ∧ 0 ≤ n ∧ n < 256 := by
 obtain ⟨d, rfl⟩ : ∃ d, m = d + 1 := ⟨m - 1, po⟩;obtain ⟨n, t, e, H1, h⟩ := H.constant hc (m := d) po;replace e : (K d).call 73 [.ptr mb 0, .agg [.i 7, .int .i32 0, .str x, .str [], .str []]] s = some (.i n, t) := e;refine ⟨n, t, ?_, H1, h⟩;rw [agL];simp -implicitDefEqProofs (disch := first|go_size|fail) only [go_sem, e]
end
def tC (o a b : Int) : Prop := (0 ≤ o ∧ o < 256 ∧ gU o = false ∧ bx o ≠ 0) ∧ (o = 132 → 0 ≤ a ∧ a < 256 ∧ -128 ≤ b ∧ b < 128) ∧ (o ≠ 132 → b = 0 ∧ (bx o = 1 → a = 0) ∧ (bx o = 2 → gL o = false ∧ 0 ≤ a ∧ a < 256) ∧ (bx o = 3 → (gL o = true → -32768 ≤ a ∧ a < 32768) ∧ (gL o = false → 0 ≤ a ∧ a < 65536)))
theorem aZ {n : Int} : ∀ {l : List Int}, isIn n l = true ↔ n ∈ l
 | [] => by simp [isIn]
 | m :: l => by
   show Bool.casesOn (motive := fun _ => Bool) (j7 n m) (isIn n l) true = true ↔ _
   rw [eP];by_cases h : n = m
   · subst h; simp
   · rw [beq_eq_false_iff_ne.2 h];show isIn n l = true ↔ _;simp [h, aZ (l := l)]
theorem ok_one {o : Int} (h : o ∈ vX) : tC o 0 0 := by
 simp only [vX, List.mem_cons, List.not_mem_nil, or_false] at h;rcases h with rfl | rfl | rfl | rfl | rfl | rfl | rfl | rfl | rfl | rfl | rfl | rfl | rfl | rfl | rfl | rfl | rfl | rfl | rfl | rfl | rfl | rfl | rfl | rfl | rfl | rfl | rfl | rfl | rfl | rfl | rfl | rfl | rfl | rfl | rfl <;>
  exact ⟨⟨po, po, rfl, by decide⟩, fun h => absurd h (by decide), fun _ => ⟨rfl, fun _ => rfl, fun h => absurd h (by decide), fun h => absurd h (by decide)⟩⟩
theorem ok_two {o a : Int} (h : o ∈ ([18, 21, 25, 54, 58, 188] : List Int)) (h0 : 0 ≤ a) (h1 : a < 256) : tC o a 0 := by
 simp only [List.mem_cons, List.not_mem_nil, or_false] at h;rcases h with rfl | rfl | rfl | rfl | rfl | rfl <;>
  exact ⟨⟨po, po, rfl, by decide⟩, fun h => absurd h (by decide), fun _ => ⟨rfl, fun h => absurd h (by decide), fun _ => ⟨rfl, h0, h1⟩, fun h => absurd h (by decide)⟩⟩
theorem ok_three {o a : Int} (h : o ∈ ([178, 179, 180, 181, 182, 184, 187, 189, 192, 193] : List Int)) (h0 : 0 ≤ a) (h1 : a < 256) : tC o a 0 := by
 simp only [List.mem_cons, List.not_mem_nil, or_false] at h;rcases h with rfl | rfl | rfl | rfl | rfl | rfl | rfl | rfl | rfl | rfl <;>
  exact ⟨⟨po, po, rfl, by decide⟩, fun h => absurd h (by decide), fun _ => ⟨rfl, fun h => absurd h (by decide), fun h => absurd h (by decide), fun _ => ⟨fun h => absurd h (by decide), fun _ => ⟨h0, po⟩⟩⟩⟩
theorem Qq {a : Int} (h0 : -32768 ≤ a) (h1 : a < 32768) : tC 17 a 0 :=
 ⟨⟨po, po, rfl, by decide⟩, fun h => absurd h (by decide), fun _ => ⟨rfl, fun h => absurd h (by decide), fun h => absurd h (by decide), fun _ => ⟨fun _ => ⟨h0, h1⟩, fun h => absurd h (by decide)⟩⟩⟩
theorem Nr {a b : Int} (h0 : 0 ≤ a) (h1 : a < 256) (h2 : -128 ≤ b) (h3 : b < 128) : tC 132 a b :=
 ⟨⟨po, po, rfl, by decide⟩, fun _ => ⟨h0, h1, h2, h3⟩, fun h => absurd rfl h⟩
theorem jC {k : Int} (h0 : 0 ≤ k) (h1 : k < 6) : 3 + k ∈ vX := by
 have : k = 0 ∨ k = 1 ∨ k = 2 ∨ k = 3 ∨ k = 4 ∨ k = 5 := po;rcases this with rfl | rfl | rfl | rfl | rfl | rfl <;> exact aZ.1 rfl
def okL : L → Prop
 | .op o a b => tC o a b ∨ (o = 16 ∧ 0 ≤ a ∧ a < 128 ∧ b = 0)
 | .jmp o _ => 0 ≤ o ∧ o < 256 ∧ gU o = true
 | .here _ => True
def L.ins : L → Bool | .here _ => false | _ => true
def cX : List L → List Nat | [] => [] | .here l :: r => l :: cX r | _ :: r => cX r
def targets : List L → List Nat | [] => [] | .jmp _ l :: r => l :: targets r | _ :: r => targets r
theorem fH : ∀ (a b : List L), cX (a ++ b) = cX a ++ cX b
 | [], b => rfl
 | .here l :: a, b => by simp [cX, fH a b]
 | .op _ _ _ :: a, b => by simp [cX, fH a b]
 | .jmp _ _ :: a, b => by simp [cX, fH a b]
theorem dV : ∀ (a b : List L), targets (a ++ b) = targets a ++ targets b
 | [], b => rfl
 | .here l :: a, b => by simp [targets, dV a b]
 | .op _ _ _ :: a, b => by simp [targets, dV a b]
 | .jmp _ _ :: a, b => by simp [targets, dV a b]
def YS (ls : List L) (h : Nat × Nat × Nat) : Prop := ∃ A B C, ls = A ++ .here h.1 :: B ++ .here h.2.1 :: C ∧ ∃ x ∈ B, x.ins = true
theorem YS.app {ls : List L} {h : Nat × Nat × Nat} (H : YS ls h) (r : List L) : YS (ls ++ r) h := by
 obtain ⟨A, B, C, rfl, hx⟩ := H;exact ⟨A, B, C ++ r, pm, hx⟩
structure aW (c : Nat) (g g' : G) : Prop where
 ex : ∃ new : List L, (∀ x ∈ new, okL x ∧ ∃ o a b, x = .op o a b) ∧ new.length ≤ c ∧ g' = { g with ls := g.ls ++ new, left := g.left - (new.length : Nat) }
theorem aW.refl (g : G) : aW 0 g g := ⟨[], pm, pm, pm⟩
theorem aW.trans {a b c : Nat} {g g' g'' : G} (h1 : aW a g g') (h2 : aW b g' g'') (hc : a + b ≤ c) : aW c g g'' := by
 obtain ⟨x, hx, lx, rfl⟩ := h1.ex;obtain ⟨y, hy, ly, rfl⟩ := h2.ex;refine ⟨x ++ y, fun z hz => (List.mem_append.1 hz).elim (hx z) (hy z), by simp; omega, ?_⟩
 simp only [List.append_assoc, List.length_append]
 congr 1
 omega
theorem aW.len {c : Nat} {g g' : G} (h : aW c g g') : g'.ls.length ≤ g.ls.length + c ∧ g.left - c ≤ g'.left ∧ g'.left ≤ g.left := by
 obtain ⟨x, hx, lx, rfl⟩ := h.ex;simp only [List.length_append];omega
theorem aW.same {c : Nat} {g g' : G} (h : aW c g g') : g'.aj = g.aj ∧ g'.plain = g.plain ∧ g'.depth = g.depth ∧ g'.hs = g.hs ∧ g'.th = g.th := by
 obtain ⟨x, hx, lx, rfl⟩ := h.ex;exact ⟨rfl, rfl, rfl, rfl, rfl⟩
theorem aW.put {g : G} {o a b : Int} (h : tC o a b) : aW 1 g { g with ls := g.ls ++ [.op o a b], left := g.left - 1 } :=
 ⟨[.op o a b], by simp; exact .inl h, pm, pm⟩
theorem aW.DG {g : G} {a : Int} (h0 : 0 ≤ a) (h1 : a < 128) : aW 1 g { g with ls := g.ls ++ [.op 16 a 0], left := g.left - 1 } :=
 ⟨[.op 16 a 0], by simp; exact .inr ⟨rfl, h0, h1, rfl⟩, pm, pm⟩
structure Fo (o : List Nat) (g g' : G) : Prop where
 ex : ∃ (new : List L) (hn : List (Nat × Nat × Nat)) (tn : List Nat), g'.ls = g.ls ++ new ∧ g'.hs = g.hs ++ hn ∧ g'.th = g.th ++ tn ∧ (∀ x ∈ new, okL x) ∧ (cX new ++ o).Perm (List.range' g.aj (g'.aj - g.aj)) ∧ (∀ t ∈ targets new, g.aj ≤ t ∧ t < g'.aj) ∧ (∀ h ∈ hn, YS g'.ls h ∧ g.aj ≤ h.2.2 ∧ h.2.2 < g'.aj)
 jL : g.aj ≤ g'.aj
 cnt : (g'.ls.length : Int) + (o.length : Nat) + g'.left + g.aj = g.ls.length + g.left + g'.aj
 hc : g'.hs.length + g.aj ≤ g.hs.length + g'.aj
 tc : g'.th.length + g.aj ≤ g.th.length + g'.aj
theorem Fo.refl (g : G) : Fo [] g g := ⟨⟨[], [], [], pm, pm, pm, pm, by simp [cX], by simp [targets], pm⟩, Nat.le_refl _, pm, Nat.le_refl _, Nat.le_refl _⟩
theorem Fo.mark {o : List Nat} {g g1 : G} (h : Fo o g g1) : Fo (o ++ [g1.aj]) g { g1 with aj := g1.aj + 1 } := by
 obtain ⟨⟨new, hn, tn, e1, e2, e3, e4, e5, e6, e7⟩, h2, h3, h4, h5⟩ := h;refine ⟨⟨new, hn, tn, e1, e2, e3, e4, ?_, fun t ht => ?_, fun h hh => ?_⟩, by show _ ≤ g1.aj + 1; omega, ?_, by show g1.hs.length + g.aj ≤ _ + (g1.aj + 1); omega, by show g1.th.length + g.aj ≤ _ + (g1.aj + 1); omega⟩
 · show (cX new ++ (o ++ [g1.aj])).Perm (List.range' g.aj (g1.aj + 1 - g.aj));rw [← List.append_assoc, show g1.aj + 1 - g.aj = (g1.aj - g.aj) + 1 by omega, List.range'_concat, show g.aj + 1 * (g1.aj - g.aj) = g1.aj by omega]
   exact e5.append_right _
 · have := e6 t ht; show _ ∧ _ < g1.aj + 1; omega
 · obtain ⟨a, b, c⟩ := e7 h hh; exact ⟨a, b, by show _ < g1.aj + 1; omega⟩
 · simp only [List.length_append, List.length_cons, List.length_nil]; omega
theorem Fo.emit {o : List Nat} {c : Nat} {g g1 g2 : G} (h : Fo o g g1) (hE : aW c g1 g2) : Fo o g g2 := by
 obtain ⟨x, hx, lx, rfl⟩ := hE.ex;obtain ⟨⟨new, hn, tn, e1, e2, e3, e4, e5, e6, e7⟩, h2, h3, h4, h5⟩ := h;have x0 : cX x = [] ∧ targets x = [] := by
  clear lx hE;induction x with
  | nil => exact ⟨rfl, rfl⟩
  | cons y x ih =>
    obtain ⟨_, o, a, b, rfl⟩ := hx y pm;exact ih fun z hz => hx z (by simp [hz])
 refine ⟨⟨new ++ x, hn, tn, by rw [e1, List.append_assoc], e2, e3, fun z hz => (List.mem_append.1 hz).elim (e4 z) (fun h => (hx z h).1), ?_, ?_, fun h hh => ?_⟩, h2, ?_, h4, h5⟩
 · rw [fH, x0.1, List.append_nil]; exact e5
 · rw [dV, x0.2, List.append_nil]; exact e6
 · obtain ⟨a, b, c⟩ := e7 h hh; exact ⟨a.app _, b, c⟩
 · simp only [List.length_append]; omega
theorem Fo.jump {o : List Nat} {g g1 : G} (h : Fo o g g1) {n : Int} {l : Nat} (hn : 0 ≤ n ∧ n < 256 ∧ gU n = true) (h0 : g.aj ≤ l) (h1 : l < g1.aj) : Fo o g { g1 with ls := g1.ls ++ [.jmp n l], left := g1.left - 1 } := by
 obtain ⟨⟨new, hn', tn, e1, e2, e3, e4, e5, e6, e7⟩, h2, h3, h4, h5⟩ := h;refine ⟨⟨new ++ [.jmp n l], hn', tn, by simp [e1], e2, e3, fun z hz => (List.mem_append.1 hz).elim (e4 z) (fun h => by simp at h; subst h; exact hn), ?_, ?_, fun h hh => ?_⟩, h2, ?_, h4, h5⟩
 · rw [fH]; simpa [cX] using e5
 · rw [dV];intro t ht;rcases List.mem_append.1 ht with ht | ht
   · exact e6 t ht
   · simp [targets] at ht; subst ht; exact ⟨h0, h1⟩
 · obtain ⟨a, b, c⟩ := e7 h hh; exact ⟨a.app _, b, c⟩
 · simp only [List.length_append, List.length_cons, List.length_nil]; omega
theorem Fo.here {o : List Nat} {l : Nat} {g g1 : G} (h : Fo (l :: o) g g1) : Fo o g { g1 with ls := g1.ls ++ [.here l] } := by
 obtain ⟨⟨new, hn', tn, e1, e2, e3, e4, e5, e6, e7⟩, h2, h3, h4, h5⟩ := h;refine ⟨⟨new ++ [.here l], hn', tn, by simp [e1], e2, e3, fun z hz => (List.mem_append.1 hz).elim (e4 z) (fun h => by simp at h; subst h; trivial), ?_, ?_, fun h hh => ?_⟩, h2, ?_, h4, h5⟩
 · rw [fH];have : cX new ++ cX [.here l] ++ o = cX new ++ l :: o := by simp [cX]
   rw [this]; exact e5
 · rw [dV]; simpa [targets] using e6
 · obtain ⟨a, b, c⟩ := e7 h hh; exact ⟨a.app _, b, c⟩
 · simp only [List.length_append, List.length_cons, List.length_nil] at h3 ⊢; omega
theorem Fo.ij {o : List Nat} {g g1 g2 : G} (h : Fo o g g1) (k : Fo [] g1 g2) : Fo o g g2 := by
 obtain ⟨⟨new, hn, tn, e1, e2, e3, e4, e5, e6, e7⟩, h2, h3, h4, h5⟩ := h;obtain ⟨⟨new', hn', tn', k1, k2, k3, k4, k5, k6, k7⟩, j2, j3, j4, j5⟩ := k;refine ⟨⟨new ++ new', hn ++ hn', tn ++ tn', by rw [k1, e1, List.append_assoc], by rw [k2, e2, List.append_assoc], by rw [k3, e3, List.append_assoc], fun z hz => (List.mem_append.1 hz).elim (e4 z) (k4 z), ?_, fun t ht => ?_, fun h hh => ?_⟩, po, ?_, po, po⟩
 · rw [fH];have a : (cX new ++ cX new' ++ o).Perm ((cX new ++ o) ++ cX new') := by
    rw [List.append_assoc, List.append_assoc];exact List.Perm.append_left _ List.perm_append_comm
   refine a.trans ?_;rw [List.append_nil] at k5;refine (e5.append k5).trans ?_;rw [show g2.aj - g.aj = (g1.aj - g.aj) + (g2.aj - g1.aj) by omega, ← List.range'_append_1, show g.aj + (g1.aj - g.aj) = g1.aj by omega]
 · rw [dV] at ht;rcases List.mem_append.1 ht with ht | ht
   · have := e6 t ht; omega
   · have := k6 t ht; omega
 · rcases List.mem_append.1 hh with hh | hh
   · obtain ⟨a, b, c⟩ := e7 h hh; exact ⟨by rw [k1]; exact a.app _, b, po⟩
   · obtain ⟨a, b, c⟩ := k7 h hh; exact ⟨a, po, c⟩
 · simp only [List.length_nil] at j3; omega
theorem Fo.eq {o : List Nat} {g g1 g2 : G} (h : Fo o g g1) (e1 : g2.ls = g1.ls) (e2 : g2.aj = g1.aj) (e3 : g2.left = g1.left) (e4 : g2.hs = g1.hs) (e5 : g2.th = g1.th) : Fo o g g2 := by
 obtain ⟨⟨new, hn, tn, k1, k2, k3, k4, k5, k6, k7⟩, h2, h3, h4, h5⟩ := h;exact ⟨⟨new, hn, tn, by rw [e1]; exact k1, by rw [e4]; exact k2, by rw [e5]; exact k3, k4, by rw [e2]; exact k5, by rw [e2]; exact k6, by rw [e1, e2]; exact k7⟩, by rw [e2]; exact h2, by rw [e1, e2, e3]; exact h3, by rw [e2, e4]; exact h4, by rw [e2, e5]; exact h5⟩
theorem Fo.vL {o : List Nat} {g g1 : G} (h : Fo o g g1) (n : Nat) (hs : g1.th.length + g.aj < g.th.length + g1.aj) : Fo o g { g1 with th := g1.th ++ [n] } := by
 obtain ⟨⟨new, hn, tn, k1, k2, k3, k4, k5, k6, k7⟩, h2, h3, h4, h5⟩ := h;exact ⟨⟨new, hn, tn ++ [n], k1, k2, by simp [k3], k4, k5, k6, k7⟩, h2, h3, h4, by simp only [List.length_append, List.length_cons, List.length_nil]; omega⟩
theorem Fo.handler {o : List Nat} {g g1 : G} (h : Fo o g g1) {x : Nat × Nat × Nat} (hx : YS g1.ls x) (h0 : g.aj ≤ x.2.2) (h1 : x.2.2 < g1.aj) (hs : g1.hs.length + g.aj < g.hs.length + g1.aj) : Fo o g { g1 with hs := g1.hs ++ [x] } := by
 obtain ⟨⟨new, hn, tn, k1, k2, k3, k4, k5, k6, k7⟩, h2, h3, h4, h5⟩ := h;refine ⟨⟨new, hn ++ [x], tn, k1, by simp [k2], k3, k4, k5, k6, fun y hy => ?_⟩, h2, h3, by simp only [List.length_append, List.length_cons, List.length_nil]; omega, h5⟩
 rcases List.mem_append.1 hy with hy | hy
 · exact k7 y hy
 · simp at hy; subst hy; exact ⟨hx, h0, h1⟩
theorem Fo.pre {o : List Nat} {g g1 : G} (h : Fo o g g1) : ∃ r, g1.ls = g.ls ++ r := by obtain ⟨⟨new, _, _, k1, _⟩, _⟩ := h; exact ⟨new, k1⟩
structure Xe (new : List L) (n dl : Nat) (lf : Int) (g g' : G) : Prop where
 ls : g'.ls = g.ls ++ new
 aj : g'.aj = g.aj + dl
 left : g'.left = g.left + lf
 hs : g'.hs = g.hs
 th : g'.th = g.th
 depth : g'.depth = g.depth
 plain : g'.plain = g.plain
 n : new.length = n
theorem Xe.aU {new : List L} {n dl : Nat} {lf : Int} {g g' : G} (h : Xe new n dl lf g g') : g'.aj = g.aj + dl ∧ g'.left = g.left + lf ∧ g'.ls.length = g.ls.length + n ∧ g'.hs.length = g.hs.length ∧ g'.th.length = g.th.length ∧ g'.depth = g.depth := by
 refine ⟨h.aj, h.left, ?_, by rw [h.hs], by rw [h.th], h.depth⟩
 rw [h.ls, List.length_append, h.n]
theorem aW.aU {c : Nat} {g g' : G} (h : aW c g g') : g'.aj = g.aj ∧ (g'.ls.length : Int) + g'.left = g.ls.length + g.left ∧ g'.ls.length ≤ g.ls.length + c ∧ g.left - c ≤ g'.left ∧ g'.left ≤ g.left ∧ g'.hs.length = g.hs.length ∧ g'.th.length = g.th.length ∧ g'.depth = g.depth := by
 obtain ⟨a, b, c, d, e⟩ := h.same;obtain ⟨x, y, z⟩ := h.len;have hs : (g'.ls.length : Int) + g'.left = g.ls.length + g.left := by
  obtain ⟨n, _, _, rfl⟩ := h.ex;simp only [List.length_append]; omega
 exact ⟨a, hs, x, y, z, by rw [d], by rw [e], c⟩
theorem Fo.gM {o : List Nat} {g g1 g2 : G} (h : Fo o g g1) (st : Xe [] 0 1 0 g1 g2) : Fo (o ++ [g1.aj]) g g2 :=
 h.mark.eq (by rw [st.ls]; simp) st.aj (by rw [st.left]; simp) st.hs st.th
theorem Fo.cO {o : List Nat} {g g1 g2 : G} (h : Fo o g g1) {n : Int} {l : Nat} (st : Xe [.jmp n l] 1 0 (-1) g1 g2) (hn : 0 ≤ n ∧ n < 256 ∧ gU n = true) (h0 : g.aj ≤ l) (h1 : l < g1.aj) : Fo o g g2 :=
 (h.jump hn h0 h1).eq st.ls st.aj st.left st.hs st.th
theorem Fo.bX {o : List Nat} {l : Nat} {g g1 g2 : G} (h : Fo (l :: o) g g1) (st : Xe [.here l] 1 0 0 g1 g2) : Fo o g g2 :=
 h.here.eq st.ls st.aj (by rw [st.left]; simp) st.hs st.th
section
variable {s0 s : St} {mb rb : Nat} {g : G} (H : MK s0 s mb rb g)
include H
theorem MK.gM (hl : g.aj ≤ 1000000) {m : Nat} (hm : 1 ≤ m) : ∃ t g', (K m).call 95 [.ptr mb 0] s = some (.i (g.aj : Nat), t) ∧ MK s0 t mb rb g' ∧ Xe [] 0 1 0 g g' := by
 obtain ⟨t, e, H1⟩ := H.mark hl hm;exact ⟨t, _, e, H1, pm, rfl, pm, rfl, rfl, rfl, rfl, rfl⟩
theorem MK.cO (n : Int) (l : Nat) (hl : g.ls.length ≤ 100000) (hb : -1000000 ≤ g.left) (hb2 : g.left ≤ 1000000) {m : Nat} (hm : 1 ≤ m) : ∃ t g', (K m).call 96 [.ptr mb 0, .i n, .i (l : Nat)] s = some (.bH [], t) ∧ MK s0 t mb rb g' ∧ Xe [.jmp n l] 1 0 (-1) g g' := by
 obtain ⟨t, e, H1⟩ := H.jump n l hl hb hb2 hm;exact ⟨t, _, e, H1, rfl, rfl, rfl, rfl, rfl, rfl, rfl, rfl⟩
theorem MK.bX (l : Nat) (hl : g.ls.length ≤ 100000) {m : Nat} (hm : 1 ≤ m) : ∃ t g', (K m).call 97 [.ptr mb 0, .i (l : Nat)] s = some (.bH [], t) ∧ MK s0 t mb rb g' ∧ Xe [.here l] 1 0 0 g g' := by
 obtain ⟨t, e, H1⟩ := H.here l hl hm;exact ⟨t, _, e, H1, rfl, rfl, pm, rfl, rfl, rfl, rfl, rfl⟩
theorem MK.depth' (d : Int) : ∃ t g', wH 1 (.ptr mb 6) (.i d) s = some (.bH [], t) ∧ MK s0 t mb rb g' ∧ g' = { g with depth := d } := by
 obtain ⟨t, e, H1, _⟩ := H.st (i := 6) (v := .i d) (g' := { g with depth := d }) (fun _ _ _ _ => rfl) po rfl rfl rfl rfl
 exact ⟨t, _, e, H1, rfl⟩
theorem MK.bC {o a b : Int} (ok : tC o a b) (hl : g.ls.length ≤ 100000) (hb : -1000000 ≤ g.left) (hb2 : g.left ≤ 1000000) {m : Nat} (hm : 1 ≤ m) : ∃ t g', (K m).call 52 [.ptr mb 0, .i o, .i a, .i b] s = some (.bH [], t) ∧ MK s0 t mb rb g' ∧ aW 1 g g' ∧ g'.left = g.left - 1 := by
 obtain ⟨t, e, H1, _⟩ := H.put o a b hl hb hb2 hm;exact ⟨t, _, e, H1, aW.put ok, rfl⟩
theorem MK.DG {a : Int} (h0 : 0 ≤ a) (h1 : a < 128) (hl : g.ls.length ≤ 100000) (hb : -1000000 ≤ g.left) (hb2 : g.left ≤ 1000000) {m : Nat} (hm : 1 ≤ m) : ∃ t g', (K m).call 52 [.ptr mb 0, .i 16, .i a, .i 0] s = some (.bH [], t) ∧ MK s0 t mb rb g' ∧ aW 1 g g' ∧ g'.left = g.left - 1 := by
 obtain ⟨t, e, H1, _⟩ := H.put 16 a 0 hl hb hb2 hm;exact ⟨t, _, e, H1, aW.DG h0 h1, rfl⟩
end
def eX : Nat → Nat | 0 => 1 | d + 1 => 2 * eX d + 2
theorem dZ : ∀ d, 1 ≤ eX d | 0 => Nat.le_refl _ | d + 1 => by show 1 ≤ 2 * eX d + 2; omega
theorem Jb : ∀ d, d ≤ 3 → eX d ≤ 22
 | 0, _ => by decide
 | 1, _ => by decide
 | 2, _ => by decide
 | 3, _ => by decide
 | d + 4, h => po
def QI (s0 : St) (mb rb d : Nat) : Prop := ∀ m, d + 6 ≤ m → ∀ s g, MK s0 s mb rb g → g.ls.length + 2 * eX d ≤ 50000 → -500000 + 2 * ((eX d : Nat) : Int) ≤ g.left → g.left ≤ 1000 → ∃ t g', (K m).call 55 [.ptr mb 0, .i (d : Nat)] s = some (.bH [], t) ∧ MK s0 t mb rb g' ∧ aW (eX d) g g'
def PO (s0 : St) (mb rb d : Nat) : Prop := ∀ m, d + 6 ≤ m → ∀ s g, MK s0 s mb rb g → g.ls.length + 2 * eX d ≤ 50000 → -500000 + 2 * ((eX d : Nat) : Int) ≤ g.left → g.left ≤ 1000 → ∃ t g', (K m).call 74 [.ptr mb 0, .i (d : Nat)] s = some (.bH [], t) ∧ MK s0 t mb rb g' ∧ aW (eX d) g g'
theorem n7 (id : Nat) : eS 11 1 [V.i 0, V.i 0, V.i 0, V.i 0, V.i 0, V.i 0, V.i 0, V.i 0, V.i 0, V.i 0, V.i 0] [(0, 1, V.i 96), (1, 1, V.i 100), (2, 1, V.i 104), (3, 1, V.i 108), (4, 1, V.i 112), (5, 1, V.i 120), (6, 1, V.i 122), (7, 1, V.i 124), (8, 1, V.i 126), (9, 1, V.i 128), (10, 1, V.i 130)] id = some (.slice id 0 11 (some 11) 1, .cells 11 (cK [V.i 96, V.i 100, V.i 104, V.i 108, V.i 112, V.i 120, V.i 122, V.i 124, V.i 126, V.i 128, V.i 130])) := (rfl)
theorem vm (id : Nat) : eS 4 1 [V.int .i32 0, V.int .i32 0, V.int .i32 0, V.int .i32 0] [(0, 1, V.int .i32 1073741824), (1, 1, V.int .i32 (-2147483648)), (2, 1, V.int .i32 2147483647), (3, 1, V.int .i32 77)] id = some (.slice id 0 4 (some 4) 1, .cells 4 (cK [V.int .i32 1073741824, V.int .i32 (-2147483648), V.int .i32 2147483647, V.int .i32 77])) := (rfl)
theorem uJ (id : Nat) : eS 3 1 [V.str [], V.str [], V.str []] [(0, 1, V.str [65]), (1, 1, V.str [66]), (2, 1, V.str [79, 98, 106, 101, 99, 116])] id = some (.slice id 0 3 (some 3) 1, .cells 3 (cK [V.str [65], V.str [66], V.str [79, 98, 106, 101, 99, 116]])) := (rfl)
theorem nQ (id : Nat) : eS 2 1 [V.str [], V.str []] [(0, 1, V.str [65]), (1, 1, V.str [66])] id = some (.slice id 0 2 (some 2) 1, .cells 2 (cK [V.str [65], V.str [66]])) := (rfl)
theorem uw {k n : Int} (h0 : 0 ≤ k) (hn : 0 < n) : 0 ≤ k.tmod n ∧ k.tmod n < n := ⟨Int.tmod_nonneg n h0, Int.tmod_lt_of_pos k hn⟩
theorem ur {s0 : St} {mb rb d : Nat} (hd : d ≤ 3) (ih : ∀ d', d = d' + 1 → QI s0 mb rb d' ∧ PO s0 mb rb d') : QI s0 mb rb d := by
 intro m0 hm0 s g H0 hl hb hb2;obtain ⟨m, rfl⟩ : ∃ m, m0 = m + 1 := ⟨m0 - 1, po⟩;have hcp := dZ d;have hcl := Jb d hd;obtain ⟨k0, t, ee, kk0, kk1, H, ff⟩ := H0.take (n := 12) po po (m := m) po;have sw : ∀ (e : E) (k : Int), 0 ≤ k → k < 12 → (d = 0 → k < 3) → e.a0.a0 = .ptr mb 0 → e.a0.a1 = .i (d : Nat) → e.a0.a4 = .i k → dg (aV (aL []) (eM (K m) e t)) fun x t' => x = .bH [] ∧ ∃ g', MK s0 t' mb rb g' ∧ aW (eX d) g g' := by
  intro e k hk0 hk1 hkd i0 i1 i4;have hk : k = 0 ∨ k = 1 ∨ k = 2 ∨ k = 3 ∨ k = 4 ∨ k = 5 ∨ k = 6 ∨ k = 7 ∨ k = 8 ∨ k = 9 ∨ k = 10 ∨ k = 11 := po;rcases hk with rfl | rfl | rfl | rfl | rfl | rfl | rfl | rfl | rfl | rfl | rfl | rfl
  · -- 0
    obtain ⟨k1, t1, e1, k1a, k1b, H1, f1⟩ := H.take (n := 6) po po (m := m) po;obtain ⟨t2, G2, e2, H2, E2, x2⟩ := H1.bC (o := 3 + k1) (a := 0) (b := 0) (ok_one (jC k1a k1b)) po po po (m := m) po;have C2 := (aW.refl g).trans E2 (Nat.le_refl _);have L2 := C2.len;simp -implicitDefEqProofs (disch := first|go_size|fail) only [go_sem, ↓eM.eq_1, ↓gN.eq_1, i0, i1, i4, H.fe, e1, e2]
    exact ⟨pt, _, H2, C2.trans (aW.refl _) po⟩
  · -- 1
    obtain ⟨k1, t1, e1, k1a, k1b, H1, f1⟩ := H.take (n := 4) po po (m := m) po;obtain ⟨t2, G2, e2, H2, E2, x2⟩ := H1.bC (o := 21) (a := k1) (b := 0) (ok_two (by decide) k1a po) po po po (m := m) po
    have C2 := (aW.refl g).trans E2 (Nat.le_refl _);have L2 := C2.len;simp -implicitDefEqProofs (disch := first|go_size|fail) only [go_sem, ↓eM.eq_1, ↓gN.eq_1, i0, i1, i4, H.fe, e1, e2]
    exact ⟨pt, _, H2, C2.trans (aW.refl _) po⟩
  · -- 2
    obtain ⟨k1, t1, e1, k1a, k1b, H1, f1⟩ := H.take (n := 2000) po po (m := m) po;obtain ⟨t2, G2, e2, H2, E2, x2⟩ := H1.bC (o := 17) (a := k1 - 1000) (b := 0) (Qq po po) po po po (m := m) po;have C2 := (aW.refl g).trans E2 (Nat.le_refl _);have L2 := C2.len;simp -implicitDefEqProofs (disch := first|go_size|fail) only [go_sem, ↓eM.eq_1, ↓gN.eq_1, i0, i1, i4, H.fe, e1, e2]
    exact ⟨pt, _, H2, C2.trans (aW.refl _) po⟩
  · -- 3
    obtain ⟨d', rfl⟩ : ∃ d', d = d' + 1 := ⟨d - 1, po⟩;obtain ⟨ihn, ihr⟩ := ih d' rfl;have hcd : eX (d' + 1) = 2 * eX d' + 2 := rfl;have em : ((d' + 1 : Nat) : Int) - 1 = (d' : Nat) := po;have hcp' := dZ d';obtain ⟨t1, G1, e1, H1, E1⟩ := ihn m po _ _ H po po po;have C1 := (aW.refl g).trans E1 (Nat.le_refl _);have L1 := C1.len;obtain ⟨t2, G2, e2, H2, E2⟩ := ihn m po _ _ H1 po po po;have C2 := C1.trans E2 (Nat.le_refl _);have L2 := C2.len;obtain ⟨t3, e3, H3, c3, f3⟩ := H2.new (l := [V.i 96, V.i 100, V.i 104, V.i 108, V.i 112, V.i 120, V.i 122, V.i 124, V.i 126, V.i 128, V.i 130]) (n := 11) rfl;obtain ⟨k4, t4, e4, k4a, k4b, H4, f4⟩ := H3.take (n := 11) po po (m := m) po;have r4 := f4.cl H3.wf c3 (by have := H2.fr.nx; have := H2.hrb; simp; omega)
    obtain ⟨o4, a4, b4⟩ : ∃ o : Int, [V.i 96, V.i 100, V.i 104, V.i 108, V.i 112, V.i 120, V.i 122, V.i 124, V.i 126, V.i 128, V.i 130][k4.toNat]? = some (V.i o) ∧ o ∈ vX := by
     have : k4 = 0 ∨ k4 = 1 ∨ k4 = 2 ∨ k4 = 3 ∨ k4 = 4 ∨ k4 = 5 ∨ k4 = 6 ∨ k4 = 7 ∨ k4 = 8 ∨ k4 = 9 ∨ k4 = 10 := po;rcases this with rfl | rfl | rfl | rfl | rfl | rfl | rfl | rfl | rfl | rfl | rfl <;> exact ⟨_, rfl, aZ.1 rfl⟩
    have d4 := aK H4.wf r4 a4;obtain ⟨t5, G5, e5, H5, E5, x5⟩ := H4.bC (o := o4) (a := 0) (b := 0) (ok_one b4) po po po (m := m) po;have C5 := C2.trans E5 (Nat.le_refl _);have L5 := C5.len;simp -implicitDefEqProofs (disch := first|go_size|fail) only [go_sem, ↓eM.eq_1, ↓gN.eq_1, i0, i1, i4, H3.fe, em, e1, e2, n7, e3, e4, d4, e5]
    exact ⟨pt, _, H5, C5.trans (aW.refl _) po⟩
  · -- 4
    obtain ⟨d', rfl⟩ : ∃ d', d = d' + 1 := ⟨d - 1, po⟩;obtain ⟨ihn, ihr⟩ := ih d' rfl;have hcd : eX (d' + 1) = 2 * eX d' + 2 := rfl;have em : ((d' + 1 : Nat) : Int) - 1 = (d' : Nat) := po;have hcp' := dZ d';obtain ⟨t1, G1, e1, H1, E1⟩ := ihn m po _ _ H po po po;have C1 := (aW.refl g).trans E1 (Nat.le_refl _);have L1 := C1.len;obtain ⟨t2, G2, e2, H2, E2⟩ := ihn m po _ _ H1 po po po;have C2 := C1.trans E2 (Nat.le_refl _);have L2 := C2.len;obtain ⟨t3, e3, H3, c3, f3⟩ := H2.new (l := [V.i 96, V.i 100, V.i 104, V.i 108, V.i 112, V.i 120, V.i 122, V.i 124, V.i 126, V.i 128, V.i 130]) (n := 11) rfl;obtain ⟨k4, t4, e4, k4a, k4b, H4, f4⟩ := H3.take (n := 11) po po (m := m) po;have r4 := f4.cl H3.wf c3 (by have := H2.fr.nx; have := H2.hrb; simp; omega)
    obtain ⟨o4, a4, b4⟩ : ∃ o : Int, [V.i 96, V.i 100, V.i 104, V.i 108, V.i 112, V.i 120, V.i 122, V.i 124, V.i 126, V.i 128, V.i 130][k4.toNat]? = some (V.i o) ∧ o ∈ vX := by
     have : k4 = 0 ∨ k4 = 1 ∨ k4 = 2 ∨ k4 = 3 ∨ k4 = 4 ∨ k4 = 5 ∨ k4 = 6 ∨ k4 = 7 ∨ k4 = 8 ∨ k4 = 9 ∨ k4 = 10 := po;rcases this with rfl | rfl | rfl | rfl | rfl | rfl | rfl | rfl | rfl | rfl | rfl <;> exact ⟨_, rfl, aZ.1 rfl⟩
    have d4 := aK H4.wf r4 a4;obtain ⟨t5, G5, e5, H5, E5, x5⟩ := H4.bC (o := o4) (a := 0) (b := 0) (ok_one b4) po po po (m := m) po;have C5 := C2.trans E5 (Nat.le_refl _);have L5 := C5.len;simp -implicitDefEqProofs (disch := first|go_size|fail) only [go_sem, ↓eM.eq_1, ↓gN.eq_1, i0, i1, i4, H3.fe, em, e1, e2, n7, e3, e4, d4, e5]
    exact ⟨pt, _, H5, C5.trans (aW.refl _) po⟩
  · -- 5
    obtain ⟨d', rfl⟩ : ∃ d', d = d' + 1 := ⟨d - 1, po⟩;obtain ⟨ihn, ihr⟩ := ih d' rfl;have hcd : eX (d' + 1) = 2 * eX d' + 2 := rfl;have em : ((d' + 1 : Nat) : Int) - 1 = (d' : Nat) := po;have hcp' := dZ d';obtain ⟨t1, G1, e1, H1, E1⟩ := ihn m po _ _ H po po po;have C1 := (aW.refl g).trans E1 (Nat.le_refl _);have L1 := C1.len;obtain ⟨t2, G2, e2, H2, E2, x2⟩ := H1.bC (o := 116) (a := 0) (b := 0) (ok_one (aZ.1 rfl)) po po po (m := m) po;have C2 := C1.trans E2 (Nat.le_refl _);have L2 := C2.len;simp -implicitDefEqProofs (disch := first|go_size|fail) only [go_sem, ↓eM.eq_1, ↓gN.eq_1, i0, i1, i4, em, e1, e2]
    exact ⟨pt, _, H2, C2.trans (aW.refl _) po⟩
  · -- 6
    obtain ⟨d', rfl⟩ : ∃ d', d = d' + 1 := ⟨d - 1, po⟩;obtain ⟨ihn, ihr⟩ := ih d' rfl;have hcd : eX (d' + 1) = 2 * eX d' + 2 := rfl;have em : ((d' + 1 : Nat) : Int) - 1 = (d' : Nat) := po;have hcp' := dZ d';obtain ⟨t1, e1, H1, c1, f1⟩ := H.new (l := [V.int .i32 1073741824, V.int .i32 (-2147483648), V.int .i32 2147483647, V.int .i32 77]) (n := 4) rfl;obtain ⟨k2, t2, e2, k2a, k2b, H2, f2⟩ := H1.take (n := 4) po po (m := m) po;have r2 := f2.cl H1.wf c1 (by have := H.fr.nx; have := H.hrb; simp; omega)
    obtain ⟨o2, a2, b2⟩ : ∃ o : Int, [V.int .i32 1073741824, V.int .i32 (-2147483648), V.int .i32 2147483647, V.int .i32 77][k2.toNat]? = some (V.int .i32 o) ∧ (⟨3, o, [], [], []⟩ : fc) ∈ lR := by
     have : k2 = 0 ∨ k2 = 1 ∨ k2 = 2 ∨ k2 = 3 := po;rcases this with rfl | rfl | rfl | rfl <;> exact ⟨_, rfl, bU.1 rfl⟩
    have d2 := aK H2.wf r2 a2;obtain ⟨n3, t3, e3, H3, n3a, n3b⟩ := H2.constant b2 (m := m) po;replace e3 : (K m).call 73 [.ptr mb 0, .agg [.i 3, .int .i32 o2, .str [], .str [], .str []]] _ = _ := e3;obtain ⟨t4, G4, e4, H4, E4, x4⟩ := H3.bC (o := 18) (a := n3) (b := 0) (ok_two (by decide) n3a n3b) po po po (m := m) po
    have C4 := (aW.refl g).trans E4 (Nat.le_refl _);have L4 := C4.len;simp -implicitDefEqProofs (disch := first|go_size|fail) only [go_sem, ↓eM.eq_1, ↓gN.eq_1, i0, i1, i4, H1.fe, em, vm, e1, e2, d2, e3, e4]
    exact ⟨pt, _, H4, C4.trans (aW.refl _) po⟩
  · -- 7
    obtain ⟨d', rfl⟩ : ∃ d', d = d' + 1 := ⟨d - 1, po⟩;obtain ⟨ihn, ihr⟩ := ih d' rfl;have hcd : eX (d' + 1) = 2 * eX d' + 2 := rfl;have em : ((d' + 1 : Nat) : Int) - 1 = (d' : Nat) := po;have hcp' := dZ d';obtain ⟨t1, G1, e1, H1, E1⟩ := ihr m po _ _ H po po po;have C1 := (aW.refl g).trans E1 (Nat.le_refl _);have L1 := C1.len;obtain ⟨n2, t2, e2, H2, n2a, n2b⟩ := H1.field (x := [65]) (y := [120]) (z := [73]) (bU.1 rfl) (m := m) po;obtain ⟨t3, G3, e3, H3, E3, x3⟩ := H2.bC (o := 180) (a := n2) (b := 0) (ok_three (by decide) n2a n2b) po po po (m := m) po
    have C3 := C1.trans E3 (Nat.le_refl _);have L3 := C3.len;simp -implicitDefEqProofs (disch := first|go_size|fail) only [go_sem, ↓eM.eq_1, ↓gN.eq_1, i0, i1, i4, em, e1, e2, e3]
    exact ⟨pt, _, H3, C3.trans (aW.refl _) po⟩
  · -- 8
    obtain ⟨d', rfl⟩ : ∃ d', d = d' + 1 := ⟨d - 1, po⟩;obtain ⟨ihn, ihr⟩ := ih d' rfl;have hcd : eX (d' + 1) = 2 * eX d' + 2 := rfl;have em : ((d' + 1 : Nat) : Int) - 1 = (d' : Nat) := po;have hcp' := dZ d';obtain ⟨t1, G1, e1, H1, E1, x1⟩ := H.bC (o := 25) (a := 6) (b := 0) (ok_two (by decide) po po) po po po (m := m) po
    have C1 := (aW.refl g).trans E1 (Nat.le_refl _);have L1 := C1.len;obtain ⟨t2, G2, e2, H2, E2⟩ := ihn m po _ _ H1 po po po;have C2 := C1.trans E2 (Nat.le_refl _);have L2 := C2.len;obtain ⟨t3, G3, e3, H3, E3, x3⟩ := H2.bC (o := 46) (a := 0) (b := 0) (ok_one (aZ.1 rfl)) po po po (m := m) po;have C3 := C2.trans E3 (Nat.le_refl _);have L3 := C3.len;simp -implicitDefEqProofs (disch := first|go_size|fail) only [go_sem, ↓eM.eq_1, ↓gN.eq_1, i0, i1, i4, em, e1, e2, e3]
    exact ⟨pt, _, H3, C3.trans (aW.refl _) po⟩
  · -- 9
    obtain ⟨d', rfl⟩ : ∃ d', d = d' + 1 := ⟨d - 1, po⟩;obtain ⟨ihn, ihr⟩ := ih d' rfl;have hcd : eX (d' + 1) = 2 * eX d' + 2 := rfl;have em : ((d' + 1 : Nat) : Int) - 1 = (d' : Nat) := po;have hcp' := dZ d';obtain ⟨t1, G1, e1, H1, E1⟩ := ihn m po _ _ H po po po;have C1 := (aW.refl g).trans E1 (Nat.le_refl _);have L1 := C1.len;obtain ⟨t2, G2, e2, H2, E2⟩ := ihn m po _ _ H1 po po po;have C2 := C1.trans E2 (Nat.le_refl _);have L2 := C2.len;obtain ⟨n3, t3, e3, H3, n3a, n3b⟩ := H2.method (x := [77, 97, 105, 110]) (y := [99, 97, 108, 99]) (z := [40, 73, 73, 41, 73]) (bU.1 rfl) (m := m) po;obtain ⟨t4, G4, e4, H4, E4, x4⟩ := H3.bC (o := 184) (a := n3) (b := 0) (ok_three (by decide) n3a n3b) po po po (m := m) po
    have C4 := C2.trans E4 (Nat.le_refl _);have L4 := C4.len;simp -implicitDefEqProofs (disch := first|go_size|fail) only [go_sem, ↓eM.eq_1, ↓gN.eq_1, i0, i1, i4, em, e1, e2, e3, e4]
    exact ⟨pt, _, H4, C4.trans (aW.refl _) po⟩
  · -- 10
    obtain ⟨d', rfl⟩ : ∃ d', d = d' + 1 := ⟨d - 1, po⟩;obtain ⟨ihn, ihr⟩ := ih d' rfl;have hcd : eX (d' + 1) = 2 * eX d' + 2 := rfl;have em : ((d' + 1 : Nat) : Int) - 1 = (d' : Nat) := po;have hcp' := dZ d';obtain ⟨t1, G1, e1, H1, E1⟩ := ihr m po _ _ H po po po;have C1 := (aW.refl g).trans E1 (Nat.le_refl _);have L1 := C1.len;obtain ⟨t2, G2, e2, H2, E2⟩ := ihn m po _ _ H1 po po po;have C2 := C1.trans E2 (Nat.le_refl _);have L2 := C2.len;obtain ⟨n3, t3, e3, H3, n3a, n3b⟩ := H2.method (x := [65]) (y := [103, 111]) (z := [40, 73, 41, 73]) (bU.1 rfl) (m := m) po;obtain ⟨t4, G4, e4, H4, E4, x4⟩ := H3.bC (o := 182) (a := n3) (b := 0) (ok_three (by decide) n3a n3b) po po po (m := m) po
    have C4 := C2.trans E4 (Nat.le_refl _);have L4 := C4.len;simp -implicitDefEqProofs (disch := first|go_size|fail) only [go_sem, ↓eM.eq_1, ↓gN.eq_1, i0, i1, i4, em, e1, e2, e3, e4]
    exact ⟨pt, _, H4, C4.trans (aW.refl _) po⟩
  · -- 11
    obtain ⟨d', rfl⟩ : ∃ d', d = d' + 1 := ⟨d - 1, po⟩;obtain ⟨ihn, ihr⟩ := ih d' rfl;have hcd : eX (d' + 1) = 2 * eX d' + 2 := rfl;have em : ((d' + 1 : Nat) : Int) - 1 = (d' : Nat) := po;have hcp' := dZ d';obtain ⟨t1, G1, e1, H1, E1⟩ := ihr m po _ _ H po po po;have C1 := (aW.refl g).trans E1 (Nat.le_refl _);have L1 := C1.len;obtain ⟨t2, e2, H2, c2, f2⟩ := H1.new (l := [V.str [65], V.str [66], V.str [79, 98, 106, 101, 99, 116]]) (n := 3) rfl;obtain ⟨k3, t3, e3, k3a, k3b, H3, f3⟩ := H2.take (n := 3) po po (m := m) po;have r3 := f3.cl H2.wf c2 (by have := H1.fr.nx; have := H1.hrb; simp; omega)
    obtain ⟨o3, a3, b3⟩ : ∃ o : List Nat, [V.str [65], V.str [66], V.str [79, 98, 106, 101, 99, 116]][k3.toNat]? = some (V.str o) ∧ (⟨7, 0, o, [], []⟩ : fc) ∈ lR := by
     have : k3 = 0 ∨ k3 = 1 ∨ k3 = 2 := po;rcases this with rfl | rfl | rfl <;> exact ⟨_, rfl, bU.1 rfl⟩
    have d3 := aK H3.wf r3 a3;obtain ⟨n4, t4, e4, H4, n4a, n4b⟩ := H3.class (x := o3) b3 (m := m) po;obtain ⟨t5, G5, e5, H5, E5, x5⟩ := H4.bC (o := 193) (a := n4) (b := 0) (ok_three (by decide) n4a n4b) po po po (m := m) po
    have C5 := C1.trans E5 (Nat.le_refl _);have L5 := C5.len;simp -implicitDefEqProofs (disch := first|go_size|fail) only [go_sem, ↓eM.eq_1, ↓gN.eq_1, i0, i1, i4, H2.fe, em, e1, uJ, e2, e3, d3, e4, e5]
    exact ⟨pt, _, H5, C5.trans (aW.refl _) po⟩
 suffices key : dg ((K (m + 1)).call 55 [.ptr mb 0, .i (d : Nat)] s) fun x t' => x = .bH [] ∧ ∃ g', MK s0 t' mb rb g' ∧ aW (eX d) g g' by
  obtain ⟨x, t', e1, rfl, g', h1, h2⟩ := key;exact ⟨t', g', e1, h1, h2⟩
 rw [afQ];have hmod := uw (n := 3) kk0 po;have fin : ∀ (e : E) (k : Int), 0 ≤ k → k < 12 → (d = 0 → k < 3) → e.a0.a0 = .ptr mb 0 → e.a0.a1 = .i (d : Nat) → e.a0.a4 = .i k → dg (aV (aL []) (gN (K m) e t)) fun x t' => x = .bH [] ∧ ∃ g', MK s0 t' mb rb g' ∧ aW (eX d) g g' := by
  intro e k hk0 hk1 hkd i0 i1 i4;have hmod7 := uw (n := 7) hk0 po;cases hp : g.plain with
  | false =>
    have l4 := H.ld4;rw [hp] at l4;simp -implicitDefEqProofs (disch := first|go_size|fail) only [go_sem, ↓gN.eq_1, i0, i1, i4, l4]
    exact sw _ _ hk0 hk1 hkd pt pt pt
  | true =>
    have l4 := H.ld4;rw [hp] at l4;by_cases c6 : 6 < k
    · simp -implicitDefEqProofs (disch := first|go_size|fail) only [go_sem, ↓gN.eq_1, i0, i1, i4, l4, c6]
      exact sw _ _ hmod7.1 po (fun h => by have := hkd h; omega) pt pt pt
    · simp -implicitDefEqProofs (disch := first|go_size|fail) only [go_sem, ↓gN.eq_1, i0, i1, i4, l4, c6]
      exact sw _ _ hk0 hk1 hkd pt pt pt
 by_cases cd : ((d : Nat) : Int) ≤ 0
 · simp -implicitDefEqProofs (disch := first|go_size|fail) only [go_sem, ↓eM.eq_1, H0.fe, ee, cd]
   exact fin _ _ hmod.1 po (fun _ => hmod.2) pt pt pt
 · by_cases cl : g.left < 20
   · simp -implicitDefEqProofs (disch := first|go_size|fail) only [go_sem, ↓eM.eq_1, H0.fe, ee, cd, H.RO, cl]
     exact fin _ _ hmod.1 po (fun _ => hmod.2) pt pt pt
   · simp -implicitDefEqProofs (disch := first|go_size|fail) only [go_sem, ↓eM.eq_1, H0.fe, ee, cd, H.RO, cl]
     exact fin _ _ kk0 kk1 (fun h => absurd h po) pt pt pt
theorem tY {s0 : St} {mb rb d : Nat} (hd : d ≤ 3) (ih : ∀ d', d = d' + 1 → QI s0 mb rb d' ∧ PO s0 mb rb d') : PO s0 mb rb d := by
 intro m0 hm0 s g H0 hl hb hb2;obtain ⟨m, rfl⟩ : ∃ m, m0 = m + 1 := ⟨m0 - 1, po⟩;have hcp := dZ d;have hcl := Jb d hd;obtain ⟨k0, t, ee, kk0, kk1, H, ff⟩ := H0.take (n := 8) po po (m := m) po;have sw : ∀ (e : E) (k : Int), 0 ≤ k → k < 8 → (d = 0 → k < 4) → e.a0.a0 = .ptr mb 0 → e.a0.a1 = .i (d : Nat) → e.a0.a4 = .i k → dg (aV (aL []) (lg (K m) e t)) fun x t' => x = .bH [] ∧ ∃ g', MK s0 t' mb rb g' ∧ aW (eX d) g g' := by
  intro e k hk0 hk1 hkd i0 i1 i4;have hk : k = 0 ∨ k = 1 ∨ k = 2 ∨ k = 3 ∨ k = 4 ∨ k = 5 ∨ k = 6 ∨ k = 7 := po;rcases hk with rfl | rfl | rfl | rfl | rfl | rfl | rfl | rfl
  · -- 0
    obtain ⟨k1, t1, e1, k1a, k1b, H1, f1⟩ := H.take (n := 2) po po (m := m) po;obtain ⟨t2, G2, e2, H2, E2, x2⟩ := H1.bC (o := 25) (a := 4 + k1) (b := 0) (ok_two (by decide) po po) po po po (m := m) po
    have C2 := (aW.refl g).trans E2 (Nat.le_refl _);have L2 := C2.len;simp -implicitDefEqProofs (disch := first|go_size|fail) only [go_sem, ↓lg.eq_1, i0, i1, i4, H.fe, e1, e2]
    exact ⟨pt, _, H2, C2.trans (aW.refl _) po⟩
  · -- 1
    obtain ⟨k1, t1, e1, k1a, k1b, H1, f1⟩ := H.take (n := 2) po po (m := m) po;obtain ⟨t2, G2, e2, H2, E2, x2⟩ := H1.bC (o := 25) (a := 4 + k1) (b := 0) (ok_two (by decide) po po) po po po (m := m) po
    have C2 := (aW.refl g).trans E2 (Nat.le_refl _);have L2 := C2.len;simp -implicitDefEqProofs (disch := first|go_size|fail) only [go_sem, ↓lg.eq_1, i0, i1, i4, H.fe, e1, e2]
    exact ⟨pt, _, H2, C2.trans (aW.refl _) po⟩
  · -- 2
    obtain ⟨n1, t1, e1, H1, n1a, n1b⟩ := H.class (x := [65]) (bU.1 rfl) (m := m) po;obtain ⟨t2, G2, e2, H2, E2, x2⟩ := H1.bC (o := 187) (a := n1) (b := 0) (ok_three (by decide) n1a n1b) po po po (m := m) po
    have C2 := (aW.refl g).trans E2 (Nat.le_refl _);have L2 := C2.len;simp -implicitDefEqProofs (disch := first|go_size|fail) only [go_sem, ↓lg.eq_1, i0, i1, i4, e1, e2]
    exact ⟨pt, _, H2, C2.trans (aW.refl _) po⟩
  · -- 3
    obtain ⟨n1, t1, e1, H1, n1a, n1b⟩ := H.class (x := [66]) (bU.1 rfl) (m := m) po;obtain ⟨t2, G2, e2, H2, E2, x2⟩ := H1.bC (o := 187) (a := n1) (b := 0) (ok_three (by decide) n1a n1b) po po po (m := m) po
    have C2 := (aW.refl g).trans E2 (Nat.le_refl _);have L2 := C2.len;simp -implicitDefEqProofs (disch := first|go_size|fail) only [go_sem, ↓lg.eq_1, i0, i1, i4, e1, e2]
    exact ⟨pt, _, H2, C2.trans (aW.refl _) po⟩
  · -- 4
    obtain ⟨d', rfl⟩ : ∃ d', d = d' + 1 := ⟨d - 1, po⟩;obtain ⟨ihn, ihr⟩ := ih d' rfl;have hcd : eX (d' + 1) = 2 * eX d' + 2 := rfl;have em : ((d' + 1 : Nat) : Int) - 1 = (d' : Nat) := po;have hcp' := dZ d';obtain ⟨t1, G1, e1, H1, E1⟩ := ihr m po _ _ H po po po;have C1 := (aW.refl g).trans E1 (Nat.le_refl _);have L1 := C1.len;obtain ⟨n2, t2, e2, H2, n2a, n2b⟩ := H1.field (x := [65]) (y := [110, 101, 120, 116]) (z := [76, 65, 59]) (bU.1 rfl) (m := m) po;obtain ⟨t3, G3, e3, H3, E3, x3⟩ := H2.bC (o := 180) (a := n2) (b := 0) (ok_three (by decide) n2a n2b) po po po (m := m) po
    have C3 := C1.trans E3 (Nat.le_refl _);have L3 := C3.len;simp -implicitDefEqProofs (disch := first|go_size|fail) only [go_sem, ↓lg.eq_1, i0, i1, i4, em, e1, e2, e3]
    exact ⟨pt, _, H3, C3.trans (aW.refl _) po⟩
  · -- 5
    obtain ⟨d', rfl⟩ : ∃ d', d = d' + 1 := ⟨d - 1, po⟩;obtain ⟨ihn, ihr⟩ := ih d' rfl;have hcd : eX (d' + 1) = 2 * eX d' + 2 := rfl;have em : ((d' + 1 : Nat) : Int) - 1 = (d' : Nat) := po;have hcp' := dZ d';obtain ⟨n1, t1, e1, H1, n1a, n1b⟩ := H.field (x := [65]) (y := [114]) (z := [76, 65, 59]) (bU.1 rfl) (m := m) po;obtain ⟨t2, G2, e2, H2, E2, x2⟩ := H1.bC (o := 178) (a := n1) (b := 0) (ok_three (by decide) n1a n1b) po po po (m := m) po
    have C2 := (aW.refl g).trans E2 (Nat.le_refl _);have L2 := C2.len;simp -implicitDefEqProofs (disch := first|go_size|fail) only [go_sem, ↓lg.eq_1, i0, i1, i4, em, e1, e2]
    exact ⟨pt, _, H2, C2.trans (aW.refl _) po⟩
  · -- 6
    obtain ⟨d', rfl⟩ : ∃ d', d = d' + 1 := ⟨d - 1, po⟩;obtain ⟨ihn, ihr⟩ := ih d' rfl;have hcd : eX (d' + 1) = 2 * eX d' + 2 := rfl;have em : ((d' + 1 : Nat) : Int) - 1 = (d' : Nat) := po;have hcp' := dZ d';obtain ⟨t1, G1, e1, H1, E1, x1⟩ := H.bC (o := 25) (a := 9) (b := 0) (ok_two (by decide) po po) po po po (m := m) po
    have C1 := (aW.refl g).trans E1 (Nat.le_refl _);have L1 := C1.len;obtain ⟨t2, G2, e2, H2, E2⟩ := ihn m po _ _ H1 po po po;have C2 := C1.trans E2 (Nat.le_refl _);have L2 := C2.len;obtain ⟨t3, G3, e3, H3, E3, x3⟩ := H2.bC (o := 50) (a := 0) (b := 0) (ok_one (aZ.1 rfl)) po po po (m := m) po;have C3 := C2.trans E3 (Nat.le_refl _);have L3 := C3.len;simp -implicitDefEqProofs (disch := first|go_size|fail) only [go_sem, ↓lg.eq_1, i0, i1, i4, em, e1, e2, e3]
    exact ⟨pt, _, H3, C3.trans (aW.refl _) po⟩
  · -- 7
    obtain ⟨d', rfl⟩ : ∃ d', d = d' + 1 := ⟨d - 1, po⟩;obtain ⟨ihn, ihr⟩ := ih d' rfl;have hcd : eX (d' + 1) = 2 * eX d' + 2 := rfl;have em : ((d' + 1 : Nat) : Int) - 1 = (d' : Nat) := po;have hcp' := dZ d';obtain ⟨t1, G1, e1, H1, E1⟩ := ihr m po _ _ H po po po;have C1 := (aW.refl g).trans E1 (Nat.le_refl _);have L1 := C1.len;obtain ⟨t2, e2, H2, c2, f2⟩ := H1.new (l := [V.str [65], V.str [66]]) (n := 2) rfl;obtain ⟨k3, t3, e3, k3a, k3b, H3, f3⟩ := H2.take (n := 2) po po (m := m) po;have r3 := f3.cl H2.wf c2 (by have := H1.fr.nx; have := H1.hrb; simp; omega)
    obtain ⟨o3, a3, b3⟩ : ∃ o : List Nat, [V.str [65], V.str [66]][k3.toNat]? = some (V.str o) ∧ (⟨7, 0, o, [], []⟩ : fc) ∈ lR := by
     have : k3 = 0 ∨ k3 = 1 := po;rcases this with rfl | rfl <;> exact ⟨_, rfl, bU.1 rfl⟩
    have d3 := aK H3.wf r3 a3;obtain ⟨n4, t4, e4, H4, n4a, n4b⟩ := H3.class (x := o3) b3 (m := m) po;obtain ⟨t5, G5, e5, H5, E5, x5⟩ := H4.bC (o := 192) (a := n4) (b := 0) (ok_three (by decide) n4a n4b) po po po (m := m) po
    have C5 := C1.trans E5 (Nat.le_refl _);have L5 := C5.len;simp -implicitDefEqProofs (disch := first|go_size|fail) only [go_sem, ↓lg.eq_1, i0, i1, i4, H2.fe, em, e1, nQ, e2, e3, d3, e4, e5]
    exact ⟨pt, _, H5, C5.trans (aW.refl _) po⟩
 suffices key : dg ((K (m + 1)).call 74 [.ptr mb 0, .i (d : Nat)] s) fun x t' => x = .bH [] ∧ ∃ g', MK s0 t' mb rb g' ∧ aW (eX d) g g' by
  obtain ⟨x, t', e1, rfl, g', h1, h2⟩ := key;exact ⟨t', g', e1, h1, h2⟩
 rw [agT];have hmod := uw (n := 4) kk0 po;by_cases cd : ((d : Nat) : Int) ≤ 0
 · simp -implicitDefEqProofs (disch := first|go_size|fail) only [go_sem, H0.fe, ee, cd]
   exact sw _ _ hmod.1 po (fun _ => hmod.2) pt pt pt
 · by_cases cl : g.left < 20
   · simp -implicitDefEqProofs (disch := first|go_size|fail) only [go_sem, H0.fe, ee, cd, H.RO, cl]
     exact sw _ _ hmod.1 po (fun _ => hmod.2) pt pt pt
   · simp -implicitDefEqProofs (disch := first|go_size|fail) only [go_sem, H0.fe, ee, cd, H.RO, cl]
     exact sw _ _ kk0 kk1 (fun h => absurd h po) pt pt pt
theorem bV {s0 : St} {mb rb : Nat} : ∀ d, d ≤ 3 → QI s0 mb rb d ∧ PO s0 mb rb d
 | 0, h => ⟨ur h (fun d' e => by omega), tY h (fun d' e => by omega)⟩
 | d + 1, h => ⟨ur h (fun d' e => by cases e; exact bV d po), tY h (fun d' e => by cases e; exact bV d po)⟩
theorem vu (id : Nat) : eS 2 1 [V.i 0, V.i 0] [(0, 1, V.i 198), (1, 1, V.i 199)] id = some (.slice id 0 2 (some 2) 1, .cells 2 (cK [V.i 198, V.i 199])) := (rfl)
theorem ug (id : Nat) : eS 2 1 [V.i 0, V.i 0] [(0, 1, V.i 165), (1, 1, V.i 166)] id = some (.slice id 0 2 (some 2) 1, .cells 2 (cK [V.i 165, V.i 166])) := (rfl)
theorem tX (id : Nat) : eS 3 1 [V.str [], V.str [], V.str []] [(0, 1, V.str [110, 111, 116, 105, 102, 121]), (1, 1, V.str [110, 111, 116, 105, 102, 121, 65, 108, 108]), (2, 1, V.str [119, 97, 105, 116])] id = some (.slice id 0 3 (some 3) 1, .cells 3 (cK [V.str [110, 111, 116, 105, 102, 121], V.str [110, 111, 116, 105, 102, 121, 65, 108, 108], V.str [119, 97, 105, 116]])) := (rfl)
abbrev AI (x y : G) (b o : Int) (m h t : Nat) : Prop := (y.ls.length : Int) + o + y.left ≤ 110 + y.aj ∧ y.aj ≤ 54 ∧ b ≤ y.left ∧ y.left ≤ x.left ∧ x.aj + m ≤ y.aj ∧ y.hs.length + x.aj + m ≤ x.hs.length + y.aj + h ∧ y.th.length + x.aj + m ≤ x.th.length + y.aj + t ∧ y.depth = x.depth
def Ok (g : G) : Prop := (g.ls.length : Int) + g.left ≤ 110 + g.aj ∧ g.aj ≤ 54 ∧ -60 ≤ g.left ∧ g.left ≤ 110 ∧ g.hs.length ≤ g.aj ∧ g.th.length ≤ g.aj
structure Rs (g g' : G) : Prop where
 fo : Fo [] g g'
 depth : g'.depth = g.depth
 plain : g'.plain = g.plain
 l54 : g'.aj ≤ 54
 hi : g'.left ≤ g.left
theorem Rs.aU {g g' : G} (h : Rs g g') : g'.depth = g.depth ∧ g'.aj ≤ 54 ∧ g'.left ≤ g.left ∧ g.aj ≤ g'.aj ∧ g'.hs.length + g.aj ≤ g.hs.length + g'.aj ∧ g'.th.length + g.aj ≤ g.th.length + g'.aj := ⟨h.depth, h.l54, h.hi, h.fo.jL, h.fo.hc, h.fo.tc⟩
structure zQ (b : Int) (g g' : G) : Prop extends Rs g g' where
 lo : b ≤ g'.left ∨ g'.left = g.left
theorem zQ.aU {b : Int} {g g' : G} (h : zQ b g g') : (b ≤ g'.left ∨ g'.left = g.left) ∧ g'.depth = g.depth ∧ g'.aj ≤ 54 ∧ g'.left ≤ g.left ∧ g.aj ≤ g'.aj ∧ g'.hs.length + g.aj ≤ g.hs.length + g'.aj ∧ g'.th.length + g.aj ≤ g.th.length + g'.aj := ⟨h.lo, h.toRs.aU⟩
structure QG (b : Int) (g g' : G) : Prop extends Rs g g' where
 lo : b ≤ g'.left
def p_ (s0 : St) (mb rb r : Nat) : Prop := ∀ m, 13 + 4 * r ≤ m → ∀ s g (n : Int), MK s0 s mb rb g → Ok g → g.depth = 4 - (r : Nat) → 0 < n → n ≤ 6 → ∃ t g', (K m).call 54 [.ptr mb 0, .i n] s = some (.bH [], t) ∧ MK s0 t mb rb g' ∧ zQ (3 - 6 * (r : Nat)) g g'
def ac_ (s0 : St) (mb rb f : Nat) : Prop := ∀ m, 11 ≤ m → ∀ s g, MK s0 s mb rb g → Ok g → 25 < g.left → ∃ t g', (K m).call f [.ptr mb 0] s = some (.bH [], t) ∧ MK s0 t mb rb g' ∧ aW 22 g g'
def yw (s0 : St) (mb rb r f : Nat) : Prop := ∀ m, 14 + 4 * r ≤ m → ∀ s g, MK s0 s mb rb g → Ok g → g.depth = 4 - (r : Nat) → g.aj ≤ 50 → 25 < g.left → ∃ t g', (K m).call f [.ptr mb 0] s = some (.bH [], t) ∧ MK s0 t mb rb g' ∧ QG (3 - 6 * (r : Nat) - 6) g g'
theorem vC (a b c : Nat) : cN [V.i 0, .i 0, .i 0] [(0, 1, .i (a : Nat)), (1, 1, .i (b : Nat)), (2, 1, .i (c : Nat))] = some [.i (a : Nat), .i (b : Nat), .i (c : Nat)] := (rfl)
section
variable {s0 s : St} {mb rb : Nat} {g : G} (H : MK s0 s mb rb g)
include H
theorem MK.vL (n : Nat) (hl : g.th.length ≤ 100000) : ∃ tv s1 v' s2 s3, cP (.ptr mb 8) s = some tv ∧ s.new (.cells 1 (cK [V.i (n : Nat)])) = s1 ∧ xM 1 tv (.slice s.next 0 1 (some 1) 1) s1 = some (v', s2) ∧ wH 1 (.ptr mb 8) v' s2 = some (.bH [], s3) ∧ MK s0 s3 mb rb { g with th := g.th ++ [n] } := by
 obtain ⟨pv, lv, hv, tv, pool, h1, h2, h3, h4, h5, h6, d1, d2, d3, d4⟩ := H.ex;have hw := H.wf;have hrb := H.hrb;have hmb := H.hmb;have hx := H.fr.nx;obtain ⟨s1, s2, e1, e2, gl2, f2, n2⟩ := h6.push hw (x := .i (n : Nat)) rfl (by intro y hy; obtain ⟨z, _, rfl⟩ := List.mem_map.1 hy; rfl) (by simp; omega)
 have h1' := f2.cl hw h1 (fun hm => (d3 mb hm).2.1 rfl)
 obtain ⟨s3, p3, c3, f3, n3⟩ := cC (s := s2) (b := mb) (o := 8) (v := .slice (s.next + 1) 0 ((g.th.map fun n => V.i (n : Nat)).length + 1) none 1) f2.wf h1' (by simp [oF]) rfl
 have l4 := h4.lt hw;have l5 := h5.lt hw;have a2 := h2.fr hw f2 (fun b hb hm => (d3 b hm).2.2 hb)
 have a4 := h4.fr hw f2 (fun b hb hm => (d1 b hb).2.2.2.1 hm)
 have a5 := h5.fr hw f2 (fun b hb hm => (d2 b hb).2.2.1 hm)
 have r2 := H.rc.fr hw hrb f2 (fun b hb => (d3 b hb).1)
 have hms := bQ hw h1;refine ⟨tv, s1, _, s2, s3, by rw [cS hw h1 (by simp [oF])]; rfl, e1, e2, p3, ⟨(H.fr.trans' f2 (fun b hb => .inr (d3 b hb).1)).trans' f3 (fun b hb => .inr (by simp at hb; omega)), r2.fr f2.wf hrb f3 (fun b hb => by simp at hb; omega), hrb, hmb, pv, lv, hv, _, pool, by rw [c3]; rfl, a2.fr f2.wf f3 (fun b hb => by simpa using (d4 b hb).1), h3, a4.fr f2.wf f3 (fun b hb => by simpa using (d1 b hb).2.1), a5.fr f2.wf f3 (fun b hb => by simpa using (d2 b hb).2.1), ?_, fun b hb => ⟨(d1 b hb).1, (d1 b hb).2.1, (d1 b hb).2.2.1, fun h => ?_, (d1 b hb).2.2.2.2⟩, fun b hb => ⟨(d2 b hb).1, (d2 b hb).2.1, fun h => ?_, (d2 b hb).2.2.2⟩, fun b hb => ?_, fun b hb => ⟨(d4 b hb).1, (d4 b hb).2.1, by have := (d4 b hb).2.2; have := f2.nx; omega⟩⟩⟩
 · have := gl2.fr f2.wf f3 (fun b hbb => by simp [aB] at hbb; simp; omega)
   simpa using this
 · have := l4 b hb; simp [aB] at h; omega
 · have := l5 b hb; simp [aB] at h; omega
 · simp [aB] at hb; subst hb;exact ⟨po, po, fun h => by have := (d4 _ h).2.2; omega⟩
theorem MK.handler (x : Nat × Nat × Nat) (hl : g.hs.length ≤ 100000) : ∃ lv s1 v' s2 s3, cP (.ptr mb 7) s = some lv ∧ s.new (.cells 3 (cK (hC x))) = s1 ∧ vF 3 lv (.slice s.next 0 1 (some 1) 3) s1 = some (v', s2) ∧ wH 1 (.ptr mb 7) v' s2 = some (.bH [], s3) ∧ MK s0 s3 mb rb { g with hs := g.hs ++ [x] } := by
 obtain ⟨pv, lv, hv, tv, pool, h1, h2, h3, h4, h5, h6, d1, d2, d3, d4⟩ := H.ex;have hw := H.wf;have hrb := H.hrb;have hmb := H.hmb;have hx := H.fr.nx;obtain ⟨s1, v', s2, e1, e2, gn2, f2, hb⟩ := h5.push hw (aaz x) (by simp; omega)
 have h1' := f2.cl hw h1 (fun hm => (d2 mb hm).2.1 rfl)
 have hv1 : v'.one = true := by rcases gn2.2 with ⟨_, rfl | ⟨b, rfl, _⟩⟩ | ⟨b, rfl, _⟩ <;> rfl
 obtain ⟨s3, p3, c3, f3, n3⟩ := cC (s := s2) (b := mb) (o := 7) (v := v') f2.wf h1' (by simp [oF]) hv1
 have l4 := h4.lt hw;have l6 := h6.lt hw;have a2 := h2.fr hw f2 (fun b hb hm => (d2 b hm).2.2.2 hb)
 have a4 := h4.fr hw f2 (fun b hb hm => (d1 b hb).2.2.1 hm)
 have a6 := h6.fr hw f2 (fun b hb hm => (d2 b hm).2.2.1 hb)
 have r2 := H.rc.fr hw hrb f2 (fun b hb => (d2 b hb).1)
 have hms := bQ hw h1;refine ⟨hv, s1, v', s2, s3, by rw [cS hw h1 (by simp [oF])]; rfl, e1, e2, p3, ⟨(H.fr.trans' f2 (fun b hb => .inr (d2 b hb).1)).trans' f3 (fun b hb => .inr (by simp at hb; omega)), r2.fr f2.wf hrb f3 (fun b hb => by simp at hb; omega), hrb, hmb, pv, lv, v', tv, pool, by rw [c3]; rfl, a2.fr f2.wf f3 (fun b hb => by simpa using (d4 b hb).1), h3, a4.fr f2.wf f3 (fun b hb => by simpa using (d1 b hb).2.1), ?_, a6.fr f2.wf f3 (fun b hb => by simpa using (d3 b hb).2.1), fun b hb' => ⟨(d1 b hb').1, (d1 b hb').2.1, fun h => ?_, (d1 b hb').2.2.2⟩, fun b hbb => ?_, d3, fun b hb => ⟨(d4 b hb).1, (d4 b hb).2.1, by have := (d4 b hb).2.2; have := f2.nx; omega⟩⟩⟩
 · have := gn2.fr f2.wf f3 (fun b hbb => by have := hb b hbb; simp; omega)
   simpa using this
 · have := l4 b hb'; have := hb b h; omega
 · have := hb b hbb;exact ⟨po, po, fun h => by have := l6 b h; omega, fun h => by have := (d4 b h).2.2; omega⟩
end
set_option maxHeartbeats 4000000 in
theorem yH {s0 : St} {mb rb : Nat} : ac_ s0 mb rb 88 := by
 intro m0 hm0 s g H hok hlf;obtain ⟨m, rfl⟩ : ∃ m, m0 = m + 1 := ⟨m0 - 1, po⟩;obtain ⟨k1', k2', k3', k4', k5', k6'⟩ := hok;have hc1 : eX 1 = 4 := rfl;have hc2 : eX 2 = 10 := rfl;have hc3 : eX 3 = 22 := rfl;rw [agZ];obtain ⟨k1, t1, e1, k1a, k1b, H1, f1⟩ := H.take (n := 4) po po (m := m) po;have hk : k1 = 0 ∨ k1 = 1 ∨ k1 = 2 ∨ k1 = 3 := po;rcases hk with rfl | rfl | rfl | rfl
 · -- 0
   obtain ⟨t2, G2, e2, H2, E2⟩ := (bV 1 po).1 m po _ _ H1 po po po;replace e2 : (K m).call 55 [.ptr mb 0, .i 1] _ = _ := e2;have C2 := (aW.refl g).trans E2 (Nat.le_refl _);have L2 := C2.len;obtain ⟨t3, G3, e3, H3, E3, x3⟩ := H2.bC (o := 188) (a := 10) (b := 0) (ok_two (by decide) po po) po po po (m := m) po
   have C3 := C2.trans E3 (Nat.le_refl _);have L3 := C3.len;obtain ⟨t4, G4, e4, H4, E4, x4⟩ := H3.bC (o := 58) (a := 6) (b := 0) (ok_two (by decide) po po) po po po (m := m) po
   have C4 := C3.trans E4 (Nat.le_refl _);have L4 := C4.len;simp -implicitDefEqProofs (disch := first|go_size|fail) only [go_sem, H.fe, e1, e2, e3, e4]
   exact ⟨_, _, rfl, H4, C4.trans (aW.refl _) po⟩
 · -- 1
   obtain ⟨k2, t2, e2, k2a, k2b, H2, f2⟩ := H1.take (n := 9) po po (m := m) po;obtain ⟨t3, G3, e3, H3, E3, x3⟩ := H2.DG (a := k2) k2a po po po po (m := m) po;have C3 := (aW.refl g).trans E3 (Nat.le_refl _);have L3 := C3.len;obtain ⟨t4, e4, H4, c4, f4⟩ := H3.new (l := [V.str [65], V.str [66]]) (n := 2) rfl;obtain ⟨k5, t5, e5, k5a, k5b, H5, f5⟩ := H4.take (n := 2) po po (m := m) po;have r5 := f5.cl H4.wf c4 (by have := H3.fr.nx; have := H3.hrb; simp; omega)
   obtain ⟨o5, a5, b5⟩ : ∃ o : List Nat, [V.str [65], V.str [66]][k5.toNat]? = some (V.str o) ∧ (⟨7, 0, o, [], []⟩ : fc) ∈ lR := by
    have : k5 = 0 ∨ k5 = 1 := po;rcases this with rfl | rfl <;> exact ⟨_, rfl, bU.1 rfl⟩
   have d5 := aK H5.wf r5 a5;obtain ⟨n6, t6, e6, H6, n6a, n6b⟩ := H5.class (x := o5) b5 (m := m) po;obtain ⟨t7, G7, e7, H7, E7, x7⟩ := H6.bC (o := 189) (a := n6) (b := 0) (ok_three (by decide) n6a n6b) po po po (m := m) po
   have C7 := C3.trans E7 (Nat.le_refl _);have L7 := C7.len;obtain ⟨t8, G8, e8, H8, E8, x8⟩ := H7.bC (o := 58) (a := 9) (b := 0) (ok_two (by decide) po po) po po po (m := m) po
   have C8 := C7.trans E8 (Nat.le_refl _);have L8 := C8.len;simp -implicitDefEqProofs (disch := first|go_size|fail) only [go_sem, H.fe, H1.fe, H4.fe, e1, e2, e3, nQ, e4, e5, d5, e6, e7, e8]
   exact ⟨_, _, rfl, H8, C8.trans (aW.refl _) po⟩
 · -- 2
   obtain ⟨t2, G2, e2, H2, E2, x2⟩ := H1.bC (o := 25) (a := 6) (b := 0) (ok_two (by decide) po po) po po po (m := m) po
   have C2 := (aW.refl g).trans E2 (Nat.le_refl _);have L2 := C2.len;obtain ⟨t3, G3, e3, H3, E3⟩ := (bV 1 po).1 m po _ _ H2 po po po;replace e3 : (K m).call 55 [.ptr mb 0, .i 1] _ = _ := e3;have C3 := C2.trans E3 (Nat.le_refl _);have L3 := C3.len;obtain ⟨t4, G4, e4, H4, E4⟩ := (bV 2 po).1 m po _ _ H3 po po po;replace e4 : (K m).call 55 [.ptr mb 0, .i 2] _ = _ := e4;have C4 := C3.trans E4 (Nat.le_refl _);have L4 := C4.len;obtain ⟨t5, G5, e5, H5, E5, x5⟩ := H4.bC (o := 79) (a := 0) (b := 0) (ok_one (aZ.1 rfl)) po po po (m := m) po;have C5 := C4.trans E5 (Nat.le_refl _);have L5 := C5.len;simp -implicitDefEqProofs (disch := first|go_size|fail) only [go_sem, H.fe, e1, e2, e3, e4, e5]
   exact ⟨_, _, rfl, H5, C5.trans (aW.refl _) po⟩
 · -- 3
   obtain ⟨t2, G2, e2, H2, E2, x2⟩ := H1.bC (o := 25) (a := 9) (b := 0) (ok_two (by decide) po po) po po po (m := m) po
   have C2 := (aW.refl g).trans E2 (Nat.le_refl _);have L2 := C2.len;obtain ⟨k3, t3, e3, k3a, k3b, H3, f3⟩ := H2.take (n := 4) po po (m := m) po;obtain ⟨t4, G4, e4, H4, E4, x4⟩ := H3.bC (o := 3 + k3) (a := 0) (b := 0) (ok_one (jC k3a po)) po po po (m := m) po;have C4 := C2.trans E4 (Nat.le_refl _);have L4 := C4.len;obtain ⟨t5, G5, e5, H5, E5⟩ := (bV 2 po).2 m po _ _ H4 po po po;replace e5 : (K m).call 74 [.ptr mb 0, .i 2] _ = _ := e5;have C5 := C4.trans E5 (Nat.le_refl _);have L5 := C5.len;obtain ⟨t6, G6, e6, H6, E6, x6⟩ := H5.bC (o := 83) (a := 0) (b := 0) (ok_one (aZ.1 rfl)) po po po (m := m) po;have C6 := C5.trans E6 (Nat.le_refl _);have L6 := C6.len;simp -implicitDefEqProofs (disch := first|go_size|fail) only [go_sem, H.fe, H2.fe, e1, e2, e3, e4, e5, e6]
   exact ⟨_, _, rfl, H6, C6.trans (aW.refl _) po⟩
set_option maxHeartbeats 4000000 in
theorem vJ {s0 : St} {mb rb : Nat} : ac_ s0 mb rb 91 := by
 intro m0 hm0 s g H hok hlf;obtain ⟨m, rfl⟩ : ∃ m, m0 = m + 1 := ⟨m0 - 1, po⟩;obtain ⟨k1', k2', k3', k4', k5', k6'⟩ := hok;have hc1 : eX 1 = 4 := rfl;have hc2 : eX 2 = 10 := rfl;have hc3 : eX 3 = 22 := rfl;rw [age];obtain ⟨k1, t1, e1, k1a, k1b, H1, f1⟩ := H.take (n := 4) po po (m := m) po;have hk : k1 = 0 ∨ k1 = 1 ∨ k1 = 2 ∨ k1 = 3 := po;rcases hk with rfl | rfl | rfl | rfl
 · -- 0
   obtain ⟨n2, t2, e2, H2, n2a, n2b⟩ := H1.class (x := [84]) (bU.1 rfl) (m := m) po;obtain ⟨t3, G3, e3, H3, E3, x3⟩ := H2.bC (o := 187) (a := n2) (b := 0) (ok_three (by decide) n2a n2b) po po po (m := m) po
   have C3 := (aW.refl g).trans E3 (Nat.le_refl _);have L3 := C3.len;obtain ⟨t4, G4, e4, H4, E4, x4⟩ := H3.bC (o := 58) (a := 8) (b := 0) (ok_two (by decide) po po) po po po (m := m) po
   have C4 := C3.trans E4 (Nat.le_refl _);have L4 := C4.len;simp -implicitDefEqProofs (disch := first|go_size|fail) only [go_sem, H.fe, e1, e2, e3, e4]
   exact ⟨_, _, rfl, H4, C4.trans (aW.refl _) po⟩
 · -- 1
   obtain ⟨t2, G2, e2, H2, E2, x2⟩ := H1.bC (o := 25) (a := 8) (b := 0) (ok_two (by decide) po po) po po po (m := m) po
   have C2 := (aW.refl g).trans E2 (Nat.le_refl _);have L2 := C2.len;obtain ⟨n3, t3, e3, H3, n3a, n3b⟩ := H2.method (x := [84, 104, 114, 101, 97, 100]) (y := [115, 116, 97, 114, 116]) (z := [40, 41, 86]) (bU.1 rfl) (m := m) po;obtain ⟨t4, G4, e4, H4, E4, x4⟩ := H3.bC (o := 182) (a := n3) (b := 0) (ok_three (by decide) n3a n3b) po po po (m := m) po
   have C4 := C2.trans E4 (Nat.le_refl _);have L4 := C4.len;simp -implicitDefEqProofs (disch := first|go_size|fail) only [go_sem, H.fe, e1, e2, e3, e4]
   exact ⟨_, _, rfl, H4, C4.trans (aW.refl _) po⟩
 · -- 2
   obtain ⟨t2, G2, e2, H2, E2, x2⟩ := H1.bC (o := 25) (a := 8) (b := 0) (ok_two (by decide) po po) po po po (m := m) po
   have C2 := (aW.refl g).trans E2 (Nat.le_refl _);have L2 := C2.len;obtain ⟨n3, t3, e3, H3, n3a, n3b⟩ := H2.method (x := [84, 104, 114, 101, 97, 100]) (y := [106, 111, 105, 110]) (z := [40, 41, 86]) (bU.1 rfl) (m := m) po;obtain ⟨t4, G4, e4, H4, E4, x4⟩ := H3.bC (o := 182) (a := n3) (b := 0) (ok_three (by decide) n3a n3b) po po po (m := m) po
   have C4 := C2.trans E4 (Nat.le_refl _);have L4 := C4.len;simp -implicitDefEqProofs (disch := first|go_size|fail) only [go_sem, H.fe, e1, e2, e3, e4]
   exact ⟨_, _, rfl, H4, C4.trans (aW.refl _) po⟩
 · -- 3
   obtain ⟨k2, t2, e2, k2a, k2b, H2, f2⟩ := H1.take (n := 4) po po (m := m) po;obtain ⟨t3, G3, e3, H3, E3, x3⟩ := H2.bC (o := 3 + k2) (a := 0) (b := 0) (ok_one (jC k2a po)) po po po (m := m) po;have C3 := (aW.refl g).trans E3 (Nat.le_refl _);have L3 := C3.len;obtain ⟨n4, t4, e4, H4, n4a, n4b⟩ := H3.method (x := [83, 121, 115, 116, 101, 109]) (y := [115, 108, 101, 101, 112]) (z := [40, 73, 41, 86]) (bU.1 rfl) (m := m) po;obtain ⟨t5, G5, e5, H5, E5, x5⟩ := H4.bC (o := 184) (a := n4) (b := 0) (ok_three (by decide) n4a n4b) po po po (m := m) po
   have C5 := C3.trans E5 (Nat.le_refl _);have L5 := C5.len;simp -implicitDefEqProofs (disch := first|go_size|fail) only [go_sem, H.fe, H1.fe, e1, e2, e3, e4, e5]
   exact ⟨_, _, rfl, H5, C5.trans (aW.refl _) po⟩
set_option maxHeartbeats 4000000 in
theorem PG {s0 : St} {mb rb r : Nat} (hr : r ≤ 3) (hsome : p_ s0 mb rb r) : yw s0 mb rb r 87 := by
 intro m0 hm0 s g H hok hdp hlb hlf;obtain ⟨m, rfl⟩ : ∃ m, m0 = m + 1 := ⟨m0 - 1, po⟩;obtain ⟨k1', k2', k3', k4', k5', k6'⟩ := hok;have hc1 : eX 1 = 4 := rfl;have hc2 : eX 2 = 10 := rfl;have hc3 : eX 3 = 22 := rfl;rw [agt];have W0 : Fo [] g g := Fo.refl g;have A0 : AI g g (26 - 0) 0 0 0 0 := po;have P0 : g.plain = g.plain := rfl;obtain ⟨t1, G1, e1, H1, S1⟩ := H.gM po (m := m) po;have M1 := S1.aU;have l1 := S1.aj;have W1 : Fo [g.aj] g G1 := W0.gM S1;have A1 : AI g G1 (26 - 0) 1 1 0 0 := po;clear A0;clear M1;have P1 := (S1.plain).trans P0;obtain ⟨t2, G2, e2, H2, S2⟩ := H1.gM po (m := m) po;have M2 := S2.aU;have l2 := S2.aj;have W2 : Fo [g.aj, G1.aj] g G2 := W1.gM S2;have A2 : AI g G2 (26 - 0) 2 2 0 0 := po;clear A1;clear M2;have P2 := (S2.plain).trans P1;obtain ⟨k3, t3, e3, k3a, k3b, H3, f3⟩ := H2.take (n := 4) po po (m := m) po;obtain ⟨t4, G4, e4, H4, E4, x4⟩ := H3.bC (o := 3) (a := 0) (b := 0) (ok_one (aZ.1 rfl)) po po po (m := m) po;have M4 := E4.aU;have W4 : Fo [g.aj, G1.aj] g G4 := W2.emit E4;have A4 : AI g G4 (26 - 1) 2 2 0 0 := po;clear A2;clear M4;have P4 := (E4.same.2.1).trans P2;obtain ⟨t5, G5, e5, H5, E5, x5⟩ := H4.bC (o := 54) (a := k3) (b := 0) (ok_two (by decide) k3a po) po po po (m := m) po
 have M5 := E5.aU;have W5 : Fo [g.aj, G1.aj] g G5 := W4.emit E5;have A5 : AI g G5 (26 - 2) 2 2 0 0 := po;clear A4;clear M5;have P5 := (E5.same.2.1).trans P4;obtain ⟨t6, G6, e6, H6, S6⟩ := H5.bX g.aj po (m := m) po;have M6 := S6.aU;have W6 : Fo [G1.aj] g G6 := W5.bX S6;have A6 : AI g G6 (26 - 2) 1 2 0 0 := po;clear A5;clear M6;have P6 := (S6.plain).trans P5;obtain ⟨t7, G7, e7, H7, E7, x7⟩ := H6.bC (o := 21) (a := k3) (b := 0) (ok_two (by decide) k3a po) po po po (m := m) po
 have M7 := E7.aU;have W7 : Fo [G1.aj] g G7 := W6.emit E7;have A7 : AI g G7 (26 - 3) 1 2 0 0 := po;clear A6;clear M7;have P7 := (E7.same.2.1).trans P6;obtain ⟨k8, t8, e8, k8a, k8b, H8, f8⟩ := H7.take (n := 6) po po (m := m) po;obtain ⟨t9, G9, e9, H9, E9, x9⟩ := H8.bC (o := 3 + k8) (a := 0) (b := 0) (ok_one (jC k8a k8b)) po po po (m := m) po;have M9 := E9.aU;have W9 : Fo [G1.aj] g G9 := W7.emit E9;have A9 : AI g G9 (26 - 4) 1 2 0 0 := po;clear A7;clear M9;have P9 := (E9.same.2.1).trans P7;obtain ⟨t10, G10, e10, H10, S10⟩ := H9.cO (162) G1.aj po po po (m := m) po;have M10 := S10.aU;have W10 : Fo [G1.aj] g G10 := W9.cO S10 ⟨po, po, rfl⟩ po po;have A10 : AI g G10 (26 - 5) 1 2 0 0 := po;clear A9;clear M10;have P10 := (S10.plain).trans P9;have hd11 : G10.depth = 4 - (r : Nat) := po;obtain ⟨t11, G11, e11, H11, R11⟩ := hsome m po _ _ 2 H10 ⟨po, po, po, po, po, po⟩ hd11 po po;have M11 := R11.aU;have N11 := R11.fo.cnt;simp only [List.length_nil] at N11;have W11 : Fo [G1.aj] g G11 := W10.ij R11.fo;have A11 : AI g G11 (3 - 6 * (r : Nat) - 0) 1 2 0 0 := po;clear A10;clear M11;have P11 := (R11.plain).trans P10;clear N11;obtain ⟨t12, G12, e12, H12, E12, x12⟩ := H11.bC (o := 132) (a := k3) (b := 1) (Nr k3a po po po) po po po (m := m) po;have M12 := E12.aU;have W12 : Fo [G1.aj] g G12 := W11.emit E12;have A12 : AI g G12 (3 - 6 * (r : Nat) - 1) 1 2 0 0 := po;clear A11;clear M12;have P12 := (E12.same.2.1).trans P11;obtain ⟨t13, G13, e13, H13, S13⟩ := H12.cO (167) g.aj po po po (m := m) po;have M13 := S13.aU;have W13 : Fo [G1.aj] g G13 := W12.cO S13 ⟨po, po, rfl⟩ po po;have A13 : AI g G13 (3 - 6 * (r : Nat) - 2) 1 2 0 0 := po;clear A12;clear M13;have P13 := (S13.plain).trans P12;obtain ⟨t14, G14, e14, H14, S14⟩ := H13.bX G1.aj po (m := m) po;have M14 := S14.aU;have W14 : Fo [] g G14 := W13.bX S14;have A14 : AI g G14 (3 - 6 * (r : Nat) - 2) 0 2 0 0 := po;clear A13;clear M14;have P14 := (S14.plain).trans P13;obtain ⟨t15, G15, e15, H15, E15, x15⟩ := H14.bC (o := 0) (a := 0) (b := 0) (ok_one (aZ.1 rfl)) po po po (m := m) po;have M15 := E15.aU;have W15 : Fo [] g G15 := W14.emit E15;have A15 : AI g G15 (3 - 6 * (r : Nat) - 3) 0 2 0 0 := po;clear A14;clear M15;have P15 := (E15.same.2.1).trans P14;simp -implicitDefEqProofs (disch := first|go_size|fail) only [go_sem, H2.fe, H7.fe, e1, e2, e3, e4, e5, e6, e7, e8, e9, e10, e11, e12, e13, e14, e15]
 exact ⟨_, _, rfl, H15, ⟨⟨W15, po, P15, po, po⟩, po⟩⟩
theorem nK (c : Int) (hc : c = 153 ∨ c = 159) {k : Int} (h0 : 0 ≤ k) (h1 : k < 6) : 0 ≤ c + k ∧ c + k < 256 ∧ gU (c + k) = true := by
 refine ⟨po, po, ?_⟩;have : k = 0 ∨ k = 1 ∨ k = 2 ∨ k = 3 ∨ k = 4 ∨ k = 5 := po;rcases hc with rfl | rfl <;> rcases this with rfl | rfl | rfl | rfl | rfl | rfl <;> rfl
set_option maxHeartbeats 4000000 in
theorem ze {s0 : St} {mb rb r : Nat} (hr : r ≤ 3) (hsome : p_ s0 mb rb r) : yw s0 mb rb r 86 := by
 intro m0 hm0 s g H hok hdp hlb hlf;obtain ⟨m, rfl⟩ : ∃ m, m0 = m + 1 := ⟨m0 - 1, po⟩;obtain ⟨k1', k2', k3', k4', k5', k6'⟩ := hok;have hc1 : eX 1 = 4 := rfl;have hc2 : eX 2 = 10 := rfl;have hc3 : eX 3 = 22 := rfl;rw [afD];have W0 : Fo [] g g := Fo.refl g;have A0 : AI g g (26 - 0) 0 0 0 0 := po;have P0 : g.plain = g.plain := rfl;obtain ⟨t1, G1, e1, H1, S1⟩ := H.gM po (m := m) po;have M1 := S1.aU;have l1 := S1.aj;have W1 : Fo [g.aj] g G1 := W0.gM S1;have A1 : AI g G1 (26 - 0) 1 1 0 0 := po;clear A0;clear M1;have P1 := (S1.plain).trans P0;obtain ⟨t2, G2, e2, H2, S2⟩ := H1.gM po (m := m) po;have M2 := S2.aU;have l2 := S2.aj;have W2 : Fo [g.aj, G1.aj] g G2 := W1.gM S2;have A2 : AI g G2 (26 - 0) 2 2 0 0 := po;clear A1;clear M2;have P2 := (S2.plain).trans P1;obtain ⟨k3, t3, e3, k3a, k3b, H3, f3⟩ := H2.take (n := 4) po po (m := m) po;have l4 := H3.ld4;rw [show G2.plain = g.plain from P2] at l4
 have hk : k3 = 0 ∨ k3 = 1 ∨ k3 = 2 ∨ k3 = 3 := po;cases hpl : g.plain
 · rw [hpl] at l4;rcases hk with rfl | rfl | rfl | rfl
   · -- 0
     obtain ⟨t4, G4, e4, H4, E4⟩ := (bV 2 po).2 m po _ _ H3 po po po;replace e4 : (K m).call 74 [.ptr mb 0, .i 2] _ = _ := e4;have M4 := E4.aU;have W4 : Fo [g.aj, G1.aj] g G4 := W2.emit E4;have A4 : AI g G4 (26 - 10) 2 2 0 0 := po;clear A2;clear M4;have P4 := (E4.same.2.1).trans P2;obtain ⟨t5, e5, H5, c5, f5⟩ := H4.new (l := [V.i 198, V.i 199]) (n := 2) rfl;obtain ⟨k6, t6, e6, k6a, k6b, H6, f6⟩ := H5.take (n := 2) po po (m := m) po;have r6 := f6.cl H5.wf c5 (by have := H4.fr.nx; have := H4.hrb; simp; omega)
     obtain ⟨o6, a6, b6⟩ : ∃ o : Int, [V.i 198, V.i 199][k6.toNat]? = some (V.i o) ∧ (0 ≤ o ∧ o < 256 ∧ gU o = true) := by
      have : k6 = 0 ∨ k6 = 1 := po;rcases this with rfl | rfl <;> exact ⟨_, rfl, ⟨po, po, rfl⟩⟩
     have d6 := aK H6.wf r6 a6;obtain ⟨t7, G7, e7, H7, S7⟩ := H6.cO (o6) g.aj po po po (m := m) po;have M7 := S7.aU;have W7 : Fo [g.aj, G1.aj] g G7 := W4.cO S7 b6 po po;have A7 : AI g G7 (26 - 11) 2 2 0 0 := po;clear A4;clear M7;have P7 := (S7.plain).trans P4;have hd8 : G7.depth = 4 - (r : Nat) := po;obtain ⟨t8, G8, e8, H8, R8⟩ := hsome m po _ _ 2 H7 ⟨po, po, po, po, po, po⟩ hd8 po po;have M8 := R8.aU;have N8 := R8.fo.cnt;simp only [List.length_nil] at N8;have W8 : Fo [g.aj, G1.aj] g G8 := W7.ij R8.fo;have A8 : AI g G8 (3 - 6 * (r : Nat) - 0) 2 2 0 0 := po;clear A7;clear M8;have P8 := (R8.plain).trans P7;clear N8;obtain ⟨t9, G9, e9, H9, S9⟩ := H8.cO (167) G1.aj po po po (m := m) po;have M9 := S9.aU;have W9 : Fo [g.aj, G1.aj] g G9 := W8.cO S9 ⟨po, po, rfl⟩ po po;have A9 : AI g G9 (3 - 6 * (r : Nat) - 1) 2 2 0 0 := po;clear A8;clear M9;have P9 := (S9.plain).trans P8;obtain ⟨t10, G10, e10, H10, S10⟩ := H9.bX g.aj po (m := m) po;have M10 := S10.aU;have W10 : Fo [G1.aj] g G10 := W9.bX S10;have A10 : AI g G10 (3 - 6 * (r : Nat) - 1) 1 2 0 0 := po;clear A9;clear M10;have P10 := (S10.plain).trans P9;have hd11 : G10.depth = 4 - (r : Nat) := po;obtain ⟨t11, G11, e11, H11, R11⟩ := hsome m po _ _ 2 H10 ⟨po, po, po, po, po, po⟩ hd11 po po;have M11 := R11.aU;have N11 := R11.fo.cnt;simp only [List.length_nil] at N11;have W11 : Fo [G1.aj] g G11 := W10.ij R11.fo;have A11 : AI g G11 (3 - 6 * (r : Nat) - 1) 1 2 0 0 := po;clear A10;clear M11;have P11 := (R11.plain).trans P10;clear N11;obtain ⟨t12, G12, e12, H12, S12⟩ := H11.bX G1.aj po (m := m) po;have M12 := S12.aU;have W12 : Fo [] g G12 := W11.bX S12;have A12 : AI g G12 (3 - 6 * (r : Nat) - 1) 0 2 0 0 := po;clear A11;clear M12;have P12 := (S12.plain).trans P11;obtain ⟨t13, G13, e13, H13, E13, x13⟩ := H12.bC (o := 0) (a := 0) (b := 0) (ok_one (aZ.1 rfl)) po po po (m := m) po;have M13 := E13.aU;have W13 : Fo [] g G13 := W12.emit E13;have A13 : AI g G13 (3 - 6 * (r : Nat) - 2) 0 2 0 0 := po;clear A12;clear M13;have P13 := (E13.same.2.1).trans P12;simp -implicitDefEqProofs (disch := first|go_size|fail) only [go_sem, H2.fe, H5.fe, e1, e2, e3, l4, e4, vu, e5, e6, d6, e7, e8, e9, e10, e11, e12, e13]
     exact ⟨_, _, rfl, H13, ⟨⟨W13, po, P13, po, po⟩, po⟩⟩
   · -- 1
     obtain ⟨t4, G4, e4, H4, E4⟩ := (bV 1 po).2 m po _ _ H3 po po po;replace e4 : (K m).call 74 [.ptr mb 0, .i 1] _ = _ := e4;have M4 := E4.aU;have W4 : Fo [g.aj, G1.aj] g G4 := W2.emit E4;have A4 : AI g G4 (26 - 4) 2 2 0 0 := po;clear A2;clear M4;have P4 := (E4.same.2.1).trans P2;obtain ⟨t5, G5, e5, H5, E5⟩ := (bV 1 po).2 m po _ _ H4 po po po;replace e5 : (K m).call 74 [.ptr mb 0, .i 1] _ = _ := e5;have M5 := E5.aU;have W5 : Fo [g.aj, G1.aj] g G5 := W4.emit E5;have A5 : AI g G5 (26 - 8) 2 2 0 0 := po;clear A4;clear M5;have P5 := (E5.same.2.1).trans P4;obtain ⟨t6, e6, H6, c6, f6⟩ := H5.new (l := [V.i 165, V.i 166]) (n := 2) rfl;obtain ⟨k7, t7, e7, k7a, k7b, H7, f7⟩ := H6.take (n := 2) po po (m := m) po;have r7 := f7.cl H6.wf c6 (by have := H5.fr.nx; have := H5.hrb; simp; omega)
     obtain ⟨o7, a7, b7⟩ : ∃ o : Int, [V.i 165, V.i 166][k7.toNat]? = some (V.i o) ∧ (0 ≤ o ∧ o < 256 ∧ gU o = true) := by
      have : k7 = 0 ∨ k7 = 1 := po;rcases this with rfl | rfl <;> exact ⟨_, rfl, ⟨po, po, rfl⟩⟩
     have d7 := aK H7.wf r7 a7;obtain ⟨t8, G8, e8, H8, S8⟩ := H7.cO (o7) g.aj po po po (m := m) po;have M8 := S8.aU;have W8 : Fo [g.aj, G1.aj] g G8 := W5.cO S8 b7 po po;have A8 : AI g G8 (26 - 9) 2 2 0 0 := po;clear A5;clear M8;have P8 := (S8.plain).trans P5;have hd9 : G8.depth = 4 - (r : Nat) := po;obtain ⟨t9, G9, e9, H9, R9⟩ := hsome m po _ _ 2 H8 ⟨po, po, po, po, po, po⟩ hd9 po po;have M9 := R9.aU;have N9 := R9.fo.cnt;simp only [List.length_nil] at N9;have W9 : Fo [g.aj, G1.aj] g G9 := W8.ij R9.fo;have A9 : AI g G9 (3 - 6 * (r : Nat) - 0) 2 2 0 0 := po;clear A8;clear M9;have P9 := (R9.plain).trans P8;clear N9;obtain ⟨t10, G10, e10, H10, S10⟩ := H9.cO (167) G1.aj po po po (m := m) po;have M10 := S10.aU;have W10 : Fo [g.aj, G1.aj] g G10 := W9.cO S10 ⟨po, po, rfl⟩ po po;have A10 : AI g G10 (3 - 6 * (r : Nat) - 1) 2 2 0 0 := po;clear A9;clear M10;have P10 := (S10.plain).trans P9;obtain ⟨t11, G11, e11, H11, S11⟩ := H10.bX g.aj po (m := m) po;have M11 := S11.aU;have W11 : Fo [G1.aj] g G11 := W10.bX S11;have A11 : AI g G11 (3 - 6 * (r : Nat) - 1) 1 2 0 0 := po;clear A10;clear M11;have P11 := (S11.plain).trans P10;have hd12 : G11.depth = 4 - (r : Nat) := po;obtain ⟨t12, G12, e12, H12, R12⟩ := hsome m po _ _ 2 H11 ⟨po, po, po, po, po, po⟩ hd12 po po;have M12 := R12.aU;have N12 := R12.fo.cnt;simp only [List.length_nil] at N12;have W12 : Fo [G1.aj] g G12 := W11.ij R12.fo;have A12 : AI g G12 (3 - 6 * (r : Nat) - 1) 1 2 0 0 := po;clear A11;clear M12;have P12 := (R12.plain).trans P11;clear N12;obtain ⟨t13, G13, e13, H13, S13⟩ := H12.bX G1.aj po (m := m) po;have M13 := S13.aU;have W13 : Fo [] g G13 := W12.bX S13;have A13 : AI g G13 (3 - 6 * (r : Nat) - 1) 0 2 0 0 := po;clear A12;clear M13;have P13 := (S13.plain).trans P12;obtain ⟨t14, G14, e14, H14, E14, x14⟩ := H13.bC (o := 0) (a := 0) (b := 0) (ok_one (aZ.1 rfl)) po po po (m := m) po;have M14 := E14.aU;have W14 : Fo [] g G14 := W13.emit E14;have A14 : AI g G14 (3 - 6 * (r : Nat) - 2) 0 2 0 0 := po;clear A13;clear M14;have P14 := (E14.same.2.1).trans P13;simp -implicitDefEqProofs (disch := first|go_size|fail) only [go_sem, H2.fe, H6.fe, e1, e2, e3, l4, e4, e5, ug, e6, e7, d7, e8, e9, e10, e11, e12, e13, e14]
     exact ⟨_, _, rfl, H14, ⟨⟨W14, po, P14, po, po⟩, po⟩⟩
   · -- 2
     obtain ⟨t4, G4, e4, H4, E4⟩ := (bV 2 po).1 m po _ _ H3 po po po;replace e4 : (K m).call 55 [.ptr mb 0, .i 2] _ = _ := e4;have M4 := E4.aU;have W4 : Fo [g.aj, G1.aj] g G4 := W2.emit E4;have A4 : AI g G4 (26 - 10) 2 2 0 0 := po;clear A2;clear M4;have P4 := (E4.same.2.1).trans P2;obtain ⟨k5, t5, e5, k5a, k5b, H5, f5⟩ := H4.take (n := 6) po po (m := m) po;obtain ⟨t6, G6, e6, H6, S6⟩ := H5.cO (153 + k5) g.aj po po po (m := m) po;have M6 := S6.aU;have W6 : Fo [g.aj, G1.aj] g G6 := W4.cO S6 (nK 153 (.inl rfl) k5a k5b) po po;have A6 : AI g G6 (26 - 11) 2 2 0 0 := po;clear A4;clear M6;have P6 := (S6.plain).trans P4;have hd7 : G6.depth = 4 - (r : Nat) := po;obtain ⟨t7, G7, e7, H7, R7⟩ := hsome m po _ _ 2 H6 ⟨po, po, po, po, po, po⟩ hd7 po po;have M7 := R7.aU;have N7 := R7.fo.cnt;simp only [List.length_nil] at N7;have W7 : Fo [g.aj, G1.aj] g G7 := W6.ij R7.fo;have A7 : AI g G7 (3 - 6 * (r : Nat) - 0) 2 2 0 0 := po;clear A6;clear M7;have P7 := (R7.plain).trans P6;clear N7;obtain ⟨t8, G8, e8, H8, S8⟩ := H7.cO (167) G1.aj po po po (m := m) po;have M8 := S8.aU;have W8 : Fo [g.aj, G1.aj] g G8 := W7.cO S8 ⟨po, po, rfl⟩ po po;have A8 : AI g G8 (3 - 6 * (r : Nat) - 1) 2 2 0 0 := po;clear A7;clear M8;have P8 := (S8.plain).trans P7;obtain ⟨t9, G9, e9, H9, S9⟩ := H8.bX g.aj po (m := m) po;have M9 := S9.aU;have W9 : Fo [G1.aj] g G9 := W8.bX S9;have A9 : AI g G9 (3 - 6 * (r : Nat) - 1) 1 2 0 0 := po;clear A8;clear M9;have P9 := (S9.plain).trans P8;have hd10 : G9.depth = 4 - (r : Nat) := po;obtain ⟨t10, G10, e10, H10, R10⟩ := hsome m po _ _ 2 H9 ⟨po, po, po, po, po, po⟩ hd10 po po;have M10 := R10.aU;have N10 := R10.fo.cnt;simp only [List.length_nil] at N10;have W10 : Fo [G1.aj] g G10 := W9.ij R10.fo;have A10 : AI g G10 (3 - 6 * (r : Nat) - 1) 1 2 0 0 := po;clear A9;clear M10;have P10 := (R10.plain).trans P9;clear N10;obtain ⟨t11, G11, e11, H11, S11⟩ := H10.bX G1.aj po (m := m) po;have M11 := S11.aU;have W11 : Fo [] g G11 := W10.bX S11;have A11 : AI g G11 (3 - 6 * (r : Nat) - 1) 0 2 0 0 := po;clear A10;clear M11;have P11 := (S11.plain).trans P10;obtain ⟨t12, G12, e12, H12, E12, x12⟩ := H11.bC (o := 0) (a := 0) (b := 0) (ok_one (aZ.1 rfl)) po po po (m := m) po;have M12 := E12.aU;have W12 : Fo [] g G12 := W11.emit E12;have A12 : AI g G12 (3 - 6 * (r : Nat) - 2) 0 2 0 0 := po;clear A11;clear M12;have P12 := (E12.same.2.1).trans P11;simp -implicitDefEqProofs (disch := first|go_size|fail) only [go_sem, H2.fe, H4.fe, e1, e2, e3, l4, e4, e5, e6, e7, e8, e9, e10, e11, e12]
     exact ⟨_, _, rfl, H12, ⟨⟨W12, po, P12, po, po⟩, po⟩⟩
   · -- 3
     obtain ⟨t4, G4, e4, H4, E4⟩ := (bV 2 po).1 m po _ _ H3 po po po;replace e4 : (K m).call 55 [.ptr mb 0, .i 2] _ = _ := e4;have M4 := E4.aU;have W4 : Fo [g.aj, G1.aj] g G4 := W2.emit E4;have A4 : AI g G4 (26 - 10) 2 2 0 0 := po;clear A2;clear M4;have P4 := (E4.same.2.1).trans P2;obtain ⟨t5, G5, e5, H5, E5⟩ := (bV 2 po).1 m po _ _ H4 po po po;replace e5 : (K m).call 55 [.ptr mb 0, .i 2] _ = _ := e5;have M5 := E5.aU;have W5 : Fo [g.aj, G1.aj] g G5 := W4.emit E5;have A5 : AI g G5 (26 - 20) 2 2 0 0 := po;clear A4;clear M5;have P5 := (E5.same.2.1).trans P4;obtain ⟨k6, t6, e6, k6a, k6b, H6, f6⟩ := H5.take (n := 6) po po (m := m) po;obtain ⟨t7, G7, e7, H7, S7⟩ := H6.cO (159 + k6) g.aj po po po (m := m) po;have M7 := S7.aU;have W7 : Fo [g.aj, G1.aj] g G7 := W5.cO S7 (nK 159 (.inr rfl) k6a k6b) po po;have A7 : AI g G7 (26 - 21) 2 2 0 0 := po;clear A5;clear M7;have P7 := (S7.plain).trans P5;have hd8 : G7.depth = 4 - (r : Nat) := po;obtain ⟨t8, G8, e8, H8, R8⟩ := hsome m po _ _ 2 H7 ⟨po, po, po, po, po, po⟩ hd8 po po;have M8 := R8.aU;have N8 := R8.fo.cnt;simp only [List.length_nil] at N8;have W8 : Fo [g.aj, G1.aj] g G8 := W7.ij R8.fo;have A8 : AI g G8 (3 - 6 * (r : Nat) - 0) 2 2 0 0 := po;clear A7;clear M8;have P8 := (R8.plain).trans P7;clear N8;obtain ⟨t9, G9, e9, H9, S9⟩ := H8.cO (167) G1.aj po po po (m := m) po;have M9 := S9.aU;have W9 : Fo [g.aj, G1.aj] g G9 := W8.cO S9 ⟨po, po, rfl⟩ po po;have A9 : AI g G9 (3 - 6 * (r : Nat) - 1) 2 2 0 0 := po;clear A8;clear M9;have P9 := (S9.plain).trans P8;obtain ⟨t10, G10, e10, H10, S10⟩ := H9.bX g.aj po (m := m) po;have M10 := S10.aU;have W10 : Fo [G1.aj] g G10 := W9.bX S10;have A10 : AI g G10 (3 - 6 * (r : Nat) - 1) 1 2 0 0 := po;clear A9;clear M10;have P10 := (S10.plain).trans P9;have hd11 : G10.depth = 4 - (r : Nat) := po;obtain ⟨t11, G11, e11, H11, R11⟩ := hsome m po _ _ 2 H10 ⟨po, po, po, po, po, po⟩ hd11 po po;have M11 := R11.aU;have N11 := R11.fo.cnt;simp only [List.length_nil] at N11;have W11 : Fo [G1.aj] g G11 := W10.ij R11.fo;have A11 : AI g G11 (3 - 6 * (r : Nat) - 1) 1 2 0 0 := po;clear A10;clear M11;have P11 := (R11.plain).trans P10;clear N11;obtain ⟨t12, G12, e12, H12, S12⟩ := H11.bX G1.aj po (m := m) po;have M12 := S12.aU;have W12 : Fo [] g G12 := W11.bX S12;have A12 : AI g G12 (3 - 6 * (r : Nat) - 1) 0 2 0 0 := po;clear A11;clear M12;have P12 := (S12.plain).trans P11;obtain ⟨t13, G13, e13, H13, E13, x13⟩ := H12.bC (o := 0) (a := 0) (b := 0) (ok_one (aZ.1 rfl)) po po po (m := m) po;have M13 := E13.aU;have W13 : Fo [] g G13 := W12.emit E13;have A13 : AI g G13 (3 - 6 * (r : Nat) - 2) 0 2 0 0 := po;clear A12;clear M13;have P13 := (E13.same.2.1).trans P12;simp -implicitDefEqProofs (disch := first|go_size|fail) only [go_sem, H2.fe, H5.fe, e1, e2, e3, l4, e4, e5, e6, e7, e8, e9, e10, e11, e12, e13]
     exact ⟨_, _, rfl, H13, ⟨⟨W13, po, P13, po, po⟩, po⟩⟩
 · rw [hpl] at l4;rcases hk with rfl | rfl | rfl | rfl
   · -- 0
     obtain ⟨t4, G4, e4, H4, E4⟩ := (bV 2 po).1 m po _ _ H3 po po po;replace e4 : (K m).call 55 [.ptr mb 0, .i 2] _ = _ := e4;have M4 := E4.aU;have W4 : Fo [g.aj, G1.aj] g G4 := W2.emit E4;have A4 : AI g G4 (26 - 10) 2 2 0 0 := po;clear A2;clear M4;have P4 := (E4.same.2.1).trans P2;obtain ⟨t5, G5, e5, H5, E5⟩ := (bV 2 po).1 m po _ _ H4 po po po;replace e5 : (K m).call 55 [.ptr mb 0, .i 2] _ = _ := e5;have M5 := E5.aU;have W5 : Fo [g.aj, G1.aj] g G5 := W4.emit E5;have A5 : AI g G5 (26 - 20) 2 2 0 0 := po;clear A4;clear M5;have P5 := (E5.same.2.1).trans P4;obtain ⟨k6, t6, e6, k6a, k6b, H6, f6⟩ := H5.take (n := 6) po po (m := m) po;obtain ⟨t7, G7, e7, H7, S7⟩ := H6.cO (159 + k6) g.aj po po po (m := m) po;have M7 := S7.aU;have W7 : Fo [g.aj, G1.aj] g G7 := W5.cO S7 (nK 159 (.inr rfl) k6a k6b) po po;have A7 : AI g G7 (26 - 21) 2 2 0 0 := po;clear A5;clear M7;have P7 := (S7.plain).trans P5;have hd8 : G7.depth = 4 - (r : Nat) := po;obtain ⟨t8, G8, e8, H8, R8⟩ := hsome m po _ _ 2 H7 ⟨po, po, po, po, po, po⟩ hd8 po po;have M8 := R8.aU;have N8 := R8.fo.cnt;simp only [List.length_nil] at N8;have W8 : Fo [g.aj, G1.aj] g G8 := W7.ij R8.fo;have A8 : AI g G8 (3 - 6 * (r : Nat) - 0) 2 2 0 0 := po;clear A7;clear M8;have P8 := (R8.plain).trans P7;clear N8;obtain ⟨t9, G9, e9, H9, S9⟩ := H8.cO (167) G1.aj po po po (m := m) po;have M9 := S9.aU;have W9 : Fo [g.aj, G1.aj] g G9 := W8.cO S9 ⟨po, po, rfl⟩ po po;have A9 : AI g G9 (3 - 6 * (r : Nat) - 1) 2 2 0 0 := po;clear A8;clear M9;have P9 := (S9.plain).trans P8;obtain ⟨t10, G10, e10, H10, S10⟩ := H9.bX g.aj po (m := m) po;have M10 := S10.aU;have W10 : Fo [G1.aj] g G10 := W9.bX S10;have A10 : AI g G10 (3 - 6 * (r : Nat) - 1) 1 2 0 0 := po;clear A9;clear M10;have P10 := (S10.plain).trans P9;have hd11 : G10.depth = 4 - (r : Nat) := po;obtain ⟨t11, G11, e11, H11, R11⟩ := hsome m po _ _ 2 H10 ⟨po, po, po, po, po, po⟩ hd11 po po;have M11 := R11.aU;have N11 := R11.fo.cnt;simp only [List.length_nil] at N11;have W11 : Fo [G1.aj] g G11 := W10.ij R11.fo;have A11 : AI g G11 (3 - 6 * (r : Nat) - 1) 1 2 0 0 := po;clear A10;clear M11;have P11 := (R11.plain).trans P10;clear N11;obtain ⟨t12, G12, e12, H12, S12⟩ := H11.bX G1.aj po (m := m) po;have M12 := S12.aU;have W12 : Fo [] g G12 := W11.bX S12;have A12 : AI g G12 (3 - 6 * (r : Nat) - 1) 0 2 0 0 := po;clear A11;clear M12;have P12 := (S12.plain).trans P11;obtain ⟨t13, G13, e13, H13, E13, x13⟩ := H12.bC (o := 0) (a := 0) (b := 0) (ok_one (aZ.1 rfl)) po po po (m := m) po;have M13 := E13.aU;have W13 : Fo [] g G13 := W12.emit E13;have A13 : AI g G13 (3 - 6 * (r : Nat) - 2) 0 2 0 0 := po;clear A12;clear M13;have P13 := (E13.same.2.1).trans P12;simp -implicitDefEqProofs (disch := first|go_size|fail) only [go_sem, H2.fe, H5.fe, e1, e2, e3, l4, e4, e5, e6, e7, e8, e9, e10, e11, e12, e13]
     exact ⟨_, _, rfl, H13, ⟨⟨W13, po, P13, po, po⟩, po⟩⟩
   · -- 1
     obtain ⟨t4, G4, e4, H4, E4⟩ := (bV 2 po).1 m po _ _ H3 po po po;replace e4 : (K m).call 55 [.ptr mb 0, .i 2] _ = _ := e4;have M4 := E4.aU;have W4 : Fo [g.aj, G1.aj] g G4 := W2.emit E4;have A4 : AI g G4 (26 - 10) 2 2 0 0 := po;clear A2;clear M4;have P4 := (E4.same.2.1).trans P2;obtain ⟨t5, G5, e5, H5, E5⟩ := (bV 2 po).1 m po _ _ H4 po po po;replace e5 : (K m).call 55 [.ptr mb 0, .i 2] _ = _ := e5;have M5 := E5.aU;have W5 : Fo [g.aj, G1.aj] g G5 := W4.emit E5;have A5 : AI g G5 (26 - 20) 2 2 0 0 := po;clear A4;clear M5;have P5 := (E5.same.2.1).trans P4;obtain ⟨k6, t6, e6, k6a, k6b, H6, f6⟩ := H5.take (n := 6) po po (m := m) po;obtain ⟨t7, G7, e7, H7, S7⟩ := H6.cO (159 + k6) g.aj po po po (m := m) po;have M7 := S7.aU;have W7 : Fo [g.aj, G1.aj] g G7 := W5.cO S7 (nK 159 (.inr rfl) k6a k6b) po po;have A7 : AI g G7 (26 - 21) 2 2 0 0 := po;clear A5;clear M7;have P7 := (S7.plain).trans P5;have hd8 : G7.depth = 4 - (r : Nat) := po;obtain ⟨t8, G8, e8, H8, R8⟩ := hsome m po _ _ 2 H7 ⟨po, po, po, po, po, po⟩ hd8 po po;have M8 := R8.aU;have N8 := R8.fo.cnt;simp only [List.length_nil] at N8;have W8 : Fo [g.aj, G1.aj] g G8 := W7.ij R8.fo;have A8 : AI g G8 (3 - 6 * (r : Nat) - 0) 2 2 0 0 := po;clear A7;clear M8;have P8 := (R8.plain).trans P7;clear N8;obtain ⟨t9, G9, e9, H9, S9⟩ := H8.cO (167) G1.aj po po po (m := m) po;have M9 := S9.aU;have W9 : Fo [g.aj, G1.aj] g G9 := W8.cO S9 ⟨po, po, rfl⟩ po po;have A9 : AI g G9 (3 - 6 * (r : Nat) - 1) 2 2 0 0 := po;clear A8;clear M9;have P9 := (S9.plain).trans P8;obtain ⟨t10, G10, e10, H10, S10⟩ := H9.bX g.aj po (m := m) po;have M10 := S10.aU;have W10 : Fo [G1.aj] g G10 := W9.bX S10;have A10 : AI g G10 (3 - 6 * (r : Nat) - 1) 1 2 0 0 := po;clear A9;clear M10;have P10 := (S10.plain).trans P9;have hd11 : G10.depth = 4 - (r : Nat) := po;obtain ⟨t11, G11, e11, H11, R11⟩ := hsome m po _ _ 2 H10 ⟨po, po, po, po, po, po⟩ hd11 po po;have M11 := R11.aU;have N11 := R11.fo.cnt;simp only [List.length_nil] at N11;have W11 : Fo [G1.aj] g G11 := W10.ij R11.fo;have A11 : AI g G11 (3 - 6 * (r : Nat) - 1) 1 2 0 0 := po;clear A10;clear M11;have P11 := (R11.plain).trans P10;clear N11;obtain ⟨t12, G12, e12, H12, S12⟩ := H11.bX G1.aj po (m := m) po;have M12 := S12.aU;have W12 : Fo [] g G12 := W11.bX S12;have A12 : AI g G12 (3 - 6 * (r : Nat) - 1) 0 2 0 0 := po;clear A11;clear M12;have P12 := (S12.plain).trans P11;obtain ⟨t13, G13, e13, H13, E13, x13⟩ := H12.bC (o := 0) (a := 0) (b := 0) (ok_one (aZ.1 rfl)) po po po (m := m) po;have M13 := E13.aU;have W13 : Fo [] g G13 := W12.emit E13;have A13 : AI g G13 (3 - 6 * (r : Nat) - 2) 0 2 0 0 := po;clear A12;clear M13;have P13 := (E13.same.2.1).trans P12;simp -implicitDefEqProofs (disch := first|go_size|fail) only [go_sem, H2.fe, H5.fe, e1, e2, e3, l4, e4, e5, e6, e7, e8, e9, e10, e11, e12, e13]
     exact ⟨_, _, rfl, H13, ⟨⟨W13, po, P13, po, po⟩, po⟩⟩
   · -- 2
     obtain ⟨t4, G4, e4, H4, E4⟩ := (bV 2 po).1 m po _ _ H3 po po po;replace e4 : (K m).call 55 [.ptr mb 0, .i 2] _ = _ := e4;have M4 := E4.aU;have W4 : Fo [g.aj, G1.aj] g G4 := W2.emit E4;have A4 : AI g G4 (26 - 10) 2 2 0 0 := po;clear A2;clear M4;have P4 := (E4.same.2.1).trans P2;obtain ⟨k5, t5, e5, k5a, k5b, H5, f5⟩ := H4.take (n := 6) po po (m := m) po;obtain ⟨t6, G6, e6, H6, S6⟩ := H5.cO (153 + k5) g.aj po po po (m := m) po;have M6 := S6.aU;have W6 : Fo [g.aj, G1.aj] g G6 := W4.cO S6 (nK 153 (.inl rfl) k5a k5b) po po;have A6 : AI g G6 (26 - 11) 2 2 0 0 := po;clear A4;clear M6;have P6 := (S6.plain).trans P4;have hd7 : G6.depth = 4 - (r : Nat) := po;obtain ⟨t7, G7, e7, H7, R7⟩ := hsome m po _ _ 2 H6 ⟨po, po, po, po, po, po⟩ hd7 po po;have M7 := R7.aU;have N7 := R7.fo.cnt;simp only [List.length_nil] at N7;have W7 : Fo [g.aj, G1.aj] g G7 := W6.ij R7.fo;have A7 : AI g G7 (3 - 6 * (r : Nat) - 0) 2 2 0 0 := po;clear A6;clear M7;have P7 := (R7.plain).trans P6;clear N7;obtain ⟨t8, G8, e8, H8, S8⟩ := H7.cO (167) G1.aj po po po (m := m) po;have M8 := S8.aU;have W8 : Fo [g.aj, G1.aj] g G8 := W7.cO S8 ⟨po, po, rfl⟩ po po;have A8 : AI g G8 (3 - 6 * (r : Nat) - 1) 2 2 0 0 := po;clear A7;clear M8;have P8 := (S8.plain).trans P7;obtain ⟨t9, G9, e9, H9, S9⟩ := H8.bX g.aj po (m := m) po;have M9 := S9.aU;have W9 : Fo [G1.aj] g G9 := W8.bX S9;have A9 : AI g G9 (3 - 6 * (r : Nat) - 1) 1 2 0 0 := po;clear A8;clear M9;have P9 := (S9.plain).trans P8;have hd10 : G9.depth = 4 - (r : Nat) := po;obtain ⟨t10, G10, e10, H10, R10⟩ := hsome m po _ _ 2 H9 ⟨po, po, po, po, po, po⟩ hd10 po po;have M10 := R10.aU;have N10 := R10.fo.cnt;simp only [List.length_nil] at N10;have W10 : Fo [G1.aj] g G10 := W9.ij R10.fo;have A10 : AI g G10 (3 - 6 * (r : Nat) - 1) 1 2 0 0 := po;clear A9;clear M10;have P10 := (R10.plain).trans P9;clear N10;obtain ⟨t11, G11, e11, H11, S11⟩ := H10.bX G1.aj po (m := m) po;have M11 := S11.aU;have W11 : Fo [] g G11 := W10.bX S11;have A11 : AI g G11 (3 - 6 * (r : Nat) - 1) 0 2 0 0 := po;clear A10;clear M11;have P11 := (S11.plain).trans P10;obtain ⟨t12, G12, e12, H12, E12, x12⟩ := H11.bC (o := 0) (a := 0) (b := 0) (ok_one (aZ.1 rfl)) po po po (m := m) po;have M12 := E12.aU;have W12 : Fo [] g G12 := W11.emit E12;have A12 : AI g G12 (3 - 6 * (r : Nat) - 2) 0 2 0 0 := po;clear A11;clear M12;have P12 := (E12.same.2.1).trans P11;simp -implicitDefEqProofs (disch := first|go_size|fail) only [go_sem, H2.fe, H4.fe, e1, e2, e3, l4, e4, e5, e6, e7, e8, e9, e10, e11, e12]
     exact ⟨_, _, rfl, H12, ⟨⟨W12, po, P12, po, po⟩, po⟩⟩
   · -- 3
     obtain ⟨t4, G4, e4, H4, E4⟩ := (bV 2 po).1 m po _ _ H3 po po po;replace e4 : (K m).call 55 [.ptr mb 0, .i 2] _ = _ := e4;have M4 := E4.aU;have W4 : Fo [g.aj, G1.aj] g G4 := W2.emit E4;have A4 : AI g G4 (26 - 10) 2 2 0 0 := po;clear A2;clear M4;have P4 := (E4.same.2.1).trans P2;obtain ⟨t5, G5, e5, H5, E5⟩ := (bV 2 po).1 m po _ _ H4 po po po;replace e5 : (K m).call 55 [.ptr mb 0, .i 2] _ = _ := e5;have M5 := E5.aU;have W5 : Fo [g.aj, G1.aj] g G5 := W4.emit E5;have A5 : AI g G5 (26 - 20) 2 2 0 0 := po;clear A4;clear M5;have P5 := (E5.same.2.1).trans P4;obtain ⟨k6, t6, e6, k6a, k6b, H6, f6⟩ := H5.take (n := 6) po po (m := m) po;obtain ⟨t7, G7, e7, H7, S7⟩ := H6.cO (159 + k6) g.aj po po po (m := m) po;have M7 := S7.aU;have W7 : Fo [g.aj, G1.aj] g G7 := W5.cO S7 (nK 159 (.inr rfl) k6a k6b) po po;have A7 : AI g G7 (26 - 21) 2 2 0 0 := po;clear A5;clear M7;have P7 := (S7.plain).trans P5;have hd8 : G7.depth = 4 - (r : Nat) := po;obtain ⟨t8, G8, e8, H8, R8⟩ := hsome m po _ _ 2 H7 ⟨po, po, po, po, po, po⟩ hd8 po po;have M8 := R8.aU;have N8 := R8.fo.cnt;simp only [List.length_nil] at N8;have W8 : Fo [g.aj, G1.aj] g G8 := W7.ij R8.fo;have A8 : AI g G8 (3 - 6 * (r : Nat) - 0) 2 2 0 0 := po;clear A7;clear M8;have P8 := (R8.plain).trans P7;clear N8;obtain ⟨t9, G9, e9, H9, S9⟩ := H8.cO (167) G1.aj po po po (m := m) po;have M9 := S9.aU;have W9 : Fo [g.aj, G1.aj] g G9 := W8.cO S9 ⟨po, po, rfl⟩ po po;have A9 : AI g G9 (3 - 6 * (r : Nat) - 1) 2 2 0 0 := po;clear A8;clear M9;have P9 := (S9.plain).trans P8;obtain ⟨t10, G10, e10, H10, S10⟩ := H9.bX g.aj po (m := m) po;have M10 := S10.aU;have W10 : Fo [G1.aj] g G10 := W9.bX S10;have A10 : AI g G10 (3 - 6 * (r : Nat) - 1) 1 2 0 0 := po;clear A9;clear M10;have P10 := (S10.plain).trans P9;have hd11 : G10.depth = 4 - (r : Nat) := po;obtain ⟨t11, G11, e11, H11, R11⟩ := hsome m po _ _ 2 H10 ⟨po, po, po, po, po, po⟩ hd11 po po;have M11 := R11.aU;have N11 := R11.fo.cnt;simp only [List.length_nil] at N11;have W11 : Fo [G1.aj] g G11 := W10.ij R11.fo;have A11 : AI g G11 (3 - 6 * (r : Nat) - 1) 1 2 0 0 := po;clear A10;clear M11;have P11 := (R11.plain).trans P10;clear N11;obtain ⟨t12, G12, e12, H12, S12⟩ := H11.bX G1.aj po (m := m) po;have M12 := S12.aU;have W12 : Fo [] g G12 := W11.bX S12;have A12 : AI g G12 (3 - 6 * (r : Nat) - 1) 0 2 0 0 := po;clear A11;clear M12;have P12 := (S12.plain).trans P11;obtain ⟨t13, G13, e13, H13, E13, x13⟩ := H12.bC (o := 0) (a := 0) (b := 0) (ok_one (aZ.1 rfl)) po po po (m := m) po;have M13 := E13.aU;have W13 : Fo [] g G13 := W12.emit E13;have A13 : AI g G13 (3 - 6 * (r : Nat) - 2) 0 2 0 0 := po;clear A12;clear M13;have P13 := (E13.same.2.1).trans P12;simp -implicitDefEqProofs (disch := first|go_size|fail) only [go_sem, H2.fe, H5.fe, e1, e2, e3, l4, e4, e5, e6, e7, e8, e9, e10, e11, e12, e13]
     exact ⟨_, _, rfl, H13, ⟨⟨W13, po, P13, po, po⟩, po⟩⟩
set_option maxHeartbeats 4000000 in
theorem yR {s0 : St} {mb rb r : Nat} (hr : r ≤ 3) (hsome : p_ s0 mb rb r) : yw s0 mb rb r 90 := by
 intro m0 hm0 s g H hok hdp hlb hlf;obtain ⟨m, rfl⟩ : ∃ m, m0 = m + 1 := ⟨m0 - 1, po⟩;obtain ⟨k1', k2', k3', k4', k5', k6'⟩ := hok;have hc1 : eX 1 = 4 := rfl;have hc2 : eX 2 = 10 := rfl;have hc3 : eX 3 = 22 := rfl;rw [afu];have W0 : Fo [] g g := Fo.refl g;have A0 : AI g g (26 - 0) 0 0 0 0 := po;have P0 : g.plain = g.plain := rfl;obtain ⟨k1, t1, e1, k1a, k1b, H1, f1⟩ := H.take (n := 2) po po (m := m) po;obtain ⟨t2, G2, e2, H2, E2, x2⟩ := H1.bC (o := 25) (a := 4 + k1) (b := 0) (ok_two (by decide) po po) po po po (m := m) po
 have M2 := E2.aU;have W2 : Fo [] g G2 := W0.emit E2;have A2 : AI g G2 (26 - 1) 0 0 0 0 := po;clear A0;clear M2;have P2 := (E2.same.2.1).trans P0;obtain ⟨t3, G3, e3, H3, E3, x3⟩ := H2.bC (o := 194) (a := 0) (b := 0) (ok_one (aZ.1 rfl)) po po po (m := m) po;have M3 := E3.aU;have W3 : Fo [] g G3 := W2.emit E3;have A3 : AI g G3 (26 - 2) 0 0 0 0 := po;clear A2;clear M3;have P3 := (E3.same.2.1).trans P2;have hd4 : G3.depth = 4 - (r : Nat) := po;obtain ⟨t4, G4, e4, H4, R4⟩ := hsome m po _ _ 1 H3 ⟨po, po, po, po, po, po⟩ hd4 po po;have M4 := R4.aU;have N4 := R4.fo.cnt;simp only [List.length_nil] at N4;have W4 : Fo [] g G4 := W3.ij R4.fo;have A4 : AI g G4 (3 - 6 * (r : Nat) - 0) 0 0 0 0 := po;clear A3;clear M4;have P4 := (R4.plain).trans P3;clear N4;obtain ⟨k5, t5, e5, k5a, k5b, H5, f5⟩ := H4.take (n := 4) po po (m := m) po;by_cases hk3 : k5 < 3
 · -- asked
   obtain ⟨t6, G6, e6, H6, E6, x6⟩ := H5.bC (o := 25) (a := 4 + k1) (b := 0) (ok_two (by decide) po po) po po po (m := m) po
   have M6 := E6.aU;have W6 : Fo [] g G6 := W4.emit E6;have A6 : AI g G6 (3 - 6 * (r : Nat) - 1) 0 0 0 0 := po;clear A4;clear M6;have P6 := (E6.same.2.1).trans P4;obtain ⟨o7, a7, b7⟩ : ∃ o : List Nat, [V.str [110, 111, 116, 105, 102, 121], V.str [110, 111, 116, 105, 102, 121, 65, 108, 108], V.str [119, 97, 105, 116]][k5.toNat]? = some (V.str o) ∧ (⟨10, 0, [79, 98, 106, 101, 99, 116], o, [40, 41, 86]⟩ : fc) ∈ lR := by
    have : k5 = 0 ∨ k5 = 1 ∨ k5 = 2 := po;rcases this with rfl | rfl | rfl <;> exact ⟨_, rfl, bU.1 rfl⟩
   obtain ⟨t7, e7, H7, c7, f7⟩ := H6.new (l := [V.str [110, 111, 116, 105, 102, 121], V.str [110, 111, 116, 105, 102, 121, 65, 108, 108], V.str [119, 97, 105, 116]]) (n := 3) rfl;have d7 := aK H7.wf c7 a7;obtain ⟨n8, t8, e8, H8, n8a, n8b⟩ := H7.method (x := [79, 98, 106, 101, 99, 116]) (y := o7) (z := [40, 41, 86]) b7 (m := m) po;obtain ⟨t9, G9, e9, H9, E9, x9⟩ := H8.bC (o := 182) (a := n8) (b := 0) (ok_three (by decide) n8a n8b) po po po (m := m) po
   have M9 := E9.aU;have W9 : Fo [] g G9 := W6.emit E9;have A9 : AI g G9 (3 - 6 * (r : Nat) - 2) 0 0 0 0 := po;clear A6;clear M9;have P9 := (E9.same.2.1).trans P6;obtain ⟨t10, G10, e10, H10, E10, x10⟩ := H9.bC (o := 25) (a := 4 + k1) (b := 0) (ok_two (by decide) po po) po po po (m := m) po
   have M10 := E10.aU;have W10 : Fo [] g G10 := W9.emit E10;have A10 : AI g G10 (3 - 6 * (r : Nat) - 3) 0 0 0 0 := po;clear A9;clear M10;have P10 := (E10.same.2.1).trans P9;obtain ⟨t11, G11, e11, H11, E11, x11⟩ := H10.bC (o := 195) (a := 0) (b := 0) (ok_one (aZ.1 rfl)) po po po (m := m) po;have M11 := E11.aU;have W11 : Fo [] g G11 := W10.emit E11;have A11 : AI g G11 (3 - 6 * (r : Nat) - 4) 0 0 0 0 := po;clear A10;clear M11;have P11 := (E11.same.2.1).trans P10;simp -implicitDefEqProofs (disch := first|go_size|fail) only [go_sem, H.fe, H4.fe, e1, e2, e3, e4, e5, e6, tX, e7, d7, hk3, e8, e9, e10, e11]
   exact ⟨_, _, rfl, H11, ⟨⟨W11, po, P11, po, po⟩, po⟩⟩
 · -- not asked
   obtain ⟨t6, G6, e6, H6, E6, x6⟩ := H5.bC (o := 25) (a := 4 + k1) (b := 0) (ok_two (by decide) po po) po po po (m := m) po
   have M6 := E6.aU;have W6 : Fo [] g G6 := W4.emit E6;have A6 : AI g G6 (3 - 6 * (r : Nat) - 1) 0 0 0 0 := po;clear A4;clear M6;have P6 := (E6.same.2.1).trans P4;obtain ⟨t7, G7, e7, H7, E7, x7⟩ := H6.bC (o := 195) (a := 0) (b := 0) (ok_one (aZ.1 rfl)) po po po (m := m) po;have M7 := E7.aU;have W7 : Fo [] g G7 := W6.emit E7;have A7 : AI g G7 (3 - 6 * (r : Nat) - 2) 0 0 0 0 := po;clear A6;clear M7;have P7 := (E7.same.2.1).trans P6;simp -implicitDefEqProofs (disch := first|go_size|fail) only [go_sem, H.fe, H4.fe, e1, e2, e3, e4, e5, hk3, e6, e7]
   exact ⟨_, _, rfl, H7, ⟨⟨W7, po, P7, po, po⟩, po⟩⟩
set_option maxHeartbeats 4000000 in
theorem aac {s0 : St} {mb rb r : Nat} (hr : r ≤ 3) (hsome : p_ s0 mb rb r) : yw s0 mb rb r 89 := by
 intro m0 hm0 s g H hok hdp hlb hlf;obtain ⟨m, rfl⟩ : ∃ m, m0 = m + 1 := ⟨m0 - 1, po⟩;obtain ⟨k1', k2', k3', k4', k5', k6'⟩ := hok;have hc1 : eX 1 = 4 := rfl;have hc2 : eX 2 = 10 := rfl;have hc3 : eX 3 = 22 := rfl;rw [aga];have W0 : Fo [] g g := Fo.refl g;have A0 : AI g g (26 - 0) 0 0 0 0 := po;have P0 : g.plain = g.plain := rfl;obtain ⟨t1, G1, e1, H1, S1⟩ := H.gM po (m := m) po;have M1 := S1.aU;have l1 := S1.aj;have W1 : Fo [g.aj] g G1 := W0.gM S1;have A1 : AI g G1 (26 - 0) 1 1 0 0 := po;clear A0;clear M1;have P1 := (S1.plain).trans P0;obtain ⟨t2, G2, e2, H2, S2⟩ := H1.gM po (m := m) po;have M2 := S2.aU;have l2 := S2.aj;have W2 : Fo [g.aj, G1.aj] g G2 := W1.gM S2;have A2 : AI g G2 (26 - 0) 2 2 0 0 := po;clear A1;clear M2;have P2 := (S2.plain).trans P1;obtain ⟨t3, G3, e3, H3, S3⟩ := H2.gM po (m := m) po;have M3 := S3.aU;have l3 := S3.aj;have W3 : Fo [g.aj, G1.aj, G2.aj] g G3 := W2.gM S3;have A3 : AI g G3 (26 - 0) 3 3 0 0 := po;clear A2;clear M3;have P3 := (S3.plain).trans P2;obtain ⟨t4, G4, e4, H4, S4⟩ := H3.gM po (m := m) po;have M4 := S4.aU;have l4 := S4.aj;have W4 : Fo [g.aj, G1.aj, G2.aj, G3.aj] g G4 := W3.gM S4;have A4 : AI g G4 (26 - 0) 4 4 0 0 := po;clear A3;clear M4;have P4 := (S4.plain).trans P3;obtain ⟨t5, G5, e5, H5, S5⟩ := H4.bX g.aj po (m := m) po;have M5 := S5.aU;have W5 : Fo [G1.aj, G2.aj, G3.aj] g G5 := W4.bX S5;have A5 : AI g G5 (26 - 0) 3 4 0 0 := po;clear A4;clear M5;have P5 := (S5.plain).trans P4;obtain ⟨t6, G6, e6, H6, E6, x6⟩ := H5.bC (o := 0) (a := 0) (b := 0) (ok_one (aZ.1 rfl)) po po po (m := m) po;have M6 := E6.aU;have W6 : Fo [G1.aj, G2.aj, G3.aj] g G6 := W5.emit E6;have A6 : AI g G6 (26 - 1) 3 4 0 0 := po;clear A5;clear M6;have P6 := (E6.same.2.1).trans P5;have hd7 : G6.depth = 4 - (r : Nat) := po;obtain ⟨t7, G7, e7, H7, R7⟩ := hsome m po _ _ 2 H6 ⟨po, po, po, po, po, po⟩ hd7 po po;have M7 := R7.aU;have N7 := R7.fo.cnt;simp only [List.length_nil] at N7;have W7 : Fo [G1.aj, G2.aj, G3.aj] g G7 := W6.ij R7.fo;have A7 : AI g G7 (3 - 6 * (r : Nat) - 0) 3 4 0 0 := po;clear A6;clear M7;have P7 := (R7.plain).trans P6;clear N7;obtain ⟨t8, G8, e8, H8, S8⟩ := H7.bX G1.aj po (m := m) po;have M8 := S8.aU;have W8 : Fo [G2.aj, G3.aj] g G8 := W7.bX S8;have A8 : AI g G8 (3 - 6 * (r : Nat) - 0) 2 4 0 0 := po;clear A7;clear M8;have P8 := (S8.plain).trans P7;obtain ⟨t9, G9, e9, H9, S9⟩ := H8.cO (167) G3.aj po po po (m := m) po;have M9 := S9.aU;have W9 : Fo [G2.aj, G3.aj] g G9 := W8.cO S9 ⟨po, po, rfl⟩ po po;have A9 : AI g G9 (3 - 6 * (r : Nat) - 1) 2 4 0 0 := po;clear A8;clear M9;have P9 := (S9.plain).trans P8;obtain ⟨t10, G10, e10, H10, S10⟩ := H9.bX G2.aj po (m := m) po;have M10 := S10.aU;have W10 : Fo [G3.aj] g G10 := W9.bX S10;have A10 : AI g G10 (3 - 6 * (r : Nat) - 1) 1 4 0 0 := po;clear A9;clear M10;have P10 := (S10.plain).trans P9;obtain ⟨tv11, ta11, va11, tb11, t11, ea11, eb11, ec11, ed11, H11⟩ := H10.vL G2.aj po;have W11 : Fo [G3.aj] g _ := W10.vL G2.aj po;generalize hG11 : ({ G10 with th := G10.th ++ [G2.aj] } : G) = G11 at H11 W11
 have M11 : G11.aj = G10.aj ∧ G11.left = G10.left ∧ G11.ls.length = G10.ls.length ∧ G11.hs.length = G10.hs.length ∧ G11.th.length = G10.th.length + 1 ∧ G11.depth = G10.depth := by subst hG11; exact ⟨rfl, rfl, rfl, rfl, pm, rfl⟩
 have Q11 : G11.ls = G10.ls := by subst hG11; rfl
 have P11 : G11.plain = g.plain := by subst hG11; exact P10
 have A11 : AI g G11 (3 - 6 * (r : Nat) - 1) 1 4 0 1 := po;clear A10;clear M11;obtain ⟨t12, G12, e12, H12, E12, x12⟩ := H11.bC (o := 58) (a := 7) (b := 0) (ok_two (by decide) po po) po po po (m := m) po
 have M12 := E12.aU;have W12 : Fo [G3.aj] g G12 := W11.emit E12;have A12 : AI g G12 (3 - 6 * (r : Nat) - 2) 1 4 0 1 := po;clear A11;clear M12;have P12 := (E12.same.2.1).trans P11;obtain ⟨tv13, ta13, va13, tb13, t13, ea13, eb13, ec13, ed13, H13⟩ := H12.handler (g.aj, G1.aj, G2.aj) po;have hH13 : YS G12.ls (g.aj, G1.aj, G2.aj) := by
  obtain ⟨x1', q1'⟩ := R7.fo.pre;obtain ⟨x2', ⟨q2', _, q3'⟩⟩ := E12.ex;obtain ⟨x3', q4', _, q5'⟩ := E6.ex;have hne : x3' ≠ [] := fun h => by have := congrArg G.left q5'; subst h; simp at this; omega
  refine ⟨G4.ls, x3' ++ x1', [.jmp 167 G3.aj, .here G2.aj] ++ x2', ?_, ?_⟩
  · rw [q3']; show G11.ls ++ x2' = _;rw [Q11, S10.ls, S9.ls, S8.ls, q1', q5']; show (((((G5.ls ++ x3') ++ x1') ++ [L.here G1.aj]) ++ [L.jmp 167 G3.aj]) ++ [L.here G2.aj]) ++ x2' = _;rw [S5.ls]; simp only [List.append_assoc, List.cons_append, List.nil_append]
  · obtain ⟨y, hy⟩ := List.exists_mem_of_ne_nil _ hne;obtain ⟨_, o', a', b', rfl⟩ := q4' y hy;exact ⟨_, List.mem_append_left _ hy, rfl⟩
 have W13 : Fo [G3.aj] g _ := W12.handler hH13 (by show g.aj ≤ G2.aj; omega) (by show G2.aj < _; omega) po
 generalize hG13 : ({ G12 with hs := G12.hs ++ [(g.aj, G1.aj, G2.aj)] } : G) = G13 at H13 W13
 have M13 : G13.aj = G12.aj ∧ G13.left = G12.left ∧ G13.ls.length = G12.ls.length ∧ G13.hs.length = G12.hs.length + 1 ∧ G13.th.length = G12.th.length ∧ G13.depth = G12.depth := by subst hG13; exact ⟨rfl, rfl, rfl, pm, rfl, rfl⟩
 have P13 : G13.plain = g.plain := by subst hG13; exact P12
 replace eb13 : St.new _ (.cells 3 (cK [V.i (g.aj : Nat), .i (G1.aj : Nat), .i (G2.aj : Nat)])) = _ := eb13;have A13 : AI g G13 (3 - 6 * (r : Nat) - 2) 1 4 1 1 := po;clear A12;clear M13;have hd14 : G13.depth = 4 - (r : Nat) := po;obtain ⟨t14, G14, e14, H14, R14⟩ := hsome m po _ _ 1 H13 ⟨po, po, po, po, po, po⟩ hd14 po po;have M14 := R14.aU;have N14 := R14.fo.cnt;simp only [List.length_nil] at N14;have W14 : Fo [G3.aj] g G14 := W13.ij R14.fo;have A14 : AI g G14 (3 - 6 * (r : Nat) - 2) 1 4 1 1 := po;clear A13;clear M14;have P14 := (R14.plain).trans P13;clear N14;obtain ⟨wO, t15, e15, k15a, k15b, H15, f15⟩ := H14.take (n := 4) po po (m := m) po;by_cases hk0 : wO = 0
 · -- again
   obtain ⟨t16, G16, jV, H16, E16, x16⟩ := H15.bC (o := 25) (a := 7) (b := 0) (ok_two (by decide) po po) po po po (m := m) po
   have M16 := E16.aU;have W16 : Fo [G3.aj] g G16 := W14.emit E16;have A16 : AI g G16 (3 - 6 * (r : Nat) - 3) 1 4 1 1 := po;clear A14;clear M16;have P16 := (E16.same.2.1).trans P14;obtain ⟨t17, G17, e17, H17, E17, x17⟩ := H16.bC (o := 191) (a := 0) (b := 0) (ok_one (aZ.1 rfl)) po po po (m := m) po;have M17 := E17.aU;have W17 : Fo [G3.aj] g G17 := W16.emit E17;have A17 : AI g G17 (3 - 6 * (r : Nat) - 4) 1 4 1 1 := po;clear A16;clear M17;have P17 := (E17.same.2.1).trans P16;obtain ⟨t18, G18, e18, H18, S18⟩ := H17.bX G3.aj po (m := m) po;have M18 := S18.aU;have W18 : Fo [] g G18 := W17.bX S18;have A18 : AI g G18 (3 - 6 * (r : Nat) - 4) 0 4 1 1 := po;clear A17;clear M18;have P18 := (S18.plain).trans P17;obtain ⟨t19, G19, e19, H19, E19, x19⟩ := H18.bC (o := 0) (a := 0) (b := 0) (ok_one (aZ.1 rfl)) po po po (m := m) po;have M19 := E19.aU;have W19 : Fo [] g G19 := W18.emit E19;have A19 : AI g G19 (3 - 6 * (r : Nat) - 5) 0 4 1 1 := po;clear A18;clear M19;have P19 := (E19.same.2.1).trans P18;simp -implicitDefEqProofs (disch := first|go_size|fail) only [go_sem, H14.fe, e1, e2, e3, e4, e5, e6, e7, e8, e9, e10, ea11, jk, eb11, ec11, ed11, e12, vC, dQ, ea13, eb13, ec13, ed13, e14, e15, hk0, jV, e17, e18, e19]
   exact ⟨_, _, rfl, H19, ⟨⟨W19, po, P19, po, po⟩, po⟩⟩
 · -- not again
   obtain ⟨t16, G16, jV, H16, S16⟩ := H15.bX G3.aj po (m := m) po;have M16 := S16.aU;have W16 : Fo [] g G16 := W14.bX S16;have A16 : AI g G16 (3 - 6 * (r : Nat) - 2) 0 4 1 1 := po;clear A14;clear M16;have P16 := (S16.plain).trans P14;obtain ⟨t17, G17, e17, H17, E17, x17⟩ := H16.bC (o := 0) (a := 0) (b := 0) (ok_one (aZ.1 rfl)) po po po (m := m) po;have M17 := E17.aU;have W17 : Fo [] g G17 := W16.emit E17;have A17 : AI g G17 (3 - 6 * (r : Nat) - 3) 0 4 1 1 := po;clear A16;clear M17;have P17 := (E17.same.2.1).trans P16;simp -implicitDefEqProofs (disch := first|go_size|fail) only [go_sem, H14.fe, e1, e2, e3, e4, e5, e6, e7, e8, e9, e10, ea11, jk, eb11, ec11, ed11, e12, vC, dQ, ea13, eb13, ec13, ed13, e14, e15, hk0, jV, e17]
   exact ⟨_, _, rfl, H17, ⟨⟨W17, po, P17, po, po⟩, po⟩⟩
theorem uD (id : Nat) : eS 3 1 [V.str [], V.str [], V.str []] [(0, 1, V.str [73, 110, 100, 101, 120]), (1, 1, V.str [84, 104, 114, 111, 119, 97, 98, 108, 101]), (2, 1, V.str [67, 97, 115, 116])] id = some (.slice id 0 3 (some 3) 1, .cells 3 (cK [V.str [73, 110, 100, 101, 120], V.str [84, 104, 114, 111, 119, 97, 98, 108, 101], V.str [67, 97, 115, 116]])) := (rfl)
def QA (s0 : St) (mb rb r : Nat) : Prop := ∀ m, 12 + 4 * r ≤ m → ∀ s g, MK s0 s mb rb g → Ok g → g.depth = 4 - (r : Nat) → 25 < g.left → ∃ t g', (K m).call 72 [.ptr mb 0] s = some (.bH [], t) ∧ MK s0 t mb rb g' ∧ QG (3 - 6 * (r : Nat)) g g'
theorem fh {r c : Nat} {g G0 G1 : G} (h0 : G0 = { g with depth := g.depth + 1 }) (hE : aW c G0 G1) (hc : c ≤ 23) (hok : Ok g) (hlf : 25 < g.left) : QG (3 - 6 * (r : Nat)) g { G1 with depth := G1.depth - 1 } := by
 subst h0;obtain ⟨a, _, _, a1, a2, _, _, a3⟩ := hE.aU;have b := hE.same;have hl := hok.2.1;replace a : G1.aj = g.aj := a;replace a1 : g.left - c ≤ G1.left := a1;replace a2 : G1.left ≤ g.left := a2;replace a3 : G1.depth = g.depth + 1 := a3;exact ⟨⟨((Fo.eq (g2 := { g with depth := g.depth + 1 }) (Fo.refl g) rfl rfl rfl rfl rfl).emit hE).eq rfl rfl rfl rfl rfl, by show G1.depth - 1 = g.depth; omega, b.2.1, by show G1.aj ≤ 54; omega, a2⟩, by show _ ≤ G1.left; omega⟩
theorem mL {r r' : Nat} {g G0 G1 : G} (h0 : G0 = { g with depth := g.depth + 1 }) (hR : QG (3 - 6 * (r' : Nat) - 6) G0 G1) (hr : r = r' + 1) : QG (3 - 6 * (r : Nat)) g { G1 with depth := G1.depth - 1 } := by
 subst h0 hr;obtain ⟨⟨a, b, c, d, e⟩, f⟩ := hR;replace b : G1.depth = g.depth + 1 := b;exact ⟨⟨((Fo.eq (g2 := { g with depth := g.depth + 1 }) (Fo.refl g) rfl rfl rfl rfl rfl).ij a).eq rfl rfl rfl rfl rfl, by show G1.depth - 1 = g.depth; omega, c, d, e⟩, by show _ ≤ G1.left; omega⟩
set_option maxHeartbeats 4000000 in
theorem qP {s0 : St} {mb rb r : Nat} (hr : r ≤ 4) (ih : ∀ r', r = r' + 1 → p_ s0 mb rb r') : QA s0 mb rb r := by
 intro m0 hm0 s g H hok hdp hlf;obtain ⟨m, rfl⟩ : ∃ m, m0 = m + 1 := ⟨m0 - 1, po⟩;have hok' := hok;obtain ⟨k1', k2', k3', k4', k5', k6'⟩ := hok';have hc1 : eX 1 = 4 := rfl;have hc2 : eX 2 = 10 := rfl;have hc3 : eX 3 = 22 := rfl;obtain ⟨k0, t, ee, kk0, kk1, HA, ff⟩ := H.take (n := 16) po po (m := m) po;obtain ⟨t0, G0, ed, HB, hG0⟩ := HA.depth' (g.depth + 1);have M0 : G0.aj = g.aj ∧ G0.left = g.left ∧ G0.ls.length = g.ls.length ∧ G0.hs.length = g.hs.length ∧ G0.th.length = g.th.length ∧ G0.depth = g.depth + 1 := by subst hG0; exact ⟨rfl, rfl, rfl, rfl, rfl, rfl⟩
 have sw : ∀ (e : E) (k : Int), 0 ≤ k → k < 16 → (4 < g.depth + 1 ∨ 50 < g.aj → k < 2) → e.a0.a0 = .ptr mb 0 → e.a0.a2 = .i k → dg (aV (aL []) (dP (K m) e t0)) fun x t' => x = .bH [] ∧ ∃ g', MK s0 t' mb rb g' ∧ QG (3 - 6 * (r : Nat)) g g' := by
  intro e k hk0 hk1 hkd i0 i2;have hk : k = 0 ∨ k = 1 ∨ k = 2 ∨ k = 3 ∨ k = 4 ∨ k = 5 ∨ k = 6 ∨ k = 7 ∨ k = 8 ∨ k = 9 ∨ k = 10 ∨ k = 11 ∨ k = 12 ∨ k = 13 ∨ k = 14 ∨ k = 15 := po;rcases hk with rfl | rfl | rfl | rfl | rfl | rfl | rfl | rfl | rfl | rfl | rfl | rfl | rfl | rfl | rfl | rfl
  · -- 0
    obtain ⟨t1, G1, e1, H1, E1⟩ := (bV 3 po).1 m po _ _ HB po po po;replace e1 : (K m).call 55 [.ptr mb 0, .i 3] _ = _ := e1;have C1 := (aW.refl G0).trans E1 (Nat.le_refl _);have L1 := C1.len;obtain ⟨k2, t2, e2, k2a, k2b, H2, f2⟩ := H1.take (n := 4) po po (m := m) po;obtain ⟨t3, G3, e3, H3, E3, x3⟩ := H2.bC (o := 54) (a := k2) (b := 0) (ok_two (by decide) k2a po) po po po (m := m) po
    have C3 := C1.trans E3 (Nat.le_refl _);have L3 := C3.len;have zq := C3.aU;obtain ⟨tz, Gz, ez, Hz, hz⟩ := H3.depth' (G3.depth - 1);simp -implicitDefEqProofs (disch := first|go_size|fail) only [go_sem, ↓dP.eq_1, ↓eW.eq_1, i0, i2, H1.fe, e1, e2, e3, H3.tW, ez]
    exact ⟨pt, _, Hz, by subst hz; exact fh hG0 C3 po hok hlf⟩
  · -- 1
    obtain ⟨k1, t1, e1, k1a, k1b, H1, f1⟩ := HB.take (n := 4) po po (m := m) po;obtain ⟨k2, t2, e2, k2a, k2b, H2, f2⟩ := H1.take (n := 9) po po (m := m) po;obtain ⟨t3, G3, e3, H3, E3, x3⟩ := H2.bC (o := 132) (a := k1) (b := k2 - 4) (Nr k1a po po po) po po po (m := m) po;have C3 := (aW.refl G0).trans E3 (Nat.le_refl _);have L3 := C3.len;have zq := C3.aU;obtain ⟨tz, Gz, ez, Hz, hz⟩ := H3.depth' (G3.depth - 1);simp -implicitDefEqProofs (disch := first|go_size|fail) only [go_sem, ↓dP.eq_1, ↓eW.eq_1, i0, i2, HB.fe, H1.fe, HB.fe, H1.fe, H2.fe, e1, e2, e3, H3.tW, ez]
    exact ⟨pt, _, Hz, by subst hz; exact fh hG0 C3 po hok hlf⟩
  · -- 2
    have hrr : r ≠ 0 := fun h => by have := hkd (.inl po); omega
    obtain ⟨r', hr'⟩ : ∃ r', r = r' + 1 := ⟨r - 1, po⟩;have hlab : ¬ 50 < g.aj := fun h => by have := hkd (.inr h); omega
    have hdd : G0.depth = 4 - (r' : Nat) := po;obtain ⟨t1, G1, e1, H1, R1⟩ := ze po (ih r' hr') m po _ _ HB ⟨po, po, po, po, po, po⟩ hdd po po;have zq := R1.toRs.aU;obtain ⟨tz, Gz, ez, Hz, hz⟩ := H1.depth' (G1.depth - 1);simp -implicitDefEqProofs (disch := first|go_size|fail) only [go_sem, ↓dP.eq_1, ↓eW.eq_1, i0, i2, e1, H1.tW, ez]
    exact ⟨pt, _, Hz, by subst hz; exact mL hG0 R1 hr'⟩
  · -- 3
    have hrr : r ≠ 0 := fun h => by have := hkd (.inl po); omega
    obtain ⟨r', hr'⟩ : ∃ r', r = r' + 1 := ⟨r - 1, po⟩;have hlab : ¬ 50 < g.aj := fun h => by have := hkd (.inr h); omega
    have hdd : G0.depth = 4 - (r' : Nat) := po;obtain ⟨t1, G1, e1, H1, R1⟩ := PG po (ih r' hr') m po _ _ HB ⟨po, po, po, po, po, po⟩ hdd po po;have zq := R1.toRs.aU;obtain ⟨tz, Gz, ez, Hz, hz⟩ := H1.depth' (G1.depth - 1);simp -implicitDefEqProofs (disch := first|go_size|fail) only [go_sem, ↓dP.eq_1, ↓eW.eq_1, i0, i2, e1, H1.tW, ez]
    exact ⟨pt, _, Hz, by subst hz; exact mL hG0 R1 hr'⟩
  · -- 4
    obtain ⟨t1, G1, e1, H1, E1⟩ := (bV 2 po).1 m po _ _ HB po po po;replace e1 : (K m).call 55 [.ptr mb 0, .i 2] _ = _ := e1;have C1 := (aW.refl G0).trans E1 (Nat.le_refl _);have L1 := C1.len;obtain ⟨t2, G2, e2, H2, E2, x2⟩ := H1.bC (o := 89) (a := 0) (b := 0) (ok_one (aZ.1 rfl)) po po po (m := m) po;have C2 := C1.trans E2 (Nat.le_refl _);have L2 := C2.len;obtain ⟨t3, G3, e3, H3, E3, x3⟩ := H2.bC (o := 95) (a := 0) (b := 0) (ok_one (aZ.1 rfl)) po po po (m := m) po;have C3 := C2.trans E3 (Nat.le_refl _);have L3 := C3.len;obtain ⟨t4, G4, e4, H4, E4, x4⟩ := H3.bC (o := 87) (a := 0) (b := 0) (ok_one (aZ.1 rfl)) po po po (m := m) po;have C4 := C3.trans E4 (Nat.le_refl _);have L4 := C4.len;obtain ⟨k5, t5, e5, k5a, k5b, H5, f5⟩ := H4.take (n := 4) po po (m := m) po;obtain ⟨t6, G6, e6, H6, E6, x6⟩ := H5.bC (o := 54) (a := k5) (b := 0) (ok_two (by decide) k5a po) po po po (m := m) po
    have C6 := C4.trans E6 (Nat.le_refl _);have L6 := C6.len;have zq := C6.aU;obtain ⟨tz, Gz, ez, Hz, hz⟩ := H6.depth' (G6.depth - 1);simp -implicitDefEqProofs (disch := first|go_size|fail) only [go_sem, ↓dP.eq_1, ↓eW.eq_1, i0, i2, H4.fe, e1, e2, e3, e4, e5, e6, H6.tW, ez]
    exact ⟨pt, _, Hz, by subst hz; exact fh hG0 C6 po hok hlf⟩
  · -- 5
    obtain ⟨t1, G1, e1, H1, E1⟩ := (bV 3 po).1 m po _ _ HB po po po;replace e1 : (K m).call 55 [.ptr mb 0, .i 3] _ = _ := e1;have C1 := (aW.refl G0).trans E1 (Nat.le_refl _);have L1 := C1.len;obtain ⟨n2, t2, e2, H2, n2a, n2b⟩ := H1.method (x := [83, 121, 115, 116, 101, 109]) (y := [112, 114, 105, 110, 116]) (z := [40, 73, 41, 86]) (bU.1 rfl) (m := m) po;obtain ⟨t3, G3, e3, H3, E3, x3⟩ := H2.bC (o := 184) (a := n2) (b := 0) (ok_three (by decide) n2a n2b) po po po (m := m) po
    have C3 := C1.trans E3 (Nat.le_refl _);have L3 := C3.len;have zq := C3.aU;obtain ⟨tz, Gz, ez, Hz, hz⟩ := H3.depth' (G3.depth - 1);simp -implicitDefEqProofs (disch := first|go_size|fail) only [go_sem, ↓dP.eq_1, ↓eW.eq_1, i0, i2, e1, e2, e3, H3.tW, ez]
    exact ⟨pt, _, Hz, by subst hz; exact fh hG0 C3 po hok hlf⟩
  · -- 6
    obtain ⟨t1, G1, e1, H1, E1⟩ := (bV 3 po).1 m po _ _ HB po po po;replace e1 : (K m).call 55 [.ptr mb 0, .i 3] _ = _ := e1;have C1 := (aW.refl G0).trans E1 (Nat.le_refl _);have L1 := C1.len;obtain ⟨n2, t2, e2, H2, n2a, n2b⟩ := H1.method (x := [83, 121, 115, 116, 101, 109]) (y := [112, 114, 105, 110, 116]) (z := [40, 73, 41, 86]) (bU.1 rfl) (m := m) po;obtain ⟨t3, G3, e3, H3, E3, x3⟩ := H2.bC (o := 184) (a := n2) (b := 0) (ok_three (by decide) n2a n2b) po po po (m := m) po
    have C3 := C1.trans E3 (Nat.le_refl _);have L3 := C3.len;have zq := C3.aU;obtain ⟨tz, Gz, ez, Hz, hz⟩ := H3.depth' (G3.depth - 1);simp -implicitDefEqProofs (disch := first|go_size|fail) only [go_sem, ↓dP.eq_1, ↓eW.eq_1, i0, i2, e1, e2, e3, H3.tW, ez]
    exact ⟨pt, _, Hz, by subst hz; exact fh hG0 C3 po hok hlf⟩
  · -- 7
    obtain ⟨t1, G1, e1, H1, E1⟩ := (bV 3 po).2 m po _ _ HB po po po;replace e1 : (K m).call 74 [.ptr mb 0, .i 3] _ = _ := e1;have C1 := (aW.refl G0).trans E1 (Nat.le_refl _);have L1 := C1.len;obtain ⟨k2, t2, e2, k2a, k2b, H2, f2⟩ := H1.take (n := 2) po po (m := m) po;obtain ⟨t3, G3, e3, H3, E3, x3⟩ := H2.bC (o := 58) (a := 4 + k2) (b := 0) (ok_two (by decide) po po) po po po (m := m) po
    have C3 := C1.trans E3 (Nat.le_refl _);have L3 := C3.len;have zq := C3.aU;obtain ⟨tz, Gz, ez, Hz, hz⟩ := H3.depth' (G3.depth - 1);simp -implicitDefEqProofs (disch := first|go_size|fail) only [go_sem, ↓dP.eq_1, ↓eW.eq_1, i0, i2, H1.fe, e1, e2, e3, H3.tW, ez]
    exact ⟨pt, _, Hz, by subst hz; exact fh hG0 C3 po hok hlf⟩
  · -- 8
    obtain ⟨t1, G1, e1, H1, E1⟩ := (bV 2 po).2 m po _ _ HB po po po;replace e1 : (K m).call 74 [.ptr mb 0, .i 2] _ = _ := e1;have C1 := (aW.refl G0).trans E1 (Nat.le_refl _);have L1 := C1.len;obtain ⟨t2, G2, e2, H2, E2⟩ := (bV 2 po).1 m po _ _ H1 po po po;replace e2 : (K m).call 55 [.ptr mb 0, .i 2] _ = _ := e2;have C2 := C1.trans E2 (Nat.le_refl _);have L2 := C2.len;obtain ⟨n3, t3, e3, H3, n3a, n3b⟩ := H2.field (x := [65]) (y := [120]) (z := [73]) (bU.1 rfl) (m := m) po;obtain ⟨t4, G4, e4, H4, E4, x4⟩ := H3.bC (o := 181) (a := n3) (b := 0) (ok_three (by decide) n3a n3b) po po po (m := m) po
    have C4 := C2.trans E4 (Nat.le_refl _);have L4 := C4.len;have zq := C4.aU;obtain ⟨tz, Gz, ez, Hz, hz⟩ := H4.depth' (G4.depth - 1);simp -implicitDefEqProofs (disch := first|go_size|fail) only [go_sem, ↓dP.eq_1, ↓eW.eq_1, i0, i2, e1, e2, e3, e4, H4.tW, ez]
    exact ⟨pt, _, Hz, by subst hz; exact fh hG0 C4 po hok hlf⟩
  · -- 9
    obtain ⟨t1, G1, e1, H1, E1⟩ := (bV 1 po).2 m po _ _ HB po po po;replace e1 : (K m).call 74 [.ptr mb 0, .i 1] _ = _ := e1;have C1 := (aW.refl G0).trans E1 (Nat.le_refl _);have L1 := C1.len;obtain ⟨t2, G2, e2, H2, E2⟩ := (bV 2 po).2 m po _ _ H1 po po po;replace e2 : (K m).call 74 [.ptr mb 0, .i 2] _ = _ := e2;have C2 := C1.trans E2 (Nat.le_refl _);have L2 := C2.len;obtain ⟨n3, t3, e3, H3, n3a, n3b⟩ := H2.field (x := [65]) (y := [110, 101, 120, 116]) (z := [76, 65, 59]) (bU.1 rfl) (m := m) po;obtain ⟨t4, G4, e4, H4, E4, x4⟩ := H3.bC (o := 181) (a := n3) (b := 0) (ok_three (by decide) n3a n3b) po po po (m := m) po
    have C4 := C2.trans E4 (Nat.le_refl _);have L4 := C4.len;have zq := C4.aU;obtain ⟨tz, Gz, ez, Hz, hz⟩ := H4.depth' (G4.depth - 1);simp -implicitDefEqProofs (disch := first|go_size|fail) only [go_sem, ↓dP.eq_1, ↓eW.eq_1, i0, i2, e1, e2, e3, e4, H4.tW, ez]
    exact ⟨pt, _, Hz, by subst hz; exact fh hG0 C4 po hok hlf⟩
  · -- 10
    obtain ⟨t1, G1, e1, H1, E1⟩ := (bV 2 po).2 m po _ _ HB po po po;replace e1 : (K m).call 74 [.ptr mb 0, .i 2] _ = _ := e1;have C1 := (aW.refl G0).trans E1 (Nat.le_refl _);have L1 := C1.len;obtain ⟨n2, t2, e2, H2, n2a, n2b⟩ := H1.field (x := [65]) (y := [114]) (z := [76, 65, 59]) (bU.1 rfl) (m := m) po;obtain ⟨t3, G3, e3, H3, E3, x3⟩ := H2.bC (o := 179) (a := n2) (b := 0) (ok_three (by decide) n2a n2b) po po po (m := m) po
    have C3 := C1.trans E3 (Nat.le_refl _);have L3 := C3.len;have zq := C3.aU;obtain ⟨tz, Gz, ez, Hz, hz⟩ := H3.depth' (G3.depth - 1);simp -implicitDefEqProofs (disch := first|go_size|fail) only [go_sem, ↓dP.eq_1, ↓eW.eq_1, i0, i2, e1, e2, e3, H3.tW, ez]
    exact ⟨pt, _, Hz, by subst hz; exact fh hG0 C3 po hok hlf⟩
  · -- 11
    obtain ⟨t1, G1, e1, H1, E1⟩ := yH m po _ _ HB ⟨po, po, po, po, po, po⟩ po;have C1 := (aW.refl G0).trans E1 (Nat.le_refl _);have L1 := C1.len;have zq := C1.aU;obtain ⟨tz, Gz, ez, Hz, hz⟩ := H1.depth' (G1.depth - 1);simp -implicitDefEqProofs (disch := first|go_size|fail) only [go_sem, ↓dP.eq_1, ↓eW.eq_1, i0, i2, e1, H1.tW, ez]
    exact ⟨pt, _, Hz, by subst hz; exact fh hG0 C1 po hok hlf⟩
  · -- 12
    have hrr : r ≠ 0 := fun h => by have := hkd (.inl po); omega
    obtain ⟨r', hr'⟩ : ∃ r', r = r' + 1 := ⟨r - 1, po⟩;have hlab : ¬ 50 < g.aj := fun h => by have := hkd (.inr h); omega
    have hdd : G0.depth = 4 - (r' : Nat) := po;obtain ⟨t1, G1, e1, H1, R1⟩ := aac po (ih r' hr') m po _ _ HB ⟨po, po, po, po, po, po⟩ hdd po po;have zq := R1.toRs.aU;obtain ⟨tz, Gz, ez, Hz, hz⟩ := H1.depth' (G1.depth - 1);simp -implicitDefEqProofs (disch := first|go_size|fail) only [go_sem, ↓dP.eq_1, ↓eW.eq_1, i0, i2, e1, H1.tW, ez]
    exact ⟨pt, _, Hz, by subst hz; exact mL hG0 R1 hr'⟩
  · -- 13
    have hrr : r ≠ 0 := fun h => by have := hkd (.inl po); omega
    obtain ⟨r', hr'⟩ : ∃ r', r = r' + 1 := ⟨r - 1, po⟩;have hlab : ¬ 50 < g.aj := fun h => by have := hkd (.inr h); omega
    have hdd : G0.depth = 4 - (r' : Nat) := po;obtain ⟨t1, G1, e1, H1, R1⟩ := yR po (ih r' hr') m po _ _ HB ⟨po, po, po, po, po, po⟩ hdd po po;have zq := R1.toRs.aU;obtain ⟨tz, Gz, ez, Hz, hz⟩ := H1.depth' (G1.depth - 1);simp -implicitDefEqProofs (disch := first|go_size|fail) only [go_sem, ↓dP.eq_1, ↓eW.eq_1, i0, i2, e1, H1.tW, ez]
    exact ⟨pt, _, Hz, by subst hz; exact mL hG0 R1 hr'⟩
  · -- 14
    obtain ⟨t1, G1, e1, H1, E1⟩ := vJ m po _ _ HB ⟨po, po, po, po, po, po⟩ po;have C1 := (aW.refl G0).trans E1 (Nat.le_refl _);have L1 := C1.len;have zq := C1.aU;obtain ⟨tz, Gz, ez, Hz, hz⟩ := H1.depth' (G1.depth - 1);simp -implicitDefEqProofs (disch := first|go_size|fail) only [go_sem, ↓dP.eq_1, ↓eW.eq_1, i0, i2, e1, H1.tW, ez]
    exact ⟨pt, _, Hz, by subst hz; exact fh hG0 C1 po hok hlf⟩
  · -- 15
    obtain ⟨t1, e1, H1, c1, f1⟩ := HB.new (l := [V.str [73, 110, 100, 101, 120], V.str [84, 104, 114, 111, 119, 97, 98, 108, 101], V.str [67, 97, 115, 116]]) (n := 3) rfl;obtain ⟨k2, t2, e2, k2a, k2b, H2, f2⟩ := H1.take (n := 3) po po (m := m) po;have r2 := f2.cl H1.wf c1 (by have := HB.fr.nx; have := HB.hrb; simp; omega)
    obtain ⟨o2, a2, b2⟩ : ∃ o : List Nat, [V.str [73, 110, 100, 101, 120], V.str [84, 104, 114, 111, 119, 97, 98, 108, 101], V.str [67, 97, 115, 116]][k2.toNat]? = some (V.str o) ∧ (⟨7, 0, o, [], []⟩ : fc) ∈ lR := by
     have : k2 = 0 ∨ k2 = 1 ∨ k2 = 2 := po;rcases this with rfl | rfl | rfl <;> exact ⟨_, rfl, bU.1 rfl⟩
    have d2 := aK H2.wf r2 a2;obtain ⟨n3, t3, e3, H3, n3a, n3b⟩ := H2.class (x := o2) b2 (m := m) po;obtain ⟨t4, G4, e4, H4, E4, x4⟩ := H3.bC (o := 187) (a := n3) (b := 0) (ok_three (by decide) n3a n3b) po po po (m := m) po
    have C4 := (aW.refl G0).trans E4 (Nat.le_refl _);have L4 := C4.len;obtain ⟨t5, G5, e5, H5, E5, x5⟩ := H4.bC (o := 58) (a := 7) (b := 0) (ok_two (by decide) po po) po po po (m := m) po
    have C5 := C4.trans E5 (Nat.le_refl _);have L5 := C5.len;have zq := C5.aU;obtain ⟨tz, Gz, ez, Hz, hz⟩ := H5.depth' (G5.depth - 1);simp -implicitDefEqProofs (disch := first|go_size|fail) only [go_sem, ↓dP.eq_1, ↓eW.eq_1, i0, i2, H1.fe, uD, e1, e2, d2, e3, e4, e5, H5.tW, ez]
    exact ⟨pt, _, Hz, by subst hz; exact fh hG0 C5 po hok hlf⟩
 suffices key : dg ((K (m + 1)).call 72 [.ptr mb 0] s) fun x t' => x = .bH [] ∧ ∃ g', MK s0 t' mb rb g' ∧ QG (3 - 6 * (r : Nat)) g g' by
  obtain ⟨x, t', e1, rfl, g', h1, h2⟩ := key;exact ⟨t', g', e1, h1, h2⟩
 rw [afI];have l6 := HB.tW;rw [M0.2.2.2.2.2] at l6;have l3 := HB.Sz;rw [M0.1] at l3;have fin : ∀ (e : E) (k : Int), 0 ≤ k → k < 16 → e.a0.a0 = .ptr mb 0 → e.a0.a2 = .i k → dg (aV (aL []) (eW (K m) e t0)) fun x t' => x = .bH [] ∧ ∃ g', MK s0 t' mb rb g' ∧ QG (3 - 6 * (r : Nat)) g g' := by
  intro e k hk0 hk1 i0 i2;have hmod := uw (n := 2) hk0 po;by_cases c1 : 4 < g.depth + 1
  · simp -implicitDefEqProofs (disch := first|go_size|fail) only [go_sem, ↓eW.eq_1, i0, i2, l6, l3, c1]
    exact sw _ _ hmod.1 po (fun _ => hmod.2) pt pt
  · by_cases c2 : (50 : Int) < ((g.aj : Nat) : Int)
    · simp -implicitDefEqProofs (disch := first|go_size|fail) only [go_sem, ↓eW.eq_1, i0, i2, l6, l3, c1, c2]
      exact sw _ _ hmod.1 po (fun _ => hmod.2) pt pt
    · simp -implicitDefEqProofs (disch := first|go_size|fail) only [go_sem, ↓eW.eq_1, i0, i2, l6, l3, c1, c2]
      exact sw _ _ hk0 hk1 (fun h => by omega) pt pt
 have hmod5 := uw (n := 5) kk0 po;have l4 := HA.ld4;have l6a := HA.tW;cases hp : g.plain with
 | true =>
   rw [hp] at l4;simp -implicitDefEqProofs (disch := first|go_size|fail) only [go_sem, ↓dP.eq_1, H.fe, ee, l4, l6a, ed]
   exact fin _ _ hmod5.1 po pt pt
 | false =>
   rw [hp] at l4;simp -implicitDefEqProofs (disch := first|go_size|fail) only [go_sem, ↓dP.eq_1, H.fe, ee, l4, l6a, ed]
   exact fin _ _ kk0 kk1 pt pt
theorem zQ.refl {b : Int} {g : G} (h : g.aj ≤ 54) : zQ b g g := ⟨⟨Fo.refl g, rfl, rfl, h, Int.le_refl _⟩, .inr rfl⟩
theorem zQ.step {b : Int} {g g1 g2 : G} (h : zQ b g g1) (k : QG b g1 g2) : zQ b g g2 :=
 ⟨⟨h.fo.ij k.fo, k.depth.trans h.depth, k.plain.trans h.plain, k.l54, Int.le_trans k.hi h.hi⟩, .inl k.lo⟩
theorem zQ.ok {b : Int} {g g1 : G} (h : zQ b g g1) (hb : -60 ≤ b) (hok : Ok g) : Ok g1 := by
 obtain ⟨k1', k2', k3', k4', k5', k6'⟩ := hok;have M := h.aU;have N := h.fo.cnt;simp only [List.length_nil] at N;exact ⟨po, po, po, po, po, po⟩
theorem rR {s0 : St} {mb rb r : Nat} (hr : r ≤ 4) (ho : QA s0 mb rb r) : p_ s0 mb rb r := by
 intro m0 hm0 s g n H hok hdp hn0 hn6;obtain ⟨m, rfl⟩ : ∃ m, m0 = m + 1 := ⟨m0 - 1, po⟩;obtain ⟨k, t1, e1, ka, kb, H1, ff⟩ := H.take (n := n) po po (m := m) po;suffices key : dg ((K (m + 1)).call 54 [.ptr mb 0, .i n] s) fun x t' => x = .bH [] ∧ ∃ g', MK s0 t' mb rb g' ∧ zQ (3 - 6 * (r : Nat)) g g' by
  obtain ⟨x, t', e1, rfl, g', h1, h2⟩ := key;exact ⟨t', g', e1, h1, h2⟩
 simp -implicitDefEqProofs (disch := first|go_size|fail) only [afS, go_sem, H.fe, e1]
 refine bf (Q := fun r => dg (aV _ (cL 0 r)) _) (fun q e t => ∃ (j : Int) (g' : G), q = j.toNat ∧ 0 ≤ j ∧ j ≤ 10 ∧ MK s0 t mb rb g' ∧ zQ (3 - 6 * (r : Nat)) g g' ∧ g0 e = .ptr mb 0 ∧ g4 e = .i j) ?_ (n := (1 + k).toNat) po ⟨1 + k, g, rfl, po, po, H1, zQ.refl hok.2.1, pt, pt⟩
 rintro q e t ⟨j, g', rfl, hj0, hj1, H2, R2, i0, i4⟩;replace i0 : e.a0.a0 = _ := i0;replace i4 : e.a0.a4 = _ := i4;have ok2 := R2.ok po hok;have hd2 : g'.depth = 4 - (r : Nat) := R2.depth.trans hdp;by_cases c : 0 < j
 · by_cases c2 : 25 < g'.left
   · obtain ⟨t3, G3, e3, H3, R3⟩ := ho m po _ _ H2 ok2 hd2 c2;simp -implicitDefEqProofs (disch := first|go_size|fail) only [go_sem, i0, i4, c, H2.RO, c2, e3]
     exact ⟨(j - 1).toNat, po, j - 1, G3, rfl, po, po, H3, R2.step R3, pt, pt⟩
   · simp -implicitDefEqProofs (disch := first|go_size|fail) only [go_sem, i0, i4, c, H2.RO, c2, fO]
     exact ⟨pt, g', H2, R2⟩
 · simp -implicitDefEqProofs (disch := first|go_size|fail) only [go_sem, i0, i4, c, fO]
   exact ⟨pt, g', H2, R2⟩
theorem stmts {s0 : St} {mb rb : Nat} : ∀ r, r ≤ 4 → QA s0 mb rb r ∧ p_ s0 mb rb r
 | 0, h => ⟨qP h (fun r' e => by omega), rR h (qP h (fun r' e => by omega))⟩
 | r + 1, h => by
   have ih := (stmts (s0 := s0) (mb := mb) (rb := rb) r po).2;have h1 : QA s0 mb rb (r + 1) := qP h (fun r' e => by cases e; exact ih)
   exact ⟨h1, rR h h1⟩
theorem kE {f : List Nat → List Nat → Option V} (a b : List Nat) : bS f (.str a) (.str b) = f a b := (rfl)
theorem af3 (id : Nat) : eS 4 1 [V.str [], .str [], .str [], .str []] [(0, 1, .str [73]), (1, 1, .str [73]), (2, 1, .str [73]), (3, 1, .str [73])] id = some (.slice id 0 4 (some 4) 1, .cells 4 (cK [V.str [73], .str [73], .str [73], .str [73]])) := (rfl)
def tys : List (List Nat) := [[73], [73], [73], [73], [76, 65, 59], [76, 65, 59], [91, 73], [76, 84, 104, 114, 111, 119, 97, 98, 108, 101, 59], [76, 84, 59], [91, 76, 65, 59]]
theorem aes (id : Nat) : eS 10 1 [V.str [], .str [], .str [], .str [], .str [], .str [], .str [], .str [], .str [], .str []] [(0, 1, .str [73]), (1, 1, .str [73]), (2, 1, .str [73]), (3, 1, .str [73]), (4, 1, .str [76, 65, 59]), (5, 1, .str [76, 65, 59]), (6, 1, .str [91, 73]), (7, 1, .str [76, 84, 104, 114, 111, 119, 97, 98, 108, 101, 59]), (8, 1, .str [76, 84, 59]), (9, 1, .str [91, 76, 65, 59])] id = some (.slice id 0 10 (some 10) 1, .cells 10 (cK (tys.map V.str))) := (rfl)
theorem Kept.ld {s : St} {mb b : Nat} {l : List V} (h : Kept s mb b l) (hw : Wf s) {i : Nat} {v : V} (hv : l[i]? = some v) : cP (.ptr b i) s = some v := aK hw h.1 hv
def kS (plain : Bool) : List (List Nat) := if plain then [[73], [73], [73], [73]] else tys
theorem AJ (p : Bool) : (kS p).length ≤ 10 := by cases p <;> decide
section
variable {s0 s : St} {mb rb : Nat} {g : G} (H : MK s0 s mb rb g)
include H
theorem MK.types {m : Nat} (hm : 1 ≤ m) : ∃ t, (K m).call 71 [.ptr mb 0] s = some (.slice s.next 0 (kS g.plain).length (some (kS g.plain).length) 1, t) ∧ MK s0 t mb rb g ∧ t.cl s.next = some ((kS g.plain).map V.str) ∧ Fr s t [] ∧ Kept t mb s.next ((kS g.plain).map V.str) := by
 obtain ⟨d, rfl⟩ : ∃ d, m = d + 1 := ⟨m - 1, po⟩;have l9 := H.ld9;have l4 := H.ld4;obtain ⟨t, e, H1, c, f⟩ := H.new (l := (kS g.plain).map V.str) (n := (kS g.plain).length) pm;have hk : Kept t mb s.next ((kS g.plain).map V.str) := by
  obtain ⟨pv, lv, hv, tv, pool, h1, h2, h3, h4, h5, h6, _⟩ := H.ex;have h1' := f.cl H.wf h1 pm;have hml := bQ H.wf h1;refine ⟨c, po, ?_⟩;rw [mP h1'];intro hm;simp only [List.mem_append] at hm;rcases hm with (hm | hm) | hm
  · have := h4.lt H.wf _ hm; omega
  · have := h5.lt H.wf _ hm; omega
  · have := h6.lt H.wf _ hm; omega
 refine ⟨t, ?_, H1, c, f, hk⟩;rw [afx];cases hp : g.plain with
 | true =>
   rw [hp] at l4 e;replace e : s.new (.cells 4 (cK [V.str [73], .str [73], .str [73], .str [73]])) = t := e;simp -implicitDefEqProofs (disch := first|go_size|fail) only [go_sem, l9, l4, af3, e]
   rfl
 | false =>
   rw [hp] at l4 e;replace e : s.new (.cells 10 (cK (tys.map V.str))) = t := e;simp -implicitDefEqProofs (disch := first|go_size|fail) only [go_sem, l9, l4, aes, e]
   rfl
theorem MK.t_ {o a b : Int} (ok : tC o a b) (hl : g.ls.length ≤ 100000) (hb : -1000000 ≤ g.left) (hb2 : g.left ≤ 1000000) {m : Nat} (hm : 1 ≤ m) {kb : Nat} {l : List V} (hk : Kept s mb kb l) : ∃ t g', (K m).call 52 [.ptr mb 0, .i o, .i a, .i b] s = some (.bH [], t) ∧ MK s0 t mb rb g' ∧ aW 1 g g' ∧ g'.left = g.left - 1 ∧ Kept t mb kb l := by
 obtain ⟨t, e, H1, hK⟩ := H.put o a b hl hb hb2 hm;exact ⟨t, _, e, H1, aW.put ok, rfl, hK _ _ hk⟩
theorem MK.YW (from_ : Nat) (hf : from_ ≤ 10) (hl : g.ls.length ≤ 1000) (hb : -1000 ≤ g.left) (hb2 : g.left ≤ 1000) {m : Nat} (hm : 2 ≤ m) : ∃ t g', (K m).call 70 [.ptr mb 0, .i (from_ : Nat)] s = some (.bH [], t) ∧ MK s0 t mb rb g' ∧ aW 20 g g' := by
 obtain ⟨d, rfl⟩ : ∃ d, m = d + 1 := ⟨m - 1, po⟩;obtain ⟨t1, e1, H1, c1, f1, hk1⟩ := H.types (m := d) po;have hlen := AJ g.plain;generalize hT : kS g.plain = T at *;suffices key : dg ((K (d + 1)).call 70 [.ptr mb 0, .i (from_ : Nat)] s) fun x t' => x = .bH [] ∧ ∃ g', MK s0 t' mb rb g' ∧ aW 20 g g' by
  obtain ⟨x, t', e1, rfl, g', h1, h2⟩ := key;exact ⟨t', g', e1, h1, h2⟩
 simp -implicitDefEqProofs (disch := first|go_size|fail) only [afz, go_sem, e1]
 refine bf (Q := fun r => dg (aV _ (cL 0 r)) _) (fun q e t => ∃ (i : Nat) (g' : G), q = 10 - i ∧ i ≤ 10 ∧ MK s0 t mb rb g' ∧ aW (2 * i) g g' ∧ Kept t mb s.next (T.map V.str) ∧ g0 e = .ptr mb 0 ∧ g4 e = .slice s.next 0 T.length (some T.length) 1 ∧ g5 e = .i (i : Nat)) ?_ (n := 10 - from_) po ⟨from_, g, rfl, hf, H1, (aW.refl g).trans (aW.refl g) po, hk1, pt, pt, pt⟩
 rintro q e t ⟨i, g', rfl, hi, H2, E2, hk2, i0, i4, i5⟩;replace i0 : e.a0.a0 = _ := i0;replace i4 : e.a0.a4 = _ := i4;replace i5 : e.a0.a5 = _ := i5;have L2 := E2.len;by_cases c : (i : Int) < ((T.length : Nat) : Int)
 · obtain ⟨x, hx⟩ : ∃ x, T[i]? = some x := ⟨_, List.getElem?_eq_getElem po⟩;have ld := hk2.ld H2.wf (i := i) (v := .str x) (by rw [List.getElem?_map, hx]; rfl)
   cases hq : iM x [73] with
   | true =>
     obtain ⟨t3, G3, e3, H3, E3, _, hk3⟩ := H2.t_ (o := 3) (a := 0) (b := 0) (ok_one (aZ.1 rfl)) po po po (m := d) po hk2;have L3 := E3.len;obtain ⟨t4, G4, e4, H4, E4, _, hk4⟩ := H3.t_ (o := 54) (a := (i : Nat)) (b := 0) (ok_two (by decide) po po) po po po (m := d) po hk3
     simp -implicitDefEqProofs (disch := first|go_size|fail) only [go_sem, i0, i4, i5, c, Int.toNat_natCast, Nat.zero_add, ld, kE, hq, e3, e4]
     exact ⟨10 - (i + 1), po, i + 1, G4, rfl, po, H4, (E2.trans (E3.trans E4 (Nat.le_refl _)) po), hk4, pt, pt, pt⟩
   | false =>
     obtain ⟨t3, G3, e3, H3, E3, _, hk3⟩ := H2.t_ (o := 1) (a := 0) (b := 0) (ok_one (aZ.1 rfl)) po po po (m := d) po hk2;have L3 := E3.len;obtain ⟨t4, G4, e4, H4, E4, _, hk4⟩ := H3.t_ (o := 58) (a := (i : Nat)) (b := 0) (ok_two (by decide) po po) po po po (m := d) po hk3
     simp -implicitDefEqProofs (disch := first|go_size|fail) only [go_sem, i0, i4, i5, c, Int.toNat_natCast, Nat.zero_add, ld, kE, hq, e3, e4]
     exact ⟨10 - (i + 1), po, i + 1, G4, rfl, po, H4, (E2.trans (E3.trans E4 (Nat.le_refl _)) po), hk4, pt, pt, pt⟩
 · simp -implicitDefEqProofs (disch := first|go_size|fail) only [go_sem, i0, i4, i5, c, fO]
   exact ⟨pt, g', H2, E2.trans (aW.refl _) po⟩
theorem MK.adW (st : Bool) (nm : List Nat) (hnm : st = true ∨ nm = [103, 111] ∨ nm = [114, 117, 110]) (from_ : Nat) (hf : from_ ≤ 10) (hl : g.ls.length ≤ 1000) (hb : -1000 ≤ g.left) (hb2 : g.left ≤ 1000) {m : Nat} (hm : 3 ≤ m) : ∃ t g', (K m).call 53 [.ptr mb 0, .bool st, .str nm, .i (from_ : Nat)] s = some (.bH [], t) ∧ MK s0 t mb rb g' ∧ aW 20 g g' := by
 obtain ⟨d, rfl⟩ : ∃ d, m = d + 1 := ⟨m - 1, po⟩;cases st with
 | true =>
   obtain ⟨t, g', e1, H1, E1⟩ := H.YW from_ hf hl hb hb2 (m := d) po;refine ⟨t, g', ?_, H1, E1⟩;rw [aeL];simp -implicitDefEqProofs (disch := first|go_size|fail) only [go_sem, ↓qI.eq_1, ↓nE.eq_1, e1, fO]
 | false =>
   obtain ⟨t1, e1, H1, c1, f1, hk1⟩ := H.types (m := d) po;have hlen := AJ g.plain;generalize hT : kS g.plain = T at *;suffices key : dg ((K (d + 1)).call 53 [.ptr mb 0, .bool false, .str nm, .i (from_ : Nat)] s) fun x t' => x = .bH [] ∧ ∃ g', MK s0 t' mb rb g' ∧ aW 20 g g' by
    obtain ⟨x, t', e1, rfl, g', h1, h2⟩ := key;exact ⟨t', g', e1, h1, h2⟩
   simp -implicitDefEqProofs (disch := first|go_size|fail) only [aeL, go_sem, e1]
   refine bf (Q := fun r => dg (aV _ (cL 0 r)) _) (fun q e t => ∃ (i : Nat) (g' : G), q = 10 - i ∧ 1 ≤ i ∧ i ≤ 10 ∧ MK s0 t mb rb g' ∧ aW (2 * i) g g' ∧ Kept t mb s.next (T.map V.str) ∧ g0 e = .ptr mb 0 ∧ g2 e = .str nm ∧ g8 e = .slice s.next 0 T.length (some T.length) 1 ∧ g9 e = .i (i : Nat)) ?_ (n := 9) po ⟨1, g, rfl, po, po, H1, (aW.refl g).trans (aW.refl g) po, hk1, pt, pt, pt, pt⟩
   rintro q e t ⟨i, g', rfl, hi1, hi, H2, E2, hk2, i0, i2, i8, i9⟩;replace i0 : e.a0.a0 = _ := i0;replace i2 : e.a0.a2 = _ := i2;replace i8 : e.a0.a8 = _ := i8;replace i9 : e.a0.a9 = _ := i9;have L2 := E2.len;by_cases c : (i : Int) < ((T.length : Nat) : Int)
   · obtain ⟨x, hx⟩ : ∃ x, T[i]? = some x := ⟨_, List.getElem?_eq_getElem po⟩;have ld := hk2.ld H2.wf (i := i) (v := .str x) (by rw [List.getElem?_map, hx]; rfl)
     have gd : ∀ (e : E), e.a0.a0 = .ptr mb 0 → e.a0.a2 = .str nm → e.a0.a8 = .slice s.next 0 T.length (some T.length) 1 → e.a0.a9 = .i (i : Nat) → ∃ (bv : Bool) (e' : E), qI (K d) e t = .au e' t ∧ e'.a0.a0 = .ptr mb 0 ∧ e'.a0.a2 = .str nm ∧ e'.a0.a8 = .slice s.next 0 T.length (some T.length) 1 ∧ e'.a0.a9 = .i (i : Nat) ∧ g47 e' = .bool bv := by
      intro e j0 j2 j8 j9;have e11 : iM [103, 111] [103, 111] = true := rfl;have e12 : iM [114, 117, 110] [103, 111] = false := rfl;have e13 : iM [103, 111] [114, 117, 110] = false := rfl;have e14 : iM [114, 117, 110] [114, 117, 110] = true := rfl;obtain ⟨z, hz⟩ : ∃ z : Int, ((i : Nat) : Int) = z := ⟨_, rfl⟩;have n8 : z = 1 ∨ z = 2 ∨ z = 3 ∨ z = 4 ∨ z = 5 ∨ z = 6 ∨ z = 7 ∨ z = 8 ∨ z = 9 := po;rw [hz] at j9 ⊢;clear hz;rcases hnm with h | h | h
      · cases h
      · subst h;rcases n8 with rfl | rfl | rfl | rfl | rfl | rfl | rfl | rfl | rfl
        all_goals
         simp -implicitDefEqProofs (disch := first|go_size|fail) only [go_sem, qI.eq_1, j0, j2, j8, j9, kE, e11, e12, e13, e14]
         exact ⟨_, _, rfl, pt, pt, pt, pt, rfl⟩
      · subst h;rcases n8 with rfl | rfl | rfl | rfl | rfl | rfl | rfl | rfl | rfl
        all_goals
         simp -implicitDefEqProofs (disch := first|go_size|fail) only [go_sem, qI.eq_1, j0, j2, j8, j9, kE, e11, e12, e13, e14]
         exact ⟨_, _, rfl, pt, pt, pt, pt, rfl⟩
     have body : ∀ (e : E) (Q : aE → Prop), e.a0.a0 = .ptr mb 0 → e.a0.a2 = .str nm → e.a0.a8 = .slice s.next 0 T.length (some T.length) 1 → e.a0.a9 = .i (i : Nat) → og (nE (K d) e t) (fun e' s' => ∃ m, m < 10 - i ∧ ∃ (i_1 : Nat) (g'_1 : G), m = 10 - i_1 ∧ 1 ≤ i_1 ∧ i_1 ≤ 10 ∧ MK s0 s' mb rb g'_1 ∧ aW (2 * i_1) g g'_1 ∧ Kept s' mb s.next (T.map V.str) ∧ g0 e' = .ptr mb 0 ∧ g2 e' = .str nm ∧ g8 e' = .slice s.next 0 T.length (some T.length) 1 ∧ g9 e' = .i (i_1 : Nat)) Q := by
      intro e Q j0 j2 j8 j9;obtain ⟨bv, e', q1, b0, b2, b8, b9, bg⟩ := gd e j0 j2 j8 j9;replace bg : e'.a2.a15 = .bool bv := bg;cases bv with
      | true =>
        simp -implicitDefEqProofs (disch := first|go_size|fail) only [go_sem, nE.eq_1, q1, bg, b0, b2, b8, b9]
        exact ⟨10 - (i + 1), po, i + 1, _, rfl, po, po, H2, (E2.trans (aW.refl _) po), hk2, pt, pt, pt, pt⟩
      | false =>
        cases hq : iM x [73] with
        | true =>
          obtain ⟨t3, G3, e3, H3, E3, _, hk3⟩ := H2.t_ (o := 3) (a := 0) (b := 0) (ok_one (aZ.1 rfl)) po po po (m := d) po hk2;have L3 := E3.len;obtain ⟨t4, G4, e4, H4, E4, _, hk4⟩ := H3.t_ (o := 54) (a := (i : Nat)) (b := 0) (ok_two (by decide) po po) po po po (m := d) po hk3
          simp -implicitDefEqProofs (disch := first|go_size|fail) only [go_sem, nE.eq_1, q1, bg, b0, b2, b8, b9, Int.toNat_natCast, ld, kE, hq, e3, e4]
          exact ⟨10 - (i + 1), po, i + 1, _, rfl, po, po, H4, (E2.trans (E3.trans E4 (Nat.le_refl _)) po), hk4, pt, pt, pt, pt⟩
        | false =>
          obtain ⟨t3, G3, e3, H3, E3, _, hk3⟩ := H2.t_ (o := 1) (a := 0) (b := 0) (ok_one (aZ.1 rfl)) po po po (m := d) po hk2;have L3 := E3.len;obtain ⟨t4, G4, e4, H4, E4, _, hk4⟩ := H3.t_ (o := 58) (a := (i : Nat)) (b := 0) (ok_two (by decide) po po) po po po (m := d) po hk3
          simp -implicitDefEqProofs (disch := first|go_size|fail) only [go_sem, nE.eq_1, q1, bg, b0, b2, b8, b9, Int.toNat_natCast, ld, kE, hq, e3, e4]
          exact ⟨10 - (i + 1), po, i + 1, _, rfl, po, po, H4, (E2.trans (E3.trans E4 (Nat.le_refl _)) po), hk4, pt, pt, pt, pt⟩
     simp -implicitDefEqProofs (disch := first|go_size|fail) only [go_sem, i0, i2, i8, i9, c]
     exact body _ _ pt pt pt pt
   · simp -implicitDefEqProofs (disch := first|go_size|fail) only [go_sem, i0, i8, i9, c, fO]
     exact ⟨pt, g', H2, E2.trans (aW.refl _) po⟩
end
end
end Go.Proofs.YtcgdlgbomjnnnaaGreatLab
namespace Go.Proofs.YtcgdlgbomjnnnaaGreatLab
open Go
set_option linter.all false
noncomputable section
def oU (k : KC) (l : List oC) (i : Nat) (x : dN) (c : List dN → aE) : aE := match uW k l i x with
 | none => .bad
 | some r => c r
def bO (o : Option (V × Ob)) (c : V → Ob → aE) : aE := match o with | some (v, ob) => c v ob | none => .bad
@[congr] theorem ad7 {o o' : Option (V × Ob)} {c : V → Ob → aE} (h : o = o') : bO o c = bO o' c := by rw [h]
theorem jK (v : V) (ob : Ob) (c : V → Ob → aE) : bO (some (v, ob)) c = c v ob := (rfl)
section
variable {k : KC} {e : E} {s : St} {l : List oC} {u : E → V → E} {c : List dN → aE} {i id : Nat} {v0 : V} {ps : List PA}
theorem fX {n : Nat} : jO n l k e s = oU k l 0 ⟨.undef, e, fI n s, [], s.next⟩ fun r => Bool.casesOn (motive := fun _ => aE) (fE (qY (fI n s) l r) l ⟨.undef, e, fI n s, [], s.next⟩ r) .bad (zD (lB ⟨.undef, e, fI n s, [], s.next⟩ r)) := (rfl)
theorem qi {t : oC} {x : dN} : oU k (t :: l) i x c = (match eu k i t x with | none => .bad | some y => oU k l (i + 1) y fun r => c (y :: r)) := by
 simp only [oU, uW];cases eu k i t x with
 | none => rfl
 | some y => simp only []; cases uW k l (Nat.succ i) y <;> rfl
theorem jB {x : dN} : oU k [] i x c = c [] := (rfl)
theorem pT {f : E → Option V} : oU k (⟨none, .p f, u⟩ :: l) i ⟨v0, e, s, ps, id⟩ c = bP (f e) fun v => oU k l (i + 1) ⟨v, u e v, s, ps, id⟩ fun r => c (⟨v, u e v, s, ps, id⟩ :: r) := by
 simp only [oU, uW, eu, jX];cases f e with
 | none => rfl
 | some v => simp only [bP]; cases uW k l (Nat.succ i) ⟨v, u e v, s, ps, id⟩ <;> rfl
theorem qQ {lo hi : Nat} {f : E → St → Option V} : oU k (⟨none, .d lo hi f, u⟩ :: l) i ⟨v0, e, s, ps, id⟩ c = bP (f e s) fun v => oU k l (i + 1) ⟨v, u e v, s, ps, id⟩ fun r => c (⟨v, u e v, s, ps, id⟩ :: r) := by
 simp only [oU, uW, eu, jX];cases f e s with
 | none => rfl
 | some v => simp only [bP]; cases uW k l (Nat.succ i) ⟨v, u e v, s, ps, id⟩ <;> rfl
theorem oV {f : E → Nat → Option (V × Ob)} : oU k (⟨none, .a f, u⟩ :: l) i ⟨v0, e, s, ps, id⟩ c = bO (f e id) fun v ob => oU k l (i + 1) ⟨v, u e v, s, ps ++ [⟨i, id, ob⟩], id + 1⟩ fun r => c (⟨v, u e v, s, ps ++ [⟨i, id, ob⟩], id + 1⟩ :: r) := by
 simp only [oU, uW, eu, jX];cases f e id with
 | none => rfl
 | some p => simp only [bO]; cases uW k l (Nat.succ i) ⟨p.1, u e p.1, s, ps ++ [⟨i, id, p.2⟩], Nat.succ id⟩ <;> rfl
theorem KE : ∀ (ps : List PA) (s : St), rO [] ps s = s
 | [], s => rfl
 | a :: l, s => KE l s
theorem pg : ∀ (ps : List PA), kz [] ps = ps
 | [] => rfl
 | a :: l => by show a :: kz [] l = _; rw [pg l]
theorem pK {f : KC → E → St → Option (V × St)} : oU k (⟨none, .e [] f, u⟩ :: l) i ⟨v0, e, s, ps, id⟩ c = bE (f k e s) fun v s' => oU k l (i + 1) ⟨v, u e v, s', ps, id⟩ fun r => c (⟨v, u e v, s', ps, id⟩ :: r) := by
 simp only [oU, uW, eu, jX, KE, pg];cases f k e s with
 | none => rfl
 | some p => simp only [bE]; cases uW k l (Nat.succ i) ⟨p.1, u e p.1, p.2, ps, id⟩ <;> rfl
theorem lG {j : Nat} {w : Bool} {f : E → Option V} : oU k (⟨some (j, w), .p f, u⟩ :: l) i ⟨v0, e, s, ps, id⟩ c = bP (aN (Gt j e) w (f e)) fun v => oU k l (i + 1) ⟨v, u e v, s, ps, id⟩ fun r => c (⟨v, u e v, s, ps, id⟩ :: r) := by
 rw [qi];unfold eu jX;simp only [];generalize Gt j e = x;unfold aN;cases x with
 | bool b => cases b <;> cases w <;> first | rfl | (try simp only [KE, pg]; cases f e <;> rfl)
 | bH l' => cases l' <;> rfl
 | _ => rfl
theorem l_ {j lo hi : Nat} {w : Bool} {f : E → St → Option V} : oU k (⟨some (j, w), .d lo hi f, u⟩ :: l) i ⟨v0, e, s, ps, id⟩ c = bP (aN (Gt j e) w (f e s)) fun v => oU k l (i + 1) ⟨v, u e v, s, ps, id⟩ fun r => c (⟨v, u e v, s, ps, id⟩ :: r) := by
 rw [qi];unfold eu jX;simp only [];generalize Gt j e = x;unfold aN;cases x with
 | bool b => cases b <;> cases w <;> first | rfl | (try simp only [KE, pg]; cases f e s <;> rfl)
 | bH l' => cases l' <;> rfl
 | _ => rfl
theorem mj {j : Nat} {w : Bool} {f : KC → E → St → Option (V × St)} : oU k (⟨some (j, w), .e [] f, u⟩ :: l) i ⟨v0, e, s, ps, id⟩ c = bE (ia (Gt j e) w s (f k e s)) fun v s' => oU k l (i + 1) ⟨v, u e v, s', ps, id⟩ fun r => c (⟨v, u e v, s', ps, id⟩ :: r) := by
 rw [qi];unfold eu jX;simp only [];generalize Gt j e = x;unfold ia;cases x with
 | bool b => cases b <;> cases w <;> first | rfl | (try simp only [KE, pg]; cases f k e s <;> rfl)
 | bH l' => cases l' <;> rfl
 | _ => rfl
variable {g : Option (Nat × Bool)} {s' : St} {x y : dN} {r : List dN} {sn : List St}
theorem gy : lB x [] = x := (rfl)
theorem fk : lB x (y :: r) = lB y r := (rfl)
theorem jU : qY s [] r = [s] := by unfold qY; rfl
theorem qk {f : E → Option V} : qY s (⟨g, .p f, u⟩ :: l) (⟨v0, e, s', ps, id⟩ :: r) = qY s' l r := (rfl)
theorem pQ {lo hi : Nat} {f : E → St → Option V} : qY s (⟨g, .d lo hi f, u⟩ :: l) (⟨v0, e, s', ps, id⟩ :: r) = qY s' l r := (rfl)
theorem qh {f : E → Nat → Option (V × Ob)} : qY s (⟨g, .a f, u⟩ :: l) (⟨v0, e, s', ps, id⟩ :: r) = qY s' l r := (rfl)
theorem qz {bef : List Nat} {f : KC → E → St → Option (V × St)} : qY s (⟨g, .e bef f, u⟩ :: l) (⟨v0, e, s', ps, id⟩ :: r) = s :: qY s' l r := (rfl)
theorem f_ : fE sn [] x r = true := by unfold fE; rfl
theorem jR {f : E → Option V} : fE sn (⟨g, .p f, u⟩ :: l) x (y :: r) = fE sn l y r := (rfl)
theorem jF {f : E → Nat → Option (V × Ob)} : fE sn (⟨g, .a f, u⟩ :: l) x (y :: r) = fE sn l y r := (rfl)
theorem jD {bef : List Nat} {f : KC → E → St → Option (V × St)} : fE sn (⟨g, .e bef f, u⟩ :: l) x (y :: r) = fE sn l y r := (rfl)
theorem jH {lo hi : Nat} {f : E → St → Option V} {e' : E} {s' : St} {ps' : List PA} {id' : Nat} {v : V} : fE sn (⟨none, .d lo hi f, u⟩ :: l) ⟨v0, e, s, ps, id⟩ (⟨v, e', s', ps', id'⟩ :: r) = (((sn.drop lo).take (hi + 1 - lo)).all (fun t => lq (f e t) v) && fE sn l ⟨v, e', s', ps', id'⟩ r) := by
 show (Bool.casesOn (motive := fun _ => Bool) (((sn.drop lo).take (hi + 1 - lo)).all fun t => (match (some false : Option Bool) with | some false => (match f e t with | some v' => dO 100 v' v | none => false) | _ => true)) false (fE sn l ⟨v, e', s', ps', id'⟩ r)) = _
 have : (fun t => (match (some false : Option Bool) with | some false => (match f e t with | some v' => dO 100 v' v | none => false) | _ => true)) = fun t => lq (f e t) v := by funext t; rfl
 rw [this];cases ((sn.drop lo).take (hi + 1 - lo)).all fun t => lq (f e t) v <;> rfl
theorem iy {lo hi : Nat} {f : E → St → Option V} (h : hi + 1 - lo = 0) : fE sn (⟨g, .d lo hi f, u⟩ :: l) x (y :: r) = fE sn l y r := by
 show (Bool.casesOn (motive := fun _ => Bool) (((sn.drop lo).take (hi + 1 - lo)).all _) false (fE sn l y r)) = _
 rw [h, List.take_zero]; rfl
theorem iz {j b : Nat} {ob : Ob} : zD ⟨v0, e, s, [⟨j, b, ob⟩], id⟩ = .au e (s.put b ob) := (rfl)
theorem iJ : fI 1 s = s.new .dead := (rfl)
end
theorem oH {s : St} {l : List V} {n : Nat} (hw : Wf s) (hn : n = l.length) : ∃ s', (s.new .dead).put s.next (.cells n (cK l)) = s' ∧ s'.cl s.next = some l ∧ Fr s s' [] ∧ s'.next = s.next + 1 := by
 subst hn;have w1 := hw.new (o := .dead) trivial;have hlt : s.next < (s.new .dead).next := Nat.lt_succ_self _;have hfull : Ob.full (.cells l.length (cK l)) := fun i hi => by rw [mJ]; simpa using hi
 refine ⟨_, rfl, HH (MM w1 hlt) rfl fun i hi => mJ l i, ⟨w1.put hlt hfull, Nat.le_succ _, fun j hj _ => ?_⟩, rfl⟩
 rw [sV (show j ≠ s.next by omega), wv po]
theorem Q3 {s : St} (hw : Wf s) : Wf (s.new .dead) ∧ Fr s (s.new .dead) [] := by
 have w1 := hw.new (o := .dead) trivial;exact ⟨w1, w1, Nat.le_succ _, fun j hj _ => wv po⟩
end
end Go.Proofs.YtcgdlgbomjnnnaaGreatLab
namespace Go.Proofs.YtcgdlgbomjnnnaaGreatLab
open Go
set_option linter.all false
set_option maxRecDepth 10000
noncomputable section
structure In where
 at_ : Int
 op : Int
 a : Int
 b : Int
def In.cells (x : In) : List V := [.i x.at_, .i x.op, .i x.a, .i x.b]
theorem In.row (x : In) : Row 4 x.cells := ⟨rfl, by intro v hv; simp [In.cells] at hv; rcases hv with rfl | rfl | rfl | rfl <;> rfl⟩
def eD (n : Int) : Nat := (n % 256).toNat
theorem oN (n : Int) : eD n < 256 := by unfold eD; omega
theorem Zo (n : Int) : cT .u8 (.i n) = some (bJ (eD n)) := by
 show some (V.int .u8 (IntKind.wrap .u8 n)) = some (V.int .u8 ((eD n : Nat) : Int));have : IntKind.wrap .u8 n = n % 256 := by simp [IntKind.wrap, IntKind.bits, IntKind.signed]
 rw [this]; unfold eD; congr 2; omega
theorem wB (n : Int) : yI .shr .i64 (.i n) (.int .u64 8) = some (.i (n / 256)) := by
 show some (V.i (Int.fdiv n (Int.ofNat (Nat.pow 2 (min (8 : Int).toNat IntKind.i64.bits))))) = _;have e : Int.ofNat (Nat.pow 2 (min (8 : Int).toNat IntKind.i64.bits)) = 256 := rfl;rw [e, Int.fdiv_eq_ediv_of_nonneg n po]
def In.arg (x : In) : Int := if gU x.op = true then x.a - x.at_ else x.a
def XY (x : In) : Prop := (0 ≤ x.op ∧ x.op < 256 ∧ bx x.op ≠ 0 ∧ -1000000 ≤ x.at_ ∧ x.at_ ≤ 1000000 ∧ -1000000 ≤ x.a ∧ x.a ≤ 1000000) ∧ (x.op = 132 → 0 ≤ x.a ∧ x.a ≤ 255 ∧ -128 ≤ x.b ∧ x.b ≤ 127) ∧ (x.op ≠ 132 → x.b = 0 ∧ (bx x.op = 1 → x.a = 0) ∧ (bx x.op = 2 → (gL x.op = true → -128 ≤ x.a ∧ x.a ≤ 127) ∧ (gL x.op = false → 0 ≤ x.a ∧ x.a ≤ 255)) ∧ (bx x.op = 3 → (gL x.op = true → -32768 ≤ x.arg ∧ x.arg ≤ 32767) ∧ (gL x.op = false → 0 ≤ x.arg ∧ x.arg ≤ 65535)))
def encI (x : In) : List Nat := if x.op = 132 then [eD x.op, eD x.a, eD x.b] else if bx x.op = 1 then [eD x.op] else if bx x.op = 2 then [eD x.op, eD x.arg] else [eD x.op, eD (x.arg / 256), eD x.arg]
theorem fB (n : Int) : bx n = 0 ∨ bx n = 1 ∨ bx n = 2 ∨ bx n = 3 := by
 unfold bx;cases isIn n two <;> cases isIn n three <;> cases gU n <;> cases isIn n vX <;> simp
theorem jb {n : Int} (h : gU n = true) : bx n = 3 := by
 unfold gU at h;cases hc : and (oK 153 n) (oK n 167) with
 | true =>
   rw [Bool.and_eq_true, fL, fL, decide_eq_true_eq, decide_eq_true_eq] at hc;have : n = 153 ∨ n = 154 ∨ n = 155 ∨ n = 156 ∨ n = 157 ∨ n = 158 ∨ n = 159 ∨ n = 160 ∨ n = 161 ∨ n = 162 ∨ n = 163 ∨ n = 164 ∨ n = 165 ∨ n = 166 ∨ n = 167 := po;rcases this with rfl | rfl | rfl | rfl | rfl | rfl | rfl | rfl | rfl | rfl | rfl | rfl | rfl | rfl | rfl <;> rfl
 | false =>
   rw [hc] at h;have := aZ.1 h;simp at this;rcases this with rfl | rfl <;> rfl
theorem u_ {n lo hi : Int} (h0 : lo ≤ n) (h1 : n ≤ hi) (s : St) {m : Nat} (hm : 1 ≤ m) : (K m).call 99 [.i n, .i lo, .i hi] s = some (.bool true, s) := by
 obtain ⟨d, rfl⟩ : ∃ d, m = d + 1 := ⟨m - 1, po⟩;rw [agp];simp -implicitDefEqProofs (disch := first|go_size|fail) only [go_sem, h0, h1]
theorem bb1 (a : Nat) (id : Nat) : eS 1 1 [V.int .u8 0] [(0, 1, bJ a)] id = some (.slice id 0 1 (some 1) 1, .cells 1 (cK [bJ a])) := (rfl)
theorem bb2 (a b : Nat) (id : Nat) : eS 2 1 [V.int .u8 0, .int .u8 0] [(0, 1, bJ a), (1, 1, bJ b)] id = some (.slice id 0 2 (some 2) 1, .cells 2 (cK [bJ a, bJ b])) := (rfl)
theorem bb3 (a b c : Nat) (id : Nat) : eS 3 1 [V.int .u8 0, .int .u8 0, .int .u8 0] [(0, 1, bJ a), (1, 1, bJ b), (2, 1, bJ c)] id = some (.slice id 0 3 (some 3) 1, .cells 3 (cK [bJ a, bJ b, bJ c])) := (rfl)
theorem SL.whole {s : St} {b : Nat} {l : List V} (hw : Wf s) (h : s.cl b = some l) : SL s (.slice b 0 l.length (some l.length) 1) l := SL.of hw h po (fun i _ => by rw [Nat.zero_add])
set_option maxHeartbeats 4000000 in
theorem Zw {s : St} (hw : Wf s) {x : In} (ok : XY x) {m : Nat} (hm : 2 ≤ m) : ∃ (t : St) (v : V), (K m).call 93 [.agg x.cells] s = some (.bH [v, .bool true], t) ∧ SL t v ((encI x).map bJ) ∧ Fr s t [] ∧ ∀ b ∈ aB v, s.next ≤ b := by
 obtain ⟨d, rfl⟩ : ∃ d, m = d + 1 := ⟨m - 1, po⟩;obtain ⟨⟨o0, o1, o2, a0', a1', b0', b1'⟩, h132, hn⟩ := ok;obtain ⟨s1, e1, c1, f1, n1⟩ := bu (s := s) (l := x.cells) (n := 4) hw rfl;have hbox : tJ (.agg x.cells) s.next = some (.ptr s.next 0, .cells 4 (cK x.cells)) := iw (bN x.row.2);have r0 : cP (.ptr s.next 0) s1 = some (.i x.at_) := aK f1.wf c1 rfl;have r1 : cP (.ptr s.next 1) s1 = some (.i x.op) := aK f1.wf c1 rfl;have r2 : cP (.ptr s.next 2) s1 = some (.i x.a) := aK f1.wf c1 rfl;have r3 : cP (.ptr s.next 3) s1 = some (.i x.b) := aK f1.wf c1 rfl;have z46 := vn o0 o1 s1 (m := d) po;have z18 := oo o0 o1 s1 (m := d) po;have z47 := adS o0 o1 s1 (m := d) po;obtain ⟨w2, f2⟩ := Q3 f1.wf;have c2 := f2.cl f1.wf c1 pm;have q0 : cP (.ptr s.next 0) (s1.new .dead) = some (.i x.at_) := aK w2 c2 rfl;have q1 : cP (.ptr s.next 1) (s1.new .dead) = some (.i x.op) := aK w2 c2 rfl;have q2 : cP (.ptr s.next 2) (s1.new .dead) = some (.i x.a) := aK w2 c2 rfl;have q3 : cP (.ptr s.next 3) (s1.new .dead) = some (.i x.b) := aK w2 c2 rfl;have fin : ∀ (t : St) (l : List Nat), t.cl s1.next = some (l.map bJ) → Fr s1 t [] → encI x = l → SL t (.slice s1.next 0 l.length (some l.length) 1) ((encI x).map bJ) ∧ Fr s t [] ∧ ∀ b ∈ aB (V.slice s1.next 0 l.length (some l.length) 1), s.next ≤ b := by
  rintro t l hc hf rfl;have := SL.whole hf.wf hc;rw [List.length_map] at this;exact ⟨this, f1.trans hf, fun b hb => by simp [aB] at hb; omega⟩
 have hcase := fB x.op;by_cases c : x.op = 132
 · obtain ⟨g0', g1', g2', g3'⟩ := h132 c;have i1 := u_ g0' g1' (s1.new .dead) (m := d) po;have i2 := u_ g2' g3' (s1.new .dead) (m := d) po;have hE : encI x = [eD 132, eD x.a, eD x.b] := by unfold encI; rw [if_pos c, c]
   rw [c] at r1 q1 z46 z18 z47;obtain ⟨t, e3, c3, f3, n3⟩ := oH (s := s1) (l := [eD 132, eD x.a, eD x.b].map bJ) (n := 3) f1.wf rfl;refine ⟨t, .slice s1.next 0 3 (some 3) 1, ?_, fin t [eD 132, eD x.a, eD x.b] c3 f3 hE⟩;replace e3 : (s1.new .dead).put s1.next (.cells 3 (cK [bJ (eD 132), bJ (eD x.a), bJ (eD x.b)])) = t := e3;rw [LS];simp -implicitDefEqProofs (disch := first|go_size|fail) only [go_sem, ↓fX, ↓jB, ↓pT, ↓qQ, ↓oV, ↓pK, ↓lG, ↓l_, ↓mj, jK, gy, fk, jU, qk, pQ, qh, qz, f_, jR, jF, jD, jH, iy, iz, iJ, List.nil_append, List.drop_zero, List.drop_succ_cons, List.take_succ_cons, List.take_zero, List.all_cons, List.all_nil, Bool.and_true, Bool.and_self, dU, eB, hbox, e1, r0, r1, r2, r3, q0, q1, q2, q3, z46, z18, z47,  eq_self, decide_true, Zo, wB, bb3, i1, i2, e3, Nat.zero_add, gE]
 · obtain ⟨hb, hs1, hs2, hs3⟩ := hn c;cases hbr : gU x.op with
   | true =>
     have h3 := jb hbr;have hsg : gL x.op = true := by unfold gL; cases isIn x.op [16, 17] with | true => rfl | false => exact hbr
     have harg : x.arg = x.a - x.at_ := by unfold In.arg; rw [if_pos hbr]
     obtain ⟨g0', g1'⟩ := (hs3 h3).1 hsg;rw [harg] at g0' g1';have i1 := u_ (lo := -1048576) (hi := 1048576) (n := x.a) po po s1 (m := d) po;have i2 := u_ g0' g1' (s1.new .dead) (m := d) po;have hE : encI x = [eD x.op, eD ((x.a - x.at_) / 256), eD (x.a - x.at_)] := by unfold encI; rw [if_neg c, if_neg po, if_neg po, harg]
     rw [h3] at z46; rw [hbr] at z18; rw [hsg] at z47;obtain ⟨t, e3, c3, f3, n3⟩ := oH (s := s1) (l := [eD x.op, eD ((x.a - x.at_) / 256), eD (x.a - x.at_)].map bJ) (n := 3) f1.wf rfl;refine ⟨t, .slice s1.next 0 3 (some 3) 1, ?_, fin t _ c3 f3 hE⟩;replace e3 : (s1.new .dead).put s1.next (.cells 3 (cK [bJ (eD x.op), bJ (eD ((x.a - x.at_) / 256)), bJ (eD (x.a - x.at_))])) = t := e3;rw [LS];simp -implicitDefEqProofs (disch := first|go_size|fail) only [go_sem, ↓fX, ↓jB, ↓pT, ↓qQ, ↓oV, ↓pK, ↓lG, ↓l_, ↓mj, jK, gy, fk, jU, qk, pQ, qh, qz, f_, jR, jF, jD, jH, iy, iz, iJ, List.nil_append, List.drop_zero, List.drop_succ_cons, List.take_succ_cons, List.take_zero, List.all_cons, List.all_nil, Bool.and_true, Bool.and_self, dU, eB, hbox, e1, r0, r1, r2, r3, q0, q1, q2, q3, z46, z18, z47, c, eq_self, decide_true, Zo, wB, bb3, i1, i2, e3, hb, Nat.zero_add, gE]
   | false =>
     have harg : x.arg = x.a := by unfold In.arg; rw [hbr]; rfl
     rw [hbr] at z18;rcases hcase with h | h | h | h
     · exact absurd h o2
     · have ha := hs1 h;have hE : encI x = [eD x.op] := by unfold encI; rw [if_neg c, if_pos h]
       rw [h] at z46;obtain ⟨t, e3, c3, f3, n3⟩ := bu (s := s1) (l := [eD x.op].map bJ) (n := 1) f1.wf rfl;have c4 := f3.cl f1.wf c1 pm;have y1 : cP (.ptr s.next 1) t = some (.i x.op) := aK f3.wf c4 rfl;have y2 : cP (.ptr s.next 2) t = some (.i x.a) := aK f3.wf c4 rfl;have y3 : cP (.ptr s.next 3) t = some (.i x.b) := aK f3.wf c4 rfl;refine ⟨t, .slice s1.next 0 1 (some 1) 1, ?_, fin t _ c3 f3 hE⟩;replace e3 : s1.new (.cells 1 (cK [bJ (eD x.op)])) = t := e3;rw [LS];simp -implicitDefEqProofs (disch := first|go_size|fail) only [go_sem, ↓fX, ↓jB, ↓pT, ↓qQ, ↓oV, ↓pK, ↓lG, ↓l_, ↓mj, jK, gy, fk, jU, qk, pQ, qh, qz, f_, jR, jF, jD, jH, iy, iz, iJ, List.nil_append, List.drop_zero, List.drop_succ_cons, List.take_succ_cons, List.take_zero, List.all_cons, List.all_nil, Bool.and_true, Bool.and_self, dU, eB, hbox, e1, r0, r1, r2, r3, q0, q1, q2, q3, z46, z18, z47, c, eq_self, decide_true, Zo, wB, bb1, e3, y1, y2, y3, hb, ha, Nat.zero_add, gE]
     · obtain ⟨ht, hf⟩ := hs2 h;have hE : encI x = [eD x.op, eD x.a] := by unfold encI; rw [if_neg c, if_neg po, if_pos h, harg]
       rw [h] at z46;obtain ⟨t, e3, c3, f3, n3⟩ := oH (s := s1) (l := [eD x.op, eD x.a].map bJ) (n := 2) f1.wf rfl;refine ⟨t, .slice s1.next 0 2 (some 2) 1, ?_, fin t _ c3 f3 hE⟩;replace e3 : (s1.new .dead).put s1.next (.cells 2 (cK [bJ (eD x.op), bJ (eD x.a)])) = t := e3;rw [LS];cases hsg : gL x.op with
       | true =>
         obtain ⟨g0', g1'⟩ := ht hsg;have i2 := u_ g0' g1' (s1.new .dead) (m := d) po;rw [hsg] at z47;simp -implicitDefEqProofs (disch := first|go_size|fail) only [go_sem, ↓fX, ↓jB, ↓pT, ↓qQ, ↓oV, ↓pK, ↓lG, ↓l_, ↓mj, jK, gy, fk, jU, qk, pQ, qh, qz, f_, jR, jF, jD, jH, iy, iz, iJ, List.nil_append, List.drop_zero, List.drop_succ_cons, List.take_succ_cons, List.take_zero, List.all_cons, List.all_nil, Bool.and_true, Bool.and_self, dU, eB, hbox, e1, r0, r1, r2, r3, q0, q1, q2, q3, z46, z18, z47, c, eq_self, decide_true, Zo, wB, bb2, i2, e3, hb, Nat.zero_add, gE]
       | false =>
         obtain ⟨g0', g1'⟩ := hf hsg;have i2 := u_ g0' g1' (s1.new .dead) (m := d) po;rw [hsg] at z47;simp -implicitDefEqProofs (disch := first|go_size|fail) only [go_sem, ↓fX, ↓jB, ↓pT, ↓qQ, ↓oV, ↓pK, ↓lG, ↓l_, ↓mj, jK, gy, fk, jU, qk, pQ, qh, qz, f_, jR, jF, jD, jH, iy, iz, iJ, List.nil_append, List.drop_zero, List.drop_succ_cons, List.take_succ_cons, List.take_zero, List.all_cons, List.all_nil, Bool.and_true, Bool.and_self, dU, eB, hbox, e1, r0, r1, r2, r3, q0, q1, q2, q3, z46, z18, z47, c, eq_self, decide_true, Zo, wB, bb2, i2, e3, hb, Nat.zero_add, gE]
     · obtain ⟨ht, hf⟩ := hs3 h;rw [harg] at ht hf;have hE : encI x = [eD x.op, eD (x.a / 256), eD x.a] := by unfold encI; rw [if_neg c, if_neg po, if_neg po, harg]
       rw [h] at z46;obtain ⟨t, e3, c3, f3, n3⟩ := oH (s := s1) (l := [eD x.op, eD (x.a / 256), eD x.a].map bJ) (n := 3) f1.wf rfl;refine ⟨t, .slice s1.next 0 3 (some 3) 1, ?_, fin t _ c3 f3 hE⟩;replace e3 : (s1.new .dead).put s1.next (.cells 3 (cK [bJ (eD x.op), bJ (eD (x.a / 256)), bJ (eD x.a)])) = t := e3;rw [LS];cases hsg : gL x.op with
       | true =>
         obtain ⟨g0', g1'⟩ := ht hsg;have i2 := u_ g0' g1' (s1.new .dead) (m := d) po;rw [hsg] at z47;simp -implicitDefEqProofs (disch := first|go_size|fail) only [go_sem, ↓fX, ↓jB, ↓pT, ↓qQ, ↓oV, ↓pK, ↓lG, ↓l_, ↓mj, jK, gy, fk, jU, qk, pQ, qh, qz, f_, jR, jF, jD, jH, iy, iz, iJ, List.nil_append, List.drop_zero, List.drop_succ_cons, List.take_succ_cons, List.take_zero, List.all_cons, List.all_nil, Bool.and_true, Bool.and_self, dU, eB, hbox, e1, r0, r1, r2, r3, q0, q1, q2, q3, z46, z18, z47, c, eq_self, decide_true, Zo, wB, bb3, i2, e3, hb, Nat.zero_add, gE]
       | false =>
         obtain ⟨g0', g1'⟩ := hf hsg;have i2 := u_ g0' g1' (s1.new .dead) (m := d) po;rw [hsg] at z47;simp -implicitDefEqProofs (disch := first|go_size|fail) only [go_sem, ↓fX, ↓jB, ↓pT, ↓qQ, ↓oV, ↓pK, ↓lG, ↓l_, ↓mj, jK, gy, fk, jU, qk, pQ, qh, qz, f_, jR, jF, jD, jH, iy, iz, iJ, List.nil_append, List.drop_zero, List.drop_succ_cons, List.take_succ_cons, List.take_zero, List.all_cons, List.all_nil, Bool.and_true, Bool.and_self, dU, eB, hbox, e1, r0, r1, r2, r3, q0, q1, q2, q3, z46, z18, z47, c, eq_self, decide_true, Zo, wB, bb3, i2, e3, hb, Nat.zero_add, gE]
theorem GL.app {s : St} {v y : V} {l l2 : List V} (hw : Wf s) (h : GL s v l) (hy : Src s 1 y l2.length l2) (hl : l.length ≤ 100000) :
 ∃ v' s', xM 1 v y s = some (v', s') ∧ GL s' v' (l ++ l2) ∧ Fr s s' (aB v) ∧ (∀ b ∈ aB v', b ∈ aB v ∨ s.next ≤ b) := by
 cases hq : l2 with
 | nil =>
   subst hq;have hy0 : Src s 1 y 0 [] := hy;rw [List.append_nil];refine ⟨v, s, ?_, h, Fr.refl hw _, fun b hb => .inl hb⟩
   rcases h with ⟨h0, rfl⟩ | ⟨b, rfl, h2⟩
   · exact KG hy0
   · exact Bc hy0 po
 | cons z zs =>
   rw [← hq];have hn : 0 < l2.length := by rw [hq]; simp
   rcases h with ⟨rfl, rfl⟩ | ⟨b, rfl, h2⟩
   · obtain ⟨s', e, c, f, n⟩ := sN hw hy hn;exact ⟨_, s', e, .inr ⟨s.next, pm, by simpa using c⟩, f.mono pm, fun b hb => by simp [aB] at hb; omega⟩
   · obtain ⟨s', e, c, f, n⟩ := mY (b := b) (o := 0) (len := l.length) hw hy hn po h2 po;refine ⟨_, s', e, .inr ⟨s.next, pm, ?_⟩, f.mono (by simp [aB]), fun b hb => by simp [aB] at hb; omega⟩
     rw [c, List.drop_zero, Nat.mul_one, List.take_length]
def cR (l : List In) : List Nat := (l.map encI).flatten
theorem m8 (l : List In) (x : In) : cR (l ++ [x]) = cR l ++ encI x := by simp [cR]
theorem EK {x : In} (ok : XY x) : ((encI x).length : Int) = bx x.op := by
 unfold encI;by_cases c : x.op = 132
 · rw [if_pos c, c]; rfl
 · rw [if_neg c];rcases fB x.op with h | h | h | h
   · exact absurd h ok.1.2.2.1
   · rw [if_pos h, h]; rfl
   · rw [if_neg po, if_pos h, h]; rfl
   · rw [if_neg po, if_neg po, h]; rfl
theorem zj {s : St} (hw : Wf s) {v : V} {l : List In} (h : RN 4 s v (l.map In.cells)) (hl : l.length ≤ 1000) (ok : ∀ x ∈ l, XY x) (hat : ∀ i x, l[i]? = some x → x.at_ = (((cR (l.take i)).length : Nat) : Int)) (hb : (cR l).length ≤ 1024) (hvb : ∀ b ∈ aB v, b < s.next) {m : Nat} (hm : 3 ≤ m) :
 ∃ (t : St) (bv : V), (K m).call 80 [v] s = some (.bH [bv, .i 0], t) ∧ SL t bv ((cR l).map bJ) ∧ Fr s t [] ∧ ∀ b ∈ aB bv, s.next ≤ b ∧ b < t.next := by
 obtain ⟨d, rfl⟩ : ∃ d, m = d + 1 := ⟨m - 1, po⟩;have hlen := h.len;rw [List.length_map] at hlen;have mono : ∀ i, (cR (l.take i)).length ≤ (cR l).length := fun i => by
  have : cR l = cR (l.take i) ++ cR (l.drop i) := by
   unfold cR;rw [← List.flatten_append, ← List.map_append, List.take_append_drop]
  rw [this, List.length_append]; omega
 suffices key : dg ((K (d + 1)).call 80 [v] s) fun x t => ∃ bv, x = .bH [bv, .i 0] ∧ SL t bv ((cR l).map bJ) ∧ Fr s t [] ∧ ∀ b ∈ aB bv, s.next ≤ b ∧ b < t.next by
  obtain ⟨x, t, e, bv, rfl, h1, h2, h3⟩ := key;exact ⟨t, bv, e, h1, h2, h3⟩
 simp -implicitDefEqProofs (disch := first|go_size|fail) only [agE, go_sem, gE]
 refine bf (Q := fun r => dg (aV _ (di (cL 0 r) _)) _) (fun q e t => ∃ (j : Nat) (ov : V), q = l.length - j ∧ j ≤ l.length ∧ Fr s t [] ∧ GL t ov ((cR (l.take j)).map bJ) ∧ (∀ b ∈ aB ov, s.next ≤ b) ∧ g0 e = v ∧ g4 e = ov ∧ g5 e = .i j) ?_ (n := l.length) po ⟨0, .ay, po, po, Fr.refl hw _, .inl ⟨rfl, rfl⟩, by simp [aB], pt, pt, pt⟩
 rintro q e t ⟨j, ov, rfl, hj, ft, gt, hov, i0, i4, i5⟩;replace i0 : e.a0.a0 = _ := i0;replace i4 : e.a0.a4 = _ := i4;replace i5 : e.a0.a5 = _ := i5;have ht := h.fr hw ft pm;have olen := gt.len;rw [List.length_map] at olen;have hmj := mono j;by_cases c : (j : Int) < ((l.length : Nat) : Int)
 · obtain ⟨x, hx⟩ : ∃ x, l[j]? = some x := ⟨_, List.getElem?_eq_getElem po⟩;obtain ⟨b, o, a1, hbv, a2, a3⟩ := ht.at ft.wf (i := j) (x := x.cells) (by rw [List.getElem?_map, hx]; rfl)
   have r0 := a2 0 (.i x.at_) rfl;have r1 := a2 1 (.i x.op) rfl;rw [Nat.add_zero] at r0;have okx := ok x (List.mem_of_getElem? hx);have hsz := okx.1.2.2.1;have z46 := vn okx.1.1 okx.1.2.1 t (m := d) po;have hata := hat j x hx;rw [hata] at r0;obtain ⟨t2, bv, e93, sl2, f2, hb2⟩ := Zw ft.wf okx (m := d) po;have gt2 := gt.fr ft.wf f2 pm;have hsl : (encI x).length ≤ 1024 := by
    have := mono (j + 1);rw [List.take_succ, hx] at this;simp [cR] at this hb;omega
   have hsrc := sl2.src (by intro y hy; obtain ⟨z, _, rfl⟩ := List.mem_map.1 hy; rfl) (by rw [List.length_map]; omega)
   obtain ⟨v', t3, e3, gt3, f3, vC⟩ := gt2.app f2.wf hsrc (by rw [List.length_map]; omega)
   have htk : (cR (l.take j)).map bJ ++ (encI x).map bJ = (cR (l.take (j + 1))).map bJ := by
    rw [List.take_succ, hx]; simp only [Option.toList_some]; rw [m8, List.map_append]
   rw [htk] at gt3;simp -implicitDefEqProofs (disch := first|go_size|fail) only [go_sem, i0, i4, i5, hlen, c, a1, r0, r1, z46, hsz, olen, a3, e93, e3]
   refine ⟨l.length - (j + 1), po, j + 1, v', rfl, po, (ft.trans f2).trans' f3 (fun b hb => .inr (hov b hb)), gt3, fun b hb => ?_, pt, pt, pt⟩
   rcases vC b hb with h | h
   · exact hov b h
   · have := ft.nx; have := f2.nx; omega
 · have hjl : j = l.length := po;subst hjl;rw [List.take_length] at gt olen;have c2 : ¬ (1024 : Int) < (((cR l).length : Nat) : Int) := po;simp -implicitDefEqProofs (disch := first|go_size|fail) only [go_sem, i0, i4, i5, hlen, c, olen, c2, gE]
   exact ⟨ov, rfl, gt.sl ft.wf, ft, fun b hb => ⟨hov b hb, gt.lt ft.wf b hb⟩⟩
def m7 (r : List V) : Prop := ∃ (a : Int) (x y : V), r = [.i a, x, y] ∧ x.one = true ∧ y.one = true ∧ -1000000 ≤ a ∧ a ≤ 1000000
theorem m7.row {r : List V} (h : m7 r) : Row 3 r := by
 obtain ⟨a, x, y, rfl, hx, hy, _⟩ := h;exact ⟨rfl, by intro v hv; simp at hv; rcases hv with rfl | rfl | rfl; rfl; exact hx; exact hy⟩
theorem fb3 (a : Int) (v : V) (hv : v.one = true) : cN [V.i 0, .ay, .ay] [(0, 1, .i a), (1, 1, v)] = some [.i a, v, .ay] := by
 rw [eT rfl pm];simp only [List.set_cons_zero];rw [eT hv pm]
 rfl
theorem AQ {s : St} (hw : Wf s) {fv tv : V} {rows : List (List V)} (h : GN 3 s fv rows) (hr : ∀ r ∈ rows, m7 r) (hl : rows.length ≤ 1000) (ht : tv.one = true) {a : Int} (a0 : -1000000 ≤ a) (a1 : a ≤ 1000000) (ct : Bool) {m : Nat} (hm : 1 ≤ m) :
 ∃ (t : St) (fv' : V) (rows' : List (List V)), (K m).call 78 [fv, .i a, tv, .bool ct] s = some (fv', t) ∧ GN 3 t fv' rows' ∧ (∀ r ∈ rows', m7 r) ∧ rows'.length ≤ rows.length + 1 ∧ Fr s t (aB fv) ∧ (∀ b ∈ aB fv', b ∈ aB fv ∨ s.next ≤ b) ∧ fv'.one = true := by
 obtain ⟨d, rfl⟩ : ∃ d, m = d + 1 := ⟨m - 1, po⟩;have hfo : ∀ {t : St} {v : V} {r : List (List V)}, GN 3 t v r → v.one = true := fun h => by rcases h.2 with ⟨_, rfl | ⟨b, rfl, _⟩⟩ | ⟨b, rfl, _⟩ <;> rfl
 obtain ⟨s1, e1, c1, f1, n1⟩ := bu (s := s) (l := [V.i 0, .ay, .ay]) (n := 3) hw rfl;obtain ⟨s2, p2, c2, f2, n2⟩ := cG (s := s1) (b := s.next) (o := 0) (vs := [.i a, tv, .ay]) (m := 3) f1.wf c1 rfl pm (by intro v hv; simp at hv; rcases hv with rfl | rfl | rfl; rfl; exact ht; rfl)
 have c2' : s2.cl s.next = some [.i a, tv, .ay] := by rw [c2]; simp [dA]
 have hnf : s.next ∉ aB fv := fun hm => by have := h.lt hw _ hm; omega
 have Sg : Fr s s2 [] := f1.trans' f2 (fun b hb => .inr (by simp at hb; omega))
 have mid : ∃ (s3 : St) (y : V), (if ct = true then ∃ sa, s2.new (.cells 1 (cK [V.str [76, 84, 104, 114, 111, 119, 97, 98, 108, 101, 59]])) = sa ∧ wH 1 (.ptr s.next 2) (.slice s2.next 0 1 (some 1) 1) sa = some (.bH [], s3) else s3 = s2) ∧ s3.cl s.next = some [.i a, tv, y] ∧ y.one = true ∧ Fr s s3 [] := by
  cases ct with
  | false => exact ⟨s2, .ay, rfl, c2', rfl, Sg⟩
  | true =>
    obtain ⟨sa, ea, ca, fa, na⟩ := bu (s := s2) (l := [V.str [76, 84, 104, 114, 111, 119, 97, 98, 108, 101, 59]]) (n := 1) f2.wf rfl;obtain ⟨sb, pb, cb, fb, nb⟩ := cC (s := sa) (b := s.next) (o := 2) (v := .slice s2.next 0 1 (some 1) 1) fa.wf (fa.cl f2.wf c2' pm) pm rfl;exact ⟨sb, _, ⟨sa, ea, pb⟩, cb, rfl, (Sg.trans fa).trans' fb (fun b hb => .inr (by simp at hb; omega))⟩
 obtain ⟨s3, y, hmid, c3, hy, f3⟩ := mid;have h3 := h.fr hw f3 pm;have hld := dB (o := 0) (m := 3) f3.wf c3 pm;replace hld : gH 3 (.ptr s.next 0) s3 = some (.agg [.i a, tv, y]) := by rw [hld]; rfl
 have hrow : m7 [.i a, tv, y] := ⟨a, tv, y, rfl, ht, hy, a0, a1⟩;obtain ⟨s4, v4, s5, e4, e5, h5, f5, hb5⟩ := h3.push f3.wf hrow.row po;have len3 := h3.len;have ab : eS 1 3 [V.i 0, .ay, .ay] [(0, 3, .agg [.i a, tv, y])] s3.next = some (.slice s3.next 0 1 (some 1) 3, .cells 3 (cK [.i a, tv, y])) := dQ rfl rfl (bN hrow.row.2);have push : ∃ (t : St) (fv' : V) (rows' : List (List V)), (v4, s5) = (fv', t) ∧ GN 3 t fv' rows' ∧ (∀ r ∈ rows', m7 r) ∧ rows'.length ≤ rows.length + 1 ∧ Fr s t (aB fv) ∧ (∀ b ∈ aB fv', b ∈ aB fv ∨ s.next ≤ b) ∧ fv'.one = true :=
  ⟨s5, v4, _, rfl, h5, fun r hr' => by rcases List.mem_append.1 hr' with h | h; exact hr r h; simp at h; subst h; exact hrow, pm, (f3.mono pm).trans f5, fun b hb => .inr (by have := hb5 b hb; have := f3.nx; omega), hfo h5⟩
 have keep : ∃ (t : St) (fv' : V) (rows' : List (List V)), (fv, s3) = (fv', t) ∧ GN 3 t fv' rows' ∧ (∀ r ∈ rows', m7 r) ∧ rows'.length ≤ rows.length + 1 ∧ Fr s t (aB fv) ∧ (∀ b ∈ aB fv', b ∈ aB fv ∨ s.next ≤ b) ∧ fv'.one = true :=
  ⟨s3, fv, rows, rfl, h3, hr, po, f3.mono pm, fun b hb => .inl hb, hfo h3⟩
 have sum : ((K (d + 1)).call 78 [fv, .i a, tv, .bool ct] s = some (v4, s5)) ∨ ((K (d + 1)).call 78 [fv, .i a, tv, .bool ct] s = some (fv, s3)) := by
  rw [afT];have c1z : (0 : Int) < ((rows.length : Nat) : Int) ∨ rows = [] := by cases rows with | nil => exact .inr rfl | cons _ _ => left; simp
  rcases c1z with c0 | c0
  · obtain ⟨r, hrr⟩ : ∃ r, rows[rows.length - 1]? = some r := ⟨_, List.getElem?_eq_getElem po⟩;obtain ⟨b, o, a1', _, a2, _⟩ := (h3.rn f3.wf).at f3.wf hrr;obtain ⟨ra, rx, ry, rfl, _⟩ := hr r (List.mem_of_getElem? hrr);have q0 := a2 0 (.i ra) rfl;rw [Nat.add_zero] at q0;have em : ((rows.length : Nat) : Int) - 1 = ((rows.length - 1 : Nat) : Int) := po;by_cases ce : ra = a
    · right
      cases ct with
      | false => subst hmid; simp -implicitDefEqProofs (disch := first|go_size|fail) only [go_sem, fb3, e1, p2, len3, c0, em, a1', q0, ce, a_]
      | true => obtain ⟨sa, ea, pa⟩ := hmid; simp -implicitDefEqProofs (disch := first|go_size|fail) only [go_sem, fb3, e1, p2, jk, ea, pa, len3, c0, em, a1', q0, ce, a_, Nat.zero_add]
    · left
      cases ct with
      | false => subst hmid; simp -implicitDefEqProofs (disch := first|go_size|fail) only [go_sem, fb3, e1, p2, len3, c0, em, a1', q0, ce, a_, hld, ab, e4, e5]
      | true => obtain ⟨sa, ea, pa⟩ := hmid; simp -implicitDefEqProofs (disch := first|go_size|fail) only [go_sem, fb3, e1, p2, jk, ea, pa, len3, c0, em, a1', q0, ce, a_, Nat.zero_add, hld, ab, e4, e5]
  · left
    subst c0;replace len3 : aM fv = some (.i 0) := len3;have c9 : ¬ (0 : Int) < 0 := po;cases ct with
    | false => subst hmid; simp -implicitDefEqProofs (disch := first|go_size|fail) only [go_sem, fb3, e1, p2, len3, c9, a_, hld, ab, e4, e5]
    | true => obtain ⟨sa, ea, pa⟩ := hmid; simp -implicitDefEqProofs (disch := first|go_size|fail) only [go_sem, fb3, e1, p2, jk, ea, pa, len3, c9, a_, Nat.zero_add, hld, ab, e4, e5]
 rcases sum with h | h
 · obtain ⟨t, fv', rows', e, rest⟩ := push;exact ⟨t, fv', rows', by rw [h, e], rest⟩
 · obtain ⟨t, fv', rows', e, rest⟩ := keep;exact ⟨t, fv', rows', by rw [h, e], rest⟩
section
variable {s0 s : St} {mb rb : Nat} {g : G} (H : MK s0 s mb rb g)
include H
theorem MK.aal (l : Nat) (hl : g.th.length ≤ 100000) {m : Nat} (hm : 1 ≤ m) : ∃ b, (K m).call 79 [.ptr mb 0, .i (l : Nat)] s = some (.bool b, s) := by
 obtain ⟨d, rfl⟩ : ∃ d, m = d + 1 := ⟨m - 1, po⟩;obtain ⟨pv, lv, hv, tv, pool, h1, h2, h3, h4, h5, h6, _⟩ := H.ex;have hw := H.wf;have hld : cP (.ptr mb 8) s = some tv := by rw [cS hw h1 (by simp [oF])]; rfl
 have hlen := h6.len;rw [List.length_map] at hlen;have hsl := h6.sl hw;suffices key : dg ((K (d + 1)).call 79 [.ptr mb 0, .i (l : Nat)] s) fun x t => ∃ b, x = .bool b ∧ t = s by
  obtain ⟨x, t, e, b, rfl, rfl⟩ := key;exact ⟨b, e⟩
 simp -implicitDefEqProofs (disch := first|go_size|fail) only [agP, go_sem]
 refine bf (Q := fun r => dg (aV _ (di (cL 0 r) _)) _) (fun q e t => ∃ j : Nat, q = g.th.length - j ∧ j ≤ g.th.length ∧ t = s ∧ g0 e = .ptr mb 0 ∧ g1 e = .i (l : Nat) ∧ g5 e = .i j) ?_ (n := g.th.length) po ⟨0, po, po, rfl, pt, pt, pt⟩
 rintro q e t ⟨j, rfl, hj, rfl, i0, i1, i5⟩;replace i0 : e.a0.a0 = _ := i0;replace i1 : e.a0.a1 = _ := i1;replace i5 : e.a0.a5 = _ := i5;by_cases c : (j : Int) < ((g.th.length : Nat) : Int)
 · obtain ⟨x, hx⟩ : ∃ x, g.th[j]? = some x := ⟨_, List.getElem?_eq_getElem po⟩;obtain ⟨q, a1, a2⟩ := hsl.at hw (j := j) (x := .i (x : Nat)) (by rw [List.getElem?_map, hx]; rfl)
   by_cases ce : ((x : Nat) : Int) = (l : Nat)
   · simp -implicitDefEqProofs (disch := first|go_size|fail) only [go_sem, i0, i1, i5, hld, hlen, c, a1, a2, ce]
     exact ⟨_, rfl, pt⟩
   · simp -implicitDefEqProofs (disch := first|go_size|fail) only [go_sem, i0, i1, i5, hld, hlen, c, a1, a2, ce]
     exact ⟨g.th.length - (j + 1), po, j + 1, rfl, po, pt, pt, pt, pt⟩
 · simp -implicitDefEqProofs (disch := first|go_size|fail) only [go_sem, i0, i1, i5, hld, hlen, c]
   exact ⟨_, rfl, pt⟩
end
def L.o : L → Int | .op o _ _ => o | .jmp o _ => o | .here _ => -1
def nP (st : List Int × Int) : L → List Int × Int
 | .here l => (st.1.set l st.2, st.2)
 | .op o _ _ => (st.1, st.2 + bx o)
 | .jmp o _ => (st.1, st.2 + bx o)
def cD (n : Nat) (ls : List L) : List Int × Int := ls.foldl nP (List.replicate n 0, 0)
def fS (P : List Int) (st : List In × Int) : L → List In × Int
 | .here _ => st
 | .op o a b => (st.1 ++ [⟨st.2, o, a, b⟩], st.2 + bx o)
 | .jmp o l => (st.1 ++ [⟨st.2, o, P.getD l 0, 0⟩], st.2 + bx o)
def bY (P : List Int) (ls : List L) : List In × Int := ls.foldl (fS P) ([], 0)
theorem ny (n : Nat) (ls : List L) (x : L) : cD n (ls ++ [x]) = nP (cD n ls) x := by simp [cD]
theorem jm (P : List Int) (ls : List L) (x : L) : bY P (ls ++ [x]) = fS P (bY P ls) x := by simp [bY]
def okD (n : Nat) : L → Prop
 | .op o _ _ => 0 ≤ o ∧ o < 256
 | .jmp o l => 0 ≤ o ∧ o < 256 ∧ l < n
 | .here l => l < n
theorem eZ (n : Int) : 0 ≤ bx n ∧ bx n ≤ 3 := by rcases fB n with h | h | h | h <;> omega
theorem jz (n : Nat) : ∀ ls : List L, (cD n ls).1.length = n ∧ 0 ≤ (cD n ls).2 ∧ (cD n ls).2 ≤ 3 * (ls.length : Nat) := fun ls => by
 rcases List.eq_nil_or_concat ls with rfl | ⟨l, x, rfl⟩
 · simp [cD]
 · rw [List.concat_eq_append, ny, List.length_append];obtain ⟨h1, h2, h3⟩ := jz n l;cases x with
   | here k => simp [nP, h1]; omega
   | op o a b => have := eZ o; simp [nP, h1]; omega
   | jmp o k => have := eZ o; simp [nP, h1]; omega
termination_by ls => ls.length
decreasing_by simp_wf; simp_all
theorem mZ (n : Nat) : ∀ (ls : List L) (i : Nat) (x : Int), (cD n ls).1[i]? = some x → 0 ≤ x ∧ x ≤ 3 * (ls.length : Nat) := fun ls i x hx => by
 rcases List.eq_nil_or_concat ls with rfl | ⟨l, y, rfl⟩
 · simp [cD] at hx;rw [List.getElem?_replicate] at hx;split at hx
   · cases hx; simp
   · cases hx
 · rw [List.concat_eq_append, ny] at hx;rw [List.concat_eq_append, List.length_append];obtain ⟨h1, h2, h3⟩ := jz n l;cases y with
   | here k =>
     simp only [nP] at hx;rw [List.getElem?_set] at hx;split at hx
     · split at hx
       · cases hx; simp; omega
       · cases hx
     · have := mZ n l i x hx; simp; omega
   | op o a b => have := mZ n l i x hx; simp; omega
   | jmp o k => have := mZ n l i x hx; simp; omega
termination_by ls => ls.length
decreasing_by all_goals (simp_wf; simp_all)
theorem iq (P : List Int) : ∀ ls : List L, (bY P ls).1.length ≤ ls.length ∧ 0 ≤ (bY P ls).2 ∧ (bY P ls).2 ≤ 3 * (ls.length : Nat) := fun ls => by
 rcases List.eq_nil_or_concat ls with rfl | ⟨l, x, rfl⟩
 · simp [bY]
 · rw [List.concat_eq_append, jm, List.length_append];obtain ⟨h1, h2, h3⟩ := iq P l;cases x with
   | here k => simp [fS]; omega
   | op o a b => have := eZ o; simp [fS]; omega
   | jmp o k => have := eZ o; simp [fS]; omega
termination_by ls => ls.length
decreasing_by simp_wf; simp_all
def thr : List Nat := [84, 104, 114, 111, 119, 97, 98, 108, 101]
def kZ (P : List Int) (x : Nat × Nat × Nat) : List V := [.i (P.getD x.1 0), .i (P.getD x.2.1 0), .i (P.getD x.2.2 0), .str thr]
theorem uq (P : List Int) (x : Nat × Nat × Nat) : Row 4 (kZ P x) := ⟨rfl, by intro v hv; simp [kZ] at hv; rcases hv with rfl | rfl | rfl | rfl <;> rfl⟩
theorem qH {l : List L} {i : Nat} {x : L} (h : l[i]? = some x) : l.take (i + 1) = l.take i ++ [x] := by rw [List.take_succ, h]; rfl
section
variable {s0 s : St} {mb rb : Nat} {g : G} (H : MK s0 s mb rb g)
include H
theorem MK.lines : ∃ lv, cP (.ptr mb 2) s = some lv ∧ RN 6 s lv (g.ls.map L.cells) ∧ aM lv = some (.i (g.ls.length : Nat)) ∧ ∀ b ∈ aB lv, b < s.next := by
 obtain ⟨pv, lv, hv, tv, pool, h1, h2, h3, h4, h5, h6, _⟩ := H.ex;have hlen := h4.len;rw [List.length_map] at hlen;exact ⟨lv, by rw [cS H.wf h1 (by simp [oF])]; rfl, h4.rn H.wf, hlen, h4.lt H.wf⟩
theorem MK.Tw : ∃ hv, cP (.ptr mb 7) s = some hv ∧ RN 3 s hv (g.hs.map hC) ∧ aM hv = some (.i (g.hs.length : Nat)) ∧ ∀ b ∈ aB hv, b < s.next := by
 obtain ⟨pv, lv, hv, tv, pool, h1, h2, h3, h4, h5, h6, _⟩ := H.ex;have hlen := h5.len;rw [List.length_map] at hlen;exact ⟨hv, by rw [cS H.wf h1 (by simp [oF])]; rfl, h5.rn H.wf, hlen, h5.lt H.wf⟩
end
end
end Go.Proofs.YtcgdlgbomjnnnaaGreatLab
