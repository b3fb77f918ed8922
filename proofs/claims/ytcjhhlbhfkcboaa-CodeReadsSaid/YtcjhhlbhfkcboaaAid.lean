/- Small words for the code seat: rows that were just made; what is below. -/
import Derived.Handy
import Derived.Test.YtcjhhlbhfkcboaaPA0
namespace Go.Proofs.Ytcjhhlbhfkcboaa.Aid
open Go.RowKit Go.Proofs.YtcjhhlbhfkcboaaW.PrintWords Go.Proofs.YtcjhhlbhfkcboaaW.PrintLast Go.Proofs.YtcjhhlbhfkcboaaW.PrintMore
open Go.Proofs.Ytcjhhlbhfkcboaa.PA
abbrev SizeIs (op s : Int) : Prop := ∀ w, Calls Try.prog 27 #[.int .i64 op] w fun e w' => e = .returned (.int .i64 s) ∧ Below w.heap.size w w'
abbrev InIs (n lo hi : Int) (b : Bool) : Prop := ∀ w, Calls Try.prog 44 #[.int .i64 n, .int .i64 lo, .int .i64 hi] w fun e w' => e = .returned (.bool b) ∧ Drawn0 w w'
abbrev BrIs (n : Int) (b : Bool) : Prop := ∀ w, Calls Try.prog 30 #[.int .i64 n] w fun e w' => e = .returned (.bool b) ∧ Drawn0 w w'
abbrev SgIs (n : Int) (b : Bool) : Prop := ∀ w, Calls Try.prog 34 #[.int .i64 n] w fun e w' => e = .returned (.bool b) ∧ Drawn0 w w'
def Post (l : List Int) (b : Bool) (w : World) (e : Ending) (w' : World) : Prop := ∃ v : Value, e = .returned (.tuple #[v, .bool b]) ∧ Kd.R (Kd.int .u8) 5 w' w.heap.size (fun _ => True) v l ∧ Below w.heap.size w w'
theorem Post.intro {l : List Int} {b : Bool} {w w' : World} {e : Ending} {v : Value} (he : e = .returned (.tuple #[v, .bool b])) (hr : Kd.R (Kd.int .u8) 5 w' w.heap.size (fun _ => True) v l) (hb : Below w.heap.size w w') : Post l b w e w' := ⟨v, he, hr, hb⟩
theorem wrap_u8 (n : Int) : IntKind.u8.wrap n = n % 256 := IntKind.wrap_u8 n

theorem lit_u8 {W : World} {base : Nat} {cells : Array Value} {l : List Int} (n : Nat) (hb : base ≤ W.heap.size) (hc : cells = (l.map (Value.int .u8)).toArray) (hn : l.length = n) (hm : n ≤ 1000) :
    Kd.R (Kd.int .u8) 5 (W.alloc (.cells cells 5)) base (fun _ => True) (.slice (some ⟨W.heap.size, 0, none⟩) n n) l := by
  subst hc; subst hn
  refine ⟨fun _ _ => trivial, l.map (Value.int .u8), ?_, ?_⟩
  · have h2 := World.ownsRow_lit (base := base) (e := 5) (size := 1) W (l.map (Value.int .u8)).toArray l.length hb (by simp [maxLen]; omega) (by simp)
    exact h2
  · refine ⟨by simp [Kd.int, Kd.scalar], fun j p hj => ?_⟩
    obtain ⟨hlt, hp⟩ := List.getElem?_eq_some_iff.1 hj
    change List.take 1 (List.drop (j * 1) (l.map (Value.int .u8))) = [Value.int .u8 p]
    rw [Nat.mul_one, List.drop_eq_getElem_cons (by simpa using hlt)]
    simp [hp]
theorem below_any {w w1 w2 w3 : World} (h1 : Below w1.heap.size w1 w2) (h : Below w.heap.size w w1 → Below w1.heap.size w1 w2 → Below w.heap.size w w3) (h0 : Below w.heap.size w w1) : Below w.heap.size w w3 := h h0 h1
end Go.Proofs.Ytcjhhlbhfkcboaa.Aid
