/- The lab: a frame's slots, sixteen times sixteen. No condition on the program. -/
import Derived.Test.YtjipdnfaokdkbaaLab0
namespace Go.Proofs.YtjipdnfaokdkbaaLab
open Go
set_option linter.unusedVariables false
noncomputable section

structure N16 (α : Type) where
  mk ::
  a0 : α
  a1 : α
  a2 : α
  a3 : α
  a4 : α
  a5 : α
  a6 : α
  a7 : α
  a8 : α
  a9 : α
  a10 : α
  a11 : α
  a12 : α
  a13 : α
  a14 : α
  a15 : α

def N16.get {α : Type} (i : Nat) (e : N16 α) : α :=
  match i with
  | 0 => e.a0
  | 1 => e.a1
  | 2 => e.a2
  | 3 => e.a3
  | 4 => e.a4
  | 5 => e.a5
  | 6 => e.a6
  | 7 => e.a7
  | 8 => e.a8
  | 9 => e.a9
  | 10 => e.a10
  | 11 => e.a11
  | 12 => e.a12
  | 13 => e.a13
  | 14 => e.a14
  | _ => e.a15
def N16.k0 {α β : Type} (e : N16 α) (v : α) (k : N16 α → β) : β := N16.casesOn e fun _ x1 x2 x3 x4 x5 x6 x7 x8 x9 x10 x11 x12 x13 x14 x15 => k ⟨v, x1, x2, x3, x4, x5, x6, x7, x8, x9, x10, x11, x12, x13, x14, x15⟩
def N16.k1 {α β : Type} (e : N16 α) (v : α) (k : N16 α → β) : β := N16.casesOn e fun x0 _ x2 x3 x4 x5 x6 x7 x8 x9 x10 x11 x12 x13 x14 x15 => k ⟨x0, v, x2, x3, x4, x5, x6, x7, x8, x9, x10, x11, x12, x13, x14, x15⟩
def N16.k2 {α β : Type} (e : N16 α) (v : α) (k : N16 α → β) : β := N16.casesOn e fun x0 x1 _ x3 x4 x5 x6 x7 x8 x9 x10 x11 x12 x13 x14 x15 => k ⟨x0, x1, v, x3, x4, x5, x6, x7, x8, x9, x10, x11, x12, x13, x14, x15⟩
def N16.k3 {α β : Type} (e : N16 α) (v : α) (k : N16 α → β) : β := N16.casesOn e fun x0 x1 x2 _ x4 x5 x6 x7 x8 x9 x10 x11 x12 x13 x14 x15 => k ⟨x0, x1, x2, v, x4, x5, x6, x7, x8, x9, x10, x11, x12, x13, x14, x15⟩
def N16.k4 {α β : Type} (e : N16 α) (v : α) (k : N16 α → β) : β := N16.casesOn e fun x0 x1 x2 x3 _ x5 x6 x7 x8 x9 x10 x11 x12 x13 x14 x15 => k ⟨x0, x1, x2, x3, v, x5, x6, x7, x8, x9, x10, x11, x12, x13, x14, x15⟩
def N16.k5 {α β : Type} (e : N16 α) (v : α) (k : N16 α → β) : β := N16.casesOn e fun x0 x1 x2 x3 x4 _ x6 x7 x8 x9 x10 x11 x12 x13 x14 x15 => k ⟨x0, x1, x2, x3, x4, v, x6, x7, x8, x9, x10, x11, x12, x13, x14, x15⟩
def N16.k6 {α β : Type} (e : N16 α) (v : α) (k : N16 α → β) : β := N16.casesOn e fun x0 x1 x2 x3 x4 x5 _ x7 x8 x9 x10 x11 x12 x13 x14 x15 => k ⟨x0, x1, x2, x3, x4, x5, v, x7, x8, x9, x10, x11, x12, x13, x14, x15⟩
def N16.k7 {α β : Type} (e : N16 α) (v : α) (k : N16 α → β) : β := N16.casesOn e fun x0 x1 x2 x3 x4 x5 x6 _ x8 x9 x10 x11 x12 x13 x14 x15 => k ⟨x0, x1, x2, x3, x4, x5, x6, v, x8, x9, x10, x11, x12, x13, x14, x15⟩
def N16.k8 {α β : Type} (e : N16 α) (v : α) (k : N16 α → β) : β := N16.casesOn e fun x0 x1 x2 x3 x4 x5 x6 x7 _ x9 x10 x11 x12 x13 x14 x15 => k ⟨x0, x1, x2, x3, x4, x5, x6, x7, v, x9, x10, x11, x12, x13, x14, x15⟩
def N16.k9 {α β : Type} (e : N16 α) (v : α) (k : N16 α → β) : β := N16.casesOn e fun x0 x1 x2 x3 x4 x5 x6 x7 x8 _ x10 x11 x12 x13 x14 x15 => k ⟨x0, x1, x2, x3, x4, x5, x6, x7, x8, v, x10, x11, x12, x13, x14, x15⟩
def N16.k10 {α β : Type} (e : N16 α) (v : α) (k : N16 α → β) : β := N16.casesOn e fun x0 x1 x2 x3 x4 x5 x6 x7 x8 x9 _ x11 x12 x13 x14 x15 => k ⟨x0, x1, x2, x3, x4, x5, x6, x7, x8, x9, v, x11, x12, x13, x14, x15⟩
def N16.k11 {α β : Type} (e : N16 α) (v : α) (k : N16 α → β) : β := N16.casesOn e fun x0 x1 x2 x3 x4 x5 x6 x7 x8 x9 x10 _ x12 x13 x14 x15 => k ⟨x0, x1, x2, x3, x4, x5, x6, x7, x8, x9, x10, v, x12, x13, x14, x15⟩
def N16.k12 {α β : Type} (e : N16 α) (v : α) (k : N16 α → β) : β := N16.casesOn e fun x0 x1 x2 x3 x4 x5 x6 x7 x8 x9 x10 x11 _ x13 x14 x15 => k ⟨x0, x1, x2, x3, x4, x5, x6, x7, x8, x9, x10, x11, v, x13, x14, x15⟩
def N16.k13 {α β : Type} (e : N16 α) (v : α) (k : N16 α → β) : β := N16.casesOn e fun x0 x1 x2 x3 x4 x5 x6 x7 x8 x9 x10 x11 x12 _ x14 x15 => k ⟨x0, x1, x2, x3, x4, x5, x6, x7, x8, x9, x10, x11, x12, v, x14, x15⟩
def N16.k14 {α β : Type} (e : N16 α) (v : α) (k : N16 α → β) : β := N16.casesOn e fun x0 x1 x2 x3 x4 x5 x6 x7 x8 x9 x10 x11 x12 x13 _ x15 => k ⟨x0, x1, x2, x3, x4, x5, x6, x7, x8, x9, x10, x11, x12, x13, v, x15⟩
def N16.k15 {α β : Type} (e : N16 α) (v : α) (k : N16 α → β) : β := N16.casesOn e fun x0 x1 x2 x3 x4 x5 x6 x7 x8 x9 x10 x11 x12 x13 x14 _ => k ⟨x0, x1, x2, x3, x4, x5, x6, x7, x8, x9, x10, x11, x12, x13, x14, v⟩
def N16.setK {α β : Type} (i : Nat) : N16 α → α → (N16 α → β) → β :=
  match i with
  | 0 => N16.k0
  | 1 => N16.k1
  | 2 => N16.k2
  | 3 => N16.k3
  | 4 => N16.k4
  | 5 => N16.k5
  | 6 => N16.k6
  | 7 => N16.k7
  | 8 => N16.k8
  | 9 => N16.k9
  | 10 => N16.k10
  | 11 => N16.k11
  | 12 => N16.k12
  | 13 => N16.k13
  | 14 => N16.k14
  | _ => N16.k15
def N16.u0 {α : Type} (sk : N16 α → α → (N16 α → N16 (N16 α)) → N16 (N16 α)) (e : N16 (N16 α)) (v : α) : N16 (N16 α) := N16.casesOn e fun x0 x1 x2 x3 x4 x5 x6 x7 x8 x9 x10 x11 x12 x13 x14 x15 => sk x0 v fun y => ⟨y, x1, x2, x3, x4, x5, x6, x7, x8, x9, x10, x11, x12, x13, x14, x15⟩
def N16.u1 {α : Type} (sk : N16 α → α → (N16 α → N16 (N16 α)) → N16 (N16 α)) (e : N16 (N16 α)) (v : α) : N16 (N16 α) := N16.casesOn e fun x0 x1 x2 x3 x4 x5 x6 x7 x8 x9 x10 x11 x12 x13 x14 x15 => sk x1 v fun y => ⟨x0, y, x2, x3, x4, x5, x6, x7, x8, x9, x10, x11, x12, x13, x14, x15⟩
def N16.u2 {α : Type} (sk : N16 α → α → (N16 α → N16 (N16 α)) → N16 (N16 α)) (e : N16 (N16 α)) (v : α) : N16 (N16 α) := N16.casesOn e fun x0 x1 x2 x3 x4 x5 x6 x7 x8 x9 x10 x11 x12 x13 x14 x15 => sk x2 v fun y => ⟨x0, x1, y, x3, x4, x5, x6, x7, x8, x9, x10, x11, x12, x13, x14, x15⟩
def N16.u3 {α : Type} (sk : N16 α → α → (N16 α → N16 (N16 α)) → N16 (N16 α)) (e : N16 (N16 α)) (v : α) : N16 (N16 α) := N16.casesOn e fun x0 x1 x2 x3 x4 x5 x6 x7 x8 x9 x10 x11 x12 x13 x14 x15 => sk x3 v fun y => ⟨x0, x1, x2, y, x4, x5, x6, x7, x8, x9, x10, x11, x12, x13, x14, x15⟩
def N16.u4 {α : Type} (sk : N16 α → α → (N16 α → N16 (N16 α)) → N16 (N16 α)) (e : N16 (N16 α)) (v : α) : N16 (N16 α) := N16.casesOn e fun x0 x1 x2 x3 x4 x5 x6 x7 x8 x9 x10 x11 x12 x13 x14 x15 => sk x4 v fun y => ⟨x0, x1, x2, x3, y, x5, x6, x7, x8, x9, x10, x11, x12, x13, x14, x15⟩
def N16.u5 {α : Type} (sk : N16 α → α → (N16 α → N16 (N16 α)) → N16 (N16 α)) (e : N16 (N16 α)) (v : α) : N16 (N16 α) := N16.casesOn e fun x0 x1 x2 x3 x4 x5 x6 x7 x8 x9 x10 x11 x12 x13 x14 x15 => sk x5 v fun y => ⟨x0, x1, x2, x3, x4, y, x6, x7, x8, x9, x10, x11, x12, x13, x14, x15⟩
def N16.u6 {α : Type} (sk : N16 α → α → (N16 α → N16 (N16 α)) → N16 (N16 α)) (e : N16 (N16 α)) (v : α) : N16 (N16 α) := N16.casesOn e fun x0 x1 x2 x3 x4 x5 x6 x7 x8 x9 x10 x11 x12 x13 x14 x15 => sk x6 v fun y => ⟨x0, x1, x2, x3, x4, x5, y, x7, x8, x9, x10, x11, x12, x13, x14, x15⟩
def N16.u7 {α : Type} (sk : N16 α → α → (N16 α → N16 (N16 α)) → N16 (N16 α)) (e : N16 (N16 α)) (v : α) : N16 (N16 α) := N16.casesOn e fun x0 x1 x2 x3 x4 x5 x6 x7 x8 x9 x10 x11 x12 x13 x14 x15 => sk x7 v fun y => ⟨x0, x1, x2, x3, x4, x5, x6, y, x8, x9, x10, x11, x12, x13, x14, x15⟩
def N16.u8 {α : Type} (sk : N16 α → α → (N16 α → N16 (N16 α)) → N16 (N16 α)) (e : N16 (N16 α)) (v : α) : N16 (N16 α) := N16.casesOn e fun x0 x1 x2 x3 x4 x5 x6 x7 x8 x9 x10 x11 x12 x13 x14 x15 => sk x8 v fun y => ⟨x0, x1, x2, x3, x4, x5, x6, x7, y, x9, x10, x11, x12, x13, x14, x15⟩
def N16.u9 {α : Type} (sk : N16 α → α → (N16 α → N16 (N16 α)) → N16 (N16 α)) (e : N16 (N16 α)) (v : α) : N16 (N16 α) := N16.casesOn e fun x0 x1 x2 x3 x4 x5 x6 x7 x8 x9 x10 x11 x12 x13 x14 x15 => sk x9 v fun y => ⟨x0, x1, x2, x3, x4, x5, x6, x7, x8, y, x10, x11, x12, x13, x14, x15⟩
def N16.u10 {α : Type} (sk : N16 α → α → (N16 α → N16 (N16 α)) → N16 (N16 α)) (e : N16 (N16 α)) (v : α) : N16 (N16 α) := N16.casesOn e fun x0 x1 x2 x3 x4 x5 x6 x7 x8 x9 x10 x11 x12 x13 x14 x15 => sk x10 v fun y => ⟨x0, x1, x2, x3, x4, x5, x6, x7, x8, x9, y, x11, x12, x13, x14, x15⟩
def N16.u11 {α : Type} (sk : N16 α → α → (N16 α → N16 (N16 α)) → N16 (N16 α)) (e : N16 (N16 α)) (v : α) : N16 (N16 α) := N16.casesOn e fun x0 x1 x2 x3 x4 x5 x6 x7 x8 x9 x10 x11 x12 x13 x14 x15 => sk x11 v fun y => ⟨x0, x1, x2, x3, x4, x5, x6, x7, x8, x9, x10, y, x12, x13, x14, x15⟩
def N16.u12 {α : Type} (sk : N16 α → α → (N16 α → N16 (N16 α)) → N16 (N16 α)) (e : N16 (N16 α)) (v : α) : N16 (N16 α) := N16.casesOn e fun x0 x1 x2 x3 x4 x5 x6 x7 x8 x9 x10 x11 x12 x13 x14 x15 => sk x12 v fun y => ⟨x0, x1, x2, x3, x4, x5, x6, x7, x8, x9, x10, x11, y, x13, x14, x15⟩
def N16.u13 {α : Type} (sk : N16 α → α → (N16 α → N16 (N16 α)) → N16 (N16 α)) (e : N16 (N16 α)) (v : α) : N16 (N16 α) := N16.casesOn e fun x0 x1 x2 x3 x4 x5 x6 x7 x8 x9 x10 x11 x12 x13 x14 x15 => sk x13 v fun y => ⟨x0, x1, x2, x3, x4, x5, x6, x7, x8, x9, x10, x11, x12, y, x14, x15⟩
def N16.u14 {α : Type} (sk : N16 α → α → (N16 α → N16 (N16 α)) → N16 (N16 α)) (e : N16 (N16 α)) (v : α) : N16 (N16 α) := N16.casesOn e fun x0 x1 x2 x3 x4 x5 x6 x7 x8 x9 x10 x11 x12 x13 x14 x15 => sk x14 v fun y => ⟨x0, x1, x2, x3, x4, x5, x6, x7, x8, x9, x10, x11, x12, x13, y, x15⟩
def N16.u15 {α : Type} (sk : N16 α → α → (N16 α → N16 (N16 α)) → N16 (N16 α)) (e : N16 (N16 α)) (v : α) : N16 (N16 α) := N16.casesOn e fun x0 x1 x2 x3 x4 x5 x6 x7 x8 x9 x10 x11 x12 x13 x14 x15 => sk x15 v fun y => ⟨x0, x1, x2, x3, x4, x5, x6, x7, x8, x9, x10, x11, x12, x13, x14, y⟩
def N16.upd {α : Type} (i : Nat) : (N16 α → α → (N16 α → N16 (N16 α)) → N16 (N16 α)) → N16 (N16 α) → α → N16 (N16 α) :=
  match i with
  | 0 => N16.u0
  | 1 => N16.u1
  | 2 => N16.u2
  | 3 => N16.u3
  | 4 => N16.u4
  | 5 => N16.u5
  | 6 => N16.u6
  | 7 => N16.u7
  | 8 => N16.u8
  | 9 => N16.u9
  | 10 => N16.u10
  | 11 => N16.u11
  | 12 => N16.u12
  | 13 => N16.u13
  | 14 => N16.u14
  | _ => N16.u15


/-- A frame's slots. -/
abbrev E := N16 (N16 V)
def Gt (t : Nat) (e : E) : V := N16.get (t % 16) (N16.get (t / 16) e)
def Ut (t : Nat) : E → V → E := N16.upd (t / 16) (N16.setK (t % 16))

/-! The slots by name, for quick reckoning. -/
def g0 (e : E) : V := (e.a0).a0
def u0 : E → V → E := N16.u0 N16.k0
def g1 (e : E) : V := (e.a0).a1
def u1 : E → V → E := N16.u0 N16.k1
def g2 (e : E) : V := (e.a0).a2
def u2 : E → V → E := N16.u0 N16.k2
def g3 (e : E) : V := (e.a0).a3
def u3 : E → V → E := N16.u0 N16.k3
def g4 (e : E) : V := (e.a0).a4
def u4 : E → V → E := N16.u0 N16.k4
def g5 (e : E) : V := (e.a0).a5
def u5 : E → V → E := N16.u0 N16.k5
def g6 (e : E) : V := (e.a0).a6
def u6 : E → V → E := N16.u0 N16.k6
def g7 (e : E) : V := (e.a0).a7
def u7 : E → V → E := N16.u0 N16.k7
def g8 (e : E) : V := (e.a0).a8
def u8 : E → V → E := N16.u0 N16.k8
def g9 (e : E) : V := (e.a0).a9
def u9 : E → V → E := N16.u0 N16.k9
def g10 (e : E) : V := (e.a0).a10
def u10 : E → V → E := N16.u0 N16.k10
def g11 (e : E) : V := (e.a0).a11
def u11 : E → V → E := N16.u0 N16.k11
def g12 (e : E) : V := (e.a0).a12
def u12 : E → V → E := N16.u0 N16.k12
def g13 (e : E) : V := (e.a0).a13
def u13 : E → V → E := N16.u0 N16.k13
def g14 (e : E) : V := (e.a0).a14
def u14 : E → V → E := N16.u0 N16.k14
def g15 (e : E) : V := (e.a0).a15
def u15 : E → V → E := N16.u0 N16.k15
def g16 (e : E) : V := (e.a1).a0
def u16 : E → V → E := N16.u1 N16.k0
def g17 (e : E) : V := (e.a1).a1
def u17 : E → V → E := N16.u1 N16.k1
def g18 (e : E) : V := (e.a1).a2
def u18 : E → V → E := N16.u1 N16.k2
def g19 (e : E) : V := (e.a1).a3
def u19 : E → V → E := N16.u1 N16.k3
def g20 (e : E) : V := (e.a1).a4
def u20 : E → V → E := N16.u1 N16.k4
def g21 (e : E) : V := (e.a1).a5
def u21 : E → V → E := N16.u1 N16.k5
def g22 (e : E) : V := (e.a1).a6
def u22 : E → V → E := N16.u1 N16.k6
def g23 (e : E) : V := (e.a1).a7
def u23 : E → V → E := N16.u1 N16.k7
def g24 (e : E) : V := (e.a1).a8
def u24 : E → V → E := N16.u1 N16.k8
def g25 (e : E) : V := (e.a1).a9
def u25 : E → V → E := N16.u1 N16.k9
def g26 (e : E) : V := (e.a1).a10
def u26 : E → V → E := N16.u1 N16.k10
def g27 (e : E) : V := (e.a1).a11
def u27 : E → V → E := N16.u1 N16.k11
def g28 (e : E) : V := (e.a1).a12
def u28 : E → V → E := N16.u1 N16.k12
def g29 (e : E) : V := (e.a1).a13
def u29 : E → V → E := N16.u1 N16.k13
def g30 (e : E) : V := (e.a1).a14
def u30 : E → V → E := N16.u1 N16.k14
def g31 (e : E) : V := (e.a1).a15
def u31 : E → V → E := N16.u1 N16.k15
def g32 (e : E) : V := (e.a2).a0
def u32 : E → V → E := N16.u2 N16.k0
def g33 (e : E) : V := (e.a2).a1
def u33 : E → V → E := N16.u2 N16.k1
def g34 (e : E) : V := (e.a2).a2
def u34 : E → V → E := N16.u2 N16.k2
def g35 (e : E) : V := (e.a2).a3
def u35 : E → V → E := N16.u2 N16.k3
def g36 (e : E) : V := (e.a2).a4
def u36 : E → V → E := N16.u2 N16.k4
def g37 (e : E) : V := (e.a2).a5
def u37 : E → V → E := N16.u2 N16.k5
def g38 (e : E) : V := (e.a2).a6
def u38 : E → V → E := N16.u2 N16.k6
def g39 (e : E) : V := (e.a2).a7
def u39 : E → V → E := N16.u2 N16.k7
def g40 (e : E) : V := (e.a2).a8
def u40 : E → V → E := N16.u2 N16.k8
def g41 (e : E) : V := (e.a2).a9
def u41 : E → V → E := N16.u2 N16.k9
def g42 (e : E) : V := (e.a2).a10
def u42 : E → V → E := N16.u2 N16.k10
def g43 (e : E) : V := (e.a2).a11
def u43 : E → V → E := N16.u2 N16.k11
def g44 (e : E) : V := (e.a2).a12
def u44 : E → V → E := N16.u2 N16.k12
def g45 (e : E) : V := (e.a2).a13
def u45 : E → V → E := N16.u2 N16.k13
def g46 (e : E) : V := (e.a2).a14
def u46 : E → V → E := N16.u2 N16.k14
def g47 (e : E) : V := (e.a2).a15
def u47 : E → V → E := N16.u2 N16.k15
def g48 (e : E) : V := (e.a3).a0
def u48 : E → V → E := N16.u3 N16.k0
def g49 (e : E) : V := (e.a3).a1
def u49 : E → V → E := N16.u3 N16.k1
def g50 (e : E) : V := (e.a3).a2
def u50 : E → V → E := N16.u3 N16.k2
def g51 (e : E) : V := (e.a3).a3
def u51 : E → V → E := N16.u3 N16.k3
def g52 (e : E) : V := (e.a3).a4
def u52 : E → V → E := N16.u3 N16.k4
def g53 (e : E) : V := (e.a3).a5
def u53 : E → V → E := N16.u3 N16.k5
def g54 (e : E) : V := (e.a3).a6
def u54 : E → V → E := N16.u3 N16.k6
def g55 (e : E) : V := (e.a3).a7
def u55 : E → V → E := N16.u3 N16.k7
def g56 (e : E) : V := (e.a3).a8
def u56 : E → V → E := N16.u3 N16.k8
def g57 (e : E) : V := (e.a3).a9
def u57 : E → V → E := N16.u3 N16.k9
def g58 (e : E) : V := (e.a3).a10
def u58 : E → V → E := N16.u3 N16.k10
def g59 (e : E) : V := (e.a3).a11
def u59 : E → V → E := N16.u3 N16.k11
def g60 (e : E) : V := (e.a3).a12
def u60 : E → V → E := N16.u3 N16.k12
def g61 (e : E) : V := (e.a3).a13
def u61 : E → V → E := N16.u3 N16.k13
def g62 (e : E) : V := (e.a3).a14
def u62 : E → V → E := N16.u3 N16.k14
def g63 (e : E) : V := (e.a3).a15
def u63 : E → V → E := N16.u3 N16.k15
def g64 (e : E) : V := (e.a4).a0
def u64 : E → V → E := N16.u4 N16.k0
def g65 (e : E) : V := (e.a4).a1
def u65 : E → V → E := N16.u4 N16.k1
def g66 (e : E) : V := (e.a4).a2
def u66 : E → V → E := N16.u4 N16.k2
def g67 (e : E) : V := (e.a4).a3
def u67 : E → V → E := N16.u4 N16.k3
def g68 (e : E) : V := (e.a4).a4
def u68 : E → V → E := N16.u4 N16.k4
def g69 (e : E) : V := (e.a4).a5
def u69 : E → V → E := N16.u4 N16.k5
def g70 (e : E) : V := (e.a4).a6
def u70 : E → V → E := N16.u4 N16.k6
def g71 (e : E) : V := (e.a4).a7
def u71 : E → V → E := N16.u4 N16.k7
def g72 (e : E) : V := (e.a4).a8
def u72 : E → V → E := N16.u4 N16.k8
def g73 (e : E) : V := (e.a4).a9
def u73 : E → V → E := N16.u4 N16.k9
def g74 (e : E) : V := (e.a4).a10
def u74 : E → V → E := N16.u4 N16.k10
def g75 (e : E) : V := (e.a4).a11
def u75 : E → V → E := N16.u4 N16.k11
def g76 (e : E) : V := (e.a4).a12
def u76 : E → V → E := N16.u4 N16.k12
def g77 (e : E) : V := (e.a4).a13
def u77 : E → V → E := N16.u4 N16.k13
def g78 (e : E) : V := (e.a4).a14
def u78 : E → V → E := N16.u4 N16.k14
def g79 (e : E) : V := (e.a4).a15
def u79 : E → V → E := N16.u4 N16.k15
def g80 (e : E) : V := (e.a5).a0
def u80 : E → V → E := N16.u5 N16.k0
def g81 (e : E) : V := (e.a5).a1
def u81 : E → V → E := N16.u5 N16.k1
def g82 (e : E) : V := (e.a5).a2
def u82 : E → V → E := N16.u5 N16.k2
def g83 (e : E) : V := (e.a5).a3
def u83 : E → V → E := N16.u5 N16.k3
def g84 (e : E) : V := (e.a5).a4
def u84 : E → V → E := N16.u5 N16.k4
def g85 (e : E) : V := (e.a5).a5
def u85 : E → V → E := N16.u5 N16.k5
def g86 (e : E) : V := (e.a5).a6
def u86 : E → V → E := N16.u5 N16.k6
def g87 (e : E) : V := (e.a5).a7
def u87 : E → V → E := N16.u5 N16.k7
def g88 (e : E) : V := (e.a5).a8
def u88 : E → V → E := N16.u5 N16.k8
def g89 (e : E) : V := (e.a5).a9
def u89 : E → V → E := N16.u5 N16.k9
def g90 (e : E) : V := (e.a5).a10
def u90 : E → V → E := N16.u5 N16.k10
def g91 (e : E) : V := (e.a5).a11
def u91 : E → V → E := N16.u5 N16.k11
def g92 (e : E) : V := (e.a5).a12
def u92 : E → V → E := N16.u5 N16.k12
def g93 (e : E) : V := (e.a5).a13
def u93 : E → V → E := N16.u5 N16.k13
def g94 (e : E) : V := (e.a5).a14
def u94 : E → V → E := N16.u5 N16.k14
def g95 (e : E) : V := (e.a5).a15
def u95 : E → V → E := N16.u5 N16.k15
def g96 (e : E) : V := (e.a6).a0
def u96 : E → V → E := N16.u6 N16.k0
def g97 (e : E) : V := (e.a6).a1
def u97 : E → V → E := N16.u6 N16.k1
def g98 (e : E) : V := (e.a6).a2
def u98 : E → V → E := N16.u6 N16.k2
def g99 (e : E) : V := (e.a6).a3
def u99 : E → V → E := N16.u6 N16.k3
def g100 (e : E) : V := (e.a6).a4
def u100 : E → V → E := N16.u6 N16.k4
def g101 (e : E) : V := (e.a6).a5
def u101 : E → V → E := N16.u6 N16.k5
def g102 (e : E) : V := (e.a6).a6
def u102 : E → V → E := N16.u6 N16.k6
def g103 (e : E) : V := (e.a6).a7
def u103 : E → V → E := N16.u6 N16.k7
def g104 (e : E) : V := (e.a6).a8
def u104 : E → V → E := N16.u6 N16.k8
def g105 (e : E) : V := (e.a6).a9
def u105 : E → V → E := N16.u6 N16.k9
def g106 (e : E) : V := (e.a6).a10
def u106 : E → V → E := N16.u6 N16.k10
def g107 (e : E) : V := (e.a6).a11
def u107 : E → V → E := N16.u6 N16.k11
def g108 (e : E) : V := (e.a6).a12
def u108 : E → V → E := N16.u6 N16.k12
def g109 (e : E) : V := (e.a6).a13
def u109 : E → V → E := N16.u6 N16.k13
def g110 (e : E) : V := (e.a6).a14
def u110 : E → V → E := N16.u6 N16.k14
def g111 (e : E) : V := (e.a6).a15
def u111 : E → V → E := N16.u6 N16.k15
def g112 (e : E) : V := (e.a7).a0
def u112 : E → V → E := N16.u7 N16.k0
def g113 (e : E) : V := (e.a7).a1
def u113 : E → V → E := N16.u7 N16.k1
def g114 (e : E) : V := (e.a7).a2
def u114 : E → V → E := N16.u7 N16.k2
def g115 (e : E) : V := (e.a7).a3
def u115 : E → V → E := N16.u7 N16.k3
def g116 (e : E) : V := (e.a7).a4
def u116 : E → V → E := N16.u7 N16.k4
def g117 (e : E) : V := (e.a7).a5
def u117 : E → V → E := N16.u7 N16.k5
def g118 (e : E) : V := (e.a7).a6
def u118 : E → V → E := N16.u7 N16.k6
def g119 (e : E) : V := (e.a7).a7
def u119 : E → V → E := N16.u7 N16.k7
def g120 (e : E) : V := (e.a7).a8
def u120 : E → V → E := N16.u7 N16.k8
def g121 (e : E) : V := (e.a7).a9
def u121 : E → V → E := N16.u7 N16.k9
def g122 (e : E) : V := (e.a7).a10
def u122 : E → V → E := N16.u7 N16.k10
def g123 (e : E) : V := (e.a7).a11
def u123 : E → V → E := N16.u7 N16.k11
def g124 (e : E) : V := (e.a7).a12
def u124 : E → V → E := N16.u7 N16.k12
def g125 (e : E) : V := (e.a7).a13
def u125 : E → V → E := N16.u7 N16.k13
def g126 (e : E) : V := (e.a7).a14
def u126 : E → V → E := N16.u7 N16.k14
def g127 (e : E) : V := (e.a7).a15
def u127 : E → V → E := N16.u7 N16.k15
def g128 (e : E) : V := (e.a8).a0
def u128 : E → V → E := N16.u8 N16.k0
def g129 (e : E) : V := (e.a8).a1
def u129 : E → V → E := N16.u8 N16.k1
def g130 (e : E) : V := (e.a8).a2
def u130 : E → V → E := N16.u8 N16.k2
def g131 (e : E) : V := (e.a8).a3
def u131 : E → V → E := N16.u8 N16.k3
def g132 (e : E) : V := (e.a8).a4
def u132 : E → V → E := N16.u8 N16.k4
def g133 (e : E) : V := (e.a8).a5
def u133 : E → V → E := N16.u8 N16.k5
def g134 (e : E) : V := (e.a8).a6
def u134 : E → V → E := N16.u8 N16.k6
def g135 (e : E) : V := (e.a8).a7
def u135 : E → V → E := N16.u8 N16.k7
def g136 (e : E) : V := (e.a8).a8
def u136 : E → V → E := N16.u8 N16.k8
def g137 (e : E) : V := (e.a8).a9
def u137 : E → V → E := N16.u8 N16.k9
def g138 (e : E) : V := (e.a8).a10
def u138 : E → V → E := N16.u8 N16.k10
def g139 (e : E) : V := (e.a8).a11
def u139 : E → V → E := N16.u8 N16.k11
def g140 (e : E) : V := (e.a8).a12
def u140 : E → V → E := N16.u8 N16.k12
def g141 (e : E) : V := (e.a8).a13
def u141 : E → V → E := N16.u8 N16.k13
def g142 (e : E) : V := (e.a8).a14
def u142 : E → V → E := N16.u8 N16.k14
def g143 (e : E) : V := (e.a8).a15
def u143 : E → V → E := N16.u8 N16.k15
def g144 (e : E) : V := (e.a9).a0
def u144 : E → V → E := N16.u9 N16.k0
def g145 (e : E) : V := (e.a9).a1
def u145 : E → V → E := N16.u9 N16.k1
def g146 (e : E) : V := (e.a9).a2
def u146 : E → V → E := N16.u9 N16.k2
def g147 (e : E) : V := (e.a9).a3
def u147 : E → V → E := N16.u9 N16.k3
def g148 (e : E) : V := (e.a9).a4
def u148 : E → V → E := N16.u9 N16.k4
def g149 (e : E) : V := (e.a9).a5
def u149 : E → V → E := N16.u9 N16.k5
def g150 (e : E) : V := (e.a9).a6
def u150 : E → V → E := N16.u9 N16.k6
def g151 (e : E) : V := (e.a9).a7
def u151 : E → V → E := N16.u9 N16.k7
def g152 (e : E) : V := (e.a9).a8
def u152 : E → V → E := N16.u9 N16.k8
def g153 (e : E) : V := (e.a9).a9
def u153 : E → V → E := N16.u9 N16.k9
def g154 (e : E) : V := (e.a9).a10
def u154 : E → V → E := N16.u9 N16.k10
def g155 (e : E) : V := (e.a9).a11
def u155 : E → V → E := N16.u9 N16.k11
def g156 (e : E) : V := (e.a9).a12
def u156 : E → V → E := N16.u9 N16.k12
def g157 (e : E) : V := (e.a9).a13
def u157 : E → V → E := N16.u9 N16.k13
def g158 (e : E) : V := (e.a9).a14
def u158 : E → V → E := N16.u9 N16.k14
def g159 (e : E) : V := (e.a9).a15
def u159 : E → V → E := N16.u9 N16.k15
def g160 (e : E) : V := (e.a10).a0
def u160 : E → V → E := N16.u10 N16.k0
def g161 (e : E) : V := (e.a10).a1
def u161 : E → V → E := N16.u10 N16.k1
def g162 (e : E) : V := (e.a10).a2
def u162 : E → V → E := N16.u10 N16.k2
def g163 (e : E) : V := (e.a10).a3
def u163 : E → V → E := N16.u10 N16.k3
def g164 (e : E) : V := (e.a10).a4
def u164 : E → V → E := N16.u10 N16.k4
def g165 (e : E) : V := (e.a10).a5
def u165 : E → V → E := N16.u10 N16.k5
def g166 (e : E) : V := (e.a10).a6
def u166 : E → V → E := N16.u10 N16.k6
def g167 (e : E) : V := (e.a10).a7
def u167 : E → V → E := N16.u10 N16.k7
def g168 (e : E) : V := (e.a10).a8
def u168 : E → V → E := N16.u10 N16.k8
def g169 (e : E) : V := (e.a10).a9
def u169 : E → V → E := N16.u10 N16.k9
def g170 (e : E) : V := (e.a10).a10
def u170 : E → V → E := N16.u10 N16.k10
def g171 (e : E) : V := (e.a10).a11
def u171 : E → V → E := N16.u10 N16.k11
def g172 (e : E) : V := (e.a10).a12
def u172 : E → V → E := N16.u10 N16.k12
def g173 (e : E) : V := (e.a10).a13
def u173 : E → V → E := N16.u10 N16.k13
def g174 (e : E) : V := (e.a10).a14
def u174 : E → V → E := N16.u10 N16.k14
def g175 (e : E) : V := (e.a10).a15
def u175 : E → V → E := N16.u10 N16.k15
def g176 (e : E) : V := (e.a11).a0
def u176 : E → V → E := N16.u11 N16.k0
def g177 (e : E) : V := (e.a11).a1
def u177 : E → V → E := N16.u11 N16.k1
def g178 (e : E) : V := (e.a11).a2
def u178 : E → V → E := N16.u11 N16.k2
def g179 (e : E) : V := (e.a11).a3
def u179 : E → V → E := N16.u11 N16.k3
def g180 (e : E) : V := (e.a11).a4
def u180 : E → V → E := N16.u11 N16.k4
def g181 (e : E) : V := (e.a11).a5
def u181 : E → V → E := N16.u11 N16.k5
def g182 (e : E) : V := (e.a11).a6
def u182 : E → V → E := N16.u11 N16.k6
def g183 (e : E) : V := (e.a11).a7
def u183 : E → V → E := N16.u11 N16.k7
def g184 (e : E) : V := (e.a11).a8
def u184 : E → V → E := N16.u11 N16.k8
def g185 (e : E) : V := (e.a11).a9
def u185 : E → V → E := N16.u11 N16.k9
def g186 (e : E) : V := (e.a11).a10
def u186 : E → V → E := N16.u11 N16.k10
def g187 (e : E) : V := (e.a11).a11
def u187 : E → V → E := N16.u11 N16.k11
def g188 (e : E) : V := (e.a11).a12
def u188 : E → V → E := N16.u11 N16.k12
def g189 (e : E) : V := (e.a11).a13
def u189 : E → V → E := N16.u11 N16.k13
def g190 (e : E) : V := (e.a11).a14
def u190 : E → V → E := N16.u11 N16.k14
def g191 (e : E) : V := (e.a11).a15
def u191 : E → V → E := N16.u11 N16.k15
def g192 (e : E) : V := (e.a12).a0
def u192 : E → V → E := N16.u12 N16.k0
def g193 (e : E) : V := (e.a12).a1
def u193 : E → V → E := N16.u12 N16.k1
def g194 (e : E) : V := (e.a12).a2
def u194 : E → V → E := N16.u12 N16.k2
def g195 (e : E) : V := (e.a12).a3
def u195 : E → V → E := N16.u12 N16.k3
def g196 (e : E) : V := (e.a12).a4
def u196 : E → V → E := N16.u12 N16.k4
def g197 (e : E) : V := (e.a12).a5
def u197 : E → V → E := N16.u12 N16.k5
def g198 (e : E) : V := (e.a12).a6
def u198 : E → V → E := N16.u12 N16.k6
def g199 (e : E) : V := (e.a12).a7
def u199 : E → V → E := N16.u12 N16.k7
def g200 (e : E) : V := (e.a12).a8
def u200 : E → V → E := N16.u12 N16.k8
def g201 (e : E) : V := (e.a12).a9
def u201 : E → V → E := N16.u12 N16.k9
def g202 (e : E) : V := (e.a12).a10
def u202 : E → V → E := N16.u12 N16.k10
def g203 (e : E) : V := (e.a12).a11
def u203 : E → V → E := N16.u12 N16.k11
def g204 (e : E) : V := (e.a12).a12
def u204 : E → V → E := N16.u12 N16.k12
def g205 (e : E) : V := (e.a12).a13
def u205 : E → V → E := N16.u12 N16.k13
def g206 (e : E) : V := (e.a12).a14
def u206 : E → V → E := N16.u12 N16.k14
def g207 (e : E) : V := (e.a12).a15
def u207 : E → V → E := N16.u12 N16.k15
def g208 (e : E) : V := (e.a13).a0
def u208 : E → V → E := N16.u13 N16.k0
def g209 (e : E) : V := (e.a13).a1
def u209 : E → V → E := N16.u13 N16.k1
def g210 (e : E) : V := (e.a13).a2
def u210 : E → V → E := N16.u13 N16.k2
def g211 (e : E) : V := (e.a13).a3
def u211 : E → V → E := N16.u13 N16.k3
def g212 (e : E) : V := (e.a13).a4
def u212 : E → V → E := N16.u13 N16.k4
def g213 (e : E) : V := (e.a13).a5
def u213 : E → V → E := N16.u13 N16.k5
def g214 (e : E) : V := (e.a13).a6
def u214 : E → V → E := N16.u13 N16.k6
def g215 (e : E) : V := (e.a13).a7
def u215 : E → V → E := N16.u13 N16.k7
def g216 (e : E) : V := (e.a13).a8
def u216 : E → V → E := N16.u13 N16.k8
def g217 (e : E) : V := (e.a13).a9
def u217 : E → V → E := N16.u13 N16.k9
def g218 (e : E) : V := (e.a13).a10
def u218 : E → V → E := N16.u13 N16.k10
def g219 (e : E) : V := (e.a13).a11
def u219 : E → V → E := N16.u13 N16.k11
def g220 (e : E) : V := (e.a13).a12
def u220 : E → V → E := N16.u13 N16.k12
def g221 (e : E) : V := (e.a13).a13
def u221 : E → V → E := N16.u13 N16.k13
def g222 (e : E) : V := (e.a13).a14
def u222 : E → V → E := N16.u13 N16.k14
def g223 (e : E) : V := (e.a13).a15
def u223 : E → V → E := N16.u13 N16.k15
def g224 (e : E) : V := (e.a14).a0
def u224 : E → V → E := N16.u14 N16.k0
def g225 (e : E) : V := (e.a14).a1
def u225 : E → V → E := N16.u14 N16.k1
def g226 (e : E) : V := (e.a14).a2
def u226 : E → V → E := N16.u14 N16.k2
def g227 (e : E) : V := (e.a14).a3
def u227 : E → V → E := N16.u14 N16.k3
def g228 (e : E) : V := (e.a14).a4
def u228 : E → V → E := N16.u14 N16.k4
def g229 (e : E) : V := (e.a14).a5
def u229 : E → V → E := N16.u14 N16.k5
def g230 (e : E) : V := (e.a14).a6
def u230 : E → V → E := N16.u14 N16.k6
def g231 (e : E) : V := (e.a14).a7
def u231 : E → V → E := N16.u14 N16.k7
def g232 (e : E) : V := (e.a14).a8
def u232 : E → V → E := N16.u14 N16.k8
def g233 (e : E) : V := (e.a14).a9
def u233 : E → V → E := N16.u14 N16.k9
def g234 (e : E) : V := (e.a14).a10
def u234 : E → V → E := N16.u14 N16.k10
def g235 (e : E) : V := (e.a14).a11
def u235 : E → V → E := N16.u14 N16.k11
def g236 (e : E) : V := (e.a14).a12
def u236 : E → V → E := N16.u14 N16.k12
def g237 (e : E) : V := (e.a14).a13
def u237 : E → V → E := N16.u14 N16.k13
def g238 (e : E) : V := (e.a14).a14
def u238 : E → V → E := N16.u14 N16.k14
def g239 (e : E) : V := (e.a14).a15
def u239 : E → V → E := N16.u14 N16.k15
def g240 (e : E) : V := (e.a15).a0
def u240 : E → V → E := N16.u15 N16.k0
def g241 (e : E) : V := (e.a15).a1
def u241 : E → V → E := N16.u15 N16.k1
def g242 (e : E) : V := (e.a15).a2
def u242 : E → V → E := N16.u15 N16.k2
def g243 (e : E) : V := (e.a15).a3
def u243 : E → V → E := N16.u15 N16.k3
def g244 (e : E) : V := (e.a15).a4
def u244 : E → V → E := N16.u15 N16.k4
def g245 (e : E) : V := (e.a15).a5
def u245 : E → V → E := N16.u15 N16.k5
def g246 (e : E) : V := (e.a15).a6
def u246 : E → V → E := N16.u15 N16.k6
def g247 (e : E) : V := (e.a15).a7
def u247 : E → V → E := N16.u15 N16.k7
def g248 (e : E) : V := (e.a15).a8
def u248 : E → V → E := N16.u15 N16.k8
def g249 (e : E) : V := (e.a15).a9
def u249 : E → V → E := N16.u15 N16.k9
def g250 (e : E) : V := (e.a15).a10
def u250 : E → V → E := N16.u15 N16.k10
def g251 (e : E) : V := (e.a15).a11
def u251 : E → V → E := N16.u15 N16.k11
def g252 (e : E) : V := (e.a15).a12
def u252 : E → V → E := N16.u15 N16.k12
def g253 (e : E) : V := (e.a15).a13
def u253 : E → V → E := N16.u15 N16.k13
def g254 (e : E) : V := (e.a15).a14
def u254 : E → V → E := N16.u15 N16.k14
def g255 (e : E) : V := (e.a15).a15
def u255 : E → V → E := N16.u15 N16.k15

theorem N16.get_setK {α β : Type} (i j : Nat) (hi : i < 16) (hj : j < 16) (e : N16 α) (v : α) : ∃ e' : N16 α, (∀ k : N16 α → β, N16.setK j e v k = k e') ∧ N16.get i e' = if i = j then v else N16.get i e := by
  obtain ⟨x0, x1, x2, x3, x4, x5, x6, x7, x8, x9, x10, x11, x12, x13, x14, x15⟩ := e
  match j, hj with
  | 0, _ => exact ⟨_, fun _ => rfl, by match i, hi with | 0, _ | 1, _ | 2, _ | 3, _ | 4, _ | 5, _ | 6, _ | 7, _ | 8, _ | 9, _ | 10, _ | 11, _ | 12, _ | 13, _ | 14, _ | 15, _ => rfl | _ + 16, h => exact absurd h (by omega)⟩
  | 1, _ => exact ⟨_, fun _ => rfl, by match i, hi with | 0, _ | 1, _ | 2, _ | 3, _ | 4, _ | 5, _ | 6, _ | 7, _ | 8, _ | 9, _ | 10, _ | 11, _ | 12, _ | 13, _ | 14, _ | 15, _ => rfl | _ + 16, h => exact absurd h (by omega)⟩
  | 2, _ => exact ⟨_, fun _ => rfl, by match i, hi with | 0, _ | 1, _ | 2, _ | 3, _ | 4, _ | 5, _ | 6, _ | 7, _ | 8, _ | 9, _ | 10, _ | 11, _ | 12, _ | 13, _ | 14, _ | 15, _ => rfl | _ + 16, h => exact absurd h (by omega)⟩
  | 3, _ => exact ⟨_, fun _ => rfl, by match i, hi with | 0, _ | 1, _ | 2, _ | 3, _ | 4, _ | 5, _ | 6, _ | 7, _ | 8, _ | 9, _ | 10, _ | 11, _ | 12, _ | 13, _ | 14, _ | 15, _ => rfl | _ + 16, h => exact absurd h (by omega)⟩
  | 4, _ => exact ⟨_, fun _ => rfl, by match i, hi with | 0, _ | 1, _ | 2, _ | 3, _ | 4, _ | 5, _ | 6, _ | 7, _ | 8, _ | 9, _ | 10, _ | 11, _ | 12, _ | 13, _ | 14, _ | 15, _ => rfl | _ + 16, h => exact absurd h (by omega)⟩
  | 5, _ => exact ⟨_, fun _ => rfl, by match i, hi with | 0, _ | 1, _ | 2, _ | 3, _ | 4, _ | 5, _ | 6, _ | 7, _ | 8, _ | 9, _ | 10, _ | 11, _ | 12, _ | 13, _ | 14, _ | 15, _ => rfl | _ + 16, h => exact absurd h (by omega)⟩
  | 6, _ => exact ⟨_, fun _ => rfl, by match i, hi with | 0, _ | 1, _ | 2, _ | 3, _ | 4, _ | 5, _ | 6, _ | 7, _ | 8, _ | 9, _ | 10, _ | 11, _ | 12, _ | 13, _ | 14, _ | 15, _ => rfl | _ + 16, h => exact absurd h (by omega)⟩
  | 7, _ => exact ⟨_, fun _ => rfl, by match i, hi with | 0, _ | 1, _ | 2, _ | 3, _ | 4, _ | 5, _ | 6, _ | 7, _ | 8, _ | 9, _ | 10, _ | 11, _ | 12, _ | 13, _ | 14, _ | 15, _ => rfl | _ + 16, h => exact absurd h (by omega)⟩
  | 8, _ => exact ⟨_, fun _ => rfl, by match i, hi with | 0, _ | 1, _ | 2, _ | 3, _ | 4, _ | 5, _ | 6, _ | 7, _ | 8, _ | 9, _ | 10, _ | 11, _ | 12, _ | 13, _ | 14, _ | 15, _ => rfl | _ + 16, h => exact absurd h (by omega)⟩
  | 9, _ => exact ⟨_, fun _ => rfl, by match i, hi with | 0, _ | 1, _ | 2, _ | 3, _ | 4, _ | 5, _ | 6, _ | 7, _ | 8, _ | 9, _ | 10, _ | 11, _ | 12, _ | 13, _ | 14, _ | 15, _ => rfl | _ + 16, h => exact absurd h (by omega)⟩
  | 10, _ => exact ⟨_, fun _ => rfl, by match i, hi with | 0, _ | 1, _ | 2, _ | 3, _ | 4, _ | 5, _ | 6, _ | 7, _ | 8, _ | 9, _ | 10, _ | 11, _ | 12, _ | 13, _ | 14, _ | 15, _ => rfl | _ + 16, h => exact absurd h (by omega)⟩
  | 11, _ => exact ⟨_, fun _ => rfl, by match i, hi with | 0, _ | 1, _ | 2, _ | 3, _ | 4, _ | 5, _ | 6, _ | 7, _ | 8, _ | 9, _ | 10, _ | 11, _ | 12, _ | 13, _ | 14, _ | 15, _ => rfl | _ + 16, h => exact absurd h (by omega)⟩
  | 12, _ => exact ⟨_, fun _ => rfl, by match i, hi with | 0, _ | 1, _ | 2, _ | 3, _ | 4, _ | 5, _ | 6, _ | 7, _ | 8, _ | 9, _ | 10, _ | 11, _ | 12, _ | 13, _ | 14, _ | 15, _ => rfl | _ + 16, h => exact absurd h (by omega)⟩
  | 13, _ => exact ⟨_, fun _ => rfl, by match i, hi with | 0, _ | 1, _ | 2, _ | 3, _ | 4, _ | 5, _ | 6, _ | 7, _ | 8, _ | 9, _ | 10, _ | 11, _ | 12, _ | 13, _ | 14, _ | 15, _ => rfl | _ + 16, h => exact absurd h (by omega)⟩
  | 14, _ => exact ⟨_, fun _ => rfl, by match i, hi with | 0, _ | 1, _ | 2, _ | 3, _ | 4, _ | 5, _ | 6, _ | 7, _ | 8, _ | 9, _ | 10, _ | 11, _ | 12, _ | 13, _ | 14, _ | 15, _ => rfl | _ + 16, h => exact absurd h (by omega)⟩
  | 15, _ => exact ⟨_, fun _ => rfl, by match i, hi with | 0, _ | 1, _ | 2, _ | 3, _ | 4, _ | 5, _ | 6, _ | 7, _ | 8, _ | 9, _ | 10, _ | 11, _ | 12, _ | 13, _ | 14, _ | 15, _ => rfl | _ + 16, h => exact absurd h (by omega)⟩
  | _ + 16, h => exact absurd h (by omega)

theorem N16.upd_eq {α : Type} (i j : Nat) (hi : i < 16) (hj : j < 16) (sk : N16 α → α → (N16 α → N16 (N16 α)) → N16 (N16 α)) (e : N16 (N16 α)) (v : α) (y : N16 α) (hy : ∀ k, sk (N16.get i e) v k = k y) :
    N16.get j (N16.upd i sk e v) = if j = i then y else N16.get j e := by
  obtain ⟨x0, x1, x2, x3, x4, x5, x6, x7, x8, x9, x10, x11, x12, x13, x14, x15⟩ := e
  match i, hi with
  | 0, _ =>
    have h : N16.upd 0 sk ⟨x0, x1, x2, x3, x4, x5, x6, x7, x8, x9, x10, x11, x12, x13, x14, x15⟩ v = ⟨y, x1, x2, x3, x4, x5, x6, x7, x8, x9, x10, x11, x12, x13, x14, x15⟩ := hy _
    rw [h]
    match j, hj with | 0, _ | 1, _ | 2, _ | 3, _ | 4, _ | 5, _ | 6, _ | 7, _ | 8, _ | 9, _ | 10, _ | 11, _ | 12, _ | 13, _ | 14, _ | 15, _ => rfl | _ + 16, h => exact absurd h (by omega)
  | 1, _ =>
    have h : N16.upd 1 sk ⟨x0, x1, x2, x3, x4, x5, x6, x7, x8, x9, x10, x11, x12, x13, x14, x15⟩ v = ⟨x0, y, x2, x3, x4, x5, x6, x7, x8, x9, x10, x11, x12, x13, x14, x15⟩ := hy _
    rw [h]
    match j, hj with | 0, _ | 1, _ | 2, _ | 3, _ | 4, _ | 5, _ | 6, _ | 7, _ | 8, _ | 9, _ | 10, _ | 11, _ | 12, _ | 13, _ | 14, _ | 15, _ => rfl | _ + 16, h => exact absurd h (by omega)
  | 2, _ =>
    have h : N16.upd 2 sk ⟨x0, x1, x2, x3, x4, x5, x6, x7, x8, x9, x10, x11, x12, x13, x14, x15⟩ v = ⟨x0, x1, y, x3, x4, x5, x6, x7, x8, x9, x10, x11, x12, x13, x14, x15⟩ := hy _
    rw [h]
    match j, hj with | 0, _ | 1, _ | 2, _ | 3, _ | 4, _ | 5, _ | 6, _ | 7, _ | 8, _ | 9, _ | 10, _ | 11, _ | 12, _ | 13, _ | 14, _ | 15, _ => rfl | _ + 16, h => exact absurd h (by omega)
  | 3, _ =>
    have h : N16.upd 3 sk ⟨x0, x1, x2, x3, x4, x5, x6, x7, x8, x9, x10, x11, x12, x13, x14, x15⟩ v = ⟨x0, x1, x2, y, x4, x5, x6, x7, x8, x9, x10, x11, x12, x13, x14, x15⟩ := hy _
    rw [h]
    match j, hj with | 0, _ | 1, _ | 2, _ | 3, _ | 4, _ | 5, _ | 6, _ | 7, _ | 8, _ | 9, _ | 10, _ | 11, _ | 12, _ | 13, _ | 14, _ | 15, _ => rfl | _ + 16, h => exact absurd h (by omega)
  | 4, _ =>
    have h : N16.upd 4 sk ⟨x0, x1, x2, x3, x4, x5, x6, x7, x8, x9, x10, x11, x12, x13, x14, x15⟩ v = ⟨x0, x1, x2, x3, y, x5, x6, x7, x8, x9, x10, x11, x12, x13, x14, x15⟩ := hy _
    rw [h]
    match j, hj with | 0, _ | 1, _ | 2, _ | 3, _ | 4, _ | 5, _ | 6, _ | 7, _ | 8, _ | 9, _ | 10, _ | 11, _ | 12, _ | 13, _ | 14, _ | 15, _ => rfl | _ + 16, h => exact absurd h (by omega)
  | 5, _ =>
    have h : N16.upd 5 sk ⟨x0, x1, x2, x3, x4, x5, x6, x7, x8, x9, x10, x11, x12, x13, x14, x15⟩ v = ⟨x0, x1, x2, x3, x4, y, x6, x7, x8, x9, x10, x11, x12, x13, x14, x15⟩ := hy _
    rw [h]
    match j, hj with | 0, _ | 1, _ | 2, _ | 3, _ | 4, _ | 5, _ | 6, _ | 7, _ | 8, _ | 9, _ | 10, _ | 11, _ | 12, _ | 13, _ | 14, _ | 15, _ => rfl | _ + 16, h => exact absurd h (by omega)
  | 6, _ =>
    have h : N16.upd 6 sk ⟨x0, x1, x2, x3, x4, x5, x6, x7, x8, x9, x10, x11, x12, x13, x14, x15⟩ v = ⟨x0, x1, x2, x3, x4, x5, y, x7, x8, x9, x10, x11, x12, x13, x14, x15⟩ := hy _
    rw [h]
    match j, hj with | 0, _ | 1, _ | 2, _ | 3, _ | 4, _ | 5, _ | 6, _ | 7, _ | 8, _ | 9, _ | 10, _ | 11, _ | 12, _ | 13, _ | 14, _ | 15, _ => rfl | _ + 16, h => exact absurd h (by omega)
  | 7, _ =>
    have h : N16.upd 7 sk ⟨x0, x1, x2, x3, x4, x5, x6, x7, x8, x9, x10, x11, x12, x13, x14, x15⟩ v = ⟨x0, x1, x2, x3, x4, x5, x6, y, x8, x9, x10, x11, x12, x13, x14, x15⟩ := hy _
    rw [h]
    match j, hj with | 0, _ | 1, _ | 2, _ | 3, _ | 4, _ | 5, _ | 6, _ | 7, _ | 8, _ | 9, _ | 10, _ | 11, _ | 12, _ | 13, _ | 14, _ | 15, _ => rfl | _ + 16, h => exact absurd h (by omega)
  | 8, _ =>
    have h : N16.upd 8 sk ⟨x0, x1, x2, x3, x4, x5, x6, x7, x8, x9, x10, x11, x12, x13, x14, x15⟩ v = ⟨x0, x1, x2, x3, x4, x5, x6, x7, y, x9, x10, x11, x12, x13, x14, x15⟩ := hy _
    rw [h]
    match j, hj with | 0, _ | 1, _ | 2, _ | 3, _ | 4, _ | 5, _ | 6, _ | 7, _ | 8, _ | 9, _ | 10, _ | 11, _ | 12, _ | 13, _ | 14, _ | 15, _ => rfl | _ + 16, h => exact absurd h (by omega)
  | 9, _ =>
    have h : N16.upd 9 sk ⟨x0, x1, x2, x3, x4, x5, x6, x7, x8, x9, x10, x11, x12, x13, x14, x15⟩ v = ⟨x0, x1, x2, x3, x4, x5, x6, x7, x8, y, x10, x11, x12, x13, x14, x15⟩ := hy _
    rw [h]
    match j, hj with | 0, _ | 1, _ | 2, _ | 3, _ | 4, _ | 5, _ | 6, _ | 7, _ | 8, _ | 9, _ | 10, _ | 11, _ | 12, _ | 13, _ | 14, _ | 15, _ => rfl | _ + 16, h => exact absurd h (by omega)
  | 10, _ =>
    have h : N16.upd 10 sk ⟨x0, x1, x2, x3, x4, x5, x6, x7, x8, x9, x10, x11, x12, x13, x14, x15⟩ v = ⟨x0, x1, x2, x3, x4, x5, x6, x7, x8, x9, y, x11, x12, x13, x14, x15⟩ := hy _
    rw [h]
    match j, hj with | 0, _ | 1, _ | 2, _ | 3, _ | 4, _ | 5, _ | 6, _ | 7, _ | 8, _ | 9, _ | 10, _ | 11, _ | 12, _ | 13, _ | 14, _ | 15, _ => rfl | _ + 16, h => exact absurd h (by omega)
  | 11, _ =>
    have h : N16.upd 11 sk ⟨x0, x1, x2, x3, x4, x5, x6, x7, x8, x9, x10, x11, x12, x13, x14, x15⟩ v = ⟨x0, x1, x2, x3, x4, x5, x6, x7, x8, x9, x10, y, x12, x13, x14, x15⟩ := hy _
    rw [h]
    match j, hj with | 0, _ | 1, _ | 2, _ | 3, _ | 4, _ | 5, _ | 6, _ | 7, _ | 8, _ | 9, _ | 10, _ | 11, _ | 12, _ | 13, _ | 14, _ | 15, _ => rfl | _ + 16, h => exact absurd h (by omega)
  | 12, _ =>
    have h : N16.upd 12 sk ⟨x0, x1, x2, x3, x4, x5, x6, x7, x8, x9, x10, x11, x12, x13, x14, x15⟩ v = ⟨x0, x1, x2, x3, x4, x5, x6, x7, x8, x9, x10, x11, y, x13, x14, x15⟩ := hy _
    rw [h]
    match j, hj with | 0, _ | 1, _ | 2, _ | 3, _ | 4, _ | 5, _ | 6, _ | 7, _ | 8, _ | 9, _ | 10, _ | 11, _ | 12, _ | 13, _ | 14, _ | 15, _ => rfl | _ + 16, h => exact absurd h (by omega)
  | 13, _ =>
    have h : N16.upd 13 sk ⟨x0, x1, x2, x3, x4, x5, x6, x7, x8, x9, x10, x11, x12, x13, x14, x15⟩ v = ⟨x0, x1, x2, x3, x4, x5, x6, x7, x8, x9, x10, x11, x12, y, x14, x15⟩ := hy _
    rw [h]
    match j, hj with | 0, _ | 1, _ | 2, _ | 3, _ | 4, _ | 5, _ | 6, _ | 7, _ | 8, _ | 9, _ | 10, _ | 11, _ | 12, _ | 13, _ | 14, _ | 15, _ => rfl | _ + 16, h => exact absurd h (by omega)
  | 14, _ =>
    have h : N16.upd 14 sk ⟨x0, x1, x2, x3, x4, x5, x6, x7, x8, x9, x10, x11, x12, x13, x14, x15⟩ v = ⟨x0, x1, x2, x3, x4, x5, x6, x7, x8, x9, x10, x11, x12, x13, y, x15⟩ := hy _
    rw [h]
    match j, hj with | 0, _ | 1, _ | 2, _ | 3, _ | 4, _ | 5, _ | 6, _ | 7, _ | 8, _ | 9, _ | 10, _ | 11, _ | 12, _ | 13, _ | 14, _ | 15, _ => rfl | _ + 16, h => exact absurd h (by omega)
  | 15, _ =>
    have h : N16.upd 15 sk ⟨x0, x1, x2, x3, x4, x5, x6, x7, x8, x9, x10, x11, x12, x13, x14, x15⟩ v = ⟨x0, x1, x2, x3, x4, x5, x6, x7, x8, x9, x10, x11, x12, x13, x14, y⟩ := hy _
    rw [h]
    match j, hj with | 0, _ | 1, _ | 2, _ | 3, _ | 4, _ | 5, _ | 6, _ | 7, _ | 8, _ | 9, _ | 10, _ | 11, _ | 12, _ | 13, _ | 14, _ | 15, _ => rfl | _ + 16, h => exact absurd h (by omega)
  | _ + 16, h => exact absurd h (by omega)

theorem Gt_Ut (i j : Nat) (hi : i < 256) (hj : j < 256) (e : E) (v : V) : Gt i (Ut j e v) = if i = j then v else Gt i e := by
  unfold Gt Ut
  obtain ⟨y, hk, hy⟩ := N16.get_setK (β := N16 (N16 V)) (i % 16) (j % 16) (Nat.mod_lt _ (by omega)) (Nat.mod_lt _ (by omega)) (N16.get (j / 16) e) v
  rw [N16.upd_eq (j / 16) (i / 16) (by omega) (by omega) (N16.setK (j % 16)) e v y hk]
  by_cases h : i / 16 = j / 16
  · rw [if_pos h, hy]
    by_cases h' : i % 16 = j % 16
    · rw [if_pos h', if_pos (by omega)]
    · rw [if_neg h', if_neg (by omega), h]
  · rw [if_neg h, if_neg (by omega)]

end
end Go.Proofs.YtjipdnfaokdkbaaLab
