/-
  The state of a loop's body: two rows of the call's own, and a box of two cells.
-/
import Derived.Test.YteagjjiggneheaaWhole10
namespace Go.Proofs.Yteagjjiggneheaa
open Go.RowKit
set_option linter.unusedVariables false

theorem grown_cell {w w' : World} {A : Option Addr} (hg : w.grownBy w' (A.map (·.block))) {p : Addr} (hp : p.block < w.heap.size) (hne : ¬ InRow A p.block) : w'.cell? p = w.cell? p :=
  World.cell?_of_block (hg.block _ hp fun e => hne e.symm)

structure St (w : World) (q0 : Nat) (v0 v1 : Value) (A : Option Addr) (c : Nat) (us : List UInt8) (A2 : Option Addr) (c2 : Nat) (hs : List UInt8) (W : World) : Prop where
  below : Below w.heap.size w W
  own : OwnB W w.heap.size 5 A c us
  own2 : OwnB W w.heap.size 5 A2 c2 hs
  apart : Apart A A2
  q1 : ¬ InRow A q0
  q2 : ¬ InRow A2 q0
  lt : q0 < W.heap.size
  x0 : W.cell? ⟨q0, 0, none⟩ = some v0
  x1 : W.cell? ⟨q0, 1, none⟩ = some v1

section
variable {w W W' : World} {q0 c c2 : Nat} {v0 v1 : Value} {A A2 : Option Addr} {us hs : List UInt8}
theorem St.swap (h : St w q0 v0 v1 A c us A2 c2 hs W) : St w q0 v0 v1 A2 c2 hs A c us W := ⟨h.below, h.own2, h.own, h.apart.symm, h.q2, h.q1, h.lt, h.x0, h.x1⟩
theorem St.call (h : St w q0 v0 v1 A c us A2 c2 hs W) (hb : Below W.heap.size W W') : St w q0 v0 v1 A c us A2 c2 hs W' :=
  ⟨h.below.trans (hb.mono h.below.size), h.own.below hb (Nat.le_refl _), h.own2.below hb (Nat.le_refl _), h.apart, h.q1, h.q2, Nat.lt_of_lt_of_le h.lt hb.size, (hb.cell (p := ⟨q0, 0, none⟩) h.lt).trans h.x0, (hb.cell (p := ⟨q0, 1, none⟩) h.lt).trans h.x1⟩
theorem St.put (h : St w q0 v0 v1 A c us A2 c2 hs W) {A' : Option Addr} {c' : Nat} {ds : List UInt8} (hg : W.grownBy W' (A.map (·.block))) (hat : A'.map (·.block) = A.map (·.block) ∨ A'.map (·.block) = some W.heap.size) (hown : OwnB W' w.heap.size 5 A' c' ds) :
    St w q0 v0 v1 A' c' ds A2 c2 hs W' := by
  refine ⟨h.own.below_grown h.below hg (Nat.le_refl _) h.below.size, hown, h.own2.kept hg h.apart.ne, h.apart.next hat (fun q hq => (h.own2.lt hq).2), ?_, h.q2, Nat.lt_of_lt_of_le h.lt hg.size, (grown_cell hg (p := ⟨q0, 0, none⟩) h.lt h.q1).trans h.x0, (grown_cell hg (p := ⟨q0, 1, none⟩) h.lt h.q1).trans h.x1⟩
  intro hq
  unfold InRow at hq
  rcases hat with e | e
  · rw [e] at hq; exact h.q1 hq
  · rw [e] at hq; injection hq with hq; have := h.lt; omega
/-- A box laid ahead of it. -/
theorem St.boxed (hb : Below w.heap.size w W) (hown : OwnB W w.heap.size 5 A c us) (hown2 : OwnB W w.heap.size 5 A2 c2 hs) (hap : Apart A A2) (v0 v1 : Value) (t : TypeId) : St w W.heap.size v0 v1 A c us A2 c2 hs (W.alloc (.cells #[v0, v1] t)) :=
  ⟨hb.alloc hb.size _, hown.alloc _, hown2.alloc _, hap, fun h => by have := (hown.lt h).2; omega, fun h => by have := (hown2.lt h).2; omega, by simp, by simp, by simp⟩
end

/-- The state of a loop's body: two rows of the call's own. -/
structure St2 (w : World) (A : Option Addr) (c : Nat) (us : List UInt8) (A2 : Option Addr) (c2 : Nat) (hs : List UInt8) (W : World) : Prop where
  below : Below w.heap.size w W
  own : OwnB W w.heap.size 5 A c us
  own2 : OwnB W w.heap.size 5 A2 c2 hs
  apart : Apart A A2
section
variable {w W W' : World} {c c2 : Nat} {A A2 : Option Addr} {us hs : List UInt8}
theorem St2.swap (h : St2 w A c us A2 c2 hs W) : St2 w A2 c2 hs A c us W := ⟨h.below, h.own2, h.own, h.apart.symm⟩
theorem St2.call (h : St2 w A c us A2 c2 hs W) (hb : Below W.heap.size W W') : St2 w A c us A2 c2 hs W' :=
  ⟨h.below.trans (hb.mono h.below.size), h.own.below hb (Nat.le_refl _), h.own2.below hb (Nat.le_refl _), h.apart⟩
theorem St2.put (h : St2 w A c us A2 c2 hs W) {A' : Option Addr} {c' : Nat} {ds : List UInt8} (hg : W.grownBy W' (A.map (·.block))) (hat : A'.map (·.block) = A.map (·.block) ∨ A'.map (·.block) = some W.heap.size) (hown : OwnB W' w.heap.size 5 A' c' ds) :
    St2 w A' c' ds A2 c2 hs W' :=
  ⟨h.own.below_grown h.below hg (Nat.le_refl _) h.below.size, hown, h.own2.kept hg h.apart.ne, h.apart.next hat (fun q hq => (h.own2.lt hq).2)⟩
end
end Go.Proofs.Yteagjjiggneheaa
