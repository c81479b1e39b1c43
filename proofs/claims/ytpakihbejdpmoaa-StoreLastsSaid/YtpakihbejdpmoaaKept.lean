/-
  Worlds that are alike but for some blocks.
-/
import Derived.Test.YtpakihbejdpmoaaCut
import Derived.Test.YtpakihbejdpmoaaWhole10
import Derived.RangeFuncSeq
namespace Go.Proofs.Ytpakihbejdpmoaa
open Go.RowKit
set_option linter.unusedVariables false

/-- What was there has not turned, but for the blocks S. -/
structure Kept (S : Nat → Prop) (w w' : World) : Prop where
  os : w'.os = w.os
  tape : w'.tape = w.tape
  output : w'.output = w.output
  size : w.heap.size ≤ w'.heap.size
  block : ∀ k, k < w.heap.size → ¬ S k → w'.heap[k]? = w.heap[k]?
section
variable {S T : Nat → Prop} {a w w' : World}
theorem Kept.refl (w : World) : Kept S w w := ⟨rfl, rfl, rfl, Nat.le_refl _, fun _ _ _ => rfl⟩
theorem Kept.trans (h : Kept S a w) (k : Kept S w w') : Kept S a w' :=
  ⟨k.os.trans h.os, k.tape.trans h.tape, k.output.trans h.output, Nat.le_trans h.size k.size, fun i hi hs => (k.block i (Nat.lt_of_lt_of_le hi h.size) hs).trans (h.block i hi hs)⟩
theorem Kept.wider (h : Kept S w w') (hs : ∀ k, k < w.heap.size → S k → T k) : Kept T w w' :=
  ⟨h.os, h.tape, h.output, h.size, fun k hk ht => h.block k hk fun e => ht (hs k hk e)⟩
theorem Kept.of_below (h : Below w.heap.size w w') : Kept S w w' := ⟨h.os, h.tape, h.output, h.size, fun k hk _ => h.block k hk⟩
theorem Kept.call (h : Kept S a w) (hb : Below w.heap.size w w') : Kept S a w' := h.trans (Kept.of_below hb)
theorem Kept.of_grown {row : Option Nat} (h : w.grownBy w' row) (hr : ∀ k, row = some k → S k) : Kept S w w' := ⟨h.os, h.tape, h.output, h.size, fun k hk hs => h.block k hk fun e => hs (hr k e.symm)⟩
theorem Kept.set (w : World) {q : Nat} (hq : S q) (i : Nat) (u : Value) : Kept S w (w.setCell ⟨q, i, none⟩ u) :=
  ⟨rfl, rfl, rfl, (KeepsWalks.setCell w _ u).size, fun k _ hk => Below.heap_setCell w ⟨q, i, none⟩ u k fun e => hk (by rw [e]; exact hq)⟩
/-- A store into a block that was not there at the start. -/
theorem Kept.put (h : Kept S a w) {q : Nat} (hq : a.heap.size ≤ q ∨ S q) (i : Nat) (u : Value) : Kept S a (w.setCell ⟨q, i, none⟩ u) :=
  ⟨h.os, h.tape, h.output, Nat.le_trans h.size (KeepsWalks.setCell w _ u).size, fun k hk hs => (Below.heap_setCell w ⟨q, i, none⟩ u k fun e => by
    have e : k = q := e
    subst e
    rcases hq with h1 | h1
    · omega
    · exact hs h1).trans (h.block k hk hs)⟩
theorem Kept.alloc (h : Kept S a w) (o : Obj) : Kept S a (w.alloc o) := h.call ((Below.refl _ _).alloc (Nat.le_refl _) o)
theorem Kept.below {B : Nat} (h : Kept S w w') (hs : ∀ k, S k → B ≤ k) (hB : B ≤ w.heap.size) : Below B w w' :=
  ⟨h.os, h.tape, h.output, h.size, fun k hk => h.block k (Nat.lt_of_lt_of_le hk hB) fun e => by have := hs k e; omega⟩
theorem Kept.own {base size n m c : Nat} {e : TypeId} {A : Option Addr} {xs : List Value} (h : Kept S w w') (ho : w.ownsRow base e size (.slice A n c) m xs) (hs : ∀ k, InRow A k → ¬ S k) : w'.ownsRow base e size (.slice A n c) m xs := by
  refine ⟨ho.1, ?_⟩
  rcases ho.2 with h1 | ⟨g, cap, cur, e1, h2, h3, h4⟩
  · exact .inl h1
  · refine .inr ⟨g, cap, cur, e1, h2, ?_, h4⟩
    injection e1 with e1
    subst e1
    rw [h.block g (Array.getElem?_eq_some_iff.1 h3).1 (hs g rfl)]
    exact h3
theorem Kept.bytes {B : Nat} {A : Option Addr} {bs : List UInt8} (h : Kept S w w') (hr : Bytes w B A bs) (hB : B ≤ w.heap.size) (ha : Away S A bs) : Bytes w' B A bs := by
  intro j v hj
  obtain ⟨ad, hA, hb, hc⟩ := hr j v hj
  refine ⟨ad, hA, hb, ?_⟩
  have hne : bs ≠ [] := by intro e; subst e; simp at hj
  have e1 : (ad.add j).block = ad.block := add_block ad j
  rw [World.cell?_of_block (w := w) (h.block _ (by rw [e1]; omega) ?_)]
  · exact hc
  · rw [e1]
    exact ha hne ad hA
end
end Go.Proofs.Ytpakihbejdpmoaa
