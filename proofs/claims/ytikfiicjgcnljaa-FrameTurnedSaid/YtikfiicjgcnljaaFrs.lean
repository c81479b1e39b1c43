/-
  Lists of frames in memory.
-/
import Derived.Test.YtikfiicjgcnljaaFTake
import Derived.Test.YtikfiicjgcnljaaScanMath
namespace Go.Proofs.Ytikfiicjgcnljaa
open Go.RowKit
set_option linter.unusedVariables false

/-- A frame in memory. -/
structure Fr where
  k : UInt8
  A : Option Addr
  c : Nat
  b : List UInt8
def Fr.cells (f : Fr) : List Value := [.int .u8 (f.k.toNat : Int), .slice f.A f.b.length f.c]
def Fr.pair (f : Fr) : UInt8 × List UInt8 := (f.k, f.b)
/-- The bytes of frames, away from the blocks X. -/
def Bodies (X : Nat → Prop) (w : World) (l : List Fr) : Prop := ∀ f ∈ l, Bytes w w.heap.size f.A f.b ∧ f.b.length ≤ f.c ∧ Away X f.A f.b

theorem Bodies.nil {X : Nat → Prop} {w : World} : Bodies X w [] := fun f h => by simp at h
theorem Bodies.snoc {X : Nat → Prop} {w : World} {l : List Fr} {f : Fr} (h : Bodies X w l) (hf : Bytes w w.heap.size f.A f.b ∧ f.b.length ≤ f.c ∧ Away X f.A f.b) : Bodies X w (l ++ [f]) := by
  intro g hg
  rcases List.mem_append.1 hg with h1 | h1
  · exact h g h1
  · simp at h1; subst h1; exact hf
theorem Bodies.below {X : Nat → Prop} {w w' : World} {l : List Fr} (h : Bodies X w l) (hb : Below w.heap.size w w') : Bodies X w' l :=
  fun f hf => ⟨((h f hf).1.below hb).more hb.size, (h f hf).2.1, (h f hf).2.2⟩
theorem Bodies.less {X Y : Nat → Prop} {w : World} {l : List Fr} (h : Bodies X w l) (hX : ∀ k, Y k → X k) : Bodies Y w l :=
  fun f hf => ⟨(h f hf).1, (h f hf).2.1, (h f hf).2.2.less hX⟩
/-- A growth of a row of X; what is new is away, too. -/
theorem Bodies.grown {X : Nat → Prop} {w w' : World} {l : List Fr} (h : Bodies X w l) {row : Option Nat} (hg : w.grownBy w' row) (hX : ∀ k, row = some k → X k) : Bodies (fun k => X k ∨ w.heap.size ≤ k) w' l :=
  fun f hf => ⟨((h f hf).2.2.grown (h f hf).1 (Nat.le_refl _) hg hX).more hg.size, (h f hf).2.1, (h f hf).2.2.or (Away.of_bytes (h f hf).1 (fun k hk => hk))⟩

theorem flatCells_len (l : List Fr) : (l.flatMap Fr.cells).length = l.length * 2 := by
  induction l with
  | nil => rfl
  | cons f l ih => simp [Fr.cells, ih]; omega
theorem flatCells_snoc (l : List Fr) (f : Fr) : (l ++ [f]).flatMap Fr.cells = l.flatMap Fr.cells ++ f.cells := by simp

/-- The block of an own row. -/
def InRow (A : Option Addr) (k : Nat) : Prop := A.map (·.block) = some k

/-- Frames read, and how many bytes. -/
def ScanP (w w' : World) (e : Ending) (bs : List UInt8) : Prop :=
  ∃ (l : List Fr) (r : List UInt8) (A : Option Addr) (c : Nat), e = .returned (.tuple #[.slice A l.length c, .int .i64 ((bs.length : Int) - (r.length : Int))]) ∧ Hid (Scans bs (l.map Fr.pair) r) ∧ Row w' w'.heap.size A (l.flatMap Fr.cells) ∧ l.length ≤ c ∧ Bodies (fun _ => False) w' l ∧ Below w.heap.size w w'
end Go.Proofs.Ytikfiicjgcnljaa
