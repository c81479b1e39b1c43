/-
  A slice of bytes cut: 's[k:]', 's[:k]', as equations of the model's runs with the address left open.
-/
import Derived.Test.YtikfiicjgcnljaaBase
namespace Go.Proofs.Ytikfiicjgcnljaa
open Go.RowKit
set_option linter.unusedVariables false

/-- A slice that has bytes lies below B or not below C: in no block between them. -/
def Away (B C : Nat) (A : Option Addr) (bs : List UInt8) : Prop := bs ≠ [] → ∀ a, A = some a → a.block < B ∨ C ≤ a.block
theorem Away.none {B C : Nat} {bs : List UInt8} : Away B C none bs := by intro _ a h; cases h
theorem Away.nil {B C : Nat} {A : Option Addr} : Away B C A [] := fun h => absurd rfl h
theorem Away.of_bytes {w : World} {B C : Nat} {A : Option Addr} {bs : List UInt8} (h : Bytes w B A bs) : Away B C A bs := by
  intro hne a ha
  obtain ⟨ad, b, hA, hb, _⟩ := h.at_ (k := 0) (by cases bs with | nil => exact absurd rfl hne | cons _ _ => simp)
  rw [ha] at hA
  injection hA with hA
  subst hA
  exact .inl hb
theorem Away.more {B B' C C' : Nat} {A : Option Addr} {bs : List UInt8} (h : Away B C A bs) (hB : B ≤ B') (hC : C' ≤ C) : Away B' C' A bs :=
  fun hne a ha => (h hne a ha).imp (fun x => Nat.lt_of_lt_of_le x hB) (fun x => Nat.le_trans hC x)
theorem Away.take {B C : Nat} {A : Option Addr} {bs : List UInt8} (h : Away B C A bs) (k : Nat) : Away B C A (bs.take k) := fun hne => h (by intro e; subst e; simp at hne)
/-- A store between B and C leaves the bytes. -/
theorem Away.setCell {w : World} {B B' C : Nat} {A : Option Addr} {bs : List UInt8} (h : Away B C A bs) (hr : Bytes w B' A bs) {p : Addr} (hp : B ≤ p.block) (hp' : p.block < C) (u : Value) : Bytes (w.setCell p u) B' A bs := by
  intro j v hj
  obtain ⟨ad, hA, hb, hc⟩ := hr j v hj
  refine ⟨ad, hA, hb, ?_⟩
  have hne : bs ≠ [] := by intro e; subst e; simp at hj
  have hblk : (ad.add j).block ≠ p.block := by
    rw [add_block]
    rcases h hne ad hA with h1 | h1 <;> omega
  rw [World.cell?_of_block (w := w) (Below.heap_setCell w p u _ hblk)]
  exact hc

section
variable {P : Program} {w : World} {B : Nat} {A : Option Addr} {n c : Nat} {bs : List UInt8}

/-- 's[l:]': one address, whatever the capacity. -/
theorem cut_from {t : TypeId} (ht : P.underlying t = some (.slice (P.elem t))) (hsz : ∀ w' : World, (sizeOf (P.elem t)).run P w' = .ok 1 w') (hr : Bytes w B A bs) (hn : bs.length = n) (hc : n ≤ c) (l : Int) (k : Nat) (hl : l = (k : Int)) (hk : k ≤ n) (kd : IntKind) :
    ∃ A', (∀ w' : World, (Instr.slice t (.slice A n c) (some (.int kd l)) none none).run P w' = .ok (.slice A' (n - k) (c - k)) w') ∧ Bytes w B A' (bs.drop k) := by
  subst hl
  refine ⟨if c = k then A else A.map (·.add k), fun w' => ?_, hr.cut (m := c) (k := k) (fun e => by omega)⟩
  rw [run_slice_l w' t A n c ht kd (k : Int) (by omega) (by omega), hsz]
  simp only [Result.andThen, sliced, Int.toNat_natCast, Nat.mul_one]

/-- The same, and where it lies. -/
theorem cut_from' {t : TypeId} (ht : P.underlying t = some (.slice (P.elem t))) (hsz : ∀ w' : World, (sizeOf (P.elem t)).run P w' = .ok 1 w') (hr : Bytes w B A bs) (hn : bs.length = n) (hc : n ≤ c) (l : Int) (k : Nat) (hl : l = (k : Int)) (hk : k ≤ n) (kd : IntKind) :
    ∃ A', (∀ w' : World, (Instr.slice t (.slice A n c) (some (.int kd l)) none none).run P w' = .ok (.slice A' (n - k) (c - k)) w') ∧ Bytes w B A' (bs.drop k) ∧ ∀ B' C', Away B' C' A bs → Away B' C' A' (bs.drop k) := by
  subst hl
  refine ⟨if c = k then A else A.map (·.add k), fun w' => ?_, hr.cut (m := c) (k := k) (fun e => by omega), fun B' C' h hne a ha => ?_⟩
  · rw [run_slice_l w' t A n c ht kd (k : Int) (by omega) (by omega), hsz]
    simp only [Result.andThen, sliced, Int.toNat_natCast, Nat.mul_one]
  · have hne' : bs ≠ [] := by intro e; subst e; simp at hne
    split at ha
    · exact h hne' a ha
    · cases A with
      | none => cases ha
      | some x =>
        injection ha with ha
        subst ha
        have := h hne' x rfl
        simp only [add_block]
        exact this

/-- 's[:h]'. -/
theorem cut_to {t : TypeId} (ht : P.underlying t = some (.slice (P.elem t))) (hsz : ∀ w' : World, (sizeOf (P.elem t)).run P w' = .ok 1 w') (h : Int) (k : Nat) (hl : h = (k : Int)) (hk : k ≤ c) (kd : IntKind) :
    ∀ w' : World, (Instr.slice t (.slice A n c) none (some (.int kd h)) none).run P w' = .ok (.slice A k c) w' := by
  intro w'
  subst hl
  rw [run_slice_h w' t A n c ht kd (k : Int) (by omega) (by omega), hsz]
  simp only [Result.andThen, sliced, Int.toNat_natCast, Nat.mul_one, Nat.sub_zero]
  congr 2
  split
  · rfl
  · cases A <;> rfl
end

theorem elem_bytes : Try.prog.underlying 22 = some (.slice (Try.prog.elem 22)) := by kernel_rfl
theorem size_byte (w : World) : (sizeOf (Try.prog.elem 22)).run Try.prog w = .ok 1 w := by kernel_rfl
end Go.Proofs.Ytikfiicjgcnljaa
