/-
  A slice of bytes cut: 's[k:]', 's[:k]', as equations of the model's runs with the address left open.
-/
import Derived.Test.YtpakihbejdpmoaaBase
namespace Go.Proofs.Ytpakihbejdpmoaa
open Go.RowKit
set_option linter.unusedVariables false

/-- A slice that has bytes lies in none of the blocks X. -/
def Away (X : Nat → Prop) (A : Option Addr) (bs : List UInt8) : Prop := bs ≠ [] → ∀ a, A = some a → ¬ X a.block
section
variable {X Y : Nat → Prop} {A : Option Addr} {bs : List UInt8}
theorem Away.none : Away X none bs := by intro _ a h; cases h
theorem Away.nil : Away X A [] := fun h => absurd rfl h
theorem Away.of_false : Away (fun _ => False) A bs := fun _ _ _ h => h
theorem Away.less (h : Away X A bs) (hX : ∀ k, Y k → X k) : Away Y A bs := fun hne a ha hy => h hne a ha (hX _ hy)
theorem Away.or (h : Away X A bs) (h2 : Away Y A bs) : Away (fun k => X k ∨ Y k) A bs := fun hne a ha hy => hy.elim (h hne a ha) (h2 hne a ha)
theorem Away.take (h : Away X A bs) (k : Nat) : Away X A (bs.take k) := fun hne => h (by intro e; subst e; simp at hne)
/-- Bytes below B lie in no block that is not below B. -/
theorem Away.of_bytes {w : World} {B : Nat} (h : Bytes w B A bs) (hX : ∀ k, X k → B ≤ k) : Away X A bs := by
  intro hne a ha hx
  obtain ⟨ad, b, hA, hb, _⟩ := h.at_ (k := 0) (by cases bs with | nil => exact absurd rfl hne | cons _ _ => simp)
  rw [ha] at hA
  injection hA with hA
  subst hA
  have := hX _ hx
  omega
/-- A store into a block of X leaves the bytes. -/
theorem Away.setCell {w : World} {B' : Nat} (h : Away X A bs) (hr : Bytes w B' A bs) {p : Addr} (hp : X p.block) (u : Value) : Bytes (w.setCell p u) B' A bs := by
  intro j v hj
  obtain ⟨ad, hA, hb, hc⟩ := hr j v hj
  refine ⟨ad, hA, hb, ?_⟩
  have hne : bs ≠ [] := by intro e; subst e; simp at hj
  have hblk : (ad.add j).block ≠ p.block := by
    rw [add_block]
    intro e
    exact h hne ad hA (e ▸ hp)
  rw [World.cell?_of_block (w := w) (Below.heap_setCell w p u _ hblk)]
  exact hc
/-- A growth that turns a block of X alone leaves the bytes. -/
theorem Away.grown {w w' : World} {B' : Nat} (h : Away X A bs) (hr : Bytes w B' A bs) (hB : B' ≤ w.heap.size) {row : Option Nat} (hg : w.grownBy w' row) (hX : ∀ k, row = some k → X k) : Bytes w' B' A bs := by
  intro j v hj
  obtain ⟨ad, hA, hb, hc⟩ := hr j v hj
  refine ⟨ad, hA, hb, ?_⟩
  have hne : bs ≠ [] := by intro e; subst e; simp at hj
  have e1 : (ad.add j).block = ad.block := add_block ad j
  rw [World.cell?_of_block (w := w) (hg.block _ (by rw [e1]; omega) ?_)]
  · exact hc
  · rw [e1]
    intro e
    exact h hne ad hA (hX _ e.symm)
end

section
variable {P : Program} {w : World} {B : Nat} {A : Option Addr} {n c : Nat} {bs : List UInt8}

/-- 's[l:]': one address, whatever the capacity. -/
theorem cut_from {t : TypeId} (ht : P.underlying t = some (.slice (P.elem t))) (hsz : ∀ w' : World, (sizeOf (P.elem t)).run P w' = .ok 1 w') (hr : Bytes w B A bs) (hn : bs.length = n) (hc : n ≤ c) (l : Int) (k : Nat) (hl : l = (k : Int)) (hk : k ≤ n) (kd : IntKind) :
    ∃ A', (∀ w' : World, (Instr.slice t (.slice A n c) (some (.int kd l)) none none).run P w' = .ok (.slice A' (n - k) (c - k)) w') ∧ Bytes w B A' (bs.drop k) := by
  subst hl
  refine ⟨if c = k then A else A.map (·.add k), fun w' => ?_, hr.cut (m := c) (k := k) (fun e => by omega)⟩
  rw [run_slice_l w' t A n c ht kd (k : Int) (by omega) (by omega), hsz]
  simp only [Result.andThen, sliced, Int.toNat_natCast, Nat.mul_one]

/-- The same, and where it lies. -/
theorem cut_from' {t : TypeId} (ht : P.underlying t = some (.slice (P.elem t))) (hsz : ∀ w' : World, (sizeOf (P.elem t)).run P w' = .ok 1 w') (hr : Bytes w B A bs) (hn : bs.length = n) (hc : n ≤ c) (l : Int) (k : Nat) (hl : l = (k : Int)) (hk : k ≤ n) (kd : IntKind) :
    ∃ A', (∀ w' : World, (Instr.slice t (.slice A n c) (some (.int kd l)) none none).run P w' = .ok (.slice A' (n - k) (c - k)) w') ∧ Bytes w B A' (bs.drop k) ∧ ∀ X : Nat → Prop, Away X A bs → Away X A' (bs.drop k) := by
  subst hl
  refine ⟨if c = k then A else A.map (·.add k), fun w' => ?_, hr.cut (m := c) (k := k) (fun e => by omega), fun X h hne a ha => ?_⟩
  · rw [run_slice_l w' t A n c ht kd (k : Int) (by omega) (by omega), hsz]
    simp only [Result.andThen, sliced, Int.toNat_natCast, Nat.mul_one]
  · have hne' : bs ≠ [] := by intro e; subst e; simp at hne
    split at ha
    · exact h hne' a ha
    · cases A with
      | none => cases ha
      | some x =>
        injection ha with ha
        subst ha
        have := h hne' x rfl
        simp only [add_block]
        exact this

/-- 's[:h]'. -/
theorem cut_to {t : TypeId} (ht : P.underlying t = some (.slice (P.elem t))) (hsz : ∀ w' : World, (sizeOf (P.elem t)).run P w' = .ok 1 w') (h : Int) (k : Nat) (hl : h = (k : Int)) (hk : k ≤ c) (kd : IntKind) :
    ∀ w' : World, (Instr.slice t (.slice A n c) none (some (.int kd h)) none).run P w' = .ok (.slice A k c) w' := by
  intro w'
  subst hl
  rw [run_slice_h w' t A n c ht kd (k : Int) (by omega) (by omega), hsz]
  simp only [Result.andThen, sliced, Int.toNat_natCast, Nat.mul_one, Nat.sub_zero]
  congr 2
  split
  · rfl
  · cases A <;> rfl
end

theorem elem_bytes : Try.prog.underlying 33 = some (.slice (Try.prog.elem 33)) := by kernel_rfl
theorem size_byte (w : World) : (sizeOf (Try.prog.elem 33)).run Try.prog w = .ok 1 w := by kernel_rfl
end Go.Proofs.Ytpakihbejdpmoaa
