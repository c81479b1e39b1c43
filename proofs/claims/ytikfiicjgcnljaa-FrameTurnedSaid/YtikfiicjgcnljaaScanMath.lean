/-
  The plain law of frames one behind the other.
-/
import Derived.Test.YtikfiicjgcnljaaFrameLaw
namespace Go.Proofs.Ytikfiicjgcnljaa
set_option linter.unusedVariables false

/-- Frames one behind the other. -/
def flat : List (UInt8 × List UInt8) → List UInt8
  | [] => []
  | f :: fs => frameB f.1 f.2 ++ flat fs
/-- Bytes are frames and a rest that begins with none. -/
def Scans (b : List UInt8) (fs : List (UInt8 × List UInt8)) (r : List UInt8) : Prop := b = flat fs ++ r ∧ (∀ f ∈ fs, f.2.length ≤ 65536) ∧ takeF r = none

theorem flat_append (a b : List (UInt8 × List UInt8)) : flat (a ++ b) = flat a ++ flat b := by
  induction a with
  | nil => rfl
  | cons f a ih => simp [flat, ih]
theorem flat_snoc (a : List (UInt8 × List UInt8)) (k : UInt8) (b : List UInt8) : flat (a ++ [(k, b)]) = flat a ++ frameB k b := by
  rw [flat_append]; simp [flat]
theorem frameB_pos (k : UInt8) (b : List UInt8) : 6 + b.length ≤ (frameB k b).length := by
  unfold frameB textB numB lowFirst
  simp [four_len]; omega
theorem flat_len (fs : List (UInt8 × List UInt8)) : 6 * fs.length ≤ (flat fs).length := by
  induction fs with
  | nil => simp [flat]
  | cons f fs ih =>
    have := frameB_pos f.1 f.2
    simp [flat]; omega

theorem Scans.unique {b : List UInt8} {fs gs : List (UInt8 × List UInt8)} {r s : List UInt8} (h : Scans b fs r) (h2 : Scans b gs s) : fs = gs ∧ r = s := by
  induction fs generalizing b gs with
  | nil =>
    obtain ⟨e1, l1, n1⟩ := h
    obtain ⟨e2, l2, n2⟩ := h2
    cases gs with
    | nil => exact ⟨rfl, by rw [e1] at e2; simpa [flat] using e2⟩
    | cons g gs =>
      exfalso
      rw [e1] at e2
      have : takeF r = some (g.1, g.2, flat gs ++ s) := by
        rw [show r = frameB g.1 g.2 ++ (flat gs ++ s) by simpa [flat] using e2]
        exact takeF_frame (l2 g (by simp)) _
      rw [n1] at this; cases this
  | cons f fs ih =>
    obtain ⟨e1, l1, n1⟩ := h
    have hf : takeF b = some (f.1, f.2, flat fs ++ r) := by
      rw [show b = frameB f.1 f.2 ++ (flat fs ++ r) by simpa [flat] using e1]
      exact takeF_frame (l1 f (by simp)) _
    obtain ⟨e2, l2, n2⟩ := h2
    cases gs with
    | nil =>
      exfalso
      rw [show b = s by simpa [flat] using e2, n2] at hf
      cases hf
    | cons g gs =>
      have hg : takeF b = some (g.1, g.2, flat gs ++ s) := by
        rw [show b = frameB g.1 g.2 ++ (flat gs ++ s) by simpa [flat] using e2]
        exact takeF_frame (l2 g (by simp)) _
      rw [hf] at hg
      injection hg with hg
      simp only [Prod.mk.injEq] at hg
      obtain ⟨k1, k2, k3⟩ := hg
      have := ih (b := flat fs ++ r) (gs := gs) ⟨rfl, fun x hx => l1 x (by simp [hx]), n1⟩ ⟨k3, fun x hx => l2 x (by simp [hx]), n2⟩
      exact ⟨by rw [this.1, show f = g from Prod.ext k1 k2], this.2⟩
end Go.Proofs.Ytikfiicjgcnljaa
