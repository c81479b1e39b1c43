/-
  Arguments opened: a slice of bytes.
-/
import Derived.Test.YtpakihbejdpmoaaBase
import Derived.ProofKit
import Derived.OpenShut
namespace Go.Proofs.Ytpakihbejdpmoaa
open Go.ChangeShapes Go.WideShapes Go.ChangeAt Go.RowKit
set_option linter.unusedVariables false

section
variable {H : Type} {enc : TypeId × Value → H} {P : Program} {w : World} {spare : Nat → Bool} {held : Bool}
theorem open_bytes {r : Reach} {b0 b1 : Nat} {t e : TypeId} {v : Value} {d : DataW H} {p : List MemPlace} (ht : P.underlying t = some (.slice e)) (he : P.underlying e = some (.int .u8)) (hc : P.cellsOf e = 1)
    (hv : Value.okWide P w r b0 t v) (h : DataW.Trod enc P w b1 (fun _ => true) held t v d p) :
    ∃ A bs c, v = .slice A bs.length c ∧ Bytes w w.heap.size A bs ∧ bs.length ≤ 9223372036854775807 ∧ bs.length ≤ c := by
  obtain ⟨a1, len1, cap1, rfl⟩ := okWide_slice ht hv
  obtain ⟨fuel, hf⟩ := h
  have hrow : ∃ zs : List Int, (a1 = none ∧ len1 = 0 ∧ cap1 = 0 ∧ zs = []) ∨
      ∃ x, a1 = some x ∧ len1 ≤ cap1 ∧ cap1 ≤ maxLen ∧ zs.length = cap1 ∧ (∀ i, i < zs.length → w.cell? (x.add i) = some (.int .u8 (zs.getD i 0))) ∧ ∀ n ∈ zs, (Lit.int .u8 n).wf = true := by
    rcases open_ints ht he hc hf with ⟨hcs, _⟩ | ⟨x, l, c, zs, hcs, _, hl, hm, hz, _, hcell, hwz⟩
    · simp [Value.cells] at hcs
      obtain ⟨rfl, rfl, rfl⟩ := hcs
      exact ⟨[], .inl ⟨rfl, rfl, rfl, rfl⟩⟩
    · simp [Value.cells] at hcs
      obtain ⟨rfl, rfl, rfl⟩ := hcs
      exact ⟨zs, .inr ⟨_, rfl, hl, hm, by simpa using hz, hcell, hwz⟩⟩
  obtain ⟨zs, hz⟩ := hrow
  obtain ⟨bs, rfl, hb, h1, h2⟩ := bytes_of_row hz
  exact ⟨a1, bs, cap1, rfl, hb, h1, h2⟩
end
end Go.Proofs.Ytpakihbejdpmoaa
