/-
  Slices of bytes read.
-/
import Derived.Test.YtpakihbejdpmoaaRead
import Derived.OpenShut
import Derived.KernelRfl
namespace Go.Proofs.Ytpakihbejdpmoaa
open Go.ChangeShapes Go.WideShapes Go.ChangeAt Go.RowKit
set_option linter.unusedVariables false

section
variable {H : Type} {enc : TypeId × Value → H} {P : Program} {w : World} {base : Nat} {held : Bool}

theorem Rd.byte {t : TypeId} {cs : List Value} (ht : P.underlying t = some (.int .u8)) (h : Rd enc P w base held t cs) : ∃ b : UInt8, cs = [byv b] := by
  obtain ⟨z, h1, h2⟩ := h.int ht
  exact ⟨UInt8.ofNat z.toNat, by rw [h1, toBytes_byv h2]⟩

theorem Rd.bytes {t e : TypeId} {cs : List Value} (ht : P.underlying t = some (.slice e)) (he : P.underlying e = some (.int .u8)) (hc : P.cellsOf e = 1) (h : Rd enc P w base held t cs) :
    ∃ (A : Option Addr) (bs : List UInt8) (k : Nat), cs = [.slice A bs.length k] ∧ bs.length ≤ k ∧ k ≤ maxLen ∧ Bytes w w.heap.size A bs := by
  obtain ⟨A, l, k, e0, hk, hm, _, hrow⟩ := Rd.slice (fun b : UInt8 => [byv b]) (fun _ => True) ht hc (by omega) (fun l hl => by
    obtain ⟨b, hb⟩ := Rd.byte he hl
    exact ⟨b, hb, trivial⟩) h
  refine ⟨A, l, k, e0, hk, hm, ?_⟩
  unfold Bytes
  have : l.flatMap (fun b => [byv b]) = l.map byv := by
    clear hrow e0 hk
    induction l with
    | nil => rfl
    | cons b l ih => simp [ih]
  rw [this] at hrow
  exact hrow

end
end Go.Proofs.Ytpakihbejdpmoaa
