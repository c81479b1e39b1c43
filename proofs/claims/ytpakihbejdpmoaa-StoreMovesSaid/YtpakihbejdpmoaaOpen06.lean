/-
  Arguments opened: an array of two strings.
-/
import Derived.Test.YtpakihbejdpmoaaOpen
import Derived.Test.YtpakihbejdpmoaaStr
namespace Go.Proofs.Ytpakihbejdpmoaa
open Go.ChangeShapes Go.WideShapes Go.ChangeAt Go.RowKit
set_option linter.unusedVariables false

theorem open_two {P : Program} {H : Type} {enc : TypeId × Value → H} {w : World} {spare : Nat → Bool} {held : Bool} {r : Reach} {b0 b1 : Nat} {t e : TypeId} {v : Value} {d : DataW H} {p : List MemPlace}
    (ht : P.underlying t = some (.array 2 e)) (he : P.underlying e = some .string) (hc2 : P.cellsOf t = 2) (hc1 : P.cellsOf e = 1) (hv : Value.okWide P w r b0 t v) (h : DataW.Trod enc P w b1 spare held t v d p) : ∃ s1 s2 : ByteArray, v = .agg #[.string s1, .string s2] ∧ s1.size ≤ maxLen ∧ s2.size ≤ maxLen := by
  obtain ⟨cs, rfl, hsz, _⟩ : ∃ cs, v = .agg cs ∧ cs.size = P.cellsOf t ∧ Row.okWide P w r b0 t cs := by
    simpa [Value.okWide, ht] using hv
  rw [hc2] at hsz
  obtain ⟨fuel, hf⟩ := h
  obtain ⟨xs, m, _, _, _, hl, hel⟩ := DataW.trod_array ht hf
  rw [hc1] at hel
  obtain ⟨l⟩ := cs
  match l, hsz with
  | [c0, c1], _ =>
    have h0 := hel 0 (by omega)
    have h1 := hel 1 (by omega)
    rw [List.getElem?_eq_getElem (by omega)] at h0 h1
    obtain ⟨s1, e1, _, w1⟩ := DataW.trod_string he h0
    obtain ⟨s2, e2, _, w2⟩ := DataW.trod_string he h1
    have g1 : c0 = .string s1 := (List.cons.inj (show [c0] = [Value.string s1] from e1)).1
    have g2 : c1 = .string s2 := (List.cons.inj (show [c1] = [Value.string s2] from e2)).1
    rw [g1, g2]
    exact ⟨s1, s2, rfl, w1, w2⟩
end Go.Proofs.Ytpakihbejdpmoaa
