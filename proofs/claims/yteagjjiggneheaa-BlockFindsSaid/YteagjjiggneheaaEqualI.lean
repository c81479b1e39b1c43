/-
  slices.Equal on ints; sort.Search.
-/
import Derived.Test.YteagjjiggneheaaSplit
namespace Go.Proofs.Yteagjjiggneheaa
open Go.RowKit
set_option linter.unusedVariables false

theorem Row.int_at {w : World} {B : Nat} {A : Option Addr} {l : List Nat} (h : Row w B A (l.map intv)) {k : Nat} (hk : k < l.length) : ∃ ad x, A = some ad ∧ Hid (l[k]? = some x) ∧ w.cell? (ad.add k) = some (.int .i64 (x : Int)) := by
  obtain ⟨ad, hA, _, hc⟩ := h k (intv l[k]) (by rw [List.getElem?_map, List.getElem?_eq_getElem hk]; rfl)
  exact ⟨ad, l[k], hA, List.getElem?_eq_getElem hk, hc⟩
def SameTo (a b : List Nat) (k : Nat) : Prop := ∀ j, j < k → a[j]? = b[j]?

set_option maxHeartbeats 1000000 in
theorem equal_any {w : World} {B1 B2 : Nat} {A1 A2 : Option Addr} {n1 c1 n2 c2 : Nat} {a b : List Nat} (h1 : Row w B1 A1 (a.map intv)) (hn1 : a.length = n1) (h2 : Row w B2 A2 (b.map intv)) (hn2 : b.length = n2) (hB1 : B1 ≤ w.heap.size) (hB2 : B2 ≤ w.heap.size) (hl1 : a.length ≤ 1000000000) (hl2 : b.length ≤ 1000000000) :
    Calls Try.prog 30 #[.slice A1 n1 c1, .slice A2 n2 c2] w fun e w' => e = .returned (.bool (decide (a = b))) ∧ Below w.heap.size w w' := by
  subst hn1 hn2
  go_enter Try.func30, Try.ntmps30
  by_cases hlen : a.length = b.length
  case neg =>
    have hne : ((a.length : Int) != (b.length : Int)) = true := by rw [bne_iff_ne]; omega
    have hab : decide (a = b) = false := by simp; intro e; exact hlen (by rw [e])
    rw [hab]
    clear hlen h1 h2 hab
    go_wp2
    go_ret
    exact ⟨rfl, Below.refl _ _⟩
  have hne : ((a.length : Int) != (b.length : Int)) = false := by rw [bne_eq_false_iff_eq]; omega
  have HL := hide hlen
  clear hlen
  go_wp2
  go_loopw [5, 13] (fun _ i wr => ∃ k : Nat, k ≤ a.length ∧ i = .int .i64 (k : Int) ∧ Hid (SameTo a b k) ∧ Below w.heap.size w wr) (fun _ i _ => a.length - (intOf i).toNat)
  case atStart => exact ⟨0, by omega, rfl, (by show SameTo a b 0; intro j hj; omega), Below.refl _ _⟩
  case round =>
    obtain ⟨k, hk, rfl, HS, hb⟩ := hrel
    by_cases hlt : k < a.length
    · have hlt2 : k < b.length := by have := HL.out; omega
      obtain ⟨ad1, x, rfl, hx, hcx⟩ := Row.int_at (h1.belowLe hb hB1) hlt
      obtain ⟨ad2, y, rfl, hy, hcy⟩ := Row.int_at (h2.belowLe hb hB2) hlt2
      have j1 : (k : Int) < (a.length : Int) := by omega
      have j2 : (k : Int) < (b.length : Int) := by omega
      by_cases hxy : x = y
      · subst hxy
        have HN : Hid (SameTo a b (k + 1)) := by
          show SameTo _ _ _
          intro j hj
          by_cases hjk : j < k
          · exact HS.out j hjk
          · obtain rfl : j = k := by omega
            rw [hx.out, hy.out]
        clear HS h1 h2
        go_wp2
        go_quiet (fail)
        go_wp2
        go_roundw
        case rel => exact ⟨k + 1, by omega, by go_num, HN.out, below_drewN' hb _⟩
        case measure => simp [intOf]; omega
      · have hne : (x : Int) ≠ (y : Int) := fun h => hxy (by omega)
        have hb1 : ((x : Int) != (y : Int)) = true := by rw [bne_iff_ne]; exact hne
        have HC : Hid (decide (a = b) = false) := by
          show _ = _
          simp
          intro e
          subst e
          have h3 := hx.out
          rw [hy.out] at h3
          injection h3 with h3
          exact hxy h3.symm
        clear HS h1 h2 hxy hne
        go_wp2
        go_quiet (fail)
        go_wp2
        go_ret
        exact ⟨by rw [HC.out]; rfl, below_drewN' hb _⟩
    · have HC : Hid (decide (a = b) = true) := by
        show _ = _
        simp
        apply List.ext_getElem?
        intro j
        by_cases hj : j < k
        · exact HS.out j hj
        · rw [List.getElem?_eq_none (by omega), List.getElem?_eq_none (by have := HL.out; omega)]
      clear HS h1 h2
      go_wp2
      go_ret
      exact ⟨by rw [HC.out]; rfl, hb⟩
end Go.Proofs.Yteagjjiggneheaa
