/-
  Keys in memory; few.
-/
import Derived.Test.YtnmgbhpmmbhgoaaAsks
import Derived.Test.YtnmgbhpmmbhgoaaBloomLaw
namespace Go.Proofs.Ytnmgbhpmmbhgoaa
open Go.RowKit
set_option linter.unusedVariables false

/-- A key in memory. -/
structure Ky where
  A : Option Addr
  c : Nat
  k : List UInt8
def Ky.cell (p : Ky) : Value := .slice p.A p.k.length p.c
/-- A list of keys in memory. -/
def KyRow (w : World) (B : Nat) (A : Option Addr) (l : List Ky) : Prop := Row w B A (l.map Ky.cell) ∧ ∀ p ∈ l, Bytes w w.heap.size p.A p.k
theorem KyRow.below {w w' : World} {A : Option Addr} {l : List Ky} (h : KyRow w w.heap.size A l) (hb : Below w.heap.size w w') : KyRow w' w'.heap.size A l :=
  ⟨(h.1.below hb).more hb.size, fun f hf => ((h.2 f hf).below hb).more hb.size⟩
theorem KyRow.at_ {w : World} {B : Nat} {A : Option Addr} {l : List Ky} (h : KyRow w B A l) {k : Nat} (hk : k < l.length) : ∃ ad p, A = some ad ∧ ad.block < B ∧ Hid (l[k]? = some p) ∧ w.cell? (ad.add k) = some (.slice p.A p.k.length p.c) ∧ Bytes w w.heap.size p.A p.k := by
  obtain ⟨ad, hA, hb, hc⟩ := h.1 k l[k].cell (by rw [List.getElem?_map, List.getElem?_eq_getElem hk]; rfl)
  exact ⟨ad, l[k], hA, hb, List.getElem?_eq_getElem hk, hc, h.2 _ (List.getElem_mem hk)⟩
theorem KyRow.nil {w : World} {B : Nat} : KyRow w B none [] := ⟨Row.nil, fun p hp => by simp at hp⟩

def fewK (l : List Ky) : Bool := decide (l.length ≤ 2000) && l.all fun p => decide (p.k.length ≤ 600)
theorem fewK_false_at {l : List Ky} {k : Nat} {p : Ky} (hp : l[k]? = some p) (h : 600 < p.k.length) : fewK l = false := by
  unfold fewK
  have : l.all (fun p => decide (p.k.length ≤ 600)) = false := by rw [List.all_eq_false]; exact ⟨p, List.mem_of_getElem? hp, by simp; omega⟩
  rw [this, Bool.and_false]
theorem fewK_true {l : List Ky} (h : fewK l = true) : l.length ≤ 2000 ∧ ∀ p ∈ l, p.k.length ≤ 600 := by
  unfold fewK at h
  simp only [Bool.and_eq_true, decide_eq_true_eq, List.all_eq_true] at h
  exact h

set_option maxHeartbeats 1000000 in
theorem few_any (A : Option Addr) (c : Nat) (l : List Ky) (w : World) (hr : KyRow w w.heap.size A l) (hl : l.length ≤ 9223372036854775807) :
    Calls Try.prog 7 #[.slice A l.length c] w fun e w' => e = .returned (.bool (fewK l)) ∧ w = w' := by
  by_cases h2 : 2000 < l.length
  · have hf : Hid (fewK l = false) := by show _ = _; unfold fewK; simp; omega
    clear hr
    go_enter Try.func7, Try.ntmps7
    go_wp2
    go_ret
    exact ⟨by rw [hf.out]; rfl, rfl⟩
  · go_enter Try.func7, Try.ntmps7
    go_wp2
    go_loop [3] (fun i => ∃ k : Nat, k ≤ l.length ∧ i = .int .i64 (k : Int) ∧ Hid (∀ p ∈ l.take k, p.k.length ≤ 600)) (fun i => l.length - (intOf i).toNat)
    case atStart => exact ⟨0, Nat.zero_le _, rfl, by show ∀ _, _; simp⟩
    case round =>
      obtain ⟨k, hk, rfl, HA⟩ := hrel
      by_cases hlt : k < l.length
      · obtain ⟨ad, p, rfl, hadb, hp, hc, hbs⟩ := hr.at_ hlt
        by_cases h6 : 600 < p.k.length
        · have hf := hide (fewK_false_at hp.out h6)
          clear hr hbs
          go_wp2
          go_ret
          exact ⟨by rw [hf.out]; rfl, rfl⟩
        · have HA2 : Hid (∀ q ∈ l.take (k + 1), q.k.length ≤ 600) := by
            show ∀ _, _
            intro q hq
            rw [take_next hp.out] at hq
            rcases List.mem_append.1 hq with h | h
            · exact HA.out q h
            · simp at h; subst h; omega
          clear hr hbs
          go_wp2
          go_round
          case rel => exact ⟨k + 1, by omega, by go_num, HA2.out⟩
          case measure => simp [intOf]; omega
      · have hf : Hid (fewK l = true) := by
          show _ = _
          have h := HA.out
          rw [List.take_of_length_le (by omega)] at h
          unfold fewK
          simp only [Bool.and_eq_true, decide_eq_true_eq, List.all_eq_true]
          exact ⟨by omega, h⟩
        clear hr
        go_wp2
        go_ret
        exact ⟨by rw [hf.out]; rfl, rfl⟩
end Go.Proofs.Ytnmgbhpmmbhgoaa
