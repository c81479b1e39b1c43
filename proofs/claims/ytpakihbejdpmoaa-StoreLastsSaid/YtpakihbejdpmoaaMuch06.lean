/-
  The law's much: acts that are not too long.
-/
import Derived.Test.YtpakihbejdpmoaaSimA
namespace Go.Proofs.Ytpakihbejdpmoaa
open Go.RowKit
set_option linter.unusedVariables false

theorem ActRow.cells {w : World} {B : Nat} {A : Option Addr} {l : List Ac} (h : ActRow w B A l) {k : Nat} {a : Ac} (hk : l[k]? = some a) :
    ∃ ad, A = some ad ∧ ad.block < B ∧ w.cell? (ad.add (k * 6)) = some (.int .i64 a.do_) ∧ w.cell? ⟨(ad.add (k * 6)).block, (ad.add (k * 6)).off + 1, none⟩ = some (.string a.nm) ∧ w.cell? ⟨(ad.add (k * 6)).block, (ad.add (k * 6)).off + 2, none⟩ = some (.string a.to) ∧
      w.cell? ⟨(ad.add (k * 6)).block, (ad.add (k * 6)).off + 3, none⟩ = some (.int .i64 a.n) ∧ w.cell? ⟨(ad.add (k * 6)).block, (ad.add (k * 6)).off + 4, none⟩ = some (.slice a.AB a.bs.length a.cB) ∧ w.cell? ⟨(ad.add (k * 6)).block, (ad.add (k * 6)).off + 5, none⟩ = some (.slice a.AK a.kl.length a.cK) := by
  obtain ⟨ad, hA, hlt, hc⟩ := h.at_ hk
  have h0 := hc 0 _ rfl
  have h1 := hc 1 _ rfl
  have h2 := hc 2 _ rfl
  have h3 := hc 3 _ rfl
  have h4 := hc 4 _ rfl
  have h5 := hc 5 _ rfl
  refine ⟨ad, hA, hlt, ?_⟩
  generalize ad.add (k * 6) = e at *
  have e0 : e.add 0 = e := by unfold Addr.add; simp
  have e1 : ∀ j, j ≠ 0 → e.add j = ⟨e.block, e.off + j, none⟩ := fun j hj => by unfold Addr.add; simp [hj]
  rw [e0] at h0
  rw [e1 _ (by omega)] at h1 h2 h3 h4 h5
  exact ⟨h0, h1, h2, h3, h4, h5⟩
def MuchR (l : List Ac) (w : World) (e : Ending) (w' : World) : Prop := ∃ b, e = .returned (.bool b) ∧ w = w' ∧ (b = false → ∀ k a, k < 300 → l[k]? = some a → a.Sz)
def MuRel (l : List Ac) (n i : Value) : Prop := ∃ (k : Nat) (v : Int), k ≤ l.length ∧ k ≤ 300 ∧ i = .int .i64 (k : Int) ∧ n = .int .i64 v ∧ 0 ≤ v ∧ v ≤ 200000 ∧ Hid (∀ j a, j < k → l[j]? = some a → a.Sz)

set_option maxRecDepth 100000 in
set_option maxHeartbeats 4000000 in
theorem much_any (A : Option Addr) (B n c : Nat) (l : List Ac) (w : World) (hn : l.length = n) (hr : ActRow w B A l) (hl : n ≤ 9223372036854775807) :
    Calls Try.prog 12 #[.slice A n c] w (MuchR l w) := by
  subst hn
  have HR := hide hr
  clear hr
  go_enter Try.func12, Try.ntmps12
  go_wp2
  go_loop [3, 4] (fun n i => MuRel l n i) (fun _ i => l.length - (intOf i).toNat)
  case atStart => exact ⟨0, 0, Nat.zero_le _, Nat.zero_le _, rfl, rfl, by omega, by omega, by show ∀ _, _; intro j a hj; omega⟩
  case round =>
    obtain ⟨k, v, hk, hk3, rfl, rfl, hv0, hv2, HA⟩ := hrel
    by_cases hlt : k < l.length
    · by_cases hlt3 : k < 300
      · obtain ⟨a, ha⟩ : ∃ a, l[k]? = some a := ⟨_, List.getElem?_eq_getElem hlt⟩
        obtain ⟨ad, rfl, hadb, -, c1, c2, -, c4, -⟩ := HR.out.cells ha
        have hbl := (HR.out.2 a (List.mem_of_getElem? ha)).bl
        have hlt' : (k : Int) < (l.length : Int) := by omega
        have hlt3' : (k : Int) < 300 := by omega
        have HT := hide (show ∀ W, MuchR l w (.returned (.bool true)) W ↔ w = W from fun W => ⟨fun ⟨b, _, h, _⟩ => h, fun h => ⟨true, rfl, h, fun h => by cases h⟩⟩)
        by_cases h1 : 100000 < a.bs.length
        · have h1' : (100000 : Int) < (a.bs.length : Int) := by omega
          clear ha hbl h1
          go_wp2
          go_ret
          exact (HT.out _).2 rfl
        have h1' : (a.bs.length : Int) ≤ 100000 := by omega
        by_cases h2 : 1000 < a.nm.size
        · have h2' : (1000 : Int) < (a.nm.size : Int) := by omega
          clear ha hbl h1 h2
          go_wp2
          go_ret
          exact (HT.out _).2 rfl
        have h2' : (a.nm.size : Int) ≤ 1000 := by omega
        by_cases h3 : 1000 < a.to.size
        · have h3' : (1000 : Int) < (a.to.size : Int) := by omega
          clear ha hbl h1 h2 h3
          go_wp2
          go_ret
          exact (HT.out _).2 rfl
        have h3' : (a.to.size : Int) ≤ 1000 := by omega
        obtain ⟨z, hz⟩ : ∃ z : Int, z = v + (a.bs.length : Int) := ⟨_, rfl⟩
        have hwr : IntKind.i64.wrap (v + (a.bs.length : Int)) = z := by rw [hz]; exact IntWalk.i64_in _ (by omega)
        have HZ := hide (show 0 ≤ z from by omega)
        have HA2 := hide (show ∀ j a', j < k + 1 → l[j]? = some a' → a'.Sz from fun j a' hj hja => by
          rcases Nat.lt_or_ge j k with h0 | h0
          · exact HA.out j a' h0 hja
          · have : j = k := by omega
            subst this
            rw [ha] at hja
            injection hja with hja
            rw [← hja]
            exact ⟨by omega, by omega, by omega⟩)
        clear ha hbl h1 h2 h3 hz
        by_cases h4 : 200000 < z
        · go_wp2
          go_ret
          exact (HT.out _).2 rfl
        · have h4' : z ≤ 200000 := by omega
          clear h4
          go_wp2
          case roundEnd => exact ⟨⟨k + 1, z, hlt, by omega, by simp, rfl, HZ.out, h4', HA2.out⟩, by simp [intOf]; omega⟩
      · have hkE : k = 300 := by omega
        subst hkE
        have hlt' : (300 : Int) < (l.length : Int) := by omega
        have HF := hide (show MuchR l w (.returned (.bool false)) w from ⟨false, rfl, rfl, fun _ => HA.out⟩)
        clear HA hlt3
        go_wp2
        go_ret
        exact HF.out
    · have hkE : k = l.length := by omega
      subst hkE
      have HF := hide (show MuchR l w (.returned (.bool false)) w from ⟨false, rfl, rfl, fun _ j a _ hja => HA.out j a (List.getElem?_eq_some_iff.1 hja).1 hja⟩)
      clear HA
      go_wp2
      go_ret
      exact HF.out
end Go.Proofs.Ytpakihbejdpmoaa
