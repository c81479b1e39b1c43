/-
  chart's held.
-/
import Derived.Test.YtibanikfalfmcaaChartLaw
namespace Go.Proofs.Ytibanikfalfmcaa
open Go.RowKit
set_option linter.unusedVariables false

def unitsE (l : List Int) : Int := (l.map fun x => x.tdiv 4294967296).sum
def partsE (l : List Int) : Int := (l.map fun x => x.tmod 4294967296).sum
def heldE (l : List Int) : Int := if unitsE l + (partsE l).tdiv 4294967296 < 0 then -4611686018427387904 else 4611686018427387904
theorem heldE_perm {l l' : List Int} (h : l.Perm l') : heldE l = heldE l' := by
  have s : ∀ {a b : List Int}, a.Perm b → a.sum = b.sum := fun h => by
    induction h with
    | nil => rfl
    | cons x _ ih => simp [ih]
    | swap x y l => simp; omega
    | trans _ _ i1 i2 => exact i1.trans i2
  unfold heldE unitsE partsE
  rw [s (h.map _), s (h.map _)]
theorem tdiv_b (x : Int) (h1 : -9223372036854775808 ≤ x) (h2 : x ≤ 9223372036854775807) : -2147483648 ≤ x.tdiv 4294967296 ∧ x.tdiv 4294967296 ≤ 2147483648 := by
  by_cases h : 0 ≤ x
  · rw [Int.tdiv_eq_ediv_of_nonneg h]; omega
  · have : x.tdiv 4294967296 = -((-x) / 4294967296) := by
      rw [← Int.tdiv_eq_ediv_of_nonneg (by omega : 0 ≤ -x), Int.neg_tdiv, Int.neg_neg]
    rw [this]; omega
theorem tmod_b (x : Int) : -4294967296 < x.tmod 4294967296 ∧ x.tmod 4294967296 < 4294967296 := by
  by_cases h : 0 ≤ x
  · rw [Int.tmod_eq_emod_of_nonneg h]; omega
  · have : x.tmod 4294967296 = -((-x) % 4294967296) := by
      rw [← Int.tmod_eq_emod_of_nonneg (by omega : 0 ≤ -x), Int.neg_tmod, Int.neg_neg]
    rw [this]; omega

set_option maxRecDepth 100000 in
set_option maxHeartbeats 2000000 in
theorem held_any (A : Option Addr) (B n c : Nat) (l : List Int) (w : World) (hn : l.length = n) (hr : Row w B A (l.map i64v)) (hl : n ≤ 1000000) (hw : ∀ x ∈ l, -9223372036854775808 ≤ x ∧ x ≤ 9223372036854775807) : Calls Try.prog 57 #[.slice A n c] w fun e w' => e = .returned (.int .i64 (heldE l)) ∧ w = w' := by
  subst hn
  obtain ⟨r, HR⟩ : ∃ r, Hid (r = heldE l) := ⟨_, rfl⟩
  rw [← HR.out]
  have HRW := hide hr
  have HW := hide hw
  clear hr hw
  go_enter Try.func57, Try.ntmps57
  go_wp2
  go_loop [9, 3, 4] (fun i u p => ∃ (k : Nat) (U Pt : Int), k ≤ l.length ∧ i = .int .i64 (k : Int) ∧ u = .int .i64 U ∧ p = .int .i64 Pt ∧ -(2147483648 * (k : Int)) ≤ U ∧ U ≤ 2147483648 * (k : Int) ∧ -(4294967296 * (k : Int)) ≤ Pt ∧ Pt ≤ 4294967296 * (k : Int) ∧ Hid (U = unitsE (l.take k)) ∧ Hid (Pt = partsE (l.take k))) (fun i _ _ => l.length - (intOf i).toNat)
  case atStart => exact ⟨0, 0, 0, Nat.zero_le _, rfl, rfl, rfl, by omega, by omega, by omega, by omega, rfl, rfl⟩
  case round =>
    obtain ⟨k, U, Pt, hk, rfl, rfl, rfl, hU0, hU1, hP0, hP1, HU, HP⟩ := hrel
    by_cases hlt : k < l.length
    · obtain ⟨ad, u, rfl, _, hu, hc⟩ := HRW.out.at_ (k := k) (by simpa using hlt)
      obtain ⟨x, rfl, hxk⟩ : ∃ x, u = .int .i64 x ∧ Hid (l[k]? = some x) := by
        have h1 := hu.out
        rw [List.getElem?_map, List.getElem?_eq_getElem hlt] at h1
        simp only [Option.map_some, Option.some.injEq] at h1
        exact ⟨l[k], h1.symm, List.getElem?_eq_getElem hlt⟩
      obtain ⟨x0, x1⟩ := HW.out x (List.mem_of_getElem? hxk.out)
      obtain ⟨d0, d1⟩ := tdiv_b x x0 x1
      obtain ⟨m0, m1⟩ := tmod_b x
      have hu2 : Hid (U + x.tdiv 4294967296 = unitsE (l.take (k + 1))) := by
        show _ = _
        rw [HU.out, take_next hxk.out]
        unfold unitsE
        simp [List.sum_append]
      have hp2 : Hid (Pt + x.tmod 4294967296 = partsE (l.take (k + 1))) := by
        show _ = _
        rw [HP.out, take_next hxk.out]
        unfold partsE
        simp [List.sum_append]
      have hw1 : IntKind.i64.wrap (x.tdiv 4294967296) = x.tdiv 4294967296 := IntWalk.i64_in _ (by omega)
      have hw2 : IntKind.i64.wrap (U + x.tdiv 4294967296) = U + x.tdiv 4294967296 := IntWalk.i64_in _ (by omega)
      have hw3 : IntKind.i64.wrap (Pt + x.tmod 4294967296) = Pt + x.tmod 4294967296 := IntWalk.i64_in _ (by omega)
      clear hu
      go_wp2
      go_round
      case rel => exact ⟨k + 1, U + x.tdiv 4294967296, Pt + x.tmod 4294967296, by omega, by go_num, rfl, rfl, by omega, by omega, by omega, by omega, hu2, hp2⟩
      case measure => simp [intOf]; omega
    · have hk' : k = l.length := by omega
      subst hk'
      have e1 := HU.out
      have e2 := HP.out
      rw [List.take_of_length_le (Nat.le_refl _)] at e1 e2
      have hr2 : r = if U + Pt.tdiv 4294967296 < 0 then -4611686018427387904 else 4611686018427387904 := by rw [HR.out, e1, e2]; rfl
      have HR2 := hide hr2
      obtain ⟨d0, d1⟩ := tdiv_b Pt (by omega) (by omega)
      have hw1 : IntKind.i64.wrap (Pt.tdiv 4294967296) = Pt.tdiv 4294967296 := IntWalk.i64_in _ (by omega)
      have hw2 : IntKind.i64.wrap (U + Pt.tdiv 4294967296) = U + Pt.tdiv 4294967296 := IntWalk.i64_in _ (by omega)
      clear hr2 e1 e2 HU HP
      by_cases hneg : U + Pt.tdiv 4294967296 < 0
      · have hE : r = -4611686018427387904 := by rw [HR2.out, if_pos hneg]
        have HE := hide hE
        clear hE
        go_wp2
        go_ret
        exact ⟨by rw [HE.out]; rfl, rfl⟩
      · have hE : r = 4611686018427387904 := by rw [HR2.out, if_neg hneg]
        have HE := hide hE
        clear hE
        go_wp2
        go_ret
        exact ⟨by rw [HE.out]; rfl, rfl⟩
end Go.Proofs.Ytibanikfalfmcaa
