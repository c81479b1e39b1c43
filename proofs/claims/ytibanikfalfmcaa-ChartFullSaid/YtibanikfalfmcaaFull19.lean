/-
  ChartFull.
-/
import Derived.Test.YtibanikfalfmcaaAwake19
namespace Go.Proofs.Ytibanikfalfmcaa
open Go.RowKit Go.Maps
set_option linter.unusedVariables false

theorem wf_of {n : Int} (h1 : -9223372036854775808 ≤ n) (h2 : n ≤ 9223372036854775807) : (Lit.int .i64 n).wf = true := by
  simp [Lit.wf, IntKind.min, IntKind.max, IntKind.signed, IntKind.bits]
  omega
theorem aFind_none {l : Acs} {n : Int} (h : ∀ x ∈ l, x.1 < n) : aFind l n = none := by
  unfold aFind
  rw [Option.map_eq_none_iff, List.find?_eq_none]
  intro x hx
  have := h x hx
  simp
  omega
theorem aPut_new {l : Acs} {n : Int} (h : ∀ x ∈ l, x.1 < n) (x : Int × Int) : (aPut l n x).length = l.length + 1 ∧ (∀ y ∈ aPut l n x, y.1 < n + 1) ∧ (aFind (aPut l n x) n).isSome = true := by
  refine ⟨?_, ?_, ?_⟩
  · unfold aPut
    rw [aIns_len]
    congr 1
    unfold aDel
    rw [List.filter_eq_self.2]
    intro y hy
    have := h y hy
    simp
    omega
  · intro y hy
    unfold aPut at hy
    rcases mem_aIns.1 hy with rfl | hy
    · dsimp only; omega
    · have := h y (List.mem_filter.1 hy).1
      omega
  · rw [find_aPut, if_pos rfl]
    rfl
/-- The state of ChartFull ahead of account i. -/
def FlRel (q b : Nat) (many : Int) (w w1 : World) (i : Value) (wr : World) : Prop :=
  ∃ (k : Int) (l : Acs), 1 ≤ k ∧ k ≤ many + 1 ∧ i = .int .i64 k ∧ (l.length : Int) = min (k - 1) 1000 ∧ (∀ x ∈ l, x.1 < k) ∧ Ch q b l wr ∧ Kept (fun k => k = b) w1 wr
/-- What the two openings of an account leave. -/
theorem full_step {l : Acs} {k kind : Int} (h1 : 1 ≤ k) (h2 : k ≤ 1100) (hk : 1 ≤ kind ∧ kind ≤ 4) (hl : (l.length : Int) = min (k - 1) 1000) (hx : ∀ x ∈ l, x.1 < k) :
    openE l k kind = (if k ≤ 1000 then 0 else 2) ∧ openE (openL l k kind) k 1 = (if k ≤ 1000 then 5 else 2) ∧ openL (openL l k kind) k 1 = openL l k kind ∧ ((openL l k kind).length : Int) = min k 1000 ∧ (∀ x ∈ openL l k kind, x.1 < k + 1) := by
  have hn := aFind_none hx
  have hno : ¬ (k < 1 ∨ 99999 < k ∨ kind < 1 ∨ 4 < kind) := by omega
  have hno1 : ¬ (k < 1 ∨ 99999 < k ∨ (1 : Int) < 1 ∨ 4 < (1 : Int)) := by omega
  by_cases h : k ≤ 1000
  · have hE : openE l k kind = 0 := by
      unfold openE
      rw [if_neg hno, hn, if_neg (by simp), if_neg (by omega)]
    have hL : openL l k kind = aPut l k (kind, 0) := by unfold openL; rw [if_pos hE]
    obtain ⟨p1, p2, p3⟩ := aPut_new hx (kind, 0)
    have hE2 : openE (aPut l k (kind, 0)) k 1 = 5 := by
      unfold openE
      rw [if_neg hno1, if_pos p3]
    refine ⟨by rw [hE, if_pos h], by rw [hL, hE2, if_pos h], ?_, ?_, by rw [hL]; exact p2⟩
    · rw [hL]
      unfold openL
      rw [if_neg (by rw [hE2]; decide)]
    · rw [hL, p1]; omega
  · have hE : openE l k kind = 2 := by
      unfold openE
      rw [if_neg hno, hn, if_neg (by simp), if_pos (by omega)]
    have hL : openL l k kind = l := by unfold openL; rw [if_neg (by rw [hE]; decide)]
    have hE2 : openE l k 1 = 2 := by
      unfold openE
      rw [if_neg hno1, hn, if_neg (by simp), if_pos (by omega)]
    refine ⟨by rw [hE, if_neg h], by rw [hL, hE2, if_neg h], ?_, ?_, fun x hm => ?_⟩
    · rw [hL]
      unfold openL
      rw [if_neg (by rw [hE2]; decide)]
    · rw [hL]; omega
    · rw [hL] at hm
      have := hx x hm
      omega

set_option maxRecDepth 100000 in
set_option maxHeartbeats 4000000 in
theorem chartFull_any (many : Int) (w : World) : Calls Try.prog 6 #[.int .i64 many] w fun e w' => e = .returned (.bool true) ∧ Below w.heap.size w w' := by
  go_enter Try.func6, Try.ntmps6
  go_wp2_with (go_at_call 9; refine halted ?_)
  refine go_on ?_
  refine (awake_any w).mono ?_
  rintro e w0 ⟨rfl, hb0⟩
  have HB0 := hide hb0
  clear hb0
  go_wp2_with (go_at_call 10; refine halted ?_)
  refine go_on ?_
  refine (newC_any w0).mono ?_
  rintro e w1 ⟨q, b, rfl, hc, hb1, hq, hb⟩
  have HC := hide hc
  have HB1 := hide (HB0.out.trans (hb1.mono HB0.out.size))
  have HQ := hide (And.intro hq hb)
  have HZ := hide HB0.out.size
  clear hc hb1 hq hb
  by_cases h1 : many < 0
  · go_wp2
    go_ret
    exact ⟨rfl, HB1.out⟩
  by_cases h2 : 1100 < many
  · go_wp2
    go_ret
    exact ⟨rfl, HB1.out⟩
  go_wp2
  go_loopw [5] (fun i wr => FlRel q b many w w1 i wr) (fun i _ => (many + 1 - intOf i).toNat)
  case atStart => exact ⟨1, [], by omega, by omega, rfl, by decide, fun x hx => (by cases hx), HC.out, Kept.refl _⟩
  case round =>
    obtain ⟨k, l, hk1, hk2, rfl, hl, hx, hch, hkp⟩ := hrel
    by_cases hlt : k ≤ many
    · have hst := fun kind hk => full_step (kind := kind) hk1 (by omega) hk hl hx
      have HST := hide hst
      have HCH := hide hch
      have HKP := hide hkp
      have hll : l.length ≤ 1000 := by omega
      clear hst hch hkp hx
      go_wp2_with (go_at_call 12; refine halted ?_)
      refine go_on ?_
      have hkd : 1 ≤ 1 + k % 4 ∧ 1 + k % 4 ≤ 4 := by omega
      have hS := HST.out _ hkd
      have HS := hide hS
      obtain ⟨kd, hkd2⟩ : ∃ kd, kd = 1 + k % 4 := ⟨_, rfl⟩
      rw [← hkd2] at HS ⊢
      clear hS hkd hkd2 HST
      refine (open_any q b l wr HCH.out k kd (wf_of (by omega) (by omega)) (by omega)).mono ?_
      rintro e w2 ⟨rfl, hc2, hk2⟩
      have HC2 := hide hc2
      have HK2 := hide (HKP.out.trans hk2)
      clear hc2 hk2
      have hl2 : (openL l k kd).length ≤ 1000 := by have := HS.out.2.2.2.1; omega
      obtain ⟨E1, hE1⟩ : ∃ E1, E1 = openE l k kd := ⟨_, rfl⟩
      rw [← hE1] at HS ⊢
      clear hE1
      go_wp2_with (go_at_call 12; refine halted ?_)
      refine go_on ?_
      refine (open_any q b _ w2 HC2.out k 1 (wf_of (by omega) (by omega)) (by omega)).mono ?_
      rintro e w3 ⟨rfl, hc3, hk3⟩
      rw [HS.out.2.2.1] at hc3
      have hrel2 : FlRel q b many w w1 (.int .i64 (k + 1)) w3 := ⟨k + 1, _, by omega, by omega, rfl, by have := HS.out.2.2.2.1; omega, HS.out.2.2.2.2, hc3, HK2.out.trans hk3⟩
      have HR2 := hide hrel2
      obtain ⟨E2, hE2⟩ : ∃ E2, E2 = openE (openL l k kd) k 1 := ⟨_, rfl⟩
      rw [← hE2] at HS ⊢
      have e1 := HS.out.1
      have e2 := HS.out.2.1
      clear hc3 hk3 hrel2 hE2 hl2 hl hll HC2 HCH HKP HK2
      by_cases h3 : k ≤ 1000
      · rw [if_pos h3] at e1 e2
        subst e1 e2
        clear HS
        go_wp2
        case roundEnd => exact ⟨HR2.out, by simp [intOf]; omega⟩
      · rw [if_neg h3] at e1 e2
        subst e1 e2
        clear HS
        go_wp2
        case roundEnd => exact ⟨HR2.out, by simp [intOf]; omega⟩
    · have hk' : k = many + 1 := by omega
      subst hk'
      have HA := hide (accounts_any q b l wr hch (by omega))
      have hbw := HB1.out.trans (hkp.below (B := w.heap.size) (fun j hj => by have h1 := HQ.out.2; have h2 := HZ.out; omega) HB1.out.size)
      have HBW := hide hbw
      have hl' : (l.length : Int) = min many 1000 := by omega
      clear hch hkp hbw hx hl
      go_wp2_with (go_at_call 14; refine halted ?_)
      refine go_on ?_
      refine HA.out.mono ?_
      rintro e w3 ⟨A, c, rfl, _, hb3⟩
      have HB3 := hide (HBW.out.trans (hb3.mono HBW.out.size))
      clear HA hb3
      go_wp2
      go_ret
      exact ⟨rfl, HB3.out⟩
end Go.Proofs.Ytibanikfalfmcaa
