/-
  bloom.probes' iterator: what it does, whatever the loop's body keeps.
-/
import Derived.Test.YtnmgbhpmmbhgoaaProbes
import Derived.RangeFuncNested
import Derived.RangeFuncBound
import Derived.RangeFuncCalls
import Derived.RangeFuncLeaves
import Derived.RangeFuncBox
import Derived.Shelf.Abstract
import Derived.Shelf.RegionOpen
import Derived.WalkKit
import Derived.OwnWalkIn
import Derived.TacticsInMore
import Derived.LoopNIn
import Derived.LoopIn
namespace Go.Proofs.Ytnmgbhpmmbhgoaa
open Go.RowKit Go.Shelf
set_option linter.unusedVariables false
attribute [local go_sem] Oper.semAt_some

/-- The three boxes. -/
def Three (s0 s1 s2 : Nat) (v : Value) (a g : Int) (W : World) : Prop := Boxed W s0 23 v ∧ Boxed W s1 45 (.int .u64 a) ∧ Boxed W s2 45 (.int .u64 g)

/-- What a round of the loop leaves. -/
def YieldR (s0 s1 s2 : Nat) (v : Value) (a g a' : Int) (End Jn : World → Prop) (e : Ending) (W' : World) : Prop :=
  ∃ b, e = .returned (.bool b) ∧ (b = false → End W') ∧ (b = true → Three s0 s1 s2 v a g W' ∧ Jn (W'.setCell ⟨s1, 0, none⟩ (.int .u64 a')))
theorem YieldR.stop {s0 s1 s2 : Nat} {v : Value} {a g a' : Int} {End Jn : World → Prop} {W' : World} (h : End W') : YieldR s0 s1 s2 v a g a' End Jn (.returned (.bool false)) W' := ⟨false, rfl, fun _ => h, fun e => by cases e⟩
theorem YieldR.more {s0 s1 s2 : Nat} {v : Value} {a g a' : Int} {End Jn : World → Prop} {W' : World} (h : Three s0 s1 s2 v a g W') (hj : Jn (W'.setCell ⟨s1, 0, none⟩ (.int .u64 a'))) : YieldR s0 s1 s2 v a g a' End Jn (.returned (.bool true)) W' := ⟨true, rfl, fun e => (by cases e), fun _ => ⟨h, hj⟩⟩

/-- The numbers of a probe. -/
theorem probe_nums {L : Nat} (hL : 2 ≤ L) (at_ : Nat) : ∃ (j q r k1 : Nat) (M P : Int), j = at_ % (8 * (L - 1)) ∧ 8 * ((L : Int) - 1) = M ∧ 0 < M ∧ (at_ : Int) % M = (j : Int) ∧ (j : Int) / 8 = (q : Int) ∧ (j : Int) % 8 = (r : Int) ∧ 1 + (q : Int) = (k1 : Int) ∧ k1 < L ∧ (k1 : Int) < (L : Int) ∧ min r 8 = r ∧ (2 : Int) ^ r = P ∧ 1 ≤ P ∧ P ≤ 128 ∧
    k1 = 1 + j / 8 ∧ r = j % 8 ∧ P = ((2 ^ (j % 8) : Nat) : Int) := by
  have hj : at_ % (8 * (L - 1)) < 8 * (L - 1) := Nat.mod_lt _ (by omega)
  have hp : 0 < 2 ^ (at_ % (8 * (L - 1)) % 8) := Nat.pow_pos (by omega)
  have hp2 : 2 ^ (at_ % (8 * (L - 1)) % 8) ≤ 2 ^ 7 := Nat.pow_le_pow_right (by omega) (by omega)
  refine ⟨at_ % (8 * (L - 1)), at_ % (8 * (L - 1)) / 8, at_ % (8 * (L - 1)) % 8, 1 + at_ % (8 * (L - 1)) / 8, ((8 * (L - 1) : Nat) : Int), ((2 ^ (at_ % (8 * (L - 1)) % 8) : Nat) : Int), rfl, by omega, by omega, by rw [Int.natCast_emod], by omega, by omega, by omega, by omega, by omega, by omega, by rw [Int.natCast_pow]; rfl, by omega, by omega, rfl, rfl, rfl⟩

set_option maxRecDepth 100000 in
set_option maxHeartbeats 2000000 in
theorem probes1_in (n lp s0 s1 s2 : Nat) (hn : 1 ≤ n) (ad : Addr) (L c p H G : Nat) (hL : 2 ≤ L) (hLb : L ≤ 1000000000) (hp : (p : Int) ≤ 12) (hH : H < 2147483647) (hG : G ≤ 2147483647) (J : Nat → World → Prop) (End : World → Prop)
    (hJb : ∀ k W, J k W → Three s0 s1 s2 (.slice (some ad) L c) ((H + k * G : Nat) : Int) (G : Int) W)
    (hY : ∀ k W, k < p → J k W → YieldAt Fence.wide (n - 1) Try.prog lp #[.pointer (some (ad.add (1 + (H + k * G) % (8 * (L - 1)) / 8))), .int .u8 ((2 ^ ((H + k * G) % (8 * (L - 1)) % 8) : Nat) : Int)] W (YieldR s0 s1 s2 (.slice (some ad) L c) ((H + k * G : Nat) : Int) (G : Int) ((H + (k + 1) * G : Nat) : Int) End (J (k + 1))))
    (W : World) (hf : W.cell? ad = some (.int .u8 (p : Int))) (h0 : J 0 W) :
    CallsIn Fence.wide n Try.prog 23 #[.func (.yield lp) #[] #[], .pointer (some ⟨s0, 0, none⟩), .pointer (some ⟨s1, 0, none⟩), .pointer (some ⟨s2, 0, none⟩)] W fun e W' => (∃ v, e = .returned v) ∧ (J p W' ∨ End W') := by
  have hb0 := hJb 0 W h0
  obtain ⟨t0, t1, t2⟩ := hb0
  have c0 := t0.cell
  refine callsIn_of_wp Try.func23 rfl trivial ?_ rfl
  simp only [Try.ntmps23, List.size_toArray, List.length_cons, List.length_nil, Nat.reduceAdd, Nat.reduceSub, Array.replicate_succ, Array.replicate_zero, List.push_toArray, List.append_toArray, List.nil_append, List.cons_append]
  have hLp : 0 < L := by omega
  clear t0 t1 t2
  gi_wp2
  gi_loopw [9] (fun i wr => ∃ k : Nat, (k : Int) ≤ (p : Int) ∧ i = .int .u8 (k : Int) ∧ J k wr) (fun i _ => p - (intOf i).toNat)
  case atStart => exact ⟨0, by omega, rfl, h0⟩
  case round =>
    obtain ⟨k, hk, rfl, hJ⟩ := hrel
    obtain ⟨t0, t1, t2⟩ := hJb k wr hJ
    by_cases hlt : (k : Int) < (p : Int)
    · have hkG : k * G ≤ 12 * 2147483647 := Nat.mul_le_mul (by omega) hG
      obtain ⟨j, q, r, k1, M, P, ej, m1, m2, m3, e1, e2, e3, e4, e5, e6, e7, e8, e9, ek, er, eP⟩ := probe_nums hL (H + k * G)
      have hy := hY k wr (by omega) hJ
      rw [← ej, ← ek, ← eP] at hy
      have hnx : H + (k + 1) * G = H + k * G + G := by rw [Nat.add_mul, Nat.one_mul, Nat.add_assoc]
      rw [hnx] at hy
      have ha1 : ((H + k * G : Nat) : Int) ≤ 30000000000 := by omega
      have hMb : M ≤ 8000000000 := by omega
      have hG1 : (G : Int) ≤ 2147483647 := by omega
      generalize H + k * G = a at *
      obtain ⟨fn, tmps, assign, bodyC, hyy, hR⟩ := hy
      have c0 := t0.cell
      have c1 := t1.cell
      have c2 := t2.cell
      have hj8 : (j : Int) < M := by rw [← m3]; exact Int.emod_lt_of_pos _ m2
      have HR := hide hR
      have HNX := hide hnx
      clear hJ t0 t1 t2 ej ek er eP hnx hkG hR
      gi_wp2
      refine HR.out.mono ?_
      rintro e W3 ⟨b, rfl, hbF, hbT⟩
      cases b with
      | false =>
        have HE := hide (hbF rfl)
        clear hbF hbT c0 c1 c2
        gi_wp2
        exact bodyPost_ret (results_none rfl _ _ _) rfl ⟨⟨_, rfl⟩, .inr HE.out⟩
      | true =>
        obtain ⟨⟨u0, u1, u2⟩, hJ2⟩ := hbT rfl
        have HJ2 := hide hJ2
        have d0 := u0.cell
        have d1 := u1.cell
        have d2 := u2.cell
        have f1 := u1.frozen
        have ha2 : ((a + G : Nat) : Int) = (a : Int) + (G : Int) := by omega
        rw [ha2] at HJ2
        clear hbF hbT c0 c1 c2 u0 u1 u2 hJ2 ha2
        gi_wp2
        go_roundw
        case rel => exact ⟨k + 1, by omega, by go_num, HJ2.out⟩
        case measure => simp [intOf]; omega
    · have hkp : k = p := by omega
      subst hkp
      have HJ := hide hJ
      clear hJ t0 t1 t2
      gi_wp2
      exact bodyPost_end (results_none rfl _ _ _) rfl ⟨⟨_, rfl⟩, .inl HJ.out⟩
end Go.Proofs.Ytnmgbhpmmbhgoaa
