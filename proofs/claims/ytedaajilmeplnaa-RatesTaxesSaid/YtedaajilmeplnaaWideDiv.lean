/-
  The reference's wide numbers: one divided by 10000.
-/
import Derived.Test.YtedaajilmeplnaaWideMul
namespace Go.Proofs.Ytedaajilmeplnaa
open Go.RowKit
set_option linter.unusedVariables false

theorem bit_of (X j k : Nat) (hk : k < 32) : X / 2 ^ (32 * j) % 2 ^ 32 / 2 ^ k % 2 = X / 2 ^ (32 * j + k) % 2 := by
  rw [Nat.pow_add, ← Nat.div_div_eq_div_mul]
  generalize X / 2 ^ (32 * j) = y
  have e : 2 ^ 32 = 2 ^ k * 2 ^ (32 - k) := by rw [← Nat.pow_add]; congr 1; omega
  rw [e, Nat.mod_mul_right_div_self]
  exact Nat.mod_mod_of_dvd _ ⟨2 ^ (31 - k), by rw [← Nat.pow_succ']; congr 1; omega⟩
theorem room_of (c j k : Nat) (hk : k < 32) : c * 2 ^ (32 * j + k + 1) / 2 ^ (32 * j) % 2 ^ 32 + 2 ^ k < 2 ^ 32 := by
  have e1 : c * 2 ^ (32 * j + k + 1) / 2 ^ (32 * j) = c * 2 ^ (k + 1) := by
    rw [show 32 * j + k + 1 = (k + 1) + 32 * j by omega, Nat.pow_add, ← Nat.mul_assoc]
    exact Nat.mul_div_cancel _ (Nat.pow_pos (by omega))
  have e : 2 ^ 32 = 2 ^ (31 - k) * 2 ^ (k + 1) := by rw [← Nat.pow_add]; congr 1; omega
  have h1 : c % 2 ^ (31 - k) < 2 ^ (31 - k) := Nat.mod_lt _ (Nat.pow_pos (by omega))
  have h2 : (c % 2 ^ (31 - k) + 1) * 2 ^ (k + 1) ≤ 2 ^ (31 - k) * 2 ^ (k + 1) := Nat.mul_le_mul_right _ h1
  have h3 : 0 < 2 ^ k := Nat.pow_pos (by omega)
  rw [e1]
  conv => lhs; rw [e]
  rw [Nat.mul_mod_mul_right]
  rw [← e, Nat.add_mul, Nat.one_mul] at h2
  have h4 : 2 ^ (k + 1) = 2 * 2 ^ k := by rw [Nat.pow_succ]; omega
  omega

/-- What holds when the bits from m on are done. -/
def DivSt (X m Q : Nat) (r : Int) : Prop := r = ((X / 2 ^ m % 10000 : Nat) : Int) ∧ Q = X / 2 ^ m / 10000 * 2 ^ m
theorem div_step {X m Q : Nat} {r : Int} (h : DivSt X (m + 1) Q r) {b : Int} (hb : b = ((X / 2 ^ m % 2 : Nat) : Int)) : (2 * r + b < 10000 → DivSt X m Q (2 * r + b)) ∧ (10000 ≤ 2 * r + b → DivSt X m (Q + 2 ^ m) (2 * r + b - 10000)) := by
  obtain ⟨h1, h2⟩ := h
  rw [Nat.pow_succ, ← Nat.div_div_eq_div_mul] at h1 h2
  unfold DivSt
  generalize X / 2 ^ m = t at *
  generalize 2 ^ m = P at *
  have e : t = 10000 * (2 * (t / 2 / 10000)) + (2 * (t / 2 % 10000) + t % 2) := by omega
  refine ⟨fun h => ⟨by omega, ?_⟩, fun h => ⟨by omega, ?_⟩⟩
  · have : t / 10000 = 2 * (t / 2 / 10000) := by omega
    rw [this, h2, Nat.mul_comm P 2, ← Nat.mul_assoc, Nat.mul_comm (t / 2 / 10000) 2]
  · have : t / 10000 = 2 * (t / 2 / 10000) + 1 := by omega
    rw [this, h2, Nat.mul_comm P 2, ← Nat.mul_assoc, Nat.mul_comm (t / 2 / 10000) 2, Nat.add_mul, Nat.one_mul]

/-- What the walk of a round wants of its digit. -/
structure Digit (X Q : Nat) (j : Nat) (mi : Int) (xj dj : Int) (P Qt : Int) (k : Nat) : Prop where
  p0 : 1 ≤ P
  p1 : P ≤ 2147483648
  kl : k < 32
  dv : mi / 32 = (j : Int)
  md : mi % 32 = (k : Int)
  pw : (2 : Int) ^ k = P
  qt : xj / P = Qt
  q0 : 0 ≤ Qt
  mn : min k 64 = k
theorem cast_dig (X e : Nat) : ((X / 2 ^ e % 2 ^ 32 : Nat) : Int) = (X : Int) / ((2 ^ e : Nat) : Int) % 4294967296 := by
  rw [Int.natCast_emod, Int.natCast_ediv]; rfl
theorem digit_get {X m : Nat} {j : Nat} {xj : Int} (hj : m / 32 = j) (hx : xj = ((X / 2 ^ (32 * j) % 2 ^ 32 : Nat) : Int)) : ∃ (P Qt : Int) (k : Nat), Digit X 0 j (m : Int) xj 0 P Qt k ∧ Qt % 2 = ((X / 2 ^ m % 2 : Nat) : Int) ∧ P = ((2 ^ k : Nat) : Int) ∧ m = 32 * j + k := by
  have hk : m % 32 < 32 := Nat.mod_lt _ (by omega)
  have hp : 0 < 2 ^ (m % 32) := Nat.pow_pos (by omega)
  have hp2 : 2 ^ (m % 32) ≤ 2 ^ 31 := Nat.pow_le_pow_right (by omega) (by omega)
  refine ⟨((2 ^ (m % 32) : Nat) : Int), ((X / 2 ^ (32 * j) % 2 ^ 32 / 2 ^ (m % 32) : Nat) : Int), m % 32, ⟨by omega, by omega, hk, by omega, by omega, by rw [Int.natCast_pow]; rfl, ?_, Int.natCast_nonneg _, by omega⟩, ?_, rfl, by omega⟩
  · rw [hx, ← Int.natCast_ediv]
  · have h := bit_of X j (m % 32) hk
    rw [show 32 * j + m % 32 = m by omega] at h
    rw [← h]
    omega

def DivRel (X : Nat) (q2 : Nat) (W : World) (rv i : Value) (wr : World) : Prop :=
  ∃ (m Q : Nat) (mi r d0 d1 d2 d3 : Int), m ≤ 128 ∧ i = .int .i64 mi ∧ rv = .int .u64 r ∧ Hid (mi = (m : Int) - 1) ∧ -1 ≤ mi ∧ mi ≤ 127 ∧ 0 ≤ r ∧ r < 10000 ∧ Hid (DivSt X m Q r) ∧ Hid (Dg (Q : Int) d0 d1 d2 d3) ∧ (0 ≤ d0 ∧ d0 < 4294967296) ∧ (0 ≤ d1 ∧ d1 < 4294967296) ∧ (0 ≤ d2 ∧ d2 < 4294967296) ∧ (0 ≤ d3 ∧ d3 < 4294967296) ∧
    wr.heap[q2]? = some (.cells #[.int .u64 d0, .int .u64 d1, .int .u64 d2, .int .u64 d3] 47 (0, 0)) ∧ Below q2 W wr

/-- A digit of a wide number in Nat's words. -/
theorem dg_nat (X : Nat) : dg0 (X : Int) = ((X / 2 ^ (32 * 0) % 2 ^ 32 : Nat) : Int) ∧ dg1 (X : Int) = ((X / 2 ^ (32 * 1) % 2 ^ 32 : Nat) : Int) ∧ dg2 (X : Int) = ((X / 2 ^ (32 * 2) % 2 ^ 32 : Nat) : Int) ∧ dg3 (X : Int) = ((X / 2 ^ (32 * 3) % 2 ^ 32 : Nat) : Int) := by
  unfold dg0 dg1 dg2 dg3
  refine ⟨?_, ?_, ?_, ?_⟩ <;> omega
theorem room0 {X m Q k : Nat} {r P d0 d1 d2 d3 : Int} (h : DivSt X (m + 1) Q r) (hm : m = 32 * 0 + k) (hk : k < 32) (hP : P = ((2 ^ k : Nat) : Int)) (hD : Dg (Q : Int) d0 d1 d2 d3) (h0 : In d0) (h1 : In d1) (h2 : In d2) (h3 : In d3) : d0 + P < 4294967296 ∧ Dg ((Q + 2 ^ m : Nat) : Int) (d0 + P) d1 d2 d3 := by
  obtain ⟨g0, g1, g2, g3⟩ := dg_of hD h0 h1 h2 h3
  obtain ⟨n0, n1, n2, n3⟩ := dg_nat Q
  have hr := room_of (X / 2 ^ (m + 1) / 10000) 0 k hk
  rw [show 32 * 0 + k + 1 = m + 1 by omega, ← h.2] at hr
  have e : (2 : Nat) ^ m = 2 ^ k * 1 := by rw [hm, Nat.add_comm, Nat.pow_add]
  constructor
  · rw [← g0, n0, hP]; omega
  · unfold Dg at *
    rw [e, hP]
    omega
theorem room1 {X m Q k : Nat} {r P d0 d1 d2 d3 : Int} (h : DivSt X (m + 1) Q r) (hm : m = 32 * 1 + k) (hk : k < 32) (hP : P = ((2 ^ k : Nat) : Int)) (hD : Dg (Q : Int) d0 d1 d2 d3) (h0 : In d0) (h1 : In d1) (h2 : In d2) (h3 : In d3) : d1 + P < 4294967296 ∧ Dg ((Q + 2 ^ m : Nat) : Int) d0 (d1 + P) d2 d3 := by
  obtain ⟨g0, g1, g2, g3⟩ := dg_of hD h0 h1 h2 h3
  obtain ⟨n0, n1, n2, n3⟩ := dg_nat Q
  have hr := room_of (X / 2 ^ (m + 1) / 10000) 1 k hk
  rw [show 32 * 1 + k + 1 = m + 1 by omega, ← h.2] at hr
  have e : (2 : Nat) ^ m = 2 ^ k * 4294967296 := by rw [hm, Nat.add_comm, Nat.pow_add]
  constructor
  · rw [← g1, n1, hP]; omega
  · unfold Dg at *
    rw [e, hP]
    omega
theorem room2 {X m Q k : Nat} {r P d0 d1 d2 d3 : Int} (h : DivSt X (m + 1) Q r) (hm : m = 32 * 2 + k) (hk : k < 32) (hP : P = ((2 ^ k : Nat) : Int)) (hD : Dg (Q : Int) d0 d1 d2 d3) (h0 : In d0) (h1 : In d1) (h2 : In d2) (h3 : In d3) : d2 + P < 4294967296 ∧ Dg ((Q + 2 ^ m : Nat) : Int) d0 d1 (d2 + P) d3 := by
  obtain ⟨g0, g1, g2, g3⟩ := dg_of hD h0 h1 h2 h3
  obtain ⟨n0, n1, n2, n3⟩ := dg_nat Q
  have hr := room_of (X / 2 ^ (m + 1) / 10000) 2 k hk
  rw [show 32 * 2 + k + 1 = m + 1 by omega, ← h.2] at hr
  have e : (2 : Nat) ^ m = 2 ^ k * 18446744073709551616 := by rw [hm, Nat.add_comm, Nat.pow_add]
  constructor
  · rw [← g2, n2, hP]; omega
  · unfold Dg at *
    rw [e, hP]
    omega
theorem room3 {X m Q k : Nat} {r P d0 d1 d2 d3 : Int} (h : DivSt X (m + 1) Q r) (hm : m = 32 * 3 + k) (hk : k < 32) (hP : P = ((2 ^ k : Nat) : Int)) (hD : Dg (Q : Int) d0 d1 d2 d3) (h0 : In d0) (h1 : In d1) (h2 : In d2) (h3 : In d3) : d3 + P < 4294967296 ∧ Dg ((Q + 2 ^ m : Nat) : Int) d0 d1 d2 (d3 + P) := by
  obtain ⟨g0, g1, g2, g3⟩ := dg_of hD h0 h1 h2 h3
  obtain ⟨n0, n1, n2, n3⟩ := dg_nat Q
  have hr := room_of (X / 2 ^ (m + 1) / 10000) 3 k hk
  rw [show 32 * 3 + k + 1 = m + 1 by omega, ← h.2] at hr
  have e : (2 : Nat) ^ m = 2 ^ k * 79228162514264337593543950336 := by rw [hm, Nat.add_comm, Nat.pow_add]
  constructor
  · rw [← g3, n3, hP]; omega
  · unfold Dg at *
    rw [e, hP]
    omega

set_option maxRecDepth 100000 in
set_option maxHeartbeats 8000000 in
theorem div_any (X : Nat) (hX : (X : Int) < 340282366920938463463374607431768211456) (w : World) :
    Calls Try.prog 27 #[wideV false (X : Int), .int .i64 10000] w fun e w' => e = .returned (.tuple #[wideV false ((X / 10000 : Nat) : Int), .int .i64 ((X % 10000 : Nat) : Int)]) ∧ Below w.heap.size w w' := by
  have hnat := dg_nat X
  have hfin : ∀ Q r d0 d1 d2 d3, DivSt X 0 Q r → Dg (Q : Int) d0 d1 d2 d3 → In d0 → In d1 → In d2 → In d3 → Value.agg #[.bool false, .int .u64 d0, .int .u64 d1, .int .u64 d2, .int .u64 d3] = wideV false ((X / 10000 : Nat) : Int) ∧ r = ((X % 10000 : Nat) : Int) := by
    intro Q r d0 d1 d2 d3 h hD h0 h1 h2 h3
    obtain ⟨g0, g1, g2, g3⟩ := dg_of hD h0 h1 h2 h3
    obtain ⟨k1, k2⟩ := h
    rw [Nat.pow_zero, Nat.div_one] at k1 k2
    rw [Nat.mul_one] at k2
    subst k2
    unfold wideV
    rw [g0, g1, g2, g3]
    exact ⟨rfl, k1⟩
  have hst : DivSt X 128 0 0 := by
    have : X / 2 ^ 128 = 0 := Nat.div_eq_of_lt (by omega)
    unfold DivSt
    rw [this]
    simp
  have HFIN := hide hfin
  have HST := hide hst
  clear hfin hst
  generalize wideV false ((X / 10000 : Nat) : Int) = R at *
  generalize ((X % 10000 : Nat) : Int) = R2 at *
  unfold wideV
  generalize dg0 (X : Int) = x0 at *
  generalize dg1 (X : Int) = x1 at *
  generalize dg2 (X : Int) = x2 at *
  generalize dg3 (X : Int) = x3 at *
  have HN := hide hnat
  clear hnat hX
  go_enter Try.func27, Try.ntmps27
  go_wp2
  obtain ⟨g0, g1, g2⟩ := blocks3 w (.cells #[.bool false, .int .u64 x0, .int .u64 x1, .int .u64 x2, .int .u64 x3] 49) (.cells #[.bool false, .int .u64 0, .int .u64 0, .int .u64 0, .int .u64 0] 49) (.cells #[.int .u64 0, .int .u64 0, .int .u64 0, .int .u64 0] 47)
  have hbA : Below w.heap.size w (((w.alloc (.cells #[.bool false, .int .u64 x0, .int .u64 x1, .int .u64 x2, .int .u64 x3] 49)).alloc (.cells #[.bool false, .int .u64 0, .int .u64 0, .int .u64 0, .int .u64 0] 49)).alloc (.cells #[.int .u64 0, .int .u64 0, .int .u64 0, .int .u64 0] 47)) :=
    (((Below.refl _ w).alloc (Nat.le_refl _) _).alloc (by simp) _).alloc (by simp; omega) _
  generalize (((w.alloc (.cells #[.bool false, .int .u64 x0, .int .u64 x1, .int .u64 x2, .int .u64 x3] 49)).alloc (.cells #[.bool false, .int .u64 0, .int .u64 0, .int .u64 0, .int .u64 0] 49)).alloc (.cells #[.int .u64 0, .int .u64 0, .int .u64 0, .int .u64 0] 47)) = W at *
  have G0 := hide g0
  have G1 := hide g1
  have G2 := hide g2
  clear g0 g1 g2
  go_loopw [7, 8] (fun r i wr => DivRel X (w.heap.size + 1 + 1) W r i wr) (fun _ i _ => (intOf i + 1).toNat)
  case atStart => exact ⟨128, 0, 127, 0, 0, 0, 0, 0, by omega, rfl, rfl, rfl, by omega, by omega, by omega, by omega, HST.out, by show Dg _ _ _ _ _; unfold Dg; omega, ⟨by omega, by omega⟩, ⟨by omega, by omega⟩, ⟨by omega, by omega⟩, ⟨by omega, by omega⟩, G2.out, Below.refl _ _⟩
  case round =>
    obtain ⟨m, Q, mi, r, d0, d1, d2, d3, hm, rfl, rfl, HMI, hi0, hi1, hr0, hr1, HS, HD, ⟨p0, p1⟩, ⟨p2, p3⟩, ⟨p4, p5⟩, ⟨p6, p7⟩, hbx, hb⟩ := hrel
    have f0 := Joins.unfrozen_of_block hbx 0
    have f1 := Joins.unfrozen_of_block hbx 1
    have f2 := Joins.unfrozen_of_block hbx 2
    have f3 := Joins.unfrozen_of_block hbx 3
    have c0 : wr.cell? ⟨w.heap.size + 1 + 1, 0, none⟩ = some (.int .u64 d0) := Joins.cell_of_block hbx 0
    have c1 : wr.cell? ⟨w.heap.size + 1 + 1, 1, none⟩ = some (.int .u64 d1) := Joins.cell_of_block hbx 1
    have c2 : wr.cell? ⟨w.heap.size + 1 + 1, 2, none⟩ = some (.int .u64 d2) := Joins.cell_of_block hbx 2
    have c3 : wr.cell? ⟨w.heap.size + 1 + 1, 3, none⟩ = some (.int .u64 d3) := Joins.cell_of_block hbx 3
    have gb := (hb.block w.heap.size (by omega)).trans G0.out
    have y0 : wr.cell? ⟨w.heap.size, 0, none⟩ = some (.bool false) := Joins.cell_of_block gb 0
    have y1 : wr.cell? ⟨w.heap.size, 1, none⟩ = some (.int .u64 x0) := Joins.cell_of_block gb 1
    have y2 : wr.cell? ⟨w.heap.size, 2, none⟩ = some (.int .u64 x1) := Joins.cell_of_block gb 2
    have y3 : wr.cell? ⟨w.heap.size, 3, none⟩ = some (.int .u64 x2) := Joins.cell_of_block gb 3
    have y4 : wr.cell? ⟨w.heap.size, 4, none⟩ = some (.int .u64 x3) := Joins.cell_of_block gb 4
    have HBX := hide hbx
    have HB := hide hb
    clear hbx hb gb
    by_cases hge : 0 ≤ mi
    · obtain ⟨m', rfl⟩ : ∃ m', m = m' + 1 := ⟨m - 1, by have := HMI.out; omega⟩
      have hmm : mi = (m' : Int) := by have := HMI.out; omega
      have hm4 : m' / 32 = 0 ∨ m' / 32 = 1 ∨ m' / 32 = 2 ∨ m' / 32 = 3 := by omega
      have HMM := hide hmm
      have hm127 : m' ≤ 127 := by omega
      clear hmm hm HMI
      rcases hm4 with hj | hj | hj | hj
      · obtain ⟨P, Qt, k, hdg, hbit, hP, hmk⟩ := digit_get (X := X) (m := m') (j := 0) (xj := x0) hj HN.out.1
        have hst := div_step (b := Qt % 2) HS.out hbit
        obtain ⟨hroom, hDn⟩ := room0 HS.out hmk hdg.kl hP HD.out ⟨p0, p1⟩ ⟨p2, p3⟩ ⟨p4, p5⟩ ⟨p6, p7⟩
        rw [← HMM.out] at hdg
        obtain ⟨k0, k1, k2, k3, k4, k5, k6, k7, k8⟩ := hdg
        have k3' : mi / 32 = 0 := k3
        have HST2 := hide hst
        have HDN := hide hDn
        clear hst hDn hbit hP hmk hj k3
        by_cases hlt : 2 * r + Qt % 2 < 10000
        · go_wp2
          go_roundw
          case rel => exact ⟨m', Q, mi - 1, 2 * r + Qt % 2, d0, d1, d2, d3, by omega, rfl, rfl, by show _ = _; rw [HMM.out], by omega, by omega, by omega, by omega, HST2.out.1 hlt, HD.out, ⟨p0, p1⟩, ⟨p2, p3⟩, ⟨p4, p5⟩, ⟨p6, p7⟩, HBX.out, HB.out⟩
          case measure => simp [intOf]; omega
        · go_wp2
          go_roundw
          case rel => exact ⟨m', Q + 2 ^ m', mi - 1, 2 * r + Qt % 2 - 10000, (d0 + P), d1, d2, d3, by omega, rfl, rfl, by show _ = _; rw [HMM.out], by omega, by omega, by omega, by omega, HST2.out.2 (by omega), HDN.out, ⟨by omega, by omega⟩, ⟨p2, p3⟩, ⟨p4, p5⟩, ⟨p6, p7⟩, (Joins.block_setCell (i := 0) HBX.out _), HB.out.setCell (p := ⟨w.heap.size + 1 + 1, 0, none⟩) (Nat.le_refl _) _⟩
          case measure => simp [intOf]; omega
      · obtain ⟨P, Qt, k, hdg, hbit, hP, hmk⟩ := digit_get (X := X) (m := m') (j := 1) (xj := x1) hj HN.out.2.1
        have hst := div_step (b := Qt % 2) HS.out hbit
        obtain ⟨hroom, hDn⟩ := room1 HS.out hmk hdg.kl hP HD.out ⟨p0, p1⟩ ⟨p2, p3⟩ ⟨p4, p5⟩ ⟨p6, p7⟩
        rw [← HMM.out] at hdg
        obtain ⟨k0, k1, k2, k3, k4, k5, k6, k7, k8⟩ := hdg
        have k3' : mi / 32 = 1 := k3
        have HST2 := hide hst
        have HDN := hide hDn
        clear hst hDn hbit hP hmk hj k3
        by_cases hlt : 2 * r + Qt % 2 < 10000
        · go_wp2
          go_roundw
          case rel => exact ⟨m', Q, mi - 1, 2 * r + Qt % 2, d0, d1, d2, d3, by omega, rfl, rfl, by show _ = _; rw [HMM.out], by omega, by omega, by omega, by omega, HST2.out.1 hlt, HD.out, ⟨p0, p1⟩, ⟨p2, p3⟩, ⟨p4, p5⟩, ⟨p6, p7⟩, HBX.out, HB.out⟩
          case measure => simp [intOf]; omega
        · go_wp2
          go_roundw
          case rel => exact ⟨m', Q + 2 ^ m', mi - 1, 2 * r + Qt % 2 - 10000, d0, (d1 + P), d2, d3, by omega, rfl, rfl, by show _ = _; rw [HMM.out], by omega, by omega, by omega, by omega, HST2.out.2 (by omega), HDN.out, ⟨p0, p1⟩, ⟨by omega, by omega⟩, ⟨p4, p5⟩, ⟨p6, p7⟩, (Joins.block_setCell (i := 1) HBX.out _), HB.out.setCell (p := ⟨w.heap.size + 1 + 1, 1, none⟩) (Nat.le_refl _) _⟩
          case measure => simp [intOf]; omega
      · obtain ⟨P, Qt, k, hdg, hbit, hP, hmk⟩ := digit_get (X := X) (m := m') (j := 2) (xj := x2) hj HN.out.2.2.1
        have hst := div_step (b := Qt % 2) HS.out hbit
        obtain ⟨hroom, hDn⟩ := room2 HS.out hmk hdg.kl hP HD.out ⟨p0, p1⟩ ⟨p2, p3⟩ ⟨p4, p5⟩ ⟨p6, p7⟩
        rw [← HMM.out] at hdg
        obtain ⟨k0, k1, k2, k3, k4, k5, k6, k7, k8⟩ := hdg
        have k3' : mi / 32 = 2 := k3
        have HST2 := hide hst
        have HDN := hide hDn
        clear hst hDn hbit hP hmk hj k3
        by_cases hlt : 2 * r + Qt % 2 < 10000
        · go_wp2
          go_roundw
          case rel => exact ⟨m', Q, mi - 1, 2 * r + Qt % 2, d0, d1, d2, d3, by omega, rfl, rfl, by show _ = _; rw [HMM.out], by omega, by omega, by omega, by omega, HST2.out.1 hlt, HD.out, ⟨p0, p1⟩, ⟨p2, p3⟩, ⟨p4, p5⟩, ⟨p6, p7⟩, HBX.out, HB.out⟩
          case measure => simp [intOf]; omega
        · go_wp2
          go_roundw
          case rel => exact ⟨m', Q + 2 ^ m', mi - 1, 2 * r + Qt % 2 - 10000, d0, d1, (d2 + P), d3, by omega, rfl, rfl, by show _ = _; rw [HMM.out], by omega, by omega, by omega, by omega, HST2.out.2 (by omega), HDN.out, ⟨p0, p1⟩, ⟨p2, p3⟩, ⟨by omega, by omega⟩, ⟨p6, p7⟩, (Joins.block_setCell (i := 2) HBX.out _), HB.out.setCell (p := ⟨w.heap.size + 1 + 1, 2, none⟩) (Nat.le_refl _) _⟩
          case measure => simp [intOf]; omega
      · obtain ⟨P, Qt, k, hdg, hbit, hP, hmk⟩ := digit_get (X := X) (m := m') (j := 3) (xj := x3) hj HN.out.2.2.2
        have hst := div_step (b := Qt % 2) HS.out hbit
        obtain ⟨hroom, hDn⟩ := room3 HS.out hmk hdg.kl hP HD.out ⟨p0, p1⟩ ⟨p2, p3⟩ ⟨p4, p5⟩ ⟨p6, p7⟩
        rw [← HMM.out] at hdg
        obtain ⟨k0, k1, k2, k3, k4, k5, k6, k7, k8⟩ := hdg
        have k3' : mi / 32 = 3 := k3
        have HST2 := hide hst
        have HDN := hide hDn
        clear hst hDn hbit hP hmk hj k3
        by_cases hlt : 2 * r + Qt % 2 < 10000
        · go_wp2
          go_roundw
          case rel => exact ⟨m', Q, mi - 1, 2 * r + Qt % 2, d0, d1, d2, d3, by omega, rfl, rfl, by show _ = _; rw [HMM.out], by omega, by omega, by omega, by omega, HST2.out.1 hlt, HD.out, ⟨p0, p1⟩, ⟨p2, p3⟩, ⟨p4, p5⟩, ⟨p6, p7⟩, HBX.out, HB.out⟩
          case measure => simp [intOf]; omega
        · go_wp2
          go_roundw
          case rel => exact ⟨m', Q + 2 ^ m', mi - 1, 2 * r + Qt % 2 - 10000, d0, d1, d2, (d3 + P), by omega, rfl, rfl, by show _ = _; rw [HMM.out], by omega, by omega, by omega, by omega, HST2.out.2 (by omega), HDN.out, ⟨p0, p1⟩, ⟨p2, p3⟩, ⟨p4, p5⟩, ⟨by omega, by omega⟩, (Joins.block_setCell (i := 3) HBX.out _), HB.out.setCell (p := ⟨w.heap.size + 1 + 1, 3, none⟩) (Nat.le_refl _) _⟩
          case measure => simp [intOf]; omega
    · have hm0 : m = 0 := by have := HMI.out; omega
      subst hm0
      obtain ⟨e1, e2⟩ := HFIN.out Q r d0 d1 d2 d3 HS.out HD.out ⟨p0, p1⟩ ⟨p2, p3⟩ ⟨p4, p5⟩ ⟨p6, p7⟩
      have HE1 := hide e1
      have HE2 := hide e2
      have hq2 : w.heap.size + 1 + 1 < wr.heap.size := (Array.getElem?_eq_some_iff.1 HBX.out).1
      have hq1 : w.heap.size + 1 < wr.heap.size := by omega
      have hq0 : w.heap.size < wr.heap.size := by omega
      have gz := (HB.out.block (w.heap.size + 1) (by omega)).trans G1.out
      have z0 : wr.cell? ⟨w.heap.size + 1, 0, none⟩ = some (.bool false) := Joins.cell_of_block gz 0
      have u0 := Joins.unfrozen_of_block gz 0
      have z1 : wr.cell? ⟨w.heap.size + 1, 1, none⟩ = some (.int .u64 0) := Joins.cell_of_block gz 1
      have u1 := Joins.unfrozen_of_block gz 1
      have z2 : wr.cell? ⟨w.heap.size + 1, 2, none⟩ = some (.int .u64 0) := Joins.cell_of_block gz 2
      have u2 := Joins.unfrozen_of_block gz 2
      have z3 : wr.cell? ⟨w.heap.size + 1, 3, none⟩ = some (.int .u64 0) := Joins.cell_of_block gz 3
      have u3 := Joins.unfrozen_of_block gz 3
      have z4 : wr.cell? ⟨w.heap.size + 1, 4, none⟩ = some (.int .u64 0) := Joins.cell_of_block gz 4
      have u4 := Joins.unfrozen_of_block gz 4
      have GZ := hide gz
      have hbw : Below w.heap.size w wr := hbA.trans (HB.out.mono (by omega))
      clear gz hbA e1 e2
      go_wp2
      have q1 := (Below.heap_alloc (((((wr.setCell ⟨w.heap.size + 1, 0, none⟩ (.bool false)).setCell ⟨w.heap.size + 1, 1, none⟩ (.int .u64 d0)).setCell ⟨w.heap.size + 1, 2, none⟩ (.int .u64 d1)).setCell ⟨w.heap.size + 1, 3, none⟩ (.int .u64 d2)).setCell ⟨w.heap.size + 1, 4, none⟩ (.int .u64 d3)) (.cells #[.bool false, .int .u64 d0, .int .u64 d1, .int .u64 d2, .int .u64 d3] 49) (w.heap.size + 1) (le_set (le_set (le_set (le_set (le_set hq1)))))).trans (Joins.block_setCell (i := 4) (Joins.block_setCell (i := 3) (Joins.block_setCell (i := 2) (Joins.block_setCell (i := 1) (Joins.block_setCell (i := 0) GZ.out (.bool false)) (.int .u64 d0)) (.int .u64 d1)) (.int .u64 d2)) (.int .u64 d3))
      have hbN := (below5 (q := w.heap.size + 1) hbw (by omega) (.bool false) (.int .u64 d0) (.int .u64 d1) (.int .u64 d2) (.int .u64 d3)).alloc (le_set (le_set (le_set (le_set (le_set (by omega)))))) (.cells #[.bool false, .int .u64 d0, .int .u64 d1, .int .u64 d2, .int .u64 d3] 49)
      generalize ((((((wr.setCell ⟨w.heap.size + 1, 0, none⟩ (.bool false)).setCell ⟨w.heap.size + 1, 1, none⟩ (.int .u64 d0)).setCell ⟨w.heap.size + 1, 2, none⟩ (.int .u64 d1)).setCell ⟨w.heap.size + 1, 3, none⟩ (.int .u64 d2)).setCell ⟨w.heap.size + 1, 4, none⟩ (.int .u64 d3)).alloc (.cells #[.bool false, .int .u64 d0, .int .u64 d1, .int .u64 d2, .int .u64 d3] 49)) = W5 at *
      have r0 : W5.cell? ⟨w.heap.size + 1, 0, none⟩ = some (.bool false) := Joins.cell_of_block q1 0
      have r1 : W5.cell? ⟨w.heap.size + 1, 1, none⟩ = some (.int .u64 d0) := Joins.cell_of_block q1 1
      have r2 : W5.cell? ⟨w.heap.size + 1, 2, none⟩ = some (.int .u64 d1) := Joins.cell_of_block q1 2
      have r3 : W5.cell? ⟨w.heap.size + 1, 3, none⟩ = some (.int .u64 d2) := Joins.cell_of_block q1 3
      have r4 : W5.cell? ⟨w.heap.size + 1, 4, none⟩ = some (.int .u64 d3) := Joins.cell_of_block q1 4
      refine bodyPost_ret (v := .tuple #[.agg #[.bool false, .int .u64 d0, .int .u64 d1, .int .u64 d2, .int .u64 d3], .int .i64 r]) (by simp [results, Try.results27, go_sem, r0, r1, r2, r3, r4]) rfl ⟨by rw [HE1.out, HE2.out], hbN⟩
end Go.Proofs.Ytedaajilmeplnaa
