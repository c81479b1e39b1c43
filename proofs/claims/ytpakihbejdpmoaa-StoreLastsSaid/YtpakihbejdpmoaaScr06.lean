/-
  StoreScripts, walked.
-/
import Derived.Test.YtpakihbejdpmoaaDoesA
import Derived.Test.YtpakihbejdpmoaaAlike06
import Derived.Test.YtpakihbejdpmoaaMuch06
import Derived.Test.YtpakihbejdpmoaaAwake06
namespace Go.Proofs.Ytpakihbejdpmoaa
open Go.RowKit
set_option linter.unusedVariables false

def newR (room : Int) : RS := ⟨room, none, 0, [], none, 0, [], none, 0, [], none, 0, [], none, 0, [], false⟩
def RNewOk (w : World) (room : Int) (e : Ending) (w' : World) : Prop := ∃ r, e = .returned (.tuple #[.pointer (some ⟨r, 0, none⟩), .int .i64 0]) ∧ Rm r (newR room) w' ∧ Below w.heap.size w w' ∧ ∀ k, (newR room).own r k → w.heap.size ≤ k
theorem newR_own {room : Int} {r k : Nat} (h : (newR room).own r k) : k = r := by
  rcases h with h | h | h | h | h | h | ⟨f, hf, _⟩
  · exact h
  all_goals first
    | (unfold InRow newR at h; simp at h)
    | (cases hf)
theorem newR_rn (room : Int) (w : World) : Rn (newR room) w :=
  ⟨World.ownsRow_nil _ _ _ _, World.ownsRow_nil _ _ _ _, World.ownsRow_nil _ _ _ _, World.ownsRow_nil _ _ _ _, Bytes.nil, Nat.le_refl _, fun k h => (by unfold InRow newR at h; simp at h), fun f h => (by cases h), fun f h => (by cases h), fun f h => (by cases h), fun f h => (by cases h), fun f h => (by cases h)⟩

set_option maxRecDepth 100000 in
set_option maxHeartbeats 4000000 in
theorem rnew_no (w : World) (room : Int) (h : room < 1 ∨ 16777216 < room) :
    Calls Try.prog 11 #[.int .i64 room] w fun e w' => e = .returned (.tuple #[.pointer none, .int .i64 1]) ∧ w' = w := by
  go_enter Try.func11, Try.ntmps11
  by_cases h1 : room < 1
  · go_wp2
    go_ret2
    exact ⟨rfl, rfl⟩
  · have h2 : 16777216 < room := by omega
    go_wp2
    go_ret2
    exact ⟨rfl, rfl⟩
set_option maxRecDepth 100000 in
set_option maxHeartbeats 4000000 in
theorem rnew_ok (w : World) (room : Int) (h1 : ¬ room < 1) (h2 : ¬ 16777216 < room) :
    Calls Try.prog 11 #[.int .i64 room] w (RNewOk w room) := by
  go_enter Try.func11, Try.ntmps11
  go_wp2
  go_ret2
  exact ⟨w.heap.size, rfl, ⟨heap_alloc_new w _, newR_rn room _⟩, below_new w _, fun k hk => by have := newR_own hk; omega⟩

theorem bt_new {B q bn bd r : Nat} {room : Int} {w w1 w2 : World} (hs : Sm q (newS room bn bd) w1) (hb1 : Below w.heap.size w w1) (ho1 : ∀ k, (newS room bn bd).own q k → w.heap.size ≤ k) (hr : Rm r (newR room) w2) (hb2 : Below w1.heap.size w1 w2) (ho2 : ∀ k, (newR room).own r k → w1.heap.size ≤ k) (hB : B ≤ w.heap.size) :
    Bt B q r (newS room bn bd) (newR room) w2 := by
  refine ⟨hs.call hb2, hr, ⟨rfl, rfl, rfl, rfl, rfl, rfl, rfl, fun e he => (by cases he), fun e he => (by cases he), fun e he => (by cases he)⟩, fun k h1 h2 => ?_, fun k h => Nat.le_trans hB (ho1 k h), fun k h => ?_, ?_⟩
  · have := hs.lt h1
    have := ho2 k h2
    omega
  · have := ho2 k h
    have := hb1.size
    omega
  · have := hb1.size
    have := hb2.size
    omega
theorem fit_new {room : Int} (h : 0 ≤ room ∧ room ≤ 16777216) : Fit 0 (newR room).abs :=
  ⟨Nat.le_refl _, Nat.le_refl _, Nat.le_refl _, Nat.zero_le _, fun f hf => (by cases hf), fun c hc => (by cases hc), h⟩
theorem hl_of {w w' : World} {A : Option Addr} {l : List Ac} (h : ActRow w w.heap.size A l) (hb : Below w.heap.size w w') : ActRow w' w.heap.size A l := h.belowLe hb (Nat.le_refl _)
def ScRel (B q r : Nat) (l : List Ac) (w4 : World) (i : Value) (wr : World) : Prop :=
  ∃ k : Nat, k ≤ l.length ∧ k ≤ 300 ∧ i = .int .i64 (k : Int) ∧ Below B w4 wr ∧ ∃ s x, Bt B q r s x wr ∧ Fit k x.abs

set_option maxRecDepth 100000 in
set_option maxHeartbeats 8000000 in
theorem storeScripts_any (room : Int) (A : Option Addr) (n c : Nat) (l : List Ac) (w : World) (hn : l.length = n) (hl : ActRow w w.heap.size A l) (hll : n ≤ 9223372036854775807) :
    Calls Try.prog 3 #[.int .i64 room, .slice A n c] w fun e w' => e = .returned (.bool true) ∧ Below w.heap.size w w' := by
  subst hn
  have HL := hide hl
  obtain ⟨B, hBE⟩ : ∃ B, B = w.heap.size := ⟨_, rfl⟩
  have HBE := hide hBE
  have HLL := hide hll
  clear hl hBE hll
  go_enter Try.func3, Try.ntmps3
  go_wp2_with (go_at_call 9; refine halted ?_)
  refine go_on ?_
  refine (awake_any w).mono ?_
  rintro e w1 ⟨rfl, hb1⟩
  have HB1 := hide hb1
  clear hb1
  by_cases hroom : room < 1 ∨ 16777216 < room
  · have HNO := hide hroom
    have hmu := much_any A w.heap.size l.length c l w1 rfl (hl_of HL.out HB1.out) HLL.out
    have HMU := hide hmu
    clear hroom hmu
    go_wp2_with (go_at_call 10; refine halted ?_)
    refine go_on ?_
    refine (new_no w1 room HNO.out).mono ?_
    rintro e w2 ⟨rfl, rfl⟩
    go_wp2_with (go_at_call 11; refine halted ?_)
    refine go_on ?_
    refine (rnew_no w2 room HNO.out).mono ?_
    rintro e w3 ⟨rfl, rfl⟩
    go_wp2_with (go_at_call 12; refine halted ?_)
    refine go_on ?_
    refine HMU.out.mono ?_
    rintro e w4 ⟨b, rfl, rfl, -⟩
    go_wp2
    go_ret
    exact ⟨rfl, HB1.out⟩
  have hr1 : ¬ room < 1 := by omega
  have hr2 : ¬ 16777216 < room := by omega
  have HRM := hide (show 0 ≤ room ∧ room ≤ 16777216 from by omega)
  have HN1 := hide (new_ok w1 room hr1 hr2)
  have HN2 := hide (fun W => rnew_ok W room hr1 hr2)
  clear hroom hr1 hr2
  go_wp2_with (go_at_call 10; refine halted ?_)
  refine go_on ?_
  refine HN1.out.mono ?_
  rintro e w2 ⟨q, bn, bd, rfl, hs, hb2, ho⟩
  have HS := hide hs
  have HO := hide ho
  have HB2 := hide hb2
  clear HN1 hs hb2 ho
  go_wp2_with (go_at_call 11; refine halted ?_)
  refine go_on ?_
  refine (HN2.out w2).mono ?_
  rintro e w3 ⟨r, rfl, hrm, hb3, hor⟩
  have hbt := bt_new HS.out HB2.out HO.out hrm hb3 hor HB1.out.size
  have hbw : Below w.heap.size w w3 := HB1.out.trans ((HB2.out.trans (hb3.mono HB2.out.size)).mono HB1.out.size)
  have HBT := hide hbt
  have HBW := hide hbw
  have hal := hl_of HL.out hbw
  have HAL := hide hal
  have HMU := hide (much_any A w.heap.size l.length c l w3 rfl hal HLL.out)
  clear HN2 hrm hb3 hor hbt hbw hal
  go_wp2_with (go_at_call 12; refine halted ?_)
  refine go_on ?_
  refine HMU.out.mono ?_
  rintro e w4 ⟨b, rfl, rfl, hsz⟩
  cases b with
  | true =>
    clear hsz
    go_wp2
    go_ret
    exact ⟨rfl, HBW.out⟩
  | false =>
    have HSZ := hide (hsz rfl)
    rw [← HBE.out] at HBT HAL
    clear hsz HMU
    go_wp2
    go_loopw [11] (fun i wr => ScRel B q r l w3 i wr) (fun i _ => l.length - (intOf i).toNat)
    case atStart => exact ⟨0, Nat.zero_le _, Nat.zero_le _, rfl, Below.refl _ _, _, _, HBT.out, fit_new HRM.out⟩
    case round =>
      obtain ⟨k, hk, hk3, rfl, hbr, s, x, hbt, hfit⟩ := hrel
      by_cases hlt : k < l.length ∧ k < 300
      · obtain ⟨a, ha⟩ : ∃ a, l[k]? = some a := ⟨_, List.getElem?_eq_getElem hlt.1⟩
        have halr := HAL.out.belowLe hbr (Nat.le_refl _)
        obtain ⟨ad, rfl, hadb, c0, c1, c2, c3, c4, c5⟩ := halr.cells ha
        have hj1 : (k : Int) < (l.length : Int) := by omega
        have hj2 : (k : Int) < 300 := by omega
        have hdo := does_any B q r k s x wr hbt hfit (by omega) a (halr.2 a (List.mem_of_getElem? ha)) (HSZ.out k a hlt.2 ha)
        unfold Ac.v at hdo
        have HDO := hide hdo
        have HBR := hide hbr
        have HLT := hide hlt
        clear ha halr hdo hbr hbt hfit hlt
        go_wp2_with (go_at_call 13; refine halted ?_)
        refine go_on ?_
        refine HDO.out.mono ?_
        clear HDO
        rintro e w5 ⟨rfl, hb5, s', x', hbt', hfit'⟩
        have HAK := hide (alike_any B q r (k + 1) s' x' w5 hbt' hfit' (by have := HLT.out; omega))
        have HB5 := hide hb5
        have HBT5 := hide hbt'
        have HFT5 := hide hfit'
        clear hb5 hbt' hfit'
        go_wp2_with (go_at_call 14; refine halted ?_)
        refine go_on ?_
        refine HAK.out.mono ?_
        clear HAK
        rintro e w6 ⟨rfl, hb6⟩
        have hrel2 : ScRel B q r l w3 (.int .i64 ((k : Int) + 1)) w6 := ⟨k + 1, HLT.out.1, HLT.out.2, by simp, (HBR.out.trans HB5.out).trans (hb6.mono HBT5.out.le), s', x', HBT5.out.call hb6, HFT5.out⟩
        have HR2 := hide hrel2
        clear hb6 hrel2 c0 c1 c2 c3 c4 c5
        go_wp2
        case roundEnd => exact ⟨HR2.out, by have := HLT.out; simp [intOf]; omega⟩
      · have HBE2 := hide (show Below w.heap.size w wr from HBW.out.trans (hbr.mono (Nat.le_of_eq HBE.out.symm)))
        have hor : (l.length : Int) ≤ (k : Int) ∨ (k : Int) < (l.length : Int) ∧ (k : Int) = 300 := by omega
        clear hbr hbt hfit hlt hk hk3
        rcases hor with hor | ⟨ho1, ho2⟩
        · go_wp2
          go_ret
          exact ⟨rfl, HBE2.out⟩
        · have ho3 : ¬ (k : Int) < 300 := by omega
          clear ho2
          go_wp2
          go_ret
          exact ⟨rfl, HBE2.out⟩
end Go.Proofs.Ytpakihbejdpmoaa
