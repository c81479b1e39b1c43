/-
  store's named: are texts names?
-/
import Derived.Test.YtpakihbejdpmoaaKept
import Derived.Test.YtpakihbejdpmoaaStr
import Derived.Laws.BytesString
import Derived.Lib.ConvBytes
namespace Go.Proofs.Ytpakihbejdpmoaa
open Go.RowKit
set_option linter.unusedVariables false

/-- May a byte stand in a name? -/
def okC (c : UInt8) : Bool := (decide (97 ≤ c.toNat) && decide (c.toNat ≤ 122)) || (decide (48 ≤ c.toNat) && decide (c.toNat ≤ 57)) || decide (c.toNat = 45) || decide (c.toNat = 46)
/-- Is a text a name? -/
def isNm (s : ByteArray) : Bool := decide (1 ≤ s.size) && decide (s.size ≤ 64) && s.data.toList.all okC
def strV (s : ByteArray) : Value := .string s

theorem add_at0 (q j : Nat) : (⟨q, 0, none⟩ : Addr).add j = ⟨q, j, none⟩ := by
  unfold Addr.add
  split
  · rename_i h; subst h; rfl
  · simp
theorem bytesW (w : World) (s : ByteArray) : Bytes (Lib.bytesWorld w 5 s) (w.heap.size + 1) (some ⟨w.heap.size, 0, none⟩) s.data.toList := by
  intro j u hj
  rw [List.getElem?_map] at hj
  cases hb : s.data.toList[j]? with
  | none => rw [hb] at hj; cases hj
  | some b =>
    rw [hb] at hj
    injection hj with hj
    subst hj
    have hlt := (List.getElem?_eq_some_iff.1 hb).1
    refine ⟨_, rfl, by simp, ?_⟩
    have h := Lib.bytesWorld_cell w 5 s j (by simpa using hlt)
    rw [List.getD_eq_getElem?_getD, hb] at h
    rw [add_at0, h]
    rfl
theorem below_bytesW (w : World) {B : Nat} (hB : B ≤ w.heap.size) (s : ByteArray) : Below B w (Lib.bytesWorld w 5 s) :=
  ⟨rfl, rfl, rfl, by rw [Lib.bytesWorld_size]; omega, fun k hk => Lib.bytesWorld_at_old w _ s k (by omega)⟩

set_option maxRecDepth 100000 in
set_option maxHeartbeats 2000000 in
theorem named_any (A : Option Addr) (B n c : Nat) (l : List ByteArray) (w : World) (hn : l.length = n) (hr : Row w B A (l.map strV)) (hB : B ≤ w.heap.size) (hl : n ≤ 1000000000) :
    Calls Try.prog 47 #[.slice A n c] w fun e w' => e = .returned (.bool (l.all isNm)) ∧ Below w.heap.size w w' := by
  subst hn
  go_enter Try.func47, Try.ntmps47
  go_wp2
  go_loopw [9] (fun i wr => ∃ k : Nat, k ≤ l.length ∧ i = .int .i64 (k : Int) ∧ Hid ((l.take k).all isNm = true) ∧ Below w.heap.size w wr) (fun i _ => l.length - (intOf i).toNat)
  case atStart => exact ⟨0, Nat.zero_le _, rfl, rfl, Below.refl _ _⟩
  case round =>
    obtain ⟨k, hk, rfl, HA, hb⟩ := hrel
    by_cases hlt : k < l.length
    · obtain ⟨s, hs⟩ : ∃ s, l[k]? = some s := ⟨_, List.getElem?_eq_getElem hlt⟩
      obtain ⟨ad, hA, hadb, hc⟩ := (hr.belowLe hb hB) k (strV s) (by rw [List.getElem?_map, hs]; rfl)
      have hc' : wr.cell? (ad.add k) = some (.string s) := hc
      have HS := hide hs
      subst hA
      have hconv := Lib.run_convert_string_bytes (P := Try.prog) wr 9 33 5 s Try.underlying9 Try.underlying33 Try.underlying5
      have HR := hide hr
      have htl : s.toList = s.data.toList := ByteArray.toList_eq s
      clear hr hs hc
      by_cases h0 : s.size = 0
      · have e0 : s.toList = [] := by rw [htl]; exact List.eq_nil_of_length_eq_zero (by rw [Array.length_toList]; exact h0)
        have HF : Hid (l.all isNm = false) := by
          show _ = _
          rw [List.all_eq_false]
          exact ⟨s, List.mem_of_getElem? HS.out, by unfold isNm; simp [h0]⟩
        clear hconv htl h0
        go_wp2
        go_ret
        exact ⟨by rw [HF.out]; rfl, hb⟩
      have e0 : ¬ s.toList = [] := by
        rw [htl]
        intro e
        have := congrArg List.length e
        rw [List.length_nil, Array.length_toList] at this
        exact h0 this
      have e1 : s.toList.isEmpty = false := by simpa using e0
      by_cases h64 : 64 < s.size
      · have HF : Hid (l.all isNm = false) := by
          show _ = _
          rw [List.all_eq_false]
          exact ⟨s, List.mem_of_getElem? HS.out, by unfold isNm; simp; omega⟩
        have h64' : 64 < (s.size : Int) := by omega
        clear hconv htl h0 h64
        go_wp2
        go_ret
        exact ⟨by rw [HF.out]; rfl, hb⟩
      have h64' : (s.size : Int) ≤ 64 := by omega
      have hlen : s.data.toList.length = s.size := by simp
      have hbn : Bytes (Lib.bytesWorld wr 5 s) (wr.heap.size + 1) (some ⟨wr.heap.size, 0, none⟩) s.data.toList := bytesW wr s
      have hb2 : Below w.heap.size w (Lib.bytesWorld wr 5 s) := hb.trans (below_bytesW wr hb.size s)
      clear htl h0 h64
      go_wp2
      generalize Lib.bytesWorld wr 5 s = w2 at *
      clear hconv
      generalize grownCap wr s.size 0 5 = gc at *
      have hq := hb.size
      obtain ⟨qs, hqs⟩ : ∃ qs, qs = wr.heap.size := ⟨_, rfl⟩
      rw [← hqs] at hbn ⊢
      have HQ := hide hqs
      clear hqs hc' hb
      go_loop [23] (fun i => ∃ j : Nat, j ≤ s.size ∧ i = .int .i64 (j : Int) ∧ Hid ((s.data.toList.take j).all okC = true)) (fun i => s.size - (intOf i).toNat)
      case atStart => exact ⟨0, Nat.zero_le _, rfl, rfl⟩
      case round =>
        obtain ⟨j, hj, rfl, HC⟩ := hrel
        by_cases hjl : j < s.size
        · obtain ⟨ad2, b, hA2, -, hb3, hcb⟩ := hbn.at_ (k := j) (by omega)
          injection hA2 with hA2
          subst hA2
          have hcb' : w2.cell? ⟨qs, j, none⟩ = some (.int .u8 (b.toNat : Int)) := by
            rw [← add_at0]
            exact hcb
          have hb4 := b.toNat_lt
          have htk := take_next hb3.out
          cases hok : okC b with
          | true =>
            have HC2 : Hid ((s.data.toList.take (j + 1)).all okC = true) := by
              show _ = _
              rw [htk, List.all_append, HC.out]
              simp [hok]
            have hw : (97 ≤ (b.toNat : Int) ∧ (b.toNat : Int) ≤ 122) ∨ (48 ≤ (b.toNat : Int) ∧ (b.toNat : Int) ≤ 57) ∨ (b.toNat : Int) = 45 ∨ (b.toNat : Int) = 46 := by
              unfold okC at hok
              simp at hok
              omega
            clear hok htk hb3 hcb hbn HC
            rcases hw with ⟨w1, w2⟩ | ⟨w1, w2⟩ | w1 | w1
            all_goals
              go_wp2
              go_round
              case rel => exact ⟨j + 1, by omega, by go_num, HC2.out⟩
              case measure => simp [intOf]; omega
          | false =>
            have HF : Hid (l.all isNm = false) := by
              show _ = _
              rw [List.all_eq_false]
              refine ⟨s, List.mem_of_getElem? HS.out, ?_⟩
              have : s.data.toList.all okC = false := by
                rw [List.all_eq_false]
                exact ⟨b, List.mem_of_getElem? hb3.out, by rw [hok]; simp⟩
              unfold isNm
              rw [this]
              simp
            have hw : ((b.toNat : Int) < 97 ∨ 122 < (b.toNat : Int)) ∧ ((b.toNat : Int) < 48 ∨ 57 < (b.toNat : Int)) ∧ (b.toNat : Int) ≠ 45 ∧ (b.toNat : Int) ≠ 46 := by
              unfold okC at hok
              simp at hok
              omega
            obtain ⟨v1, v2, v3, v4⟩ := hw
            have n1 : ((b.toNat : Int) != 45) = true := by rw [bne_iff_ne]; exact v3
            have n2 : ((b.toNat : Int) != 46) = true := by rw [bne_iff_ne]; exact v4
            clear hok htk hb3 hcb hbn HC v3 v4
            rcases v1 with v1 | v1
            all_goals
              rcases v2 with v2 | v2
              all_goals
                first
                | (exfalso; omega)
                | (go_wp2
                   go_ret
                   exact ⟨by rw [HF.out]; rfl, hb2⟩)
        · obtain rfl : j = s.size := by omega
          have HA2 : Hid ((l.take (k + 1)).all isNm = true) := by
            show _ = _
            rw [take_next HS.out, List.all_append, HA.out]
            have h1 : s.data.toList.all okC = true := by
              have := HC.out
              rwa [List.take_of_length_le (by omega)] at this
            have h2 : isNm s = true := by
              unfold isNm
              rw [h1]
              have h3 : s.size ≠ 0 := by
                intro e
                apply e0
                rw [ByteArray.toList_eq]
                exact List.eq_nil_of_length_eq_zero (by rw [Array.length_toList]; exact e)
              simp
              omega
            simp [h2]
          clear HC hbn HA e0 e1
          go_wp2
          go_roundw
          case rel => exact ⟨k + 1, by omega, by go_num, HA2.out, hb2⟩
          case measure => simp [intOf]; omega
    · obtain rfl : k = l.length := by omega
      have HT : Hid (l.all isNm = true) := by
        have := HA.out
        rwa [List.take_length] at this
      clear HA hr
      go_wp2
      go_ret
      exact ⟨by rw [HT.out]; rfl, hb⟩
end Go.Proofs.Ytpakihbejdpmoaa
