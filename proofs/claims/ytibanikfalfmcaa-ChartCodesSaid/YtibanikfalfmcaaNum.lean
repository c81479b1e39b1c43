/-
  code.Number, code.Text and the reference's: what they do.
-/
import Derived.Test.YtibanikfalfmcaaRev
import Derived.Test.YtibanikfalfmcaaCodeMath
namespace Go.Proofs.Ytibanikfalfmcaa
open Go.RowKit
set_option linter.unusedVariables false

theorem or_128 (x : Nat) (h : x < 128) : bits .or .u8 (x : Int) 128 = ((UInt8.ofNat (x + 128)).toNat : Int) := by
  have e := u8_or_nat x 128 (by omega) (by omega)
  rw [show ((128 : Nat) : Int) = 128 from rfl] at e
  rw [e, Nat.or_comm, nat_join 7 128 x (by decide) h]
  simp
  omega

theorem low_byte (x : Nat) (h : x < 128) : ((UInt8.ofNat x).toNat : Int) = (x : Int) := by simp; omega
theorem high_byte (x : Nat) (h : x < 128) : ((UInt8.ofNat (x + 128)).toNat : Int) = (x : Int) + 128 := by simp; omega

/-- A slice just made, in memory of the call's own. -/
def NewB (w w' : World) (e : Ending) (bs : List UInt8) : Prop :=
  ∃ A c, e = .returned (.slice A bs.length c) ∧ OwnB w' w.heap.size 5 A c bs ∧ Below w.heap.size w w'

/-- The loop of code.Number. -/
def NumRel (n : Nat) (w : World) (a v : Value) (wr : World) : Prop :=
  ∃ (y : Int) (f m : Nat) (bs : List UInt8) (A : Option Addr) (c : Nat), a = .int .u64 y ∧ v = .slice A bs.length c ∧ 0 ≤ y ∧ y ≤ 18446744073709551615 ∧ Hid (y = (m : Int)) ∧ Hid (lowFirst n = bs ++ moreLE f m) ∧ Hid (m < 128 ^ f) ∧
    Hid (bs.length + f ≤ 11) ∧ OwnB wr w.heap.size 5 A c bs ∧ Below w.heap.size w wr

theorem number_any (n : Nat) (w : World) (hn : n < 18446744073709551616) :
    Calls Try.prog 36 #[.int .u64 (n : Int)] w fun e w' => NewB w w' e (numB n) := by
  obtain ⟨x, hx⟩ : ∃ x : Int, x = (n : Int) := ⟨_, rfl⟩
  have x0 : 0 ≤ x := by omega
  have x1 : x ≤ 18446744073709551615 := by omega
  have hd0 : x % 128 = ((UInt8.ofNat (n % 128)).toNat : Int) := by rw [low_byte _ (Nat.mod_lt _ (by omega)), hx]; omega
  rw [← hx]
  have HX := hide hx
  clear hx
  have HD0 := hide hd0
  clear hd0
  go_enter Try.func36, Try.ntmps36
  go_wp2
  rw [HD0.out]
  go_loopw [0, 3] (fun a v wr => NumRel n w a v wr) (fun a _ _ => (intOf a).toNat)
  case atStart =>
    exact ⟨x / 128, 10, n / 128, [UInt8.ofNat (n % 128)], some ⟨w.heap.size, 0, none⟩, 1, rfl, rfl, by omega, by omega, by show _ = _; rw [HX.out]; omega, rfl, by show n / 128 < _; exact Nat.lt_of_le_of_lt (Nat.div_le_div_right (Nat.le_of_lt hn)) (by decide), by show _ ≤ _; simp,
      OwnB.lit w 5 [UInt8.ofNat (n % 128)] (Nat.le_refl _) (by unfold maxLen; simp), (Below.refl w.heap.size w).alloc (Nat.le_refl _) _⟩
  case round =>
    obtain ⟨y, f, m, bs, A, c, rfl, rfl, y0, y1, HY, HL, HM, HF, hown, hb⟩ := hrel
    by_cases hpos : 0 < y
    · have hm : m ≠ 0 := by have := HY.out; omega
      obtain ⟨f', rfl⟩ : ∃ f', f = f' + 1 := by
        cases f with
        | zero => have := HM.out; simp at this; omega
        | succ f' => exact ⟨f', rfl⟩
      obtain ⟨d, hd⟩ : ∃ d, Hid (d = UInt8.ofNat (m % 128 + 128)) := ⟨_, rfl⟩
      have hdv : bits .or .u8 (y % 128) 128 = (d.toNat : Int) := by
        rw [hd.out, HY.out, show (m : Int) % 128 = ((m % 128 : Nat) : Int) by omega]
        exact or_128 _ (Nat.mod_lt _ (by omega))
      have hbl : bs.length ≤ 11 := by have := HF.out; omega
      have hbl2 : bs.length + [d].length ≤ 140737488355328 := by simp; omega
      have HBL := hide hbl2
      have hrow : Bytes (wr.alloc (.cells #[.int .u8 (d.toNat : Int)] 5)) (wr.heap.size + 1) (some ⟨wr.heap.size, 0, none⟩) [d] := Row.new wr #[.int .u8 (d.toNat : Int)] 5 (0, 0)
      have hbase : w.heap.size ≤ (wr.alloc (.cells #[.int .u8 (d.toNat : Int)] 5)).heap.size := by have := hb.size; simp; omega
      have HBASE := hide hbase
      have HROW := hide hrow
      have hown1 := hown.alloc (.cells #[.int .u8 (d.toNat : Int)] 5)
      have hb1 := hb.alloc hb.size (.cells #[.int .u8 (d.toNat : Int)] 5)
      clear hm hbl hbl2 hbase hrow hown
      go_wp2_with (at_builtin; refine halted ?_)
      refine go_on ?_
      refine wpList_append_bytes _ rfl (.tmp 14) (.tmp 19) 40 rfl w.heap.size 5 Try.underlying40 info_u8 _ _ _ bs rfl rfl hown1 _ _ _ _ [d] rfl rfl HROW.out HBL.out HBASE.out ?_
      intro ds A' c' w' hds hdl hown' hg _
      have hb' := hown1.below_grown hb1 hg (Nat.le_refl _) HBASE.out
      clear hown1 hb1 hg
      go_wp2
      go_roundw
      case rel =>
        refine ⟨y / 128, f', m / 128, ds, A', c', rfl, rfl, by omega, by omega, ?_, ?_, div_lt_pow HM.out, ?_, hown', hb'⟩
        · show _ = _
          rw [HY.out]; omega
        · show _ = _
          rw [HL.out, hds.out, moreLE_step (by have := HY.out; omega), hd.out]
          simp
        · show _ ≤ _
          have := HF.out
          rw [hds.out]; simp; omega
      case measure => simp [intOf]; omega
    · have hm : m = 0 := by have := HY.out; omega
      subst hm
      have hl : bs.reverse = numB n := by
        show bs.reverse = (lowFirst n).reverse
        rw [HL.out, moreLE_zero, List.append_nil]
      have hlen : bs.length ≤ 140737488355328 := by have := HF.out; omega
      have hrv := reverse_any w.heap.size A c _ bs wr rfl hown hlen
      rw [hl] at hrv
      have hbs : bs.length = (numB n).length := by rw [← hl, List.length_reverse]
      have HRV := hide hrv
      have HBS := hide hbs
      have hle := hown.le
      clear hl hrv hbs HL HM HF
      go_wp2_with (go_at_call 73; refine halted ?_)
      refine go_on ?_
      refine HRV.out.mono ?_
      rintro e w' ⟨rfl, hown', hg⟩
      have hb' := hb.grown hg hb.size hle
      have hown2 : OwnB w' w.heap.size 5 A c (numB n) := hown'
      clear hg hle hown hown'
      go_wp2
      go_ret
      exact ⟨A, c, by rw [← HBS.out]; rfl, hown2, hb'⟩

/-- The loop of the reference's Number. -/
def RNumRel (n : Nat) (w : World) (a v : Value) (wr : World) : Prop :=
  ∃ (y : Int) (f m : Nat) (bs : List UInt8) (A : Option Addr) (c : Nat), a = .int .u64 y ∧ v = .slice A bs.length c ∧ 0 ≤ y ∧ y ≤ 18446744073709551615 ∧ Hid (y = (m : Int)) ∧ Hid (numB n = (moreLE f m).reverse ++ bs) ∧ Hid (m < 128 ^ f) ∧
    Hid (bs.length + f ≤ 11) ∧ OwnB wr w.heap.size 5 A c bs ∧ Below w.heap.size w wr

theorem rnumber_any (n : Nat) (w : World) (hn : n < 18446744073709551616) :
    Calls Try.prog 46 #[.int .u64 (n : Int)] w fun e w' => NewB w w' e (numB n) := by
  obtain ⟨x, hx⟩ : ∃ x : Int, x = (n : Int) := ⟨_, rfl⟩
  have x0 : 0 ≤ x := by omega
  have x1 : x ≤ 18446744073709551615 := by omega
  have hd0 : x % 128 = ((UInt8.ofNat (n % 128)).toNat : Int) := by rw [low_byte _ (Nat.mod_lt _ (by omega)), hx]; omega
  rw [← hx]
  have HX := hide hx
  clear hx
  have HD0 := hide hd0
  clear hd0
  go_enter Try.func46, Try.ntmps46
  go_wp2
  rw [HD0.out]
  go_loopw [0, 3] (fun a v wr => RNumRel n w a v wr) (fun a _ _ => (intOf a).toNat)
  case atStart =>
    exact ⟨x / 128, 10, n / 128, [UInt8.ofNat (n % 128)], some ⟨w.heap.size, 0, none⟩, 1, rfl, rfl, by omega, by omega, by show _ = _; rw [HX.out]; omega, by show (lowFirst n).reverse = _; simp [lowFirst], by show n / 128 < _; exact Nat.lt_of_le_of_lt (Nat.div_le_div_right (Nat.le_of_lt hn)) (by decide), by show _ ≤ _; simp,
      OwnB.lit w 5 [UInt8.ofNat (n % 128)] (Nat.le_refl _) (by unfold maxLen; simp), (Below.refl w.heap.size w).alloc (Nat.le_refl _) _⟩
  case round =>
    obtain ⟨y, f, m, bs, A, c, rfl, rfl, y0, y1, HY, HL, HM, HF, hown, hb⟩ := hrel
    by_cases hpos : 0 < y
    · have hm : m ≠ 0 := by have := HY.out; omega
      obtain ⟨f', rfl⟩ : ∃ f', f = f' + 1 := by
        cases f with
        | zero => have := HM.out; simp at this; omega
        | succ f' => exact ⟨f', rfl⟩
      obtain ⟨d, hd⟩ : ∃ d, Hid (d = UInt8.ofNat (m % 128 + 128)) := ⟨_, rfl⟩
      have hdv : y % 128 + 128 = (d.toNat : Int) := by
        rw [hd.out, HY.out, show (m : Int) % 128 = ((m % 128 : Nat) : Int) by omega, high_byte _ (Nat.mod_lt _ (by omega))]
      have hbl : bs.length ≤ 11 := by have := HF.out; omega
      have hbl2 : [d].length + bs.length ≤ 140737488355328 := by simp; omega
      have HBL := hide hbl2
      have hown1 : OwnB (wr.alloc (.cells #[.int .u8 (d.toNat : Int)] 5)) w.heap.size 5 (some ⟨wr.heap.size, 0, none⟩) 1 [d] := OwnB.lit wr 5 [d] hb.size (by unfold maxLen; simp)
      have hbase : w.heap.size ≤ (wr.alloc (.cells #[.int .u8 (d.toNat : Int)] 5)).heap.size := by have := hb.size; simp; omega
      have HBASE := hide hbase
      have HROW := hide ((hown.alloc (.cells #[.int .u8 (d.toNat : Int)] 5)).bytes)
      have hb1 := hb.alloc hb.size (.cells #[.int .u8 (d.toNat : Int)] 5)
      have HDV := hide hdv
      clear hm hbl hbl2 hbase hown hdv
      go_wp2_with (at_builtin; refine halted ?_)
      refine go_on ?_
      rw [HDV.out]
      refine wpList_append_bytes _ rfl (.tmp 18) (.tmp 19) 40 rfl w.heap.size 5 Try.underlying40 info_u8 _ _ _ [d] rfl rfl hown1 _ A _ c bs rfl rfl HROW.out HBL.out HBASE.out ?_
      intro ds A' c' w' hds hdl hown' hg _
      have hb' := hown1.below_grown hb1 hg (Nat.le_refl _) HBASE.out
      clear hown1 hb1 hg
      go_wp2
      go_roundw
      case rel =>
        refine ⟨y / 128, f', m / 128, ds, A', c', rfl, rfl, by omega, by omega, ?_, ?_, div_lt_pow HM.out, ?_, hown', hb'⟩
        · show _ = _
          rw [HY.out]; omega
        · show _ = _
          rw [HL.out, hds.out, moreLE_step (by have := HY.out; omega), hd.out]
          simp
        · show _ ≤ _
          have := HF.out
          rw [hds.out]; simp; omega
      case measure => simp [intOf]; omega
    · have hm : m = 0 := by have := HY.out; omega
      subst hm
      have hl : bs = numB n := by rw [HL.out, moreLE_zero]; rfl
      subst hl
      clear HL HM HF
      go_wp2
      go_ret
      exact ⟨A, c, rfl, hown, hb⟩

end Go.Proofs.Ytibanikfalfmcaa
