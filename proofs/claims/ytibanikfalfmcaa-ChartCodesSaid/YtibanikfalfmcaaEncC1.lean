/-
  chart.Encode's parts.
-/
import Derived.Test.YtibanikfalfmcaaRevC
import Derived.Test.YtibanikfalfmcaaIntFn
import Derived.Test.YtibanikfalfmcaaConcat
import Derived.Test.YtibanikfalfmcaaCode
import Derived.Test.YtibanikfalfmcaaStr
import Derived.Laws.BytesString
import Derived.Lib.ConvBytes
namespace Go.Proofs.Ytibanikfalfmcaa
open Go.RowKit
set_option linter.unusedVariables false

theorem add_at0 (q j : Nat) : (⟨q, 0, none⟩ : Addr).add j = ⟨q, j, none⟩ := by
  unfold Addr.add
  split
  · rename_i h; subst h; rfl
  · simp
theorem bytesW (w : World) (s : ByteArray) : Bytes (Lib.bytesWorld w 5 s) (w.heap.size + 1) (some ⟨w.heap.size, 0, none⟩) s.data.toList := by
  intro j u hj
  rw [List.getElem?_map] at hj
  cases hb : s.data.toList[j]? with
  | none => rw [hb] at hj; cases hj
  | some b =>
    rw [hb] at hj
    injection hj with hj
    subst hj
    have hlt := (List.getElem?_eq_some_iff.1 hb).1
    refine ⟨_, rfl, by simp, ?_⟩
    have h := Lib.bytesWorld_cell w 5 s j (by simpa using hlt)
    rw [List.getD_eq_getElem?_getD, hb] at h
    rw [add_at0, h]
    rfl
theorem below_bytesW (w : World) {B : Nat} (hB : B ≤ w.heap.size) (s : ByteArray) : Below B w (Lib.bytesWorld w 5 s) :=
  ⟨rfl, rfl, rfl, by rw [Lib.bytesWorld_size]; omega, fun k hk => Lib.bytesWorld_at_old w _ s k (by omega)⟩


def legsB (ls : List (Int × Int)) : List UInt8 := ls.flatMap fun x => numB x.1.toNat ++ intB x.2
def headB (day : Int) (tx : List UInt8) (n : Nat) : List UInt8 := numB day.toNat ++ textB tx ++ numB n
theorem legsB_next {ls : List (Int × Int)} {k : Nat} {x : Int × Int} (h : ls[k]? = some x) : legsB (ls.take (k + 1)) = legsB (ls.take k) ++ (numB x.1.toNat ++ intB x.2) := by
  unfold legsB
  rw [take_next h, List.flatMap_append]
  simp
theorem legsB_len (ls : List (Int × Int)) : (legsB ls).length ≤ 22 * ls.length := by
  induction ls with
  | nil => exact Nat.le_refl _
  | cons x r ih =>
    have h1 := numB_len x.1.toNat
    have h2 : (intB x.2).length ≤ 11 := numB_len (zig x.2)
    unfold legsB at ih ⊢
    rw [List.flatMap_cons, List.length_append, List.length_append, List.length_cons]
    omega
theorem concat3 (w : World) (A1 A2 A3 : Option Addr) (c1 c2 c3 : Nat) (b1 b2 b3 : List UInt8) (h1 : Bytes w w.heap.size A1 b1) (h2 : Bytes w w.heap.size A2 b2) (h3 : Bytes w w.heap.size A3 b3) (hl : b1.length + b2.length + b3.length ≤ 140737488355000) :
    Calls Try.prog 35 #[.slice (some ⟨w.heap.size, 0, none⟩) 3 3] (w.alloc (.cells #[.slice A1 b1.length c1, .slice A2 b2.length c2, .slice A3 b3.length c3] 40)) fun e w' => ∃ A c, e = .returned (.slice A (b1 ++ b2 ++ b3).length c) ∧ OwnB w' w.heap.size 5 A c (b1 ++ b2 ++ b3) ∧ Below w.heap.size w w' := by
  have e : bytesTo [(⟨A1, c1, b1⟩ : Pt), ⟨A2, c2, b2⟩, ⟨A3, c3, b3⟩] 3 = b1 ++ b2 ++ b3 := by simp [bytesTo]
  have hb := below_new w (.cells #[.slice A1 b1.length c1, .slice A2 b2.length c2, .slice A3 b3.length c3] 40)
  have h := concat_any (some ⟨w.heap.size, 0, none⟩) 3 3 [(⟨A1, c1, b1⟩ : Pt), ⟨A2, c2, b2⟩, ⟨A3, c3, b3⟩] (w.alloc (.cells #[.slice A1 b1.length c1, .slice A2 b2.length c2, .slice A3 b3.length c3] 40)) rfl
    ⟨(Row.new w #[.slice A1 b1.length c1, .slice A2 b2.length c2, .slice A3 b3.length c3] 40 (0, 0)).more (by simp), fun p hp => by
      simp at hp
      rcases hp with rfl | rfl | rfl
      · exact (h1.below hb).more hb.size
      · exact (h2.below hb).more hb.size
      · exact (h3.below hb).more hb.size⟩ (by simp) (by
      show (bytesTo _ 3).length ≤ _
      rw [e]; simp; omega)
  refine h.mono ?_
  rintro e' w' ⟨A, c, rfl, ho, hb'⟩
  have e3 : bytesTo [(⟨A1, c1, b1⟩ : Pt), ⟨A2, c2, b2⟩, ⟨A3, c3, b3⟩] [(⟨A1, c1, b1⟩ : Pt), ⟨A2, c2, b2⟩, ⟨A3, c3, b3⟩].length = b1 ++ b2 ++ b3 := e
  rw [e3] at ho ⊢
  exact ⟨A, c, rfl, ho.more hb.size, hb.trans (hb'.mono hb.size)⟩

theorem below_new' (w : World) {B : Nat} (hB : B ≤ w.heap.size) (o : Obj) : Below B w (w.alloc o) := (Below.refl _ _).alloc hB _
theorem legsOk_rng {ls : List (Int × Int)} {seen : List Int} (h : legsOk seen ls = true) : ∀ x ∈ ls, 1 ≤ x.1 ∧ x.1 ≤ 99999 := by
  induction ls generalizing seen with
  | nil => intro x hx; cases hx
  | cons y r ih =>
    unfold legsOk at h
    rw [Bool.and_eq_true] at h
    intro x hx
    rcases List.mem_cons.1 hx with rfl | hx
    · have := h.1
      unfold legOk at this
      simp only [Bool.and_eq_true, decide_eq_true_eq] at this
      omega
    · exact ih h.2 x hx
/-- What Encode's parts share: the box of the posting. -/
abbrev BoxAt (q : Nat) (day : Int) (tx : ByteArray) (A : Option Addr) (n c : Nat) (W : World) : Prop := W.cell? ⟨q, 0, none⟩ = some (.int .i64 day) ∧ W.cell? ⟨q, 1, none⟩ = some (.string tx) ∧ W.cell? ⟨q, 2, none⟩ = some (.slice A n c)
structure Env (q : Nat) (day : Int) (tx : ByteArray) (A : Option Addr) (n c : Nat) (w2 : World) : Prop where
  box : ∀ W, Below w2.heap.size w2 W → BoxAt q day tx A n c W
  day0 : 0 ≤ day
  day1 : day ≤ 3652058
  tx1 : tx.size ≤ 200
  n1 : n ≤ 20
variable {q : Nat} {day : Int} {tx : ByteArray} {A : Option Addr} {n c : Nat} {w2 : World}
theorem num1a (h : Env q day tx A n c w2) : Calls Try.prog 36 #[.int .u64 day] w2.drew fun e w3 => ∃ A1 c1, e = .returned (.slice A1 (numB day.toNat).length c1) ∧ Hid (Bytes w3 w3.heap.size A1 (numB day.toNat)) ∧ Hid (Below w2.heap.size w2 w3) ∧ BoxAt q day tx A n c w3 ∧ BoxAt q day tx A n c (Lib.bytesWorld w3 5 tx) := by
  have h0 := h.day0
  have h1 := h.day1
  have hn := number_any day.toNat w2.drew (by omega)
  rw [show ((day.toNat : Nat) : Int) = day by omega] at hn
  refine hn.mono ?_
  rintro e w3 ⟨A1, c1, rfl, o1, b3⟩
  have B3 : Below w2.heap.size w2 w3 := (Below.refl w2.heap.size w2).drew.trans b3
  exact ⟨A1, c1, rfl, o1.bytes, B3, h.box _ B3, h.box _ (B3.trans (below_bytesW w3 B3.size tx))⟩
theorem num1b (h : Env q day tx A n c w2) : Calls Try.prog 36 #[.int .u64 day] (Lib.bytesWorld w2.drew 5 tx) fun e w3 => ∃ A1 c1, e = .returned (.slice A1 (numB day.toNat).length c1) ∧ Hid (Bytes w3 w3.heap.size A1 (numB day.toNat)) ∧ Hid (Below w2.heap.size w2 w3) ∧ BoxAt q day tx A n c w3 ∧ Hid (Bytes w3 (w2.heap.size + 1) (some ⟨w2.heap.size, 0, none⟩) tx.data.toList ∧ w2.heap.size + 1 ≤ w3.heap.size) := by
  have h0 := h.day0
  have h1 := h.day1
  have hn := number_any day.toNat (Lib.bytesWorld w2.drew 5 tx) (by omega)
  rw [show ((day.toNat : Nat) : Int) = day by omega] at hn
  refine hn.mono ?_
  rintro e w3 ⟨A1, c1, rfl, o1, b3⟩
  rw [Lib.bytesWorld_size] at b3
  have b3' : Below (w2.heap.size + 1) (Lib.bytesWorld w2.drew 5 tx) w3 := b3
  have hz : w2.heap.size + 1 ≤ w3.heap.size := Nat.le_trans (by rw [Lib.bytesWorld_size]; exact Nat.le_refl _) b3.size
  have hb0 : Below w2.heap.size w2 (Lib.bytesWorld w2.drew 5 tx) := (Below.refl w2.heap.size w2).drew.trans (below_bytesW w2.drew (Nat.le_refl _) tx)
  have B3 : Below w2.heap.size w2 w3 := hb0.trans (b3'.mono (Nat.le_succ _))
  exact ⟨A1, c1, rfl, o1.bytes, B3, h.box _ B3, ((bytesW w2.drew tx).belowLe b3' (Nat.le_refl _)), hz⟩
theorem text1 (h : Env q day tx A n c w2) (w3 : World) (A1 : Option Addr) (c0 : Nat) (h1 : Hid (Bytes w3 w3.heap.size A1 (numB day.toNat))) (h2 : Hid (Below w2.heap.size w2 w3)) :
    Calls Try.prog 37 #[.slice (some ⟨w3.heap.size, 0, none⟩) tx.size c0] (Lib.bytesWorld w3 5 tx) fun e w5 => ∃ A2 c2, e = .returned (.slice A2 (textB tx.data.toList).length c2) ∧ Hid (Bytes w5 w5.heap.size A2 (textB tx.data.toList)) ∧ Hid (Bytes w5 w5.heap.size A1 (numB day.toNat)) ∧ Hid (Below w2.heap.size w2 w5) ∧ BoxAt q day tx A n c w5 := by
  have h3 := h.tx1
  refine (text_any _ (w3.heap.size + 1) _ _ tx.data.toList _ (by simp) (bytesW w3 tx) (by rw [Lib.bytesWorld_size]; omega) (by simp; omega)).mono ?_
  rintro e w5 ⟨A2, c2, rfl, o2, b5⟩
  rw [Lib.bytesWorld_size] at b5
  have hbb : Below w3.heap.size w3 w5 := (below_bytesW w3 (Nat.le_refl _) tx).trans (b5.mono (Nat.le_succ _))
  have B5 : Below w2.heap.size w2 w5 := h2.out.trans (hbb.mono h2.out.size)
  exact ⟨A2, c2, rfl, o2.bytes, (h1.out.below hbb).more hbb.size, B5, h.box _ B5⟩
theorem text2 (h : Env q day tx A n c w2) (w3 : World) (A1 : Option Addr) (c0 : Nat) (h1 : Hid (Bytes w3 w3.heap.size A1 (numB day.toNat))) (h2 : Hid (Below w2.heap.size w2 w3)) (h3 : Hid (Bytes w3 (w2.heap.size + 1) (some ⟨w2.heap.size, 0, none⟩) tx.data.toList ∧ w2.heap.size + 1 ≤ w3.heap.size)) :
    Calls Try.prog 37 #[.slice (some ⟨w2.heap.size, 0, none⟩) tx.size c0] w3 fun e w5 => ∃ A2 c2, e = .returned (.slice A2 (textB tx.data.toList).length c2) ∧ Hid (Bytes w5 w5.heap.size A2 (textB tx.data.toList)) ∧ Hid (Bytes w5 w5.heap.size A1 (numB day.toNat)) ∧ Hid (Below w2.heap.size w2 w5) ∧ BoxAt q day tx A n c w5 := by
  have h4 := h.tx1
  refine (text_any _ (w2.heap.size + 1) _ _ tx.data.toList _ (by simp) h3.out.1 h3.out.2 (by simp; omega)).mono ?_
  rintro e w5 ⟨A2, c2, rfl, o2, b5⟩
  have B5 : Below w2.heap.size w2 w5 := h2.out.trans (b5.mono h2.out.size)
  exact ⟨A2, c2, rfl, o2.bytes, (h1.out.below b5).more b5.size, B5, h.box _ B5⟩
theorem num2 (h : Env q day tx A n c w2) (w5 : World) (A1 A2 : Option Addr) (h1 : Hid (Bytes w5 w5.heap.size A1 (numB day.toNat))) (h2 : Hid (Bytes w5 w5.heap.size A2 (textB tx.data.toList))) (h3 : Hid (Below w2.heap.size w2 w5)) :
    Calls Try.prog 36 #[.int .u64 (n : Int)] w5 fun e w7 => ∃ A3 c3, e = .returned (.slice A3 (numB n).length c3) ∧ Hid (Bytes w7 w7.heap.size A1 (numB day.toNat) ∧ Bytes w7 w7.heap.size A2 (textB tx.data.toList) ∧ Bytes w7 w7.heap.size A3 (numB n)) ∧ Hid (Below w2.heap.size w2 w7) := by
  have h4 := h.n1
  refine (number_any n w5 (by omega)).mono ?_
  rintro e w7 ⟨A3, c3, rfl, o3, b7⟩
  exact ⟨A3, c3, rfl, ⟨(h1.out.below b7).more b7.size, (h2.out.below b7).more b7.size, o3.bytes⟩, h3.out.trans (b7.mono h3.out.size)⟩
theorem cat1 (h : Env q day tx A n c w2) (w7 : World) (A1 A2 A3 : Option Addr) (c1 c2 c3 : Nat) (h1 : Hid (Bytes w7 w7.heap.size A1 (numB day.toNat) ∧ Bytes w7 w7.heap.size A2 (textB tx.data.toList) ∧ Bytes w7 w7.heap.size A3 (numB n))) (h2 : Hid (Below w2.heap.size w2 w7)) :
    Calls Try.prog 35 #[.slice (some ⟨w7.heap.size, 0, none⟩) 3 3] (w7.alloc (.cells #[.slice A1 (numB day.toNat).length c1, .slice A2 (textB tx.data.toList).length c2, .slice A3 (numB n).length c3] 40)) fun e w8 => ∃ A4 c4, e = .returned (.slice A4 (headB day tx.data.toList n).length c4) ∧ Hid (Bytes w8 w8.heap.size A4 (headB day tx.data.toList n) ∧ (headB day tx.data.toList n).length ≤ c4) ∧ Hid (Below w2.heap.size w2 w8) := by
  refine (concat3 w7 A1 A2 A3 c1 c2 c3 _ _ _ h1.out.1 h1.out.2.1 h1.out.2.2 (by
    have h5 := numB_len day.toNat
    have h6 := numB_len n
    have h7 := numB_len tx.data.toList.length
    have h8 : tx.data.toList.length = tx.size := by simp
    have h9 := h.tx1
    unfold textB
    rw [List.length_append]
    omega)).mono ?_
  rintro e w8 ⟨A4, c4, rfl, o4, b8⟩
  have hcap := own_shape o4
  obtain ⟨_, c5, e5, hle, _⟩ := hcap
  injection e5 with _ _ e6
  subst e6
  exact ⟨A4, c4, rfl, ⟨o4.bytes, hle⟩, h2.out.trans (b8.mono h2.out.size)⟩

abbrev LegAt (q : Nat) (a m : Int) (W : World) : Prop := W.cell? ⟨q, 0, none⟩ = some (.int .i64 a) ∧ W.cell? ⟨q, 1, none⟩ = some (.int .i64 m)
structure EnvL (q : Nat) (a m : Int) (A' : Option Addr) (us : List UInt8) (wl : World) : Prop where
  box : ∀ W, Below wl.heap.size wl W → LegAt q a m W
  row : Bytes wl wl.heap.size A' us
  us1 : us.length ≤ 10000
  a0 : 1 ≤ a
  a1 : a ≤ 99999
  m0 : -4611686018427387904 ≤ m
  m1 : m ≤ 4611686018427387904
section
variable {q : Nat} {a m : Int} {A' : Option Addr} {us : List UInt8} {wl : World}
theorem num3 (h : EnvL q a m A' us wl) : Calls Try.prog 36 #[.int .u64 a] wl.drew fun e w4 => ∃ A1 c1, e = .returned (.slice A1 (numB a.toNat).length c1) ∧ Hid (Bytes w4 w4.heap.size A1 (numB a.toNat)) ∧ Hid (Below wl.heap.size wl w4) ∧ LegAt q a m w4 := by
  have h0 := h.a0
  have h1 := h.a1
  have hn := number_any a.toNat wl.drew (by omega)
  rw [show ((a.toNat : Nat) : Int) = a by omega] at hn
  refine hn.mono ?_
  rintro e w4 ⟨A1, c1, rfl, o1, b4⟩
  have B4 : Below wl.heap.size wl w4 := (Below.refl wl.heap.size wl).drew.trans b4
  exact ⟨A1, c1, rfl, o1.bytes, B4, h.box _ B4⟩
theorem int3 (h : EnvL q a m A' us wl) (w4 : World) (A1 : Option Addr) (h1 : Hid (Bytes w4 w4.heap.size A1 (numB a.toNat))) (h2 : Hid (Below wl.heap.size wl w4)) :
    Calls Try.prog 38 #[.int .i64 m] w4 fun e w5 => ∃ A2 c2, e = .returned (.slice A2 (intB m).length c2) ∧ Hid (Bytes w5 w5.heap.size A' us ∧ Bytes w5 w5.heap.size A1 (numB a.toNat) ∧ Bytes w5 w5.heap.size A2 (intB m)) ∧ Hid (Below wl.heap.size wl w5) := by
  have h3 := h.m0
  have h4 := h.m1
  refine (int_any m w4 (by omega) (by omega)).mono ?_
  rintro e w5 ⟨A2, c2, rfl, o2, b5⟩
  have B5 : Below wl.heap.size wl w5 := h2.out.trans (b5.mono h2.out.size)
  exact ⟨A2, c2, rfl, ⟨(h.row.below B5).more B5.size, (h1.out.below b5).more b5.size, o2.bytes⟩, B5⟩
theorem cat3 (h : EnvL q a m A' us wl) (w5 : World) (A1 A2 : Option Addr) (c0 c1 c2 : Nat) (h1 : Hid (Bytes w5 w5.heap.size A' us ∧ Bytes w5 w5.heap.size A1 (numB a.toNat) ∧ Bytes w5 w5.heap.size A2 (intB m))) (h2 : Hid (Below wl.heap.size wl w5)) :
    Calls Try.prog 35 #[.slice (some ⟨w5.heap.size, 0, none⟩) 3 3] (w5.alloc (.cells #[.slice A' us.length c0, .slice A1 (numB a.toNat).length c1, .slice A2 (intB m).length c2] 40)) fun e w8 => ∃ A4 c4, e = .returned (.slice A4 (us ++ numB a.toNat ++ intB m).length c4) ∧ Hid (Bytes w8 w8.heap.size A4 (us ++ numB a.toNat ++ intB m) ∧ (us ++ numB a.toNat ++ intB m).length ≤ c4) ∧ Hid (Below wl.heap.size wl w8) := by
  refine (concat3 w5 A' A1 A2 c0 c1 c2 _ _ _ h1.out.1 h1.out.2.1 h1.out.2.2 (by
    have h5 := numB_len a.toNat
    have h6 : (intB m).length ≤ 11 := numB_len (zig m)
    have h7 := h.us1
    omega)).mono ?_
  rintro e w8 ⟨A4, c4, rfl, o4, b8⟩
  obtain ⟨_, c5, e5, hle, _⟩ := own_shape o4
  injection e5 with _ _ e6
  subst e6
  exact ⟨A4, c4, rfl, ⟨o4.bytes, hle⟩, h2.out.trans (b8.mono h2.out.size)⟩
end
def EnRel (hd : List UInt8) (ls : List (Int × Int)) (w2 : World) (v i : Value) (wr : World) : Prop :=
  ∃ (k : Nat) (us : List UInt8) (A' : Option Addr) (c' : Nat), k ≤ ls.length ∧ i = .int .i64 (k : Int) ∧ v = .slice A' us.length c' ∧ Hid (us = hd ++ legsB (ls.take k)) ∧ Hid (Bytes wr wr.heap.size A' us ∧ us.length ≤ c') ∧ Below w2.heap.size w2 wr

end Go.Proofs.Ytibanikfalfmcaa
