/-
  The laws of chapter 4, walked.
-/
import Derived.Test.YtmcmooggcphelaaJoin
import Derived.Test.YtmcmooggcphelaaOwn
import Derived.Test.YtmcmooggcphelaaOpen
import Derived.Test.YtmcmooggcphelaaCheckLaw
import Derived.Lib.SlBytesConst
namespace Go.Proofs.Ytmcmooggcphelaa
open Go.RowKit
set_option linter.unusedVariables false

theorem awake_any (w : World) : Calls Try.prog 9 #[] w fun e w' => e = .returned (.bool true) ∧ Below w.heap.size w w' := by
  have kc := fun (w : World) (C : Array Value) (n c : Nat) => Lib.run_convert_bytes_const (P := Try.prog) w 23 5 C n c Try.underlying23 Try.underlying5
  have hr : Bytes (w.alloc (.cells #[.int .u8 97, .int .u8 98] 5 (2, 3))) (w.heap.size + 1) (some ⟨w.heap.size, 0, none⟩) [97, 98] := Row.new w #[.int .u8 97, .int .u8 98] 5 (2, 3)
  have hs := sum_any (some ⟨w.heap.size, 0, none⟩) (w.heap.size + 1) 2 [97, 98] _ hr (by simp) (by simp)
  have e1 : addS 0 [97, 98] = 1647185 := by decide +kernel
  rw [e1] at hs
  have HS := hide hs
  clear hs e1 hr
  go_enter Try.func9, Try.ntmps9
  go_wp2_with (go_at_call 12; refine HS.out.mono ?_; rintro e w' ⟨rfl, hb⟩)
  go_ret
  exact ⟨rfl, ((Below.refl w.heap.size w).alloc (Nat.le_refl _) _).trans (hb.mono (by simp))⟩

theorem checkSums_any (s : Nat) (A : Option Addr) (c : Nat) (bs : List UInt8) (w : World) (hs : s ≤ 4294967295) (hr : Bytes w w.heap.size A bs) (hl : bs.length ≤ 9223372036854775807) :
    Calls Try.prog 3 #[.int .u32 (s : Int), .slice A bs.length c] w fun e w' => e = .returned (.bool true) ∧ Below w.heap.size w w' := by
  by_cases hL : 3000000 < bs.length
  · go_enter Try.func3, Try.ntmps3
    go_wp2_with (go_at_call 9; refine (awake_any _).mono ?_; rintro e w1 ⟨rfl, hb1⟩)
    go_ret
    exact ⟨rfl, hb1⟩
  · have hL2 : bs.length ≤ 4611686018427387904 := by omega
    have HL := hide hL2
    clear hL2
    go_enter Try.func3, Try.ntmps3
    go_wp2_with (go_at_call 9; refine (awake_any _).mono ?_; rintro e w1 ⟨rfl, hb1⟩)
    refine (add_any s A _ c bs _ hs (hr.below hb1) hb1.size HL.out).mono ?_
    rintro e w2 ⟨rfl, hb2⟩
    have hb12 := hb1.trans (hb2.mono hb1.size)
    go_wp2_with fail
    refine (radd_any s A _ c bs _ hs (hr.below hb12) HL.out).mono ?_
    rintro e w2' ⟨rfl, rfl⟩
    go_wp2_with fail
    refine (sum_any A _ c bs _ (hr.below hb12) hb12.size HL.out).mono ?_
    rintro e w3 ⟨rfl, hb3⟩
    have hb13 := hb12.trans (hb3.mono hb12.size)
    go_wp2_with fail
    refine (rsum_any A _ c bs _ (hr.below hb13) HL.out).mono ?_
    rintro e w3' ⟨rfl, rfl⟩
    go_wp2_with fail
    go_ret
    exact ⟨rfl, hb13⟩

theorem checkJoins_any (a b n : Int) (w : World) (ha : 0 ≤ a) (ha' : a ≤ 4294967295) (hb : 0 ≤ b) (hb' : b ≤ 4294967295) (hn0 : -9223372036854775808 ≤ n) (hn1 : n ≤ 9223372036854775807) :
    Calls Try.prog 6 #[.int .u32 a, .int .u32 b, .int .i64 n] w fun e w' => e = .returned (.bool true) ∧ Below w.heap.size w w' := by
  go_enter Try.func6, Try.ntmps6
  go_wp2_with (go_at_call 9; refine (awake_any _).mono ?_; rintro e w1 ⟨rfl, hb1⟩)
  refine (join_any a b n _ ha ha' hb hb' hn0 hn1).mono ?_
  rintro e w2 ⟨rfl, hb2⟩
  have hb12 := hb1.trans (hb2.mono hb1.size)
  go_wp2_with fail
  refine (rjoin_any a b n _ ha ha' hb hb' hn0 hn1).mono ?_
  rintro e w2' ⟨rfl, rfl⟩
  go_wp2_with fail
  go_ret
  exact ⟨rfl, hb12⟩

theorem checkCuts_any (a b n : Int) (w : World) (ha : 0 ≤ a) (ha' : a ≤ 4294967295) (hb : 0 ≤ b) (hb' : b ≤ 4294967295) (hn0 : -9223372036854775808 ≤ n) (hn1 : n ≤ 9223372036854775807) :
    Calls Try.prog 7 #[.int .u32 a, .int .u32 b, .int .i64 n] w fun e w' => e = .returned (.bool true) ∧ Below w.heap.size w w' := by
  go_enter Try.func7, Try.ntmps7
  go_wp2_with (go_at_call 9; refine (awake_any _).mono ?_; rintro e w1 ⟨rfl, hb1⟩)
  refine (cut_any a b n _ ha ha' hb hb' hn0 hn1).mono ?_
  rintro e w2 ⟨rfl, hb2⟩
  have hb12 := hb1.trans (hb2.mono hb1.size)
  go_wp2_with fail
  refine (rcut_any a b n _ ha ha' hb hb' hn0 hn1).mono ?_
  rintro e w2' ⟨rfl, rfl⟩
  go_wp2_with fail
  go_ret
  exact ⟨rfl, hb12⟩

theorem sum_n (A : Option Addr) (B c n : Nat) (bs : List UInt8) (w : World) (hn : bs.length = n) (hr : Bytes w B A bs) (hB : B ≤ w.heap.size) (hl : bs.length ≤ 4611686018427387904) :
    Calls Try.prog 12 #[.slice A n c] w fun e w' => e = .returned (.int .u32 (addS 0 bs : Int)) ∧ Below w.heap.size w w' := by
  subst hn
  exact sum_any A B c bs w hr hB hl

theorem checkParts_any (A A2 : Option Addr) (c c2 : Nat) (us bs : List UInt8) (w : World) (hra : Bytes w w.heap.size A us) (hrb : Bytes w w.heap.size A2 bs) (hla : us.length ≤ 9223372036854775807) (hlb : bs.length ≤ 9223372036854775807) :
    Calls Try.prog 8 #[.slice A us.length c, .slice A2 bs.length c2] w fun e w' => e = .returned (.bool true) ∧ Below w.heap.size w w' := by
  by_cases hL : 1000000 < us.length
  · go_enter Try.func8, Try.ntmps8
    go_wp2_with (go_at_call 9; refine (awake_any _).mono ?_; rintro e w1 ⟨rfl, hb1⟩)
    go_ret
    exact ⟨rfl, hb1⟩
  by_cases hL2 : 1000000 < bs.length
  · go_enter Try.func8, Try.ntmps8
    go_wp2_with (go_at_call 9; refine (awake_any _).mono ?_; rintro e w1 ⟨rfl, hb1⟩)
    go_ret
    exact ⟨rfl, hb1⟩
  have j1 := addS_join us bs
  have j2 := addS_append 0 us bs
  have j3 := addS_cut (addS 0 us) (addS_lt 0 us (by omega)) bs
  have l1 := addS_lt 0 us (by omega)
  have l2 := addS_lt 0 bs (by omega)
  have l3 := addS_lt 0 (us ++ bs) (by omega)
  have HJ : Hid (joinR (addS 0 us : Int) (addS 0 bs : Int) (bs.length : Int) = ((addS 0 (us ++ bs) : Int), 0)) := by
    show _ = _
    rw [joinR_ok (by unfold okJ; simp; omega), j1, Int.toNat_natCast]
    simp
  have HC : Hid (cutR (addS 0 (us ++ bs) : Int) (addS 0 bs : Int) (bs.length : Int) = ((addS 0 us : Int), 0)) := by
    show _ = _
    rw [cutR_ok (by unfold okJ; simp; omega), Int.toNat_natCast]
    rw [← j2] at j3
    generalize addS 0 us = x at *
    generalize addS 0 bs = y at *
    generalize addS 0 (us ++ bs) = t at *
    generalize powM 1407677000 bs.length = q at *
    have e1 : ((t : Int) + 2147483647 - (y : Int)) % 2147483647 = (((t + 2147483647 - y) % 2147483647 : Nat) : Int) := by omega
    rw [e1, ← Int.natCast_mul]
    generalize (t + 2147483647 - y) % 2147483647 * q = z at *
    rw [← j3]
    simp
  have HA : Hid (addR (addS 0 us) bs = (addS 0 (us ++ bs), 0)) := by
    show _ = _
    rw [addR_ok l1, j2]
  have b1 : (addS 0 us : Int) < 4294967296 := by omega
  have b2 : (addS 0 bs : Int) < 4294967296 := by omega
  have b3 : (addS 0 (us ++ bs) : Int) < 4294967296 := by omega
  have c1 : 0 ≤ (addS 0 us : Int) := by omega
  have c2' : 0 ≤ (addS 0 bs : Int) := by omega
  have c3 : 0 ≤ (addS 0 (us ++ bs) : Int) := by omega
  clear j1 j2 j3 l1 l2 l3
  generalize hx : (addS 0 us : Int) = x at *
  generalize hy : (addS 0 bs : Int) = y at *
  generalize hz : (addS 0 (us ++ bs) : Int) = z at *
  have HX := hide hx
  have HY := hide hy
  have HZ := hide hz
  clear hx hy hz
  go_enter Try.func8, Try.ntmps8
  go_wp2_with (first
    | (go_at_call 9; refine (awake_any _).mono ?_; rintro e w1 ⟨rfl, hb1⟩)
    | (at_builtin; refine halted ?_))
  refine go_on ?_
  refine wpList_append_bytes _ rfl (.tmp 25) (.tmp 26) 23 rfl w.heap.size 5 Try.underlying23 info_u8 _ _ _ [] rfl rfl (OwnB.lit w1 _ [] hb1.size (by simp)) _ A _ c us rfl rfl ((hra.below hb1).alloc hb1.size _) (by simp; omega) (by have := hb1.size; simp; omega) ?_
  intro d1 A1 c1' w2 hd1 hdl1 hown1 hg1 hat1
  have q1 : Below w.heap.size w (w1.alloc (.cells #[] 5)) := hb1.alloc hb1.size _
  have hb2 : Below w.heap.size w w2 := q1.grown hg1 (by have := hb1.size; simp; omega) (by intro k hk; simp at hk; have := hb1.size; omega)
  have hd1l : d1.length = us.length := by rw [hd1.out]; rfl
  have hd1l' := hide hd1l
  clear hg1 hat1 q1 hd1l
  go_wp2_with (at_builtin; refine halted ?_)
  refine go_on ?_
  refine wpList_append_bytes _ rfl (.tmp 27) (.tmp 28) 23 rfl w.heap.size 5 Try.underlying23 info_u8 _ _ _ d1 rfl rfl hown1 _ A2 _ c2 bs rfl rfl (hrb.below hb2) (by rw [hd1l'.out]; omega) hb2.size ?_
  intro d2 A2' c2'' w3 hd2 hdl2 hown2 hg2 hat2
  have hb3 : Below w.heap.size w w3 := hown1.below_grown hb2 hg2 (Nat.le_refl _) hb2.size
  have hd : d2 = us ++ bs := by rw [hd2.out, hd1.out]; rfl
  have HD := hide hd
  clear hg2 hat2 hd
  go_wp2_with (go_at_call 12; refine halted ?_)
  refine go_on ?_
  refine (sum_any A2' _ c2'' d2 _ hown2.bytes (Nat.le_refl _) (by rw [HD.out, List.length_append]; omega)).mono ?_
  rw [HD.out, HZ.out]
  rintro e w4 ⟨rfl, hb4⟩
  have hb04 := hb3.trans (hb4.mono hb3.size)
  clear hown1 hown2 hb1 hb2 hb3 hb4
  go_wp2_with (go_at_call 12; refine halted ?_)
  refine go_on ?_
  refine (sum_any A _ c us _ (hra.below hb04) hb04.size (by omega)).mono ?_
  rw [HX.out]
  rintro e w5 ⟨rfl, hb5⟩
  have hb05 := hb04.trans (hb5.mono hb04.size)
  clear hb04 hb5
  go_wp2_with (go_at_call 12; refine halted ?_)
  refine go_on ?_
  refine (sum_any A2 _ c2 bs _ (hrb.below hb05) hb05.size (by omega)).mono ?_
  rw [HY.out]
  rintro e w6 ⟨rfl, hb6⟩
  have hb06 := hb05.trans (hb6.mono hb05.size)
  clear hb05 hb6
  go_wp2_with (go_at_call 10; refine halted ?_)
  refine go_on ?_
  rw [← HX.out]
  refine (add_any (addS 0 us) A2 _ c2 bs _ (by have := HX.out; omega) (hrb.below hb06) hb06.size (by omega)).mono ?_
  rw [HA.out, HX.out, HZ.out]
  rintro e w7 ⟨rfl, hb7⟩
  have hb07 := hb06.trans (hb7.mono hb06.size)
  clear hb06 hb7
  go_wp2_with (go_at_call 14; refine halted ?_)
  refine go_on ?_
  refine (join_any x y _ _ (by omega) (by omega) (by omega) (by omega) (by omega) (by omega)).mono ?_
  rw [HJ.out]
  rintro e w8 ⟨rfl, hb8⟩
  have hb08 := hb07.trans (hb8.mono hb07.size)
  clear hb07 hb8
  go_wp2_with (go_at_call 16; refine halted ?_)
  refine go_on ?_
  refine (cut_any z y _ _ (by omega) (by omega) (by omega) (by omega) (by omega) (by omega)).mono ?_
  rw [HC.out]
  rintro e w9 ⟨rfl, hb9⟩
  have hb09 := hb08.trans (hb9.mono hb08.size)
  clear hb08 hb9
  go_wp2_with fail
  go_ret
  exact ⟨rfl, hb09⟩
end Go.Proofs.Ytmcmooggcphelaa
