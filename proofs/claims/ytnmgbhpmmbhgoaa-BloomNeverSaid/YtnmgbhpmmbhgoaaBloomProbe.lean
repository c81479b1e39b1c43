/-
  Filters: the reference's probe, its May: what they compute.
-/
import Derived.Test.YtnmgbhpmmbhgoaaBloomRBoth
namespace Go.Proofs.Ytnmgbhpmmbhgoaa
open Go.RowKit
set_option linter.unusedVariables false

theorem rev_take {key : List UInt8} {j : Nat} {b : UInt8} (hj : j < key.length) (h : key[key.length - 1 - j]? = some b) : key.reverse.take (j + 1) = key.reverse.take j ++ [b] :=
  take_next (by rw [List.getElem?_reverse hj]; exact h)

set_option maxRecDepth 100000 in
set_option maxHeartbeats 4000000 in
theorem probe_any (A : Option Addr) (c : Nat) (key : List UInt8) (i m : Nat) (w : World) (hr : Bytes w w.heap.size A key) (hl : key.length ≤ 1000000000) (hi : (i : Int) ≤ 255) (hm0 : 1 ≤ (m : Int)) (hm1 : (m : Int) ≤ 1000000000000) :
    Calls Try.prog 20 #[.slice A key.length c, .int .i64 (i : Int), .int .i64 (m : Int)] w fun e w' => e = .returned (.int .i64 ((posK key m i : Nat) : Int)) ∧ Below w.heap.size w w' := by
  have HP : Hid (((posK key m i : Nat) : Int) = ((hK key : Int) + (i : Int) * (gK key : Int)) % (m : Int)) := by
    show _ = _
    unfold posK
    rw [Int.natCast_emod, Int.natCast_add, Int.natCast_mul]
  have s1 := fun W (hb : Below w.heap.size w W) => rsum_any A w.heap.size c key W (hr.below hb) (by omega)
  have s2 := fun (A2 : Option Addr) (c2 n : Nat) (ts : List UInt8) W (hn : ts.length = n) (ht : ts = key.reverse) (hb : Bytes W W.heap.size A2 ts) => (by
    have h := rsum_any A2 W.heap.size c2 ts W hb (by rw [ht, List.length_reverse]; omega)
    rw [hn] at h
    exact h : Calls Try.prog 24 #[.slice A2 n c2] W fun e w' => e = .returned (.int .u32 (addS 0 ts : Int)) ∧ W = w')
  have hg : (gK key : Int) = (addS 0 key.reverse : Int) + 1 := by unfold gK; omega
  have hK1 : (hK key : Int) < 2147483647 := by have := hK_lt key; omega
  have hG1 : (addS 0 key.reverse : Int) < 2147483647 := by have := addS_lt 0 key.reverse (by omega); omega
  have hK0 : 0 ≤ (hK key : Int) := by omega
  have hG0 : 0 ≤ (addS 0 key.reverse : Int) := by omega
  rw [hg] at HP
  have hp0 : 0 ≤ (i : Int) * ((addS 0 key.reverse : Int) + 1) := Int.mul_nonneg (by omega) (by omega)
  have hp1 : (i : Int) * ((addS 0 key.reverse : Int) + 1) ≤ 255 * 2147483648 := Int.mul_le_mul hi (by omega) (by omega) (by omega)
  have S1 := hide s1
  have S2 := hide s2
  generalize ((posK key m i : Nat) : Int) = R at *
  have hKd : (addS 0 key : Int) = (hK key : Int) := rfl
  have HKD := hide hKd
  clear s1 s2 hg hKd
  generalize (hK key : Int) = H at *
  generalize hGG : (addS 0 key.reverse : Int) = G at *
  have HGG := hide hGG
  clear hGG
  go_enter Try.func20, Try.ntmps20
  go_wp2
  go_loopw [7, 8] (fun t k wr => ∃ (j : Nat) (kv : Int) (AB : Option Addr) (cB : Nat) (ts : List UInt8), j ≤ key.length ∧ k = .int .i64 kv ∧ Hid (kv = (key.length : Int) - 1 - j) ∧ -1 ≤ kv ∧ kv < (key.length : Int) ∧ t = .slice AB ts.length cB ∧ ts.length ≤ 1000000000 ∧ Hid (ts = key.reverse.take j) ∧ OwnB wr w.heap.size 5 AB cB ts ∧ Below w.heap.size w wr) (fun _ k _ => (intOf k + 1).toNat)
  case atStart => exact ⟨0, (key.length : Int) - 1, none, 0, [], Nat.zero_le _, rfl, by show _ = _; omega, by omega, by omega, rfl, by simp, by show _ = _; simp, OwnB.nil _ _ _, Below.refl _ _⟩
  case round =>
    obtain ⟨j, kv, AB, cB, ts, hj, rfl, HKV, hk0, hk1, rfl, htl, HT, ho, hb⟩ := hrel
    by_cases hge : 0 ≤ kv
    · obtain ⟨kn, rfl⟩ := Int.eq_ofNat_of_zero_le hge
      have hjk : j < key.length ∧ key.length - 1 - j = kn := by have := HKV.out; omega
      obtain ⟨ad, b, rfl, hadb, hbk, hc⟩ := (hr.below hb).at_ (k := kn) (by omega)
      have hrt := rev_take hjk.1 (by rw [hjk.2]; exact hbk.out)
      have HRT := hide hrt
      have hjl := hjk.1
      have htj : ts.length ≤ j := by rw [HT.out]; exact List.length_take_le _ _
      have HO := hide ho
      have HB := hide hb
      clear hr hrt hjk hbk ho hb
      go_wp2_with (at_builtin; refine halted ?_)
      refine go_on ?_
      refine wpList_append_bytes _ rfl (.tmp 18) (.tmp 23) 23 rfl w.heap.size 5 Try.underlying23 info_u8 _ _ _ ts rfl rfl (OwnB.alloc HO.out _) _ _ 1 _ [b] rfl rfl (Row.new wr #[byv b] 5 (0, 0)) (by simp; omega) (by have := HB.out.size; simp; omega) ?_
      intro ds A5 c5 w5 hds _ hown5 hg5 _
      have hb5 : Below w.heap.size w w5 := (OwnB.alloc HO.out _).below_grown (HB.out.alloc HB.out.size _) hg5 (Nat.le_refl _) (by have := HB.out.size; simp; omega)
      have HD : Hid (ds = key.reverse.take (j + 1)) := by show _ = _; rw [hds.out, HRT.out, HT.out]
      have hdl : ds.length ≤ 1000000000 := by rw [HD.out, List.length_take]; omega
      have hj1 : j + 1 ≤ key.length := by omega
      have HKV2 : Hid ((kn : Int) - 1 = (key.length : Int) - 1 - ((j + 1 : Nat) : Int)) := by show _ = _; have := HKV.out; omega
      clear hds hg5 HRT HT HO HB htj hjl
      go_wp2
      go_roundw
      case rel => exact ⟨j + 1, (kn : Int) - 1, A5, c5, ds, hj1, rfl, HKV2.out, by omega, by omega, rfl, hdl, HD.out, hown5, hb5⟩
      case measure => simp [intOf]
    · have hj2 : j = key.length := by have := HKV.out; omega
      have ht2 : ts = key.reverse := by rw [HT.out, hj2]; exact List.take_of_length_le (by rw [List.length_reverse]; omega)
      have hs2 := S2.out AB cB _ ts wr rfl ht2 ho.bytes
      have hs1 := S1.out wr hb
      have e2 : (addS 0 ts : Int) = G := by rw [ht2]; exact HGG.out
      rw [e2] at hs2
      rw [HKD.out] at hs1
      have HS1 := hide hs1
      have HS2 := hide hs2
      clear hs1 hs2 e2 ht2 hj2 ho hr
      go_wp2_with (go_at_call_of 24 (Value.slice A key.length c); refine halted ?_)
      refine go_on ?_
      refine HS1.out.mono ?_
      rintro e w1 ⟨rfl, rfl⟩
      go_wp2_with (go_at_call 24; refine halted ?_)
      refine go_on ?_
      refine HS2.out.mono ?_
      rintro e w1 ⟨rfl, rfl⟩
      have hmod0 : 0 ≤ (H + (i : Int) * (G + 1)) % (m : Int) := Int.emod_nonneg _ (by omega)
      have hmod1 : (H + (i : Int) * (G + 1)) % (m : Int) < (m : Int) := Int.emod_lt_of_pos _ (by omega)
      go_wp2
      go_ret
      exact ⟨by rw [HP.out]; rfl, hb⟩

/-- What a probe of a place wants: the byte, its bit. -/
theorem place_get {f : List UInt8} {j : Nat} (h2 : 2 ≤ f.length) (hj : j < 8 * (f.length - 1)) : ∃ (q r k1 : Nat) (b : UInt8) (Qt : Int), (j : Int) / 8 = (q : Int) ∧ (j : Int) % 8 = (r : Int) ∧ 1 + (q : Int) = (k1 : Int) ∧ k1 < f.length ∧ (k1 : Int) < (f.length : Int) ∧ r < 8 ∧ Hid (f[k1]? = some b) ∧
    (b.toNat : Int) / 2 ^ r = Qt ∧ 0 ≤ Qt ∧ min r 8 = r ∧ ((Hid (bitF f j = true) ∧ (Qt % 2 == 0) = false) ∨ (Hid (bitF f j = false) ∧ (Qt % 2 == 0) = true)) ∧ Hid (k1 = 1 + j / 8) ∧ Hid (r = j % 8) := by
  have hk : 1 + j / 8 < f.length := by omega
  have hr : j % 8 < 8 := Nat.mod_lt _ (by omega)
  obtain ⟨Qt, q, e1, e2, e3, e4, e5⟩ := shr_u8 f[1 + j / 8] hr
  refine ⟨j / 8, j % 8, 1 + j / 8, f[1 + j / 8], Qt, by omega, by omega, by omega, hk, by omega, hr, List.getElem?_eq_getElem hk, e1, e2, e5, ?_, rfl, rfl⟩
  have hg : f.getD (1 + j / 8) 0 = f[1 + j / 8] := by simp [List.getD, List.getElem?_eq_getElem hk]
  have hb : bitF f j = decide (f[1 + j / 8].toNat / 2 ^ (j % 8) % 2 = 1) := by unfold bitF bitB; rw [hg]
  have h3 := e3.out
  rw [e4.out] at hb
  rcases Nat.mod_two_eq_zero_or_one (f[1 + j / 8].toNat / 2 ^ (j % 8)) with h | h
  · right
    rw [e4.out] at h
    exact ⟨by show _ = _; rw [hb, h]; rfl, by rw [beq_iff_eq]; omega⟩
  · left
    rw [e4.out] at h
    exact ⟨by show _ = _; rw [hb, h]; rfl, by rw [beq_eq_false_iff_ne]; omega⟩

set_option maxRecDepth 100000 in
set_option maxHeartbeats 4000000 in
theorem rmay_any (A1 A2 : Option Addr) (c1 c2 : Nat) (f key : List UInt8) (w : World) (hr1 : Bytes w w.heap.size A1 f) (hr2 : Bytes w w.heap.size A2 key) (hl1 : f.length ≤ 1000000000) (hl2 : key.length ≤ 1000000000) :
    Calls Try.prog 13 #[.slice A1 f.length c1, .slice A2 key.length c2] w fun e w' => e = .returned (.bool (mayF f key)) ∧ Below w.heap.size w w' := by
  have hi := risf_any w A1 c1 f hr1 (by omega)
  cases hf : isF f with
  | false =>
    rw [hf] at hi
    have HI := hide hi
    have HM := hide (mayF_no (key := key) hf)
    clear hi hf hr1 hr2
    go_enter Try.func13, Try.ntmps13
    go_wp2_with (go_at_call 19; refine halted ?_)
    refine go_on ?_
    refine HI.out.mono ?_
    rintro e w1 ⟨rfl, rfl⟩
    go_wp2
    go_ret
    exact ⟨by rw [HM.out]; rfl, Below.refl _ _⟩
  | true =>
    obtain ⟨h9, x, hx, hhd, hx1, hx2⟩ := isF_len hf
    rw [hf] at hi
    have HI := hide hi
    have hm := mayF_yes (key := key) hf
    rw [hhd] at hm
    have HM := hide hm
    obtain ⟨ad, b, rfl, hadb, hb, hc⟩ := hr1.at_ (k := 0) (by omega)
    have hc0 : w.cell? ad = some (.int .u8 (b.toNat : Int)) := hc
    obtain rfl : b = x := by have := hb.out.symm.trans hx; injection this
    have hp := fun (W : World) (hb : Below w.heap.size w W) (i m : Nat) (hi : (i : Int) ≤ 255) (hm0 : 1 ≤ (m : Int)) (hm1 : (m : Int) ≤ 1000000000000) => probe_any A2 c2 key i m W ((hr2.below hb).more hb.size) hl2 hi hm0 hm1
    have HP := hide hp
    have hxi : (b.toNat : Int) ≤ 12 := by omega
    have hxi0 : 0 ≤ (b.toNat : Int) := by omega
    clear hi hf hx hhd hm hb hc hr2 hp hx1 hx2
    go_enter Try.func13, Try.ntmps13
    go_wp2_with (go_at_call 19; refine halted ?_)
    refine go_on ?_
    refine HI.out.mono ?_
    rintro e w1 ⟨rfl, rfl⟩
    go_wp2
    go_loopw [6] (fun i wr => ∃ k : Nat, (k : Int) ≤ (b.toNat : Int) ∧ i = .int .i64 (k : Int) ∧ Hid (allF f key k = true) ∧ Below w.heap.size w wr) (fun i _ => b.toNat - (intOf i).toNat)
    case atStart => exact ⟨0, hxi0, rfl, rfl, Below.refl _ _⟩
    case round =>
      obtain ⟨k, hk, rfl, HF, hb⟩ := hrel
      have hcr := (hb.cell hadb).trans hc0
      by_cases hlt : (k : Int) < (b.toNat : Int)
      · have hpos := pos_in (by omega : 2 ≤ f.length) key k
        obtain ⟨M, hM⟩ : ∃ M : Nat, M = 8 * (f.length - 1) := ⟨_, rfl⟩
        have hMi : 8 * ((f.length : Int) - 1) = (M : Int) := by omega
        have hpr := HP.out wr hb k M (by omega) (by omega) (by omega)
        have hs := allF_succ f key k
        rw [← hM] at hpos hs
        have hPl := hpos.1
        generalize posK key M k = j at *
        obtain ⟨q, r, k1, b1, Qt, e1, e2, e3, e4, e5, e6, hbk, e7, e8, e9, hway, -, -⟩ := place_get (by omega : 2 ≤ f.length) (by rw [← hM]; exact hPl)
        have HPR := hide hpr
        have HS := hide hs
        have hM3 : (M : Int) ≤ 1000000000000 := by omega
        have hPi : (j : Int) < (M : Int) := by omega
        obtain ⟨ad2, b2, ea, had2, hbk2, hc2⟩ := (hr1.below hb).at_ (k := k1) e4
        injection ea with ea
        subst ea
        obtain rfl : b2 = b1 := by have := hbk2.out.symm.trans hbk.out; injection this
        have hb2 := b2.toNat_lt
        clear hpr hs hpos hr1 hbk hbk2 hM hPl
        go_wp2_with (go_at_call 20; refine halted ?_)
        refine go_on ?_
        refine HPR.out.mono ?_
        rintro e w1 ⟨rfl, hb3⟩
        have hbw := hb.trans (hb3.mono hb.size)
        have hc3 := (hb3.cell (p := ad.add k1) (by rw [add_block]; exact Nat.lt_of_lt_of_le had2 hb.size)).trans hc2
        have hcr3 := (hb3.cell (p := ad) (Nat.lt_of_lt_of_le hadb hb.size)).trans hcr
        clear hb3 hc2 HPR
        rcases hway with ⟨hbt, htest⟩ | ⟨hbt, htest⟩
        · have HF2 : Hid (allF f key (k + 1) = true) := by show _ = _; rw [HS.out, HF.out, hbt.out]; rfl
          go_wp2
          go_roundw
          case rel => exact ⟨k + 1, by omega, by go_num, HF2.out, hbw⟩
          case measure => simp [intOf]; omega
        · have HF2 : Hid (mayF f key = false) := by
            show _ = _
            rw [HM.out]
            refine allF_false (i := k) (by omega) ?_
            have h1 := HS.out
            rw [HF.out, Bool.true_and] at h1
            have h2 := hbt.out
            have h3 : allF f key (k + 1) = false := by rw [h1]; exact h2
            have h4 := allF_succ f key k
            rw [HF.out, Bool.true_and] at h4
            rw [← h4]; exact h3
          go_wp2
          go_ret
          exact ⟨by rw [HF2.out]; rfl, hbw⟩
      · have hk2 : k = b.toNat := by omega
        have HF2 : Hid (mayF f key = true) := by show _ = _; rw [HM.out, ← hk2]; exact HF.out
        clear hk2 hr1
        go_wp2
        go_ret
        exact ⟨by rw [HF2.out]; rfl, hb⟩
end Go.Proofs.Ytnmgbhpmmbhgoaa
