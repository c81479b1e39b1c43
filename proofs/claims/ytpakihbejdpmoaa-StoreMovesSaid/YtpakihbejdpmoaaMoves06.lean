/-
  StoreMoves.
-/
import Derived.Test.YtpakihbejdpmoaaTwo06
namespace Go.Proofs.Ytpakihbejdpmoaa
open Go.RowKit Go.Maps
set_option linter.unusedVariables false

set_option maxRecDepth 100000 in
set_option maxHeartbeats 4000000 in
theorem storeMoves_any (fr to : ByteArray) (A1 A2 : Option Addr) (c1 c2 : Nat) (as1 bs1 : List UInt8) (w : World) (hr1 : Bytes w w.heap.size A1 as1) (hl1 : as1.length ≤ 9223372036854775807) (hr2 : Bytes w w.heap.size A2 bs1) (hl2 : bs1.length ≤ 9223372036854775807) (hnm : fr.size ≤ maxLen) (hnt : to.size ≤ maxLen) :
    Calls Try.prog 6 #[.agg #[.string fr, .string to], .slice A1 as1.length c1, .slice A2 bs1.length c2] w fun e w' => e = .returned (.bool true) ∧ Below w.heap.size w w' := by
  obtain ⟨n1, hn1⟩ : ∃ n, as1.length = n := ⟨_, rfl⟩
  obtain ⟨n2, hn2⟩ : ∃ n, bs1.length = n := ⟨_, rfl⟩
  rw [hn1] at hl1
  rw [hn2] at hl2
  rw [hn1, hn2]
  go_enter Try.func6, Try.ntmps6
  go_wp2_with (go_at_call 9; refine halted ?_)
  refine go_on ?_
  have hb0 : Below w.heap.size w (w.alloc (.cells #[.string fr, .string to] 45)) := (Below.refl _ _).alloc (Nat.le_refl _) _
  generalize w.alloc (.cells #[.string fr, .string to] 45) = u0 at *
  refine (awake_any u0).mono ?_
  rintro e w1 ⟨rfl, hb1⟩
  have HB1 := hide (hb0.trans (hb1.mono hb0.size))
  clear hb0
  have HR1 := hide hr1
  have HR2 := hide hr2
  clear hb1 hr1 hr2
  go_wp2_with (go_at_call 10; refine halted ?_)
  refine go_on ?_
  refine (new_ok w1 30000 (by omega) (by omega)).mono ?_
  rintro e w2 ⟨q, bn, bd, rfl, hs, hb2, ho⟩
  have HS := hide hs
  have HB2 := hide (HB1.out.trans (hb2.mono HB1.out.size))
  have HO := hide (fun k hk => Nat.le_trans HB1.out.size (ho k hk))
  clear hs hb2 ho
  by_cases hbig : 10000 < n1 ∨ 10000 < n2
  · have HN1 := hide hn1
    have HN2 := hide hn2
    clear hn1 hn2
    by_cases h1 : 10000 < n1
    · go_wp2
      go_ret
      exact ⟨rfl, HB2.out⟩
    · have h2 : 10000 < n2 := by omega
      go_wp2
      go_ret
      exact ⟨rfl, HB2.out⟩
  have h1 : ¬ 10000 < n1 := by omega
  have h2 : ¬ 10000 < n2 := by omega
  have HN1 := hide hn1
  have HN2 := hide hn2
  clear hbig hn1 hn2
  have H0 := hide hnm
  obtain ⟨s0, hs0⟩ : ∃ s, s = newS 30000 bn bd := ⟨_, rfl⟩
  have HE0 : Emp s0 := by rw [hs0]; exact ⟨rfl, rfl⟩
  have HT0 := hide (show Stn s0 0 from by rw [hs0]; exact ⟨rfl, rfl, rfl, Nat.le_refl _⟩)
  have HX0 := hide HE0
  have HZ0 := hide (Emp.size HE0)
  rw [← hs0] at HO HS
  have HD0 := hide (Did.refl HS.out)
  have hsn : s0.files = [] ∧ s0.now = [] ∧ s0.room = 30000 := by rw [hs0]; exact ⟨rfl, rfl, rfl⟩
  have HSN := hide hsn
  clear hsn HE0 hs0 H0 HS
  cases hbf : isNm fr with
  | false =>
    have HBfr := hide hbf
    clear hbf
    go_wp2_with (go_at_call 15; refine halted ?_)
    refine go_on ?_
    have hE : createE (meetE (isNm fr) s0.off s0.plan) (dFind s0.now fr.data.toList).isSome = 1 := by
      rw [HT0.out.2.1, HT0.out.2.2.1, HBfr.out, meetE_on]
      rfl
    refine (create_any q s0 w2 HD0.out.sm fr hnm (by have := HZ0.out.2.2; omega) (by have := HT0.out.2.2.2; omega) (by rw [HT0.out.2.1]; exact Nat.zero_le _)).mono ?_
    rintro e v1 ⟨rfl, s1, hd, hc⟩
    have HT1 := hide (HT0.out.cre hc)
    have HX1 := hide (show Emp s1 from ⟨(hc.no (by rw [hE]; decide)).1.trans HX0.out.1, (hc.no (by rw [hE]; decide)).2.1.trans HX0.out.2⟩)
    have HZ1 := hide (Emp.size HX1.out)
    have HD1 := hide (HD0.out.trans hd)
    rw [hE]
    clear hd hc hE
    go_wp2_with (go_at_call 18; refine halted ?_)
    refine go_on ?_
    have hE : appendE (meetE (isNm fr) s1.off s1.plan) (dFind s1.now fr.data.toList) 30000 (sizeS s1) n1 = 1 := by
      rw [HT1.out.2.1, HT1.out.2.2.1, HBfr.out, meetE_on]
      rfl
    have hB := HD1.out.below HO.out HB2.out.size
    have hBw := HB2.out.trans hB.1
    refine (append_any q s1 v1 HD1.out.sm fr hnm (by rw [HT1.out.2.1]; exact Nat.zero_le _) 30000 HT1.out.1 (by omega) (by have := HZ1.out.1; omega) (fun f hf => by have := HZ1.out.2.1 f hf; omega) A1 n1 c1 as1 HN1.out ((HR1.out.below hBw).more hBw.size) (by omega) (away_old HR1.out hB.2)).mono ?_
    rintro e v2 ⟨rfl, s2, hd, ha⟩
    rw [hE] at ha ⊢
    have HT2 := hide (HT1.out.app ha)
    have HX2 := hide (show Emp s2 from ⟨(ha.2.2.2.2.2.2.2 (by decide)).trans HX1.out.1, ha.2.2.1.trans HX1.out.2⟩)
    have HZ2 := hide (Emp.size HX2.out)
    have HD2 := hide (HD1.out.trans hd)
    clear hd ha hE hB hBw
    cases hbt : isNm to with
    | false =>
      have HBto := hide hbt
      clear hbt
      go_wp2_with (go_at_call 15; refine halted ?_)
      refine go_on ?_
      have hE : createE (meetE (isNm to) s2.off s2.plan) (dFind s2.now to.data.toList).isSome = 1 := by
        rw [HT2.out.2.1, HT2.out.2.2.1, HBto.out, meetE_on]
        rfl
      refine (create_any q s2 v2 HD2.out.sm to hnt (by have := HZ2.out.2.2; omega) (by have := HT2.out.2.2.2; omega) (by rw [HT2.out.2.1]; exact Nat.zero_le _)).mono ?_
      rintro e v3 ⟨rfl, s3, hd, hc⟩
      have HT3 := hide (HT2.out.cre hc)
      have HX3 := hide (show Emp s3 from ⟨(hc.no (by rw [hE]; decide)).1.trans HX2.out.1, (hc.no (by rw [hE]; decide)).2.1.trans HX2.out.2⟩)
      have HZ3 := hide (Emp.size HX3.out)
      have HD3 := hide (HD2.out.trans hd)
      rw [hE]
      clear hd hc hE
      go_wp2_with (go_at_call 18; refine halted ?_)
      refine go_on ?_
      have hB := HD3.out.below HO.out HB2.out.size
      have hBw := HB2.out.trans hB.1
      refine (append_any q s3 v3 HD3.out.sm to hnt (by rw [HT3.out.2.1]; exact Nat.zero_le _) 30000 HT3.out.1 (by omega) (by have := HZ3.out.1; omega) (fun f hf => by have := HZ3.out.2.1 f hf; omega) A2 n2 c2 bs1 HN2.out ((HR2.out.below hBw).more hBw.size) (by omega) (away_old HR2.out hB.2)).mono ?_
      rintro e v4 ⟨rfl, s4, hd, ha⟩
      have HD4 := hide (HD3.out.trans hd)
      have HBW := hide (HB2.out.trans (HD4.out.below HO.out HB2.out.size).1)
      clear hd ha hB hBw
      generalize appendE (meetE (isNm to) s3.off s3.plan) (dFind s3.now to.data.toList) 30000 (sizeS s3) n2 = E at *
      go_wp2
      go_ret
      exact ⟨rfl, HBW.out⟩
    | true =>
      have HBto := hide hbt
      clear hbt
      go_wp2_with (go_at_call 15; refine halted ?_)
      refine go_on ?_
      have hE : createE (meetE (isNm to) s2.off s2.plan) (dFind s2.now to.data.toList).isSome = 0 := by
        rw [HT2.out.2.1, HT2.out.2.2.1, HBto.out, meetE_on]
        rw [HX2.out.2]; rfl
      refine (create_any q s2 v2 HD2.out.sm to hnt (by have := HZ2.out.2.2; omega) (by have := HT2.out.2.2.2; omega) (by rw [HT2.out.2.1]; exact Nat.zero_le _)).mono ?_
      rintro e v3 ⟨rfl, s3, hd, hc⟩
      have HT3 := hide (HT2.out.cre hc)
      have HX3 := hide (One.made hc HX2.out.1 HX2.out.2 hE)
      have HZ3 := hide (One.szn HX3.out)
      have HD3 := hide (HD2.out.trans hd)
      rw [hE]
      clear hd hc hE
      simp only [List.length_nil] at HZ3
      go_wp2_with (go_at_call 18; refine halted ?_)
      refine go_on ?_
      have hB := HD3.out.below HO.out HB2.out.size
      have hBw := HB2.out.trans hB.1
      refine (append_any q s3 v3 HD3.out.sm to hnt (by rw [HT3.out.2.1]; exact Nat.zero_le _) 30000 HT3.out.1 (by omega) (by have := HZ3.out.1; omega) (fun f hf => by have := HZ3.out.2.1 f hf; omega) A2 n2 c2 bs1 HN2.out ((HR2.out.below hBw).more hBw.size) (by omega) (away_old HR2.out hB.2)).mono ?_
      rintro e v4 ⟨rfl, s4, hd, ha⟩
      have HD4 := hide (HD3.out.trans hd)
      have HBW := hide (HB2.out.trans (HD4.out.below HO.out HB2.out.size).1)
      clear hd ha hB hBw
      generalize appendE (meetE (isNm to) s3.off s3.plan) (dFind s3.now to.data.toList) 30000 (sizeS s3) n2 = E at *
      go_wp2
      go_ret
      exact ⟨rfl, HBW.out⟩
  | true =>
    have HBfr := hide hbf
    clear hbf
    go_wp2_with (go_at_call 15; refine halted ?_)
    refine go_on ?_
    have hE : createE (meetE (isNm fr) s0.off s0.plan) (dFind s0.now fr.data.toList).isSome = 0 := by
      rw [HT0.out.2.1, HT0.out.2.2.1, HBfr.out, meetE_on]
      rw [HX0.out.2]; rfl
    refine (create_any q s0 w2 HD0.out.sm fr hnm (by have := HZ0.out.2.2; omega) (by have := HT0.out.2.2.2; omega) (by rw [HT0.out.2.1]; exact Nat.zero_le _)).mono ?_
    rintro e v1 ⟨rfl, s1, hd, hc⟩
    have HT1 := hide (HT0.out.cre hc)
    have HX1 := hide (show One s1 30000 fr [] from by have := One.made hc HX0.out.1 HX0.out.2 hE; rw [HSN.out.2.2] at this; exact this)
    have HZ1 := hide (show Szn s1 0 from One.szn HX1.out)
    have HD1 := hide (HD0.out.trans hd)
    rw [hE]
    clear hd hc hE
    go_wp2_with (go_at_call 18; refine halted ?_)
    refine go_on ?_
    have hE : appendE (meetE (isNm fr) s1.off s1.plan) (dFind s1.now fr.data.toList) 30000 (sizeS s1) n1 = 0 := by
      rw [HT1.out.2.1, HT1.out.2.2.1, HBfr.out, meetE_on]
      obtain ⟨q', hq'⟩ := HX1.out.find
      rw [hq', HX1.out.size]
      show appE 30000 0 n1 = 0
      unfold appE
      rw [if_neg (by omega)]
    have hB := HD1.out.below HO.out HB2.out.size
    have hBw := HB2.out.trans hB.1
    refine (append_any q s1 v1 HD1.out.sm fr hnm (by rw [HT1.out.2.1]; exact Nat.zero_le _) 30000 HT1.out.1 (by omega) (by have := HZ1.out.1; omega) (fun f hf => by have := HZ1.out.2.1 f hf; omega) A1 n1 c1 as1 HN1.out ((HR1.out.below hBw).more hBw.size) (by omega) (away_old HR1.out hB.2)).mono ?_
    rintro e v2 ⟨rfl, s2, hd, ha⟩
    rw [hE] at ha ⊢
    have HT2 := hide (HT1.out.app ha)
    have HX2 := hide (show One s2 30000 fr as1 from (HX1.out.put ha).1 rfl)
    have HZ2 := hide (show Szn s2 n1 from by have := One.szn HX2.out; rw [HN1.out] at this; exact this)
    have HD2 := hide (HD1.out.trans hd)
    clear hd ha hE hB hBw
    by_cases hne : fr = to
    · subst hne
      go_wp2_with (go_at_call 15; refine halted ?_)
      refine go_on ?_
      have hE : createE (meetE (isNm fr) s2.off s2.plan) (dFind s2.now fr.data.toList).isSome = 5 := by
        rw [HT2.out.2.1, HT2.out.2.2.1, HBfr.out, meetE_on]
        obtain ⟨q', hq'⟩ := HX2.out.find
        rw [hq']
        rfl
      refine (create_any q s2 v2 HD2.out.sm fr hnt (by have := HZ2.out.2.2; omega) (by have := HT2.out.2.2.2; omega) (by rw [HT2.out.2.1]; exact Nat.zero_le _)).mono ?_
      rintro e v3 ⟨rfl, s3, hd, hc⟩
      have HT3 := hide (HT2.out.cre hc)
      have HX3 := hide (HX2.out.not hc (by rw [hE]; decide))
      have HZ3 := hide (show Szn s3 n1 from by have := One.szn HX3.out; rw [HN1.out] at this; exact this)
      have HD3 := hide (HD2.out.trans hd)
      rw [hE]
      clear hd hc hE
      go_wp2_with (go_at_call 18; refine halted ?_)
      refine go_on ?_
      have hB := HD3.out.below HO.out HB2.out.size
      have hBw := HB2.out.trans hB.1
      refine (append_any q s3 v3 HD3.out.sm fr hnt (by rw [HT3.out.2.1]; exact Nat.zero_le _) 30000 HT3.out.1 (by omega) (by have := HZ3.out.1; omega) (fun f hf => by have := HZ3.out.2.1 f hf; omega) A2 n2 c2 bs1 HN2.out ((HR2.out.below hBw).more hBw.size) (by omega) (away_old HR2.out hB.2)).mono ?_
      rintro e v4 ⟨rfl, s4, hd, ha⟩
      have HD4 := hide (HD3.out.trans hd)
      have HBW := hide (HB2.out.trans (HD4.out.below HO.out HB2.out.size).1)
      clear hd ha hB hBw
      generalize appendE (meetE (isNm fr) s3.off s3.plan) (dFind s3.now fr.data.toList) 30000 (sizeS s3) n2 = E at *
      go_wp2
      go_ret
      exact ⟨rfl, HBW.out⟩
    have HNE := hide hne
    have e9 : (fr.toList == to.toList) = false := by
      rw [beq_eq_false_iff_ne, ByteArray.toList_eq, ByteArray.toList_eq]
      exact data_ne hne
    clear hne
    cases hbt : isNm to with
    | false =>
      have HBto := hide hbt
      clear hbt
      go_wp2_with (go_at_call 15; refine halted ?_)
      refine go_on ?_
      have hE : createE (meetE (isNm to) s2.off s2.plan) (dFind s2.now to.data.toList).isSome = 1 := by
        rw [HT2.out.2.1, HT2.out.2.2.1, HBto.out, meetE_on]
        rfl
      refine (create_any q s2 v2 HD2.out.sm to hnt (by have := HZ2.out.2.2; omega) (by have := HT2.out.2.2.2; omega) (by rw [HT2.out.2.1]; exact Nat.zero_le _)).mono ?_
      rintro e v3 ⟨rfl, s3, hd, hc⟩
      have HT3 := hide (HT2.out.cre hc)
      have HX3 := hide (HX2.out.not hc (by rw [hE]; decide))
      have HZ3 := hide (show Szn s3 n1 from by have := One.szn HX3.out; rw [HN1.out] at this; exact this)
      have HD3 := hide (HD2.out.trans hd)
      rw [hE]
      clear hd hc hE
      go_wp2_with (go_at_call 18; refine halted ?_)
      refine go_on ?_
      have hB := HD3.out.below HO.out HB2.out.size
      have hBw := HB2.out.trans hB.1
      refine (append_any q s3 v3 HD3.out.sm to hnt (by rw [HT3.out.2.1]; exact Nat.zero_le _) 30000 HT3.out.1 (by omega) (by have := HZ3.out.1; omega) (fun f hf => by have := HZ3.out.2.1 f hf; omega) A2 n2 c2 bs1 HN2.out ((HR2.out.below hBw).more hBw.size) (by omega) (away_old HR2.out hB.2)).mono ?_
      rintro e v4 ⟨rfl, s4, hd, ha⟩
      have HD4 := hide (HD3.out.trans hd)
      have HBW := hide (HB2.out.trans (HD4.out.below HO.out HB2.out.size).1)
      clear hd ha hB hBw
      generalize appendE (meetE (isNm to) s3.off s3.plan) (dFind s3.now to.data.toList) 30000 (sizeS s3) n2 = E at *
      go_wp2
      go_ret
      exact ⟨rfl, HBW.out⟩
    | true =>
      have HBto := hide hbt
      clear hbt
      go_wp2_with (go_at_call 15; refine halted ?_)
      refine go_on ?_
      have hE : createE (meetE (isNm to) s2.off s2.plan) (dFind s2.now to.data.toList).isSome = 0 := by
        rw [HT2.out.2.1, HT2.out.2.2.1, HBto.out, meetE_on]
        obtain ⟨_, f, _, _, hnow⟩ := HX2.out
        have hd1 : ¬ fr.data = to.data := fun e => data_ne HNE.out (by rw [e])
        rw [hnow]
        simp [dFind, hd1, createE]
      refine (create_any q s2 v2 HD2.out.sm to hnt (by have := HZ2.out.2.2; omega) (by have := HT2.out.2.2.2; omega) (by rw [HT2.out.2.1]; exact Nat.zero_le _)).mono ?_
      rintro e v3 ⟨rfl, s3, hd, hc⟩
      have HT3 := hide (HT2.out.cre hc)
      have HX3 := hide (Two.made HNE.out HX2.out hc hE)
      have HZ3 := hide (show Szn s3 n1 from by have := Two.szn HX3.out HNE.out; rw [HN1.out] at this; simpa using this)
      have HD3 := hide (HD2.out.trans hd)
      rw [hE]
      clear hd hc hE
      go_wp2_with (go_at_call 18; refine halted ?_)
      refine go_on ?_
      have hE : appendE (meetE (isNm to) s3.off s3.plan) (dFind s3.now to.data.toList) 30000 (sizeS s3) n2 = 0 := by
        rw [HT3.out.2.1, HT3.out.2.2.1, HBto.out, meetE_on]
        obtain ⟨f1, f2, _, _, _, _, hh⟩ := HX3.out.find
        obtain ⟨_, hf2, hsz, _⟩ := hh HNE.out
        rw [hf2, hsz, HN1.out]
        show appE 30000 (n1 + 0) n2 = 0
        unfold appE
        rw [if_neg (by omega)]
      have hB := HD3.out.below HO.out HB2.out.size
      have hBw := HB2.out.trans hB.1
      refine (append_any q s3 v3 HD3.out.sm to hnt (by rw [HT3.out.2.1]; exact Nat.zero_le _) 30000 HT3.out.1 (by omega) (by have := HZ3.out.1; omega) (fun f hf => by have := HZ3.out.2.1 f hf; omega) A2 n2 c2 bs1 HN2.out ((HR2.out.below hBw).more hBw.size) (by omega) (away_old HR2.out hB.2)).mono ?_
      rintro e v4 ⟨rfl, s4, hd, ha⟩
      rw [hE] at ha ⊢
      have HT4 := hide (HT3.out.app ha)
      have HX4 := hide (show Two s4 fr to as1 bs1 from by have := Two.put HNE.out HX3.out ha; simpa using this)
      have HZ4 := hide (show Szn s4 (n1 + n2) from by have := Two.szn HX4.out HNE.out; rw [HN1.out, HN2.out] at this; exact this)
      have HD4 := hide (HD3.out.trans hd)
      clear hd ha hE hB hBw
      go_wp2_with (go_at_call 20; refine halted ?_)
      refine go_on ?_
      have hE : renE (meetE (isNm to && isNm fr) s4.off s4.plan) (dFind s4.now fr.data.toList) = 0 := by
        obtain ⟨f1, f2, _, _, _, _, hh⟩ := HX4.out.find
        obtain ⟨hf1, _⟩ := hh HNE.out
        rw [HT4.out.2.1, HT4.out.2.2.1, HBto.out, HBfr.out, hf1]
        rfl
      refine (rename_any q s4 v4 HD4.out.sm fr to hnm hnt (by rw [HT4.out.2.1]; exact Nat.zero_le _) (by have := HZ4.out.2.2; omega) (by have := HT4.out.2.2.2; omega)).mono ?_
      rintro e v5 ⟨rfl, s5, hd, hrt⟩
      rw [hE] at hrt ⊢
      have HQ := hide (Two.renamed HNE.out HX4.out (by rw [HT4.out.2.1, HT4.out.2.2.1, meetE_on]) hrt)
      have HD5 := hide (HD4.out.trans hd)
      clear hd hrt hE
      go_wp2_with (go_at_call 21; refine halted ?_)
      refine go_on ?_
      refine (read_any q s5 v5 HD5.out.sm to hnt (fun f hf => by have := HQ.out.2.2.2.2 f hf; rw [HN1.out, HN2.out] at this; omega)).mono ?_
      have hE : readE s5.off (isNm to) (dFind s5.now to.data.toList) = 0 := by
        obtain ⟨h1, ⟨qf, h2, _⟩, _⟩ := HQ.out
        rw [h1, HBto.out, h2]
        rfl
      rw [hE]
      rintro e v6 ⟨A6, c6, bs6, rfl, hown6, hb6, h06, _⟩
      have hbs : bs6 = as1 := by
        obtain ⟨f, hf, hfd, rfl⟩ := h06 rfl
        obtain ⟨_, ⟨qf, h2, h3⟩, _⟩ := HQ.out
        rw [h2] at hfd
        injection hfd with hfd
        exact h3 f hf hfd.symm
      subst hbs
      rw [HN1.out]
      have HB6 := hide hown6.bytes
      have HD6 := hide (HD5.out.trans (Did.call HD5.out.sm hb6))
      clear hE hown6 hb6 h06
      go_wp2_with (go_at_call 21; refine halted ?_)
      refine go_on ?_
      refine (read_any q s5 v6 HD6.out.sm fr hnm (fun f hf => by have := HQ.out.2.2.2.2 f hf; rw [HN1.out, HN2.out] at this; omega)).mono ?_
      have hE : readE s5.off (isNm fr) (dFind s5.now fr.data.toList) = 4 := by
        obtain ⟨h1, _, h2, _⟩ := HQ.out
        rw [h1, HBfr.out, h2]
        rfl
      rw [hE]
      rintro e v7 ⟨A7, c7, bs7, rfl, _, hb7, _, _⟩
      have HD7 := hide (HD6.out.trans (Did.call HD6.out.sm hb7))
      have HB7 := hide ((HB6.out.below hb7).more hb7.size)
      have hBx := HD7.out.below HO.out HB2.out.size
      have hBw := HB2.out.trans hBx.1
      have HBW := hide hBw
      have HS7 := hide ((HR1.out.below hBw).more hBw.size)
      clear hE hb7 hBx hBw
      have hsA : ∀ W : World, Below v7.heap.size v7 W → (convert 33 9 (.slice A6 n1 c6)).run Try.prog W = .ok (.string (strB bs6)) W := fun W hW => run_str Try.underlying33 Try.underlying5 Try.underlying9 (HB7.out.below hW) HN1.out
      have hsB : ∀ W : World, Below v7.heap.size v7 W → (convert 33 9 (.slice A1 n1 c1)).run Try.prog W = .ok (.string (strB bs6)) W := fun W hW => run_str Try.underlying33 Try.underlying5 Try.underlying9 (HS7.out.below hW) HN1.out
      have HSZ := hide fun W (hb : Below v7.heap.size v7 W) => size_any q s5 W (HD7.out.sm.call hb) (by rw [HQ.out.2.2.2.1, HN1.out]; omega)
      rw [HQ.out.2.2.2.1, HN1.out] at HSZ
      have q1 := hsA v7 (Below.refl _ _)
      have q2 := hsB v7 (Below.refl _ _)
      go_wp2_with (go_at_call 17; refine halted ?_)
      refine go_on ?_
      refine (HSZ.out _ (Below.refl _ _)).mono ?_
      rintro e v8 ⟨rfl, hb8⟩
      have HB8 := hide (HBW.out.trans (hb8.mono HBW.out.size))
      clear hb8 hsA hsB q1 q2 HSZ
      go_wp2
      go_ret
      exact ⟨rfl, HB8.out⟩
end Go.Proofs.Ytpakihbejdpmoaa
