/-
  StorePlans.
-/
import Derived.Test.YtpakihbejdpmoaaPlan06
namespace Go.Proofs.Ytpakihbejdpmoaa
open Go.RowKit Go.Maps
set_option linter.unusedVariables false

/-- The loop's state. -/
def PlnRel (q bn bd : Nat) (bs : List UInt8) (nm : ByteArray) (w2 : World) (o i : Value) (wr : World) : Prop := ∃ (k : Nat) (ob : Bool) (s : SS) (ds : List UInt8), k ≤ bs.length + 3 ∧ i = .int .i64 (k : Int) ∧ o = .bool ob ∧ Did q (newS 10000 bn bd) w2 s wr ∧ One s 10000 nm ds ∧ ds.length ≤ k ∧ s.off = ob ∧ (ob = false → s.plan = bs.drop k) ∧ s.plan.length ≤ 500
theorem plan_put {s : SS} {nm : ByteArray} {ds : List UInt8} (h : One s 10000 nm ds) (hd : ds.length ≤ 600) : appendE (meetE true s.off s.plan) (dFind s.now nm.data.toList) 10000 (sizeS s) 1 = (meetE true s.off s.plan).1 := by
  obtain ⟨q, hq⟩ := h.find
  rw [hq, h.size]
  unfold appendE
  by_cases h0 : (meetE true s.off s.plan).1 ≠ 0
  · rw [if_pos h0]
  · rw [if_neg h0]
    have : (meetE true s.off s.plan).1 = 0 := by simpa using h0
    rw [this]
    show appE 10000 ds.length 1 = 0
    unfold appE
    rw [if_neg (by omega)]
theorem Did.size {q : Nat} {s s' : SS} {w w' : World} (h : Did q s w s' w') : w.heap.size ≤ w'.heap.size := h.kept.size

set_option maxRecDepth 100000 in
set_option maxHeartbeats 4000000 in
theorem storePlans_any (A : Option Addr) (c : Nat) (bs : List UInt8) (nm : ByteArray) (w : World) (hr : Bytes w w.heap.size A bs) (hl : bs.length ≤ 9223372036854775807) (hnm : nm.size ≤ maxLen) :
    Calls Try.prog 5 #[.slice A bs.length c, .string nm] w fun e w' => e = .returned (.bool true) ∧ Below w.heap.size w w' := by
  obtain ⟨n, hn⟩ : ∃ n, bs.length = n := ⟨_, rfl⟩
  rw [hn] at hl ⊢
  go_enter Try.func5, Try.ntmps5
  go_wp2_with (go_at_call 9; refine halted ?_)
  refine go_on ?_
  refine (awake_any w).mono ?_
  rintro e w1 ⟨rfl, hb1⟩
  have HB1 := hide hb1
  have HR := hide hr
  clear hb1 hr
  go_wp2_with (go_at_call 10; refine halted ?_)
  refine go_on ?_
  refine (new_ok w1 10000 (by omega) (by omega)).mono ?_
  rintro e w2 ⟨q, bn, bd, rfl, hs, hb2, ho⟩
  have HS := hide hs
  have HB2 := hide (HB1.out.trans (hb2.mono HB1.out.size))
  have HO := hide (fun k hk => Nat.le_trans HB1.out.size (ho k hk))
  clear hs hb2 ho
  go_wp2_with (go_at_call 15; refine halted ?_)
  refine go_on ?_
  refine (create_any q _ w2 HS.out nm hnm (Nat.zero_le _) (Nat.zero_le _) (Nat.zero_le _)).mono ?_
  rintro e w3 ⟨rfl, s3, hd, hc⟩
  have HD := hide hd
  have HC := hide hc
  clear hd hc
  cases hnb : isNm nm with
  | false =>
    have hE : createE (meetE false (newS 10000 bn bd).off (newS 10000 bn bd).plan) (dFind (newS 10000 bn bd).now nm.data.toList).isSome = 1 := rfl
    rw [hE]
    have HB3 := hide (HB2.out.trans ((HD.out.kept.below HO.out HB2.out.size)))
    clear hE
    go_wp2
    go_ret
    exact ⟨rfl, HB3.out⟩
  | true =>
    have hE : createE (meetE true (newS 10000 bn bd).off (newS 10000 bn bd).plan) (dFind (newS 10000 bn bd).now nm.data.toList).isSome = 0 := rfl
    have hc := HC.out
    rw [hnb] at hc
    have hone := One.made hc rfl rfl hE
    rw [hE]
    have HB3 := hide (HB2.out.trans ((HD.out.kept.below HO.out HB2.out.size)))
    by_cases hlen : 500 < n
    · clear hE hc hone
      go_wp2
      go_ret
      exact ⟨rfl, HB3.out⟩
    · have hof : s3.off = false := hc.2.2.2.1
      have HOF := hide hof
      have HO1 := hide hone
      have HN := hide hnb
      have HOO := hide (HD.out.own)
      have hPL := plan_any q s3 w3 HD.out.sm A w.heap.size c n bs hn (HR.out.below HB3.out) HB3.out.size (by omega)
      have HPL := hide hPL
      clear hE hc hone hof hnb hPL
      go_wp2_with (go_at_call 16; refine halted ?_)
      refine go_on ?_
      refine HPL.out.mono ?_
      clear HPL
      rintro e w4 ⟨rfl, AP, cP, hd4⟩
      have HD4 := hide (HD.out.trans hd4)
      clear hd4
      -- LOOP
      have H0 := hide (show PlnRel q bn bd bs nm w2 (.bool false) (.int .i64 0) w4 from ⟨0, false, _, [], Nat.zero_le _, rfl, rfl, HD4.out, HO1.out, Nat.le_refl _, HOF.out, fun _ => rfl, by show bs.length ≤ 500; omega⟩)
      have HNZ := hide hnm
      have HLN := hide hn
      clear hn hnm
      go_wp2
      go_loopw [9, 10] (fun o i wr => PlnRel q bn bd bs nm w2 o i wr) (fun _ i _ => n + 3 - (intOf i).toNat)
      case atStart => exact H0.out
      case round =>
        obtain ⟨k, ob, s, ds, hk, rfl, rfl, hdr, hon, hdl, hof, hpl, hpn⟩ := hrel
        by_cases hlt : k < n + 3
        · have HDR := hide hdr
          have HON := hide hon
          have HDL := hide (show ds.length ≤ 503 by omega)
          have HDK := hide hdl
          have HPN := hide hpn
          have HOF1 := hide hof
          have HPL := hide hpl
          have HB4 := hide (HB2.out.trans (hdr.kept.below HO.out HB2.out.size))
          clear hdr hon hdl hof hpl hpn hk
          by_cases hkn : k < n
          · obtain ⟨ad, x, hA0, hadb, hx, hcx⟩ := (HR.out.below HB4.out).at_ (k := k) (by rw [HLN.out]; exact hkn)
            have j1 : (k : Int) < (n : Int) := by omega
            have j2 : (k : Int) < (n : Int) + 3 := by omega
            have hdrop : bs.drop k = x :: bs.drop (k + 1) := by
              have h1 := List.drop_eq_getElem_cons (l := bs) (i := k) (by rw [HLN.out]; exact hkn)
              have h2 := hx.out
              rw [List.getElem?_eq_getElem (by rw [HLN.out]; exact hkn)] at h2
              injection h2 with h2
              rw [h1, h2]
            have HDP := hide hdrop
            subst hA0
            clear hdrop hadb hx
            by_cases h2 : x = 2
            · have e2 : ((x.toNat : Int) == 2) = true := by rw [h2]; rfl
              have HX := hide h2
              clear h2
              obtain ⟨pl, HM⟩ : ∃ pl, Hid (meetE true s.off s.plan = (8, pl, true) ∧ (true = false → pl = bs.drop (k + 1)) ∧ pl.length ≤ 500) := by
                have hl := HPN.out
                cases hob : ob with
                | true =>
                  refine ⟨s.plan, ?_, (fun h => by cases h), hl⟩
                  rw [HOF1.out, hob]; rfl
                | false =>
                  have hp := HPL.out hob
                  rw [hp] at hl
                  refine ⟨bs.drop (k + 1), ?_, (fun h => by cases h), by simp at hl ⊢; omega⟩
                  rw [HOF1.out, hob, hp, HDP.out, HX.out]; rfl
              have HZ0 := hide (size_any q s wr HDR.out.sm (by rw [HON.out.size]; have := HDL.out; omega))
              go_wp2_with (go_at_call 17; refine halted ?_)
              refine go_on ?_
              refine HZ0.out.mono ?_
              clear HZ0
              rintro e w5 ⟨rfl, hb5⟩
              rw [HON.out.size]
              have HD5 := hide (HDR.out.trans (Did.call HDR.out.sm hb5))
              clear hb5
              go_wp2_with (go_at_call 18; refine halted ?_)
              refine go_on ?_
              have hA : Below w5.heap.size w5 (w5.alloc (.cells #[.int .u8 1] 5)) := (Below.refl _ _).alloc (Nat.le_refl _) _
              have hr1 : Bytes (w5.alloc (.cells #[.int .u8 1] 5)) (w5.alloc (.cells #[.int .u8 1] 5)).heap.size (some ⟨w5.heap.size, 0, none⟩) [1] := (OwnB.lit (base := 0) w5 5 (bs := [1]) (Nat.zero_le _) (by decide)).bytes
              have haw : Away (s.own q) (some ⟨w5.heap.size, 0, none⟩) [1] := by
                intro _ a ha h
                injection ha with ha
                subst ha
                exact absurd (HD5.out.sm.lt h) (Nat.lt_irrefl _)
              generalize w5.alloc (.cells #[.int .u8 1] 5) = u at *
              refine (append_any q s u (HD5.out.sm.call hA) nm HNZ.out (by have := HPN.out; omega) 10000 HON.out.1 (by omega) (by rw [HON.out.size]; have := HDL.out; omega) (fun f hf => by rw [HON.out.len f hf]; have := HDL.out; omega) _ 1 1 [1] rfl hr1 (by omega) haw).mono ?_
              rintro e w6 ⟨rfl, s6, hd6, ha3⟩
              rw [HN.out, plan_put HON.out (by have := HDL.out; omega), HM.out.1] at ha3 ⊢
              have HD6 := hide ((HD5.out.trans (Did.call HD5.out.sm hA)).trans hd6)
              have hone := HON.out
              have HO6 := hide (show One s6 10000 nm ds from ((hone.put ha3).2 (show (8 : Int) ≠ 0 by decide)))
              have HF6 := hide (show s6.off = true from ha3.2.2.2.2.2.1)
              have HP6 := hide (ha3.2.2.2.2.1)
              clear hA hr1 haw hd6 ha3 hone
              have HSZ := hide fun W (hb : Below w6.heap.size w6 W) => size_any q s6 W (HD6.out.sm.call hb) (by rw [HO6.out.size]; have := HDL.out; simp; omega)
              have HOFF := hide fun W (hb : Below w6.heap.size w6 W) => off_any q s6 W (HD6.out.sm.call hb)
              rw [HO6.out.size] at HSZ
              rw [HF6.out] at HOFF
              go_wp2_with (go_at_call 17; refine halted ?_)
              refine go_on ?_
              refine (HSZ.out _ (Below.refl _ _)).mono ?_
              rintro e w7 ⟨rfl, hb7⟩
              have HB7 := hide hb7
              clear hb7
              go_wp2_with (go_at_call 19; refine halted ?_)
              refine go_on ?_
              refine (HOFF.out _ HB7.out).mono ?_
              rintro e w8 ⟨rfl, rfl⟩
              have HREL := hide (show PlnRel q bn bd bs nm w2 (.bool true) (.int .i64 ((k : Int) + 1)) w8 from ⟨k + 1, true, s6, ds, by rw [HLN.out]; omega, by simp, rfl, HD6.out.trans (Did.call HD6.out.sm HB7.out), HO6.out, by have := HDK.out; omega, HF6.out, (fun h => by cases h), by rw [HP6.out]; exact HM.out.2.2⟩)
              clear HSZ HOFF
              go_wp2
              case roundEnd => exact ⟨HREL.out, by simp [intOf]; omega⟩
            · have e2 : ((x.toNat : Int) == 2) = false := by rw [beq_eq_false_iff_ne]; intro h; exact h2 (UInt8.toNat_inj.1 (by rw [show (2 : UInt8).toNat = 2 from rfl]; omega))
              have HX := hide h2
              clear h2
              cases ob with
              | true =>
                obtain ⟨pl, HM⟩ : ∃ pl, Hid (meetE true s.off s.plan = (8, pl, true) ∧ (true = false → pl = bs.drop (k + 1)) ∧ pl.length ≤ 500) := by
                  refine ⟨s.plan, ?_, (fun h => by cases h), HPN.out⟩
                  rw [HOF1.out]; rfl
                have HZ0 := hide (size_any q s wr HDR.out.sm (by rw [HON.out.size]; have := HDL.out; omega))
                go_wp2_with (go_at_call 17; refine halted ?_)
                refine go_on ?_
                refine HZ0.out.mono ?_
                clear HZ0
                rintro e w5 ⟨rfl, hb5⟩
                rw [HON.out.size]
                have HD5 := hide (HDR.out.trans (Did.call HDR.out.sm hb5))
                clear hb5
                go_wp2_with (go_at_call 18; refine halted ?_)
                refine go_on ?_
                have hA : Below w5.heap.size w5 (w5.alloc (.cells #[.int .u8 1] 5)) := (Below.refl _ _).alloc (Nat.le_refl _) _
                have hr1 : Bytes (w5.alloc (.cells #[.int .u8 1] 5)) (w5.alloc (.cells #[.int .u8 1] 5)).heap.size (some ⟨w5.heap.size, 0, none⟩) [1] := (OwnB.lit (base := 0) w5 5 (bs := [1]) (Nat.zero_le _) (by decide)).bytes
                have haw : Away (s.own q) (some ⟨w5.heap.size, 0, none⟩) [1] := by
                  intro _ a ha h
                  injection ha with ha
                  subst ha
                  exact absurd (HD5.out.sm.lt h) (Nat.lt_irrefl _)
                generalize w5.alloc (.cells #[.int .u8 1] 5) = u at *
                refine (append_any q s u (HD5.out.sm.call hA) nm HNZ.out (by have := HPN.out; omega) 10000 HON.out.1 (by omega) (by rw [HON.out.size]; have := HDL.out; omega) (fun f hf => by rw [HON.out.len f hf]; have := HDL.out; omega) _ 1 1 [1] rfl hr1 (by omega) haw).mono ?_
                rintro e w6 ⟨rfl, s6, hd6, ha3⟩
                rw [HN.out, plan_put HON.out (by have := HDL.out; omega), HM.out.1] at ha3 ⊢
                have HD6 := hide ((HD5.out.trans (Did.call HD5.out.sm hA)).trans hd6)
                have hone := HON.out
                have HO6 := hide (show One s6 10000 nm ds from ((hone.put ha3).2 (show (8 : Int) ≠ 0 by decide)))
                have HF6 := hide (show s6.off = true from ha3.2.2.2.2.2.1)
                have HP6 := hide (ha3.2.2.2.2.1)
                clear hA hr1 haw hd6 ha3 hone
                have HSZ := hide fun W (hb : Below w6.heap.size w6 W) => size_any q s6 W (HD6.out.sm.call hb) (by rw [HO6.out.size]; have := HDL.out; simp; omega)
                have HOFF := hide fun W (hb : Below w6.heap.size w6 W) => off_any q s6 W (HD6.out.sm.call hb)
                rw [HO6.out.size] at HSZ
                rw [HF6.out] at HOFF
                go_wp2_with (go_at_call 17; refine halted ?_)
                refine go_on ?_
                refine (HSZ.out _ (Below.refl _ _)).mono ?_
                rintro e w7 ⟨rfl, hb7⟩
                have HB7 := hide hb7
                clear hb7
                go_wp2_with (go_at_call 19; refine halted ?_)
                refine go_on ?_
                refine (HOFF.out _ HB7.out).mono ?_
                rintro e w8 ⟨rfl, rfl⟩
                have HREL := hide (show PlnRel q bn bd bs nm w2 (.bool true) (.int .i64 ((k : Int) + 1)) w8 from ⟨k + 1, true, s6, ds, by rw [HLN.out]; omega, by simp, rfl, HD6.out.trans (Did.call HD6.out.sm HB7.out), HO6.out, by have := HDK.out; omega, HF6.out, (fun h => by cases h), by rw [HP6.out]; exact HM.out.2.2⟩)
                clear HSZ HOFF
                go_wp2
                case roundEnd => exact ⟨HREL.out, by simp [intOf]; omega⟩
              | false =>
                by_cases h1 : x = 1
                · have e1 : ((x.toNat : Int) == 1) = true := by rw [h1]; rfl
                  have HX1 := hide h1
                  clear h1
                  obtain ⟨pl, HM⟩ : ∃ pl, Hid (meetE true s.off s.plan = (7, pl, false) ∧ (false = false → pl = bs.drop (k + 1)) ∧ pl.length ≤ 500) := by
                    have hl := HPN.out
                    have hp := HPL.out rfl
                    rw [hp] at hl
                    refine ⟨bs.drop (k + 1), ?_, fun _ => rfl, by simp at hl ⊢; omega⟩
                    rw [HOF1.out, hp, HDP.out]
                    rw [HX1.out]; rfl
                  have HZ0 := hide (size_any q s wr HDR.out.sm (by rw [HON.out.size]; have := HDL.out; omega))
                  go_wp2_with (go_at_call 17; refine halted ?_)
                  refine go_on ?_
                  refine HZ0.out.mono ?_
                  clear HZ0
                  rintro e w5 ⟨rfl, hb5⟩
                  rw [HON.out.size]
                  have HD5 := hide (HDR.out.trans (Did.call HDR.out.sm hb5))
                  clear hb5
                  go_wp2_with (go_at_call 18; refine halted ?_)
                  refine go_on ?_
                  have hA : Below w5.heap.size w5 (w5.alloc (.cells #[.int .u8 1] 5)) := (Below.refl _ _).alloc (Nat.le_refl _) _
                  have hr1 : Bytes (w5.alloc (.cells #[.int .u8 1] 5)) (w5.alloc (.cells #[.int .u8 1] 5)).heap.size (some ⟨w5.heap.size, 0, none⟩) [1] := (OwnB.lit (base := 0) w5 5 (bs := [1]) (Nat.zero_le _) (by decide)).bytes
                  have haw : Away (s.own q) (some ⟨w5.heap.size, 0, none⟩) [1] := by
                    intro _ a ha h
                    injection ha with ha
                    subst ha
                    exact absurd (HD5.out.sm.lt h) (Nat.lt_irrefl _)
                  generalize w5.alloc (.cells #[.int .u8 1] 5) = u at *
                  refine (append_any q s u (HD5.out.sm.call hA) nm HNZ.out (by have := HPN.out; omega) 10000 HON.out.1 (by omega) (by rw [HON.out.size]; have := HDL.out; omega) (fun f hf => by rw [HON.out.len f hf]; have := HDL.out; omega) _ 1 1 [1] rfl hr1 (by omega) haw).mono ?_
                  rintro e w6 ⟨rfl, s6, hd6, ha3⟩
                  rw [HN.out, plan_put HON.out (by have := HDL.out; omega), HM.out.1] at ha3 ⊢
                  have HD6 := hide ((HD5.out.trans (Did.call HD5.out.sm hA)).trans hd6)
                  have hone := HON.out
                  have HO6 := hide (show One s6 10000 nm ds from ((hone.put ha3).2 (show (7 : Int) ≠ 0 by decide)))
                  have HF6 := hide (show s6.off = false from ha3.2.2.2.2.2.1)
                  have HP6 := hide (ha3.2.2.2.2.1)
                  clear hA hr1 haw hd6 ha3 hone
                  have HSZ := hide fun W (hb : Below w6.heap.size w6 W) => size_any q s6 W (HD6.out.sm.call hb) (by rw [HO6.out.size]; have := HDL.out; simp; omega)
                  have HOFF := hide fun W (hb : Below w6.heap.size w6 W) => off_any q s6 W (HD6.out.sm.call hb)
                  rw [HO6.out.size] at HSZ
                  rw [HF6.out] at HOFF
                  go_wp2_with (go_at_call 17; refine halted ?_)
                  refine go_on ?_
                  refine (HSZ.out _ (Below.refl _ _)).mono ?_
                  rintro e w7 ⟨rfl, hb7⟩
                  have HB7 := hide hb7
                  clear hb7
                  go_wp2_with (go_at_call 19; refine halted ?_)
                  refine go_on ?_
                  refine (HOFF.out _ HB7.out).mono ?_
                  rintro e w8 ⟨rfl, rfl⟩
                  have HREL := hide (show PlnRel q bn bd bs nm w2 (.bool false) (.int .i64 ((k : Int) + 1)) w8 from ⟨k + 1, false, s6, ds, by rw [HLN.out]; omega, by simp, rfl, HD6.out.trans (Did.call HD6.out.sm HB7.out), HO6.out, by have := HDK.out; omega, HF6.out, (fun _ => HP6.out.trans (HM.out.2.1 (by simp))), by rw [HP6.out]; exact HM.out.2.2⟩)
                  clear HSZ HOFF
                  go_wp2
                  case roundEnd => exact ⟨HREL.out, by simp [intOf]; omega⟩
                · have e1 : ((x.toNat : Int) == 1) = false := by rw [beq_eq_false_iff_ne]; intro h; exact h1 (UInt8.toNat_inj.1 (by rw [show (1 : UInt8).toNat = 1 from rfl]; omega))
                  have HX1 := hide h1
                  clear h1
                  obtain ⟨pl, HM⟩ : ∃ pl, Hid (meetE true s.off s.plan = (0, pl, false) ∧ (false = false → pl = bs.drop (k + 1)) ∧ pl.length ≤ 500) := by
                    have hl := HPN.out
                    have hp := HPL.out rfl
                    rw [hp] at hl
                    refine ⟨bs.drop (k + 1), ?_, fun _ => rfl, by simp at hl ⊢; omega⟩
                    rw [HOF1.out, hp, HDP.out]
                    unfold meetE; simp [HX.out, HX1.out]
                  have HZ0 := hide (size_any q s wr HDR.out.sm (by rw [HON.out.size]; have := HDL.out; omega))
                  go_wp2_with (go_at_call 17; refine halted ?_)
                  refine go_on ?_
                  refine HZ0.out.mono ?_
                  clear HZ0
                  rintro e w5 ⟨rfl, hb5⟩
                  rw [HON.out.size]
                  have HD5 := hide (HDR.out.trans (Did.call HDR.out.sm hb5))
                  clear hb5
                  go_wp2_with (go_at_call 18; refine halted ?_)
                  refine go_on ?_
                  have hA : Below w5.heap.size w5 (w5.alloc (.cells #[.int .u8 1] 5)) := (Below.refl _ _).alloc (Nat.le_refl _) _
                  have hr1 : Bytes (w5.alloc (.cells #[.int .u8 1] 5)) (w5.alloc (.cells #[.int .u8 1] 5)).heap.size (some ⟨w5.heap.size, 0, none⟩) [1] := (OwnB.lit (base := 0) w5 5 (bs := [1]) (Nat.zero_le _) (by decide)).bytes
                  have haw : Away (s.own q) (some ⟨w5.heap.size, 0, none⟩) [1] := by
                    intro _ a ha h
                    injection ha with ha
                    subst ha
                    exact absurd (HD5.out.sm.lt h) (Nat.lt_irrefl _)
                  generalize w5.alloc (.cells #[.int .u8 1] 5) = u at *
                  refine (append_any q s u (HD5.out.sm.call hA) nm HNZ.out (by have := HPN.out; omega) 10000 HON.out.1 (by omega) (by rw [HON.out.size]; have := HDL.out; omega) (fun f hf => by rw [HON.out.len f hf]; have := HDL.out; omega) _ 1 1 [1] rfl hr1 (by omega) haw).mono ?_
                  rintro e w6 ⟨rfl, s6, hd6, ha3⟩
                  rw [HN.out, plan_put HON.out (by have := HDL.out; omega), HM.out.1] at ha3 ⊢
                  have HD6 := hide ((HD5.out.trans (Did.call HD5.out.sm hA)).trans hd6)
                  have hone := HON.out
                  have HO6 := hide (show One s6 10000 nm (ds ++ [1]) from ((hone.put ha3).1 rfl))
                  have HF6 := hide (show s6.off = false from ha3.2.2.2.2.2.1)
                  have HP6 := hide (ha3.2.2.2.2.1)
                  clear hA hr1 haw hd6 ha3 hone
                  have HSZ := hide fun W (hb : Below w6.heap.size w6 W) => size_any q s6 W (HD6.out.sm.call hb) (by rw [HO6.out.size]; have := HDL.out; simp; omega)
                  have HOFF := hide fun W (hb : Below w6.heap.size w6 W) => off_any q s6 W (HD6.out.sm.call hb)
                  rw [HO6.out.size] at HSZ
                  rw [HF6.out] at HOFF
                  go_wp2_with (go_at_call 17; refine halted ?_)
                  refine go_on ?_
                  refine (HSZ.out _ (Below.refl _ _)).mono ?_
                  rintro e w7 ⟨rfl, hb7⟩
                  have HB7 := hide hb7
                  clear hb7
                  rw [List.length_append, List.length_singleton, Int.natCast_succ]
                  have hz1 : (ds.length : Int) ≤ 503 := by have := HDL.out; omega
                  have hz0 : (0 : Int) ≤ (ds.length : Int) := by omega
                  go_wp2_with (go_at_call 19; refine halted ?_)
                  refine go_on ?_
                  refine (HOFF.out _ HB7.out).mono ?_
                  rintro e w8 ⟨rfl, rfl⟩
                  have HREL := hide (show PlnRel q bn bd bs nm w2 (.bool false) (.int .i64 ((k : Int) + 1)) w8 from ⟨k + 1, false, s6, (ds ++ [1]), by rw [HLN.out]; omega, by simp, rfl, HD6.out.trans (Did.call HD6.out.sm HB7.out), HO6.out, by rw [List.length_append]; have := HDK.out; simp; omega, HF6.out, (fun _ => HP6.out.trans (HM.out.2.1 (by simp))), by rw [HP6.out]; exact HM.out.2.2⟩)
                  clear HSZ HOFF
                  go_wp2
                  case roundEnd => exact ⟨HREL.out, by simp [intOf]; omega⟩
          · have j1 : ¬ (k : Int) < (n : Int) := by omega
            have j2 : (k : Int) < (n : Int) + 3 := by omega
            cases ob with
            | true =>
              obtain ⟨pl, HM⟩ : ∃ pl, Hid (meetE true s.off s.plan = (8, pl, true) ∧ (true = false → pl = bs.drop (k + 1)) ∧ pl.length ≤ 500) := by
                refine ⟨s.plan, ?_, (fun h => by cases h), HPN.out⟩
                rw [HOF1.out]; rfl
              have HZ0 := hide (size_any q s wr HDR.out.sm (by rw [HON.out.size]; have := HDL.out; omega))
              go_wp2_with (go_at_call 17; refine halted ?_)
              refine go_on ?_
              refine HZ0.out.mono ?_
              clear HZ0
              rintro e w5 ⟨rfl, hb5⟩
              rw [HON.out.size]
              have HD5 := hide (HDR.out.trans (Did.call HDR.out.sm hb5))
              clear hb5
              go_wp2_with (go_at_call 18; refine halted ?_)
              refine go_on ?_
              have hA : Below w5.heap.size w5 (w5.alloc (.cells #[.int .u8 1] 5)) := (Below.refl _ _).alloc (Nat.le_refl _) _
              have hr1 : Bytes (w5.alloc (.cells #[.int .u8 1] 5)) (w5.alloc (.cells #[.int .u8 1] 5)).heap.size (some ⟨w5.heap.size, 0, none⟩) [1] := (OwnB.lit (base := 0) w5 5 (bs := [1]) (Nat.zero_le _) (by decide)).bytes
              have haw : Away (s.own q) (some ⟨w5.heap.size, 0, none⟩) [1] := by
                intro _ a ha h
                injection ha with ha
                subst ha
                exact absurd (HD5.out.sm.lt h) (Nat.lt_irrefl _)
              generalize w5.alloc (.cells #[.int .u8 1] 5) = u at *
              refine (append_any q s u (HD5.out.sm.call hA) nm HNZ.out (by have := HPN.out; omega) 10000 HON.out.1 (by omega) (by rw [HON.out.size]; have := HDL.out; omega) (fun f hf => by rw [HON.out.len f hf]; have := HDL.out; omega) _ 1 1 [1] rfl hr1 (by omega) haw).mono ?_
              rintro e w6 ⟨rfl, s6, hd6, ha3⟩
              rw [HN.out, plan_put HON.out (by have := HDL.out; omega), HM.out.1] at ha3 ⊢
              have HD6 := hide ((HD5.out.trans (Did.call HD5.out.sm hA)).trans hd6)
              have hone := HON.out
              have HO6 := hide (show One s6 10000 nm ds from ((hone.put ha3).2 (show (8 : Int) ≠ 0 by decide)))
              have HF6 := hide (show s6.off = true from ha3.2.2.2.2.2.1)
              have HP6 := hide (ha3.2.2.2.2.1)
              clear hA hr1 haw hd6 ha3 hone
              have HSZ := hide fun W (hb : Below w6.heap.size w6 W) => size_any q s6 W (HD6.out.sm.call hb) (by rw [HO6.out.size]; have := HDL.out; simp; omega)
              have HOFF := hide fun W (hb : Below w6.heap.size w6 W) => off_any q s6 W (HD6.out.sm.call hb)
              rw [HO6.out.size] at HSZ
              rw [HF6.out] at HOFF
              go_wp2_with (go_at_call 17; refine halted ?_)
              refine go_on ?_
              refine (HSZ.out _ (Below.refl _ _)).mono ?_
              rintro e w7 ⟨rfl, hb7⟩
              have HB7 := hide hb7
              clear hb7
              go_wp2_with (go_at_call 19; refine halted ?_)
              refine go_on ?_
              refine (HOFF.out _ HB7.out).mono ?_
              rintro e w8 ⟨rfl, rfl⟩
              have HREL := hide (show PlnRel q bn bd bs nm w2 (.bool true) (.int .i64 ((k : Int) + 1)) w8 from ⟨k + 1, true, s6, ds, by rw [HLN.out]; omega, by simp, rfl, HD6.out.trans (Did.call HD6.out.sm HB7.out), HO6.out, by have := HDK.out; omega, HF6.out, (fun h => by cases h), by rw [HP6.out]; exact HM.out.2.2⟩)
              clear HSZ HOFF
              go_wp2
              case roundEnd => exact ⟨HREL.out, by simp [intOf]; omega⟩
            | false =>
              obtain ⟨pl, HM⟩ : ∃ pl, Hid (meetE true s.off s.plan = (0, pl, false) ∧ (false = false → pl = bs.drop (k + 1)) ∧ pl.length ≤ 500) := by
                have hp := HPL.out rfl
                have hnil : bs.drop k = [] := List.drop_eq_nil_of_le (by rw [HLN.out]; omega)
                have hnil2 : bs.drop (k + 1) = [] := List.drop_eq_nil_of_le (by rw [HLN.out]; omega)
                refine ⟨[], ?_, fun _ => hnil2.symm, Nat.zero_le _⟩
                rw [HOF1.out, hp, hnil]; rfl
              have HZ0 := hide (size_any q s wr HDR.out.sm (by rw [HON.out.size]; have := HDL.out; omega))
              go_wp2_with (go_at_call 17; refine halted ?_)
              refine go_on ?_
              refine HZ0.out.mono ?_
              clear HZ0
              rintro e w5 ⟨rfl, hb5⟩
              rw [HON.out.size]
              have HD5 := hide (HDR.out.trans (Did.call HDR.out.sm hb5))
              clear hb5
              go_wp2_with (go_at_call 18; refine halted ?_)
              refine go_on ?_
              have hA : Below w5.heap.size w5 (w5.alloc (.cells #[.int .u8 1] 5)) := (Below.refl _ _).alloc (Nat.le_refl _) _
              have hr1 : Bytes (w5.alloc (.cells #[.int .u8 1] 5)) (w5.alloc (.cells #[.int .u8 1] 5)).heap.size (some ⟨w5.heap.size, 0, none⟩) [1] := (OwnB.lit (base := 0) w5 5 (bs := [1]) (Nat.zero_le _) (by decide)).bytes
              have haw : Away (s.own q) (some ⟨w5.heap.size, 0, none⟩) [1] := by
                intro _ a ha h
                injection ha with ha
                subst ha
                exact absurd (HD5.out.sm.lt h) (Nat.lt_irrefl _)
              generalize w5.alloc (.cells #[.int .u8 1] 5) = u at *
              refine (append_any q s u (HD5.out.sm.call hA) nm HNZ.out (by have := HPN.out; omega) 10000 HON.out.1 (by omega) (by rw [HON.out.size]; have := HDL.out; omega) (fun f hf => by rw [HON.out.len f hf]; have := HDL.out; omega) _ 1 1 [1] rfl hr1 (by omega) haw).mono ?_
              rintro e w6 ⟨rfl, s6, hd6, ha3⟩
              rw [HN.out, plan_put HON.out (by have := HDL.out; omega), HM.out.1] at ha3 ⊢
              have HD6 := hide ((HD5.out.trans (Did.call HD5.out.sm hA)).trans hd6)
              have hone := HON.out
              have HO6 := hide (show One s6 10000 nm (ds ++ [1]) from ((hone.put ha3).1 rfl))
              have HF6 := hide (show s6.off = false from ha3.2.2.2.2.2.1)
              have HP6 := hide (ha3.2.2.2.2.1)
              clear hA hr1 haw hd6 ha3 hone
              have HSZ := hide fun W (hb : Below w6.heap.size w6 W) => size_any q s6 W (HD6.out.sm.call hb) (by rw [HO6.out.size]; have := HDL.out; simp; omega)
              have HOFF := hide fun W (hb : Below w6.heap.size w6 W) => off_any q s6 W (HD6.out.sm.call hb)
              rw [HO6.out.size] at HSZ
              rw [HF6.out] at HOFF
              go_wp2_with (go_at_call 17; refine halted ?_)
              refine go_on ?_
              refine (HSZ.out _ (Below.refl _ _)).mono ?_
              rintro e w7 ⟨rfl, hb7⟩
              have HB7 := hide hb7
              clear hb7
              rw [List.length_append, List.length_singleton, Int.natCast_succ]
              have hz1 : (ds.length : Int) ≤ 503 := by have := HDL.out; omega
              have hz0 : (0 : Int) ≤ (ds.length : Int) := by omega
              go_wp2_with (go_at_call 19; refine halted ?_)
              refine go_on ?_
              refine (HOFF.out _ HB7.out).mono ?_
              rintro e w8 ⟨rfl, rfl⟩
              have HREL := hide (show PlnRel q bn bd bs nm w2 (.bool false) (.int .i64 ((k : Int) + 1)) w8 from ⟨k + 1, false, s6, (ds ++ [1]), by rw [HLN.out]; omega, by simp, rfl, HD6.out.trans (Did.call HD6.out.sm HB7.out), HO6.out, by rw [List.length_append]; have := HDK.out; simp; omega, HF6.out, (fun _ => HP6.out.trans (HM.out.2.1 (by simp))), by rw [HP6.out]; exact HM.out.2.2⟩)
              clear HSZ HOFF
              go_wp2
              case roundEnd => exact ⟨HREL.out, by simp [intOf]; omega⟩
        · have HB4 := hide (HB2.out.trans (hdr.kept.below HO.out HB2.out.size))
          have j2 : ¬ (k : Int) < (n : Int) + 3 := by omega
          clear hdr hon hdl hof hpl hpn hk
          go_wp2
          go_ret
          exact ⟨rfl, HB4.out⟩
end Go.Proofs.Ytpakihbejdpmoaa
