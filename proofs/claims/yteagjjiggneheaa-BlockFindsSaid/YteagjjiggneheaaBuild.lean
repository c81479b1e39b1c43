/-
  block.Build: what it does.
-/
import Derived.Test.YteagjjiggneheaaPairs
import Derived.Test.YteagjjiggneheaaSt
namespace Go.Proofs.Yteagjjiggneheaa
open Go.RowKit
set_option linter.unusedVariables false

/-- The key that is last. -/
def LastK (w : World) (l : List KV) (k : Nat) (v : Value) : Prop :=
  ∃ (LA : Option Addr) (Lc : Nat) (lk : List UInt8), v = .slice LA lk.length Lc ∧ Bytes w w.heap.size LA lk ∧ Hid ((k = 0 ∧ lk = []) ∨ (0 < k ∧ lk = prevKey l k)) ∧ lk.length ≤ 1000

/-- The loop. -/
def BuildRel (E : Nat) (l : List KV) (w : World) (o h la i : Value) (wr : World) : Prop :=
  ∃ (k : Nat) (us : List UInt8) (A : Option Addr) (c : Nat) (hs : List UInt8) (A2 : Option Addr) (c2 : Nat), k ≤ l.length ∧ i = .int .i64 (k : Int) ∧ o = .slice A us.length c ∧ h = .slice A2 hs.length c2 ∧ LastK w l k la ∧
    Hid (us = (bodyTo E l k).1) ∧ Hid (hs = (bodyTo E l k).2) ∧ us.length ≤ 13000000 ∧ hs.length ≤ 8000 ∧ OwnB wr w.heap.size 5 A c us ∧ OwnB wr w.heap.size 5 A2 c2 hs ∧ Apart A A2 ∧ Hid (Rises l k) ∧ Below w.heap.size w wr

set_option maxRecDepth 100000 in
set_option maxHeartbeats 2000000 in
theorem build_any (A : Option Addr) (c : Nat) (l : List Pr) (every : Int) (w : World) (hrow : PrRow w w.heap.size A l) (hll : l.length ≤ 9223372036854775807) (hfew : FewP (l.map Pr.pair)) :
    Calls Try.prog 10 #[.slice A l.length c, .int .i64 every] w fun e w' => NewB2 w w' e (buildR every (l.map Pr.pair)) := by
  by_cases hbad : every < 1 ∨ 64 < every
  · have hr : buildR every (l.map Pr.pair) = ([], 1) := by unfold buildR; rw [if_pos (by omega)]
    rw [hr]
    clear hr
    rcases hbad with h | h
    all_goals
      go_enter Try.func10, Try.ntmps10
      go_wp2
      go_ret2
      exact ⟨none, 0, rfl, OwnB.nil _ _ _, Below.refl _ _⟩
  obtain ⟨E, rfl⟩ := Int.eq_ofNat_of_zero_le (show 0 ≤ every by omega)
  have hE0 : 0 < E := by omega
  have hE1 : E ≤ 64 := by omega
  have hL : l.length ≤ 2000 := by have := hfew.1; rwa [List.length_map] at this
  have HFEW := hide hfew
  have HRok : Hid (Rises (l.map Pr.pair) (l.map Pr.pair).length → buildR (E : Int) (l.map Pr.pair) = (builtB E (l.map Pr.pair), 0)) := by
    show _ → _
    intro h
    unfold buildR
    rw [if_neg (by rw [List.length_map]; omega), Int.toNat_natCast, if_pos h]
  have HRno : Hid (¬ Rises (l.map Pr.pair) (l.map Pr.pair).length → buildR (E : Int) (l.map Pr.pair) = ([], 10)) := by
    show _ → _
    intro h
    unfold buildR
    rw [if_neg (by rw [List.length_map]; omega), if_neg h]
  clear hbad hfew
  go_enter Try.func10, Try.ntmps10
  go_wp2
  go_loopw [6, 7, 8, 25] (fun o h la i wr => BuildRel E (l.map Pr.pair) w o h la i wr) (fun _ _ _ i _ => l.length - (intOf i).toNat)
  case atStart =>
    exact ⟨0, [], none, 0, [], none, 0, by omega, rfl, rfl, rfl, ⟨none, 0, [], rfl, Bytes.nil, .inl ⟨rfl, rfl⟩, by simp⟩, rfl, rfl, by simp, by simp, OwnB.nil _ _ _, OwnB.nil _ _ _, Apart.none, (by show Rises _ 0; intro j _ _ hj _ _; omega), Below.refl _ _⟩
  case round =>
    obtain ⟨k, us, A3, c3, hs, A4, c4, hk, rfl, rfl, rfl, ⟨LA, Lc, lk, rfl, hlr, HLK, hlk⟩, HU, HH, hul, hhl, hown3, hown4, hap, HRI, hb⟩ := hrel
    rw [List.length_map] at hk
    by_cases hlt : k < l.length
    · obtain ⟨ad, p, rfl, hadb, hg, hc1, hd1, hr1, hrc1, hr2, hrc2⟩ := hrow.at_ hlt
      have hc1' := (hb.cell (p := ad.add (k * 2)) (by rw [add_block]; exact hadb)).trans hc1
      have hd1' := (hb.cell (p := ⟨(ad.add (k * 2)).block, (ad.add (k * 2)).off + 1, none⟩) (by show (ad.add (k * 2)).block < _; rw [add_block]; exact hadb)).trans hd1
      have hp := HFEW.out.2 p.pair (List.mem_map.2 ⟨p, List.mem_of_getElem? hg.out, rfl⟩)
      have hpk : p.k.length ≤ 1000 := hp.1
      have hpv : p.v.length ≤ 5000 := hp.2
      have hgp : Hid ((l.map Pr.pair)[k]? = some p.pair) := by show _ = _; rw [List.getElem?_map, hg.out]; rfl
      have HS : Hid (St w wr.heap.size (.slice p.A p.k.length p.c) (.slice p.A2 p.v.length p.c2) A3 c3 us A4 c4 hs (wr.alloc (.cells #[.slice p.A p.k.length p.c, .slice p.A2 p.v.length p.c2] 34))) := St.boxed hb hown3 hown4 hap _ _ _
      have HR1 := hide hr1
      clear hc1 hd1 hp hown3 hown4 hap
      rcases HLK.out with ⟨hk0, hlk0⟩ | ⟨hk0, hlk0⟩
      · subst hk0
        have HRI2 : Hid (Rises (l.map Pr.pair) (0 + 1)) := rises_one _
        have hmod : ((0 : Int) % (E : Int) == 0) = true := by simp
        have hcz : wr.cell? ad = some (.slice p.A p.k.length p.c) := hc1'
        have hdz : wr.cell? ⟨ad.block, ad.off + 1, none⟩ = some (.slice p.A2 p.v.length p.c2) := hd1'
        clear hlk0 hc1' hd1'
        go_wp2_with (go_at_call 19; refine halted ?_)
        refine go_on ?_
        generalize wr.alloc (.cells #[.slice p.A p.k.length p.c, .slice p.A2 p.v.length p.c2] 34) = WA at *
        refine (word_any us.length _ (by omega)).mono ?_
        rintro e w1 ⟨A1, c1, rfl, hown1, hb1⟩
        have HS := hide (HS.out.call hb1)
        clear hb1
        go_wp2_with (at_builtin; refine halted ?_)
        refine go_on ?_
        refine wpList_append_bytes _ rfl (.tmp 43) (.tmp 46) 25 rfl w.heap.size 5 Try.underlying25 info_u8 _ _ _ hs rfl rfl HS.out.own2 _ A1 _ c1 (four us.length) rfl rfl hown1.bytes (by rw [four_len]; omega) HS.out.below.size ?_
        intro hs2 A2 c2 w2 hds2 hdl2 hown2 hg2 hat2
        have HS := hide (HS.out.swap.put hg2 hat2 hown2).swap
        have hl2 : hs2.length ≤ 8004 := by rw [hds2.out, List.length_append, four_len]; omega
        clear hg2 hat2 hown2 hdl2 hown1
        go_wp2_with (go_at_call 21; refine halted ?_)
        refine go_on ?_
        refine (number_any 0 _ (by omega)).mono ?_
        rintro e w5 ⟨A5, c5, rfl, hown5, hb5⟩
        have HS := hide (HS.out.call hb5)
        have hnl := hide (numB_len 0)
        clear hb5
        go_wp2_with (at_builtin; refine halted ?_)
        refine go_on ?_
        refine wpList_append_bytes _ rfl (.tmp 52) (.tmp 55) 25 rfl w.heap.size 5 Try.underlying25 info_u8 _ _ _ us rfl rfl HS.out.own _ A5 _ c5 (numB (0)) rfl rfl hown5.bytes (by have := hnl.out; omega) HS.out.below.size ?_
        intro ds6 A6 c6 w6 hds6 hdl6 hown6 hg6 hat6
        have HS := hide (HS.out.put hg6 hat6 hown6)
        have hl6 : ds6.length ≤ 13000011 := by rw [hds6.out, List.length_append]; have := hnl.out; omega
        have x0 := HS.out.x0
        have hr1w := (hr1.below HS.out.below).more HS.out.below.size
        clear hg6 hat6 hown6 hdl6 hown5
        obtain ⟨A7, hcut, hr7⟩ := cut_from elem_bytes size_byte hr1w rfl hrc1 0 0 rfl (by omega) .i64
        go_wp2_with (go_at_call 22; refine halted ?_)
        refine go_on ?_
        refine (text_any A7 _ (p.c - 0) (p.k.length - 0) (p.k.drop 0) _ (by rw [List.length_drop]) hr7 (Nat.le_refl _) (by rw [List.length_drop]; omega)).mono ?_
        rintro e w7 ⟨A8, c8, rfl, hown8, hb7⟩
        have HS := hide (HS.out.call hb7)
        have htl := hide (textB_len (p.k.drop 0))
        have hdrop : (p.k.drop 0).length ≤ 1000 := by rw [List.length_drop]; omega
        have HDR := hide hdrop
        clear x0 hcut hr7 hr1w hb7 hdrop
        go_wp2_with (at_builtin; refine halted ?_)
        refine go_on ?_
        refine wpList_append_bytes _ rfl (.tmp 57) (.tmp 62) 25 rfl w.heap.size 5 Try.underlying25 info_u8 _ _ _ ds6 rfl rfl HS.out.own _ A8 _ c8 (textB (p.k.drop 0)) rfl rfl hown8.bytes (by have := htl.out; have := HDR.out; omega) HS.out.below.size ?_
        intro ds9 A9 c9 w9 hds9 hdl9 hown9 hg9 hat9
        have HS := hide (HS.out.put hg9 hat9 hown9)
        have hl9 : ds9.length ≤ 13001100 := by rw [hds9.out, List.length_append]; have := htl.out; have := HDR.out; omega
        have x1 := HS.out.x1
        have hr2w := (hr2.below HS.out.below).more HS.out.below.size
        clear hg9 hat9 hown9 hdl9 hown8
        go_wp2_with (go_at_call 22; refine halted ?_)
        refine go_on ?_
        refine (text_any p.A2 _ p.c2 p.v.length p.v _ rfl hr2w (Nat.le_refl _) (by omega)).mono ?_
        rintro e w10 ⟨A10, c10, rfl, hown10, hb10⟩
        have HS := hide (HS.out.call hb10)
        have htv := hide (textB_len p.v)
        clear x1 hr2w hb10
        go_wp2_with (at_builtin; refine halted ?_)
        refine go_on ?_
        refine wpList_append_bytes _ rfl (.tmp 64) (.tmp 67) 25 rfl w.heap.size 5 Try.underlying25 info_u8 _ _ _ ds9 rfl rfl HS.out.own _ A10 _ c10 (textB p.v) rfl rfl hown10.bytes (by have := htv.out; omega) HS.out.below.size ?_
        intro ds11 A11 c11 w11 hds11 hdl11 hown11 hg11 hat11
        have HS := hide (HS.out.put hg11 hat11 hown11)
        have x0 := HS.out.x0
        clear hg11 hat11 hown11 hdl11 hown10
        have hde : ds11 = us ++ entryB (0) p.pair := by
          rw [hds11.out, hds9.out, hds6.out]
          unfold entryB
          simp only [List.append_assoc]
          rfl
        have hbt := (bodyTo_head (every := E) hgp.out (Nat.zero_mod E))
        have hlen := bodyTo_len (every := E) HFEW.out (0 + 1)
        have HU2 : Hid (ds11 = (bodyTo E (l.map Pr.pair) (0 + 1)).1) := by
          show _ = _
          rw [hbt, hde, HU.out]
        have HH2 : Hid (hs2 = (bodyTo E (l.map Pr.pair) (0 + 1)).2) := by
          show _ = _
          rw [hbt]
          rw [hds2.out, HU.out, HH.out]
        rw [← HU2.out, ← HH2.out] at hlen
        have hl11 : ds11.length ≤ 13000000 := by omega
        have hlh : hs2.length ≤ 8000 := by omega
        have HLAST : Hid (LastK w (l.map Pr.pair) (0 + 1) (.slice p.A p.k.length p.c)) := ⟨p.A, p.c, p.k, rfl, HR1.out, .inr ⟨by omega, by
          unfold prevKey
          rw [show 0 + 1 - 1 = 0 from rfl, hgp.out]
          rfl⟩, hpk⟩
        clear hde hbt hlen HU HH HLK hds11 hds9 hds6
        go_wp2
        go_roundw
        case rel => exact ⟨0 + 1, ds11, A11, c11, hs2, A2, c2, by rw [List.length_map]; omega, by go_num, rfl, rfl, HLAST.out, HU2.out, HH2.out, hl11, hlh, HS.out.own, HS.out.own2, HS.out.apart, HRI2.out, HS.out.below⟩
        case measure => simp [intOf]; omega
      · have HLK0 := hide hlk0
        clear hlk0
        obtain ⟨pq, hpq⟩ : ∃ pq, Hid ((l.map Pr.pair)[k - 1]? = some pq) := ⟨_, List.getElem?_eq_getElem (by rw [List.length_map]; omega)⟩
        have hlk1 : lk = pq.1 := by rw [HLK0.out]; unfold prevKey; rw [hpq.out]
        have HLK1 := hide hlk1
        clear hlk1
        by_cases hcp : Lib.compareBytes p.k lk ≤ 0
        · have hno := rises_not hpq.out hgp.out hk0 (by rw [← HLK1.out]; exact compare_le.1 hcp)
          have HBR := hide (HRno.out hno)
          clear hno
          go_wp2_with (go_at_call 18; refine halted ?_)
          refine go_on ?_
          refine (compare_any ((hr1.below hb).alloc hb.size _) rfl ((hlr.below hb).alloc hb.size _) rfl).mono ?_
          rintro e w1 ⟨rfl, rfl⟩
          go_wp2
          go_ret2
          rw [HBR.out]
          exact ⟨none, 0, rfl, OwnB.nil _ _ _, hb.alloc hb.size _⟩
        · have hris := compare_less p.k lk
          have hlss : Op.bytesLess pq.1 p.pair.1 = true := by
            rw [← HLK1.out]
            exact hris.1.1 (by omega)
          have HRI2 : Hid (Rises (l.map Pr.pair) (k + 1)) := rises_step HRI.out hpq.out hgp.out hk0 hlss
          clear hris hlss
          by_cases hkm : k % E = 0
          · have hmod : ((k : Int) % (E : Int) == 0) = true := by simp; omega
            have HKM := hide hkm
            clear hkm
            go_wp2_with (go_at_call 18; refine halted ?_)
            refine go_on ?_
            generalize wr.alloc (.cells #[.slice p.A p.k.length p.c, .slice p.A2 p.v.length p.c2] 34) = WA at *
            refine (compare_any (hr1.below HS.out.below) rfl (hlr.below HS.out.below) rfl).mono ?_
            rintro e w0 ⟨rfl, rfl⟩
            go_wp2_with (go_at_call 19; refine halted ?_)
            refine go_on ?_
            refine (word_any us.length _ (by omega)).mono ?_
            rintro e w1 ⟨A1, c1, rfl, hown1, hb1⟩
            have HS := hide (HS.out.call hb1)
            clear hb1
            go_wp2_with (at_builtin; refine halted ?_)
            refine go_on ?_
            refine wpList_append_bytes _ rfl (.tmp 43) (.tmp 46) 25 rfl w.heap.size 5 Try.underlying25 info_u8 _ _ _ hs rfl rfl HS.out.own2 _ A1 _ c1 (four us.length) rfl rfl hown1.bytes (by rw [four_len]; omega) HS.out.below.size ?_
            intro hs2 A2 c2 w2 hds2 hdl2 hown2 hg2 hat2
            have HS := hide (HS.out.swap.put hg2 hat2 hown2).swap
            have hl2 : hs2.length ≤ 8004 := by rw [hds2.out, List.length_append, four_len]; omega
            clear hg2 hat2 hown2 hdl2 hown1
            go_wp2_with (go_at_call 21; refine halted ?_)
            refine go_on ?_
            refine (number_any 0 _ (by omega)).mono ?_
            rintro e w5 ⟨A5, c5, rfl, hown5, hb5⟩
            have HS := hide (HS.out.call hb5)
            have hnl := hide (numB_len 0)
            clear hb5
            go_wp2_with (at_builtin; refine halted ?_)
            refine go_on ?_
            refine wpList_append_bytes _ rfl (.tmp 52) (.tmp 55) 25 rfl w.heap.size 5 Try.underlying25 info_u8 _ _ _ us rfl rfl HS.out.own _ A5 _ c5 (numB (0)) rfl rfl hown5.bytes (by have := hnl.out; omega) HS.out.below.size ?_
            intro ds6 A6 c6 w6 hds6 hdl6 hown6 hg6 hat6
            have HS := hide (HS.out.put hg6 hat6 hown6)
            have hl6 : ds6.length ≤ 13000011 := by rw [hds6.out, List.length_append]; have := hnl.out; omega
            have x0 := HS.out.x0
            have hr1w := (hr1.below HS.out.below).more HS.out.below.size
            clear hg6 hat6 hown6 hdl6 hown5
            obtain ⟨A7, hcut, hr7⟩ := cut_from elem_bytes size_byte hr1w rfl hrc1 0 0 rfl (by omega) .i64
            go_wp2_with (go_at_call 22; refine halted ?_)
            refine go_on ?_
            refine (text_any A7 _ (p.c - 0) (p.k.length - 0) (p.k.drop 0) _ (by rw [List.length_drop]) hr7 (Nat.le_refl _) (by rw [List.length_drop]; omega)).mono ?_
            rintro e w7 ⟨A8, c8, rfl, hown8, hb7⟩
            have HS := hide (HS.out.call hb7)
            have htl := hide (textB_len (p.k.drop 0))
            have hdrop : (p.k.drop 0).length ≤ 1000 := by rw [List.length_drop]; omega
            have HDR := hide hdrop
            clear x0 hcut hr7 hr1w hb7 hdrop
            go_wp2_with (at_builtin; refine halted ?_)
            refine go_on ?_
            refine wpList_append_bytes _ rfl (.tmp 57) (.tmp 62) 25 rfl w.heap.size 5 Try.underlying25 info_u8 _ _ _ ds6 rfl rfl HS.out.own _ A8 _ c8 (textB (p.k.drop 0)) rfl rfl hown8.bytes (by have := htl.out; have := HDR.out; omega) HS.out.below.size ?_
            intro ds9 A9 c9 w9 hds9 hdl9 hown9 hg9 hat9
            have HS := hide (HS.out.put hg9 hat9 hown9)
            have hl9 : ds9.length ≤ 13001100 := by rw [hds9.out, List.length_append]; have := htl.out; have := HDR.out; omega
            have x1 := HS.out.x1
            have hr2w := (hr2.below HS.out.below).more HS.out.below.size
            clear hg9 hat9 hown9 hdl9 hown8
            go_wp2_with (go_at_call 22; refine halted ?_)
            refine go_on ?_
            refine (text_any p.A2 _ p.c2 p.v.length p.v _ rfl hr2w (Nat.le_refl _) (by omega)).mono ?_
            rintro e w10 ⟨A10, c10, rfl, hown10, hb10⟩
            have HS := hide (HS.out.call hb10)
            have htv := hide (textB_len p.v)
            clear x1 hr2w hb10
            go_wp2_with (at_builtin; refine halted ?_)
            refine go_on ?_
            refine wpList_append_bytes _ rfl (.tmp 64) (.tmp 67) 25 rfl w.heap.size 5 Try.underlying25 info_u8 _ _ _ ds9 rfl rfl HS.out.own _ A10 _ c10 (textB p.v) rfl rfl hown10.bytes (by have := htv.out; omega) HS.out.below.size ?_
            intro ds11 A11 c11 w11 hds11 hdl11 hown11 hg11 hat11
            have HS := hide (HS.out.put hg11 hat11 hown11)
            have x0 := HS.out.x0
            clear hg11 hat11 hown11 hdl11 hown10
            have hde : ds11 = us ++ entryB (0) p.pair := by
              rw [hds11.out, hds9.out, hds6.out]
              unfold entryB
              simp only [List.append_assoc]
              rfl
            have hbt := (bodyTo_head (every := E) hgp.out HKM.out)
            have hlen := bodyTo_len (every := E) HFEW.out (k + 1)
            have HU2 : Hid (ds11 = (bodyTo E (l.map Pr.pair) (k + 1)).1) := by
              show _ = _
              rw [hbt, hde, HU.out]
            have HH2 : Hid (hs2 = (bodyTo E (l.map Pr.pair) (k + 1)).2) := by
              show _ = _
              rw [hbt]
              rw [hds2.out, HU.out, HH.out]
            rw [← HU2.out, ← HH2.out] at hlen
            have hl11 : ds11.length ≤ 13000000 := by omega
            have hlh : hs2.length ≤ 8000 := by omega
            have HLAST : Hid (LastK w (l.map Pr.pair) (k + 1) (.slice p.A p.k.length p.c)) := ⟨p.A, p.c, p.k, rfl, HR1.out, .inr ⟨by omega, by
              unfold prevKey
              rw [show k + 1 - 1 = k from rfl, hgp.out]
              rfl⟩, hpk⟩
            clear hde hbt hlen HU HH HLK hds11 hds9 hds6
            go_wp2
            go_roundw
            case rel => exact ⟨k + 1, ds11, A11, c11, hs2, A2, c2, by rw [List.length_map]; omega, by go_num, rfl, rfl, HLAST.out, HU2.out, HH2.out, hl11, hlh, HS.out.own, HS.out.own2, HS.out.apart, HRI2.out, HS.out.below⟩
            case measure => simp [intOf]; omega
          · have hmod : ((k : Int) % (E : Int) == 0) = false := by simp; omega
            have HKM := hide hkm
            clear hkm
            go_wp2_with (go_at_call 18; refine halted ?_)
            refine go_on ?_
            generalize wr.alloc (.cells #[.slice p.A p.k.length p.c, .slice p.A2 p.v.length p.c2] 34) = WA at *
            refine (compare_any (hr1.below HS.out.below) rfl (hlr.below HS.out.below) rfl).mono ?_
            rintro e w0 ⟨rfl, rfl⟩
            have x0 := HS.out.x0
            go_wp2_with (go_at_call 20; refine halted ?_)
            refine go_on ?_
            refine (common_any (hlr.below HS.out.below) rfl (hr1.below HS.out.below) rfl HS.out.below.size HS.out.below.size (by omega) (by omega)).mono ?_
            obtain ⟨m, hm⟩ : ∃ m, Hid (m = comm lk p.k) := ⟨_, rfl⟩
            have hmk : m ≤ p.k.length := by rw [hm.out]; exact comm_le_right _ _
            rw [← hm.out]
            rintro e w1 ⟨rfl, hb1⟩
            have HS := hide (HS.out.call hb1)
            clear hb1 x0
            go_wp2_with (go_at_call 21; refine halted ?_)
            refine go_on ?_
            refine (number_any m _ (by omega)).mono ?_
            rintro e w5 ⟨A5, c5, rfl, hown5, hb5⟩
            have HS := hide (HS.out.call hb5)
            have hnl := hide (numB_len m)
            clear hb5
            go_wp2_with (at_builtin; refine halted ?_)
            refine go_on ?_
            refine wpList_append_bytes _ rfl (.tmp 52) (.tmp 55) 25 rfl w.heap.size 5 Try.underlying25 info_u8 _ _ _ us rfl rfl HS.out.own _ A5 _ c5 (numB (m)) rfl rfl hown5.bytes (by have := hnl.out; omega) HS.out.below.size ?_
            intro ds6 A6 c6 w6 hds6 hdl6 hown6 hg6 hat6
            have HS := hide (HS.out.put hg6 hat6 hown6)
            have hl6 : ds6.length ≤ 13000011 := by rw [hds6.out, List.length_append]; have := hnl.out; omega
            have x0 := HS.out.x0
            have hr1w := (hr1.below HS.out.below).more HS.out.below.size
            clear hg6 hat6 hown6 hdl6 hown5
            obtain ⟨A7, hcut, hr7⟩ := cut_from elem_bytes size_byte hr1w rfl hrc1 (m : Int) m rfl (by omega) .i64
            go_wp2_with (go_at_call 22; refine halted ?_)
            refine go_on ?_
            refine (text_any A7 _ (p.c - m) (p.k.length - m) (p.k.drop m) _ (by rw [List.length_drop]) hr7 (Nat.le_refl _) (by rw [List.length_drop]; omega)).mono ?_
            rintro e w7 ⟨A8, c8, rfl, hown8, hb7⟩
            have HS := hide (HS.out.call hb7)
            have htl := hide (textB_len (p.k.drop m))
            have hdrop : (p.k.drop m).length ≤ 1000 := by rw [List.length_drop]; omega
            have HDR := hide hdrop
            clear x0 hcut hr7 hr1w hb7 hdrop
            go_wp2_with (at_builtin; refine halted ?_)
            refine go_on ?_
            refine wpList_append_bytes _ rfl (.tmp 57) (.tmp 62) 25 rfl w.heap.size 5 Try.underlying25 info_u8 _ _ _ ds6 rfl rfl HS.out.own _ A8 _ c8 (textB (p.k.drop m)) rfl rfl hown8.bytes (by have := htl.out; have := HDR.out; omega) HS.out.below.size ?_
            intro ds9 A9 c9 w9 hds9 hdl9 hown9 hg9 hat9
            have HS := hide (HS.out.put hg9 hat9 hown9)
            have hl9 : ds9.length ≤ 13001100 := by rw [hds9.out, List.length_append]; have := htl.out; have := HDR.out; omega
            have x1 := HS.out.x1
            have hr2w := (hr2.below HS.out.below).more HS.out.below.size
            clear hg9 hat9 hown9 hdl9 hown8
            go_wp2_with (go_at_call 22; refine halted ?_)
            refine go_on ?_
            refine (text_any p.A2 _ p.c2 p.v.length p.v _ rfl hr2w (Nat.le_refl _) (by omega)).mono ?_
            rintro e w10 ⟨A10, c10, rfl, hown10, hb10⟩
            have HS := hide (HS.out.call hb10)
            have htv := hide (textB_len p.v)
            clear x1 hr2w hb10
            go_wp2_with (at_builtin; refine halted ?_)
            refine go_on ?_
            refine wpList_append_bytes _ rfl (.tmp 64) (.tmp 67) 25 rfl w.heap.size 5 Try.underlying25 info_u8 _ _ _ ds9 rfl rfl HS.out.own _ A10 _ c10 (textB p.v) rfl rfl hown10.bytes (by have := htv.out; omega) HS.out.below.size ?_
            intro ds11 A11 c11 w11 hds11 hdl11 hown11 hg11 hat11
            have HS := hide (HS.out.put hg11 hat11 hown11)
            have x0 := HS.out.x0
            clear hg11 hat11 hown11 hdl11 hown10
            have hde : ds11 = us ++ entryB (m) p.pair := by
              rw [hds11.out, hds9.out, hds6.out]
              unfold entryB
              simp only [List.append_assoc]
              rfl
            have hbt := (bodyTo_next (every := E) hgp.out HKM.out)
            have hlen := bodyTo_len (every := E) HFEW.out (k + 1)
            have HU2 : Hid (ds11 = (bodyTo E (l.map Pr.pair) (k + 1)).1) := by
              show _ = _
              rw [hbt, hde, HU.out, hm.out, HLK0.out]
              rfl
            have HH2 : Hid (hs = (bodyTo E (l.map Pr.pair) (k + 1)).2) := by
              show _ = _
              rw [hbt]
              rw [HH.out]
            rw [← HU2.out, ← HH2.out] at hlen
            have hl11 : ds11.length ≤ 13000000 := by omega
            have hlh : hs.length ≤ 8000 := by omega
            have HLAST : Hid (LastK w (l.map Pr.pair) (k + 1) (.slice p.A p.k.length p.c)) := ⟨p.A, p.c, p.k, rfl, HR1.out, .inr ⟨by omega, by
              unfold prevKey
              rw [show k + 1 - 1 = k from rfl, hgp.out]
              rfl⟩, hpk⟩
            clear hde hbt hlen HU HH HLK hds11 hds9 hds6
            go_wp2
            go_roundw
            case rel => exact ⟨k + 1, ds11, A11, c11, hs, A4, c4, by rw [List.length_map]; omega, by go_num, rfl, rfl, HLAST.out, HU2.out, HH2.out, hl11, hlh, HS.out.own, HS.out.own2, HS.out.apart, HRI2.out, HS.out.below⟩
            case measure => simp [intOf]; omega
    · have hkl : k = (l.map Pr.pair).length := by rw [List.length_map]; omega
      have HRES := hide (HRok.out (by rw [← hkl]; exact HRI.out))
      have HUF : Hid (us ++ (hs ++ (four (hs.length / 4) ++ [UInt8.ofNat E])) = builtB E (l.map Pr.pair)) := by
        show _ = _
        unfold builtB
        rw [HU.out, HH.out, hkl]
      clear hrow hlr HLK HU HH HRI
      go_wp2_with (go_at_call 19; refine halted ?_)
      refine go_on ?_
      rw [show (hs.length : Int) / 4 = ((hs.length / 4 : Nat) : Int) from by omega]
      refine (word_any (hs.length / 4) _ (by omega)).mono ?_
      rintro e w1 ⟨A1, c1, rfl, hown1, hb1⟩
      have o3 := hown3.below hb1 (Nat.le_refl _)
      have o4 := hown4.below hb1 (Nat.le_refl _)
      have hb01 := hb.trans (hb1.mono hb.size)
      have hN := Row.new w1 #[.slice A3 us.length c3, .slice A4 hs.length c4, .slice A1 (four (hs.length / 4)).length c1] 25 (0, 0)
      have hpt : PtRow (w1.alloc (.cells #[.slice A3 us.length c3, .slice A4 hs.length c4, .slice A1 (four (hs.length / 4)).length c1] 25)) (w1.alloc (.cells #[.slice A3 us.length c3, .slice A4 hs.length c4, .slice A1 (four (hs.length / 4)).length c1] 25)).heap.size (some ⟨w1.heap.size, 0, none⟩) [⟨A3, c3, us⟩, ⟨A4, c4, hs⟩, ⟨A1, c1, four (hs.length / 4)⟩] := by
        refine ⟨hN.more (by simp), ?_⟩
        intro p hp
        simp at hp
        rcases hp with rfl | rfl | rfl
        · exact (o3.bytes.alloc (Nat.le_refl _) _).more (by simp)
        · exact (o4.bytes.alloc (Nat.le_refl _) _).more (by simp)
        · exact (hown1.bytes.alloc (Nat.le_refl _) _).more (by simp)
      have hbt : bytesTo [⟨A3, c3, us⟩, ⟨A4, c4, hs⟩, ⟨A1, c1, four (hs.length / 4)⟩] 3 = us ++ (hs ++ four (hs.length / 4)) := by simp [bytesTo]
      have HBT := hide hbt
      have hct := concat_any (some ⟨w1.heap.size, 0, none⟩) 3 3 _ _ rfl hpt (by simp) (by show (bytesTo _ 3).length ≤ _; rw [hbt]; simp only [List.length_append, four_len]; omega)
      have HCT := hide hct
      have hb02 := hb01.alloc hb01.size (.cells #[.slice A3 us.length c3, .slice A4 hs.length c4, .slice A1 (four (hs.length / 4)).length c1] 25)
      clear hbt hct hpt hN hb1 o3 o4 hown1 hown3 hown4 hap hb01 hb
      go_wp2_with (go_at_call 23; refine halted ?_)
      refine go_on ?_
      generalize w1.alloc (.cells #[.slice A3 us.length c3, .slice A4 hs.length c4, .slice A1 (four (hs.length / 4)).length c1] 25) = w2 at *
      refine HCT.out.mono ?_
      rintro e w3 ⟨A5, c5, rfl, hown5, hb5⟩
      rw [show bytesTo _ (List.length _) = us ++ (hs ++ four (hs.length / 4)) from HBT.out] at hown5
      rw [show bytesTo _ (List.length _) = us ++ (hs ++ four (hs.length / 4)) from HBT.out]
      have hb03 := hb02.trans (hb5.mono hb02.size)
      have hown5' := hown5.more hb02.size
      obtain ⟨bs, hbs⟩ : ∃ bs, Hid (bs = us ++ (hs ++ four (hs.length / 4))) := ⟨_, rfl⟩
      have hbl : bs.length ≤ 13010000 := by rw [hbs.out]; simp only [List.length_append, four_len]; omega
      have hE8 : byv (UInt8.ofNat E) = .int .u8 (E : Int) := by
        unfold byv
        congr 1
        rw [UInt8.toNat_ofNat']
        omega
      rw [← hbs.out] at hown5' ⊢
      have hal := (OwnB.lit (base := w.heap.size) w3 5 [UInt8.ofNat E] hb03.size (by unfold maxLen; simp)).bytes
      rw [List.map_cons, List.map_nil, hE8] at hal
      have hob3 := hown5'.alloc (.cells #[.int .u8 (E : Int)] 5)
      have hb04 := hb03.alloc hb03.size (.cells #[.int .u8 (E : Int)] 5)
      clear HCT HBT hown5 hown5' hb5 hb02 hE8
      go_wp2_with (at_builtin; refine halted ?_)
      refine go_on ?_
      refine wpList_append_bytes _ rfl (.tmp 79) (.tmp 82) 25 rfl w.heap.size 5 Try.underlying25 info_u8 _ _ _ bs rfl rfl hob3 _ _ 1 _ [UInt8.ofNat E] rfl rfl hal (by simp; omega) hb04.size ?_
      intro ds A9 c9 w9 hds hdl hown9 hg9 _
      have hb09 := hob3.below_grown hb04 hg9 (Nat.le_refl _) hb04.size
      have hde : ds = builtB E (l.map Pr.pair) := by
        rw [hds.out, hbs.out, ← HUF.out]
        simp only [List.append_assoc]
      have HN := hide (show NewB2 w w9 (.returned (.tuple #[.slice A9 ds.length c9, .int .i64 0])) (buildR (E : Int) (l.map Pr.pair)) from by rw [HRES.out, ← hde]; exact ⟨A9, c9, rfl, hown9, hb09⟩)
      clear hob3 hb04 hg9 hds hdl hown9 hb09 hde hbs hal
      go_wp2
      go_ret2
      exact HN.out
end Go.Proofs.Yteagjjiggneheaa
