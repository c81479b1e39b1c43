/-
  The reference's Build: what it does.
-/
import Derived.Test.YteagjjiggneheaaBuild
import Derived.Test.YteagjjiggneheaaStr
import Derived.Laws.Cover1
import Derived.Deep.RegionWith
namespace Go.Proofs.Yteagjjiggneheaa
open Go.RowKit
set_option linter.unusedVariables false

/-- The second loop. -/
def RBuildRel (E : Nat) (l : List KV) (w : World) (o h ma i : Value) (wr : World) : Prop :=
  ∃ (k : Nat) (us : List UInt8) (A : Option Addr) (c : Nat) (hs : List UInt8) (A2 : Option Addr) (c2 : Nat), k ≤ l.length ∧ i = .int .i64 (k : Int) ∧ o = .slice A us.length c ∧ h = .slice A2 hs.length c2 ∧ ma = .int .i64 ((hs.length / 4 : Nat) : Int) ∧
    Hid (us = (bodyTo E l k).1) ∧ Hid (hs = (bodyTo E l k).2) ∧ us.length ≤ 13000000 ∧ hs.length ≤ 8000 ∧ OwnB wr w.heap.size 5 A c us ∧ OwnB wr w.heap.size 5 A2 c2 hs ∧ Apart A A2 ∧ Below w.heap.size w wr

set_option maxRecDepth 100000 in
set_option maxHeartbeats 2000000 in
theorem rbuild_any (A : Option Addr) (c : Nat) (l : List Pr) (every : Int) (w : World) (hrow : PrRow w w.heap.size A l) (hll : l.length ≤ 9223372036854775807) (hfew : FewP (l.map Pr.pair)) :
    Calls Try.prog 11 #[.slice A l.length c, .int .i64 every] w fun e w' => NewB2 w w' e (buildR every (l.map Pr.pair)) := by
  by_cases hbad : every < 1 ∨ 64 < every
  · have hr : buildR every (l.map Pr.pair) = ([], 1) := by unfold buildR; rw [if_pos (by omega)]
    rw [hr]
    clear hr
    rcases hbad with h | h
    all_goals
      go_enter Try.func11, Try.ntmps11
      go_wp2
      go_ret2
      exact ⟨none, 0, rfl, OwnB.nil _ _ _, Below.refl _ _⟩
  obtain ⟨E, rfl⟩ := Int.eq_ofNat_of_zero_le (show 0 ≤ every by omega)
  have hE0 : 0 < E := by omega
  have hE1 : E ≤ 64 := by omega
  have hL : l.length ≤ 2000 := by have := hfew.1; rwa [List.length_map] at this
  have HFEW := hide hfew
  have HRok : Hid (Rises (l.map Pr.pair) (l.map Pr.pair).length → buildR (E : Int) (l.map Pr.pair) = (builtB E (l.map Pr.pair), 0)) := by
    show _ → _
    intro h
    unfold buildR
    rw [if_neg (by rw [List.length_map]; omega), Int.toNat_natCast, if_pos h]
  have HRno : Hid (¬ Rises (l.map Pr.pair) (l.map Pr.pair).length → buildR (E : Int) (l.map Pr.pair) = ([], 10)) := by
    show _ → _
    intro h
    unfold buildR
    rw [if_neg (by rw [List.length_map]; omega), if_neg h]
  clear hbad hfew
  go_enter Try.func11, Try.ntmps11
  go_wp2
  go_loopw [6] (fun i wr => ∃ k : Nat, k ≤ max 1 l.length ∧ 1 ≤ k ∧ i = .int .i64 (k : Int) ∧ Hid (Rises (l.map Pr.pair) k) ∧ Below w.heap.size w wr) (fun i _ => l.length - (intOf i).toNat)
  case atStart => exact ⟨1, by omega, by omega, rfl, rises_one _, Below.refl _ _⟩
  case round =>
    obtain ⟨k, hk, hk1, rfl, HRI, hb⟩ := hrel
    by_cases hlt : k < l.length
    · obtain ⟨ad, p, rfl, hadb, hg, hc1, -, hr1, -, -, -⟩ := hrow.at_ hlt
      obtain ⟨ad', q, had', -, hgq, hcq, -, hrq, -, -, -⟩ := hrow.at_ (show k - 1 < l.length by omega)
      injection had' with had'
      subst had'
      have hc1' := (hb.cell (p := ad.add (k * 2)) (by rw [add_block]; exact hadb)).trans hc1
      have hcq' := (hb.cell (p := ad.add ((k - 1) * 2)) (by rw [add_block]; exact hadb)).trans hcq
      have hgp : Hid ((l.map Pr.pair)[k]? = some p.pair) := by show _ = _; rw [List.getElem?_map, hg.out]; rfl
      have hgq' : Hid ((l.map Pr.pair)[k - 1]? = some q.pair) := by show _ = _; rw [List.getElem?_map, hgq.out]; rfl
      have k1 := fun n => run_str (P := Try.prog) (w := wr.drewN n) (dst := 9) (c := p.c) Try.underlying25 Try.underlying5 Try.underlying9 (drewN_bytes (n := n) (hr1.below hb)) rfl
      have k2 := fun n => run_str (P := Try.prog) (w := wr.drewN n) (dst := 9) (c := q.c) Try.underlying25 Try.underlying5 Try.underlying9 (drewN_bytes (n := n) (hrq.below hb)) rfl
      have hk64 : k ≤ 2000 := by omega
      obtain ⟨m, hm⟩ : ∃ m, m = k - 1 := ⟨_, rfl⟩
      have hw : IntKind.i64.wrap ((k : Int) - 1) = (m : Int) := by rw [IntKind.wrap_i64, hm]; omega
      rw [← hm] at hcq'
      have hml : m < l.length := by omega
      have HM := hide hm
      clear hm
      clear hrow hr1 hrq hc1 hcq hg hgq
      cases hcmp : Op.bytesLess q.k p.k with
      | false =>
        have hno := rises_not hgq'.out hgp.out (by omega) hcmp
        have HBR := hide (HRno.out hno)
        have hlb : (Op.bytesLess (strB p.k).toList (strB q.k).toList || (strB p.k).toList == (strB q.k).toList) = true := by rw [strB_toList, strB_toList, less_or, hcmp]; rfl
        clear hno hcmp
        go_wp2
        go_quiet (fail)
        go_wp2
        go_ret2
        rw [HBR.out]
        exact ⟨none, 0, rfl, OwnB.nil _ _ _, below_drewN' hb _⟩
      | true =>
        have HRI2 : Hid (Rises (l.map Pr.pair) (k + 1)) := rises_step HRI.out hgq'.out hgp.out (by omega) hcmp
        have hlb : (Op.bytesLess (strB p.k).toList (strB q.k).toList || (strB p.k).toList == (strB q.k).toList) = false := by rw [strB_toList, strB_toList, less_or, hcmp]; rfl
        clear hcmp
        go_wp2
        go_quiet (fail)
        go_wp2
        go_roundw
        case rel => exact ⟨k + 1, by omega, by omega, by go_num, HRI2.out, below_drewN' hb _⟩
        case measure => simp [intOf]; omega
    · have HRI2 : Hid (Rises (l.map Pr.pair) (l.map Pr.pair).length) := by
        show ∀ _ _ _, _
        intro j p q hj hp hq
        rw [List.length_map] at hj
        exact HRI.out j p q (by omega) hp hq
      clear HRI hk hk1
      go_wp2
      go_loopw [7, 8, 9, 10] (fun o h m i w2 => RBuildRel E (l.map Pr.pair) w o h m i w2) (fun _ _ _ i _ => l.length - (intOf i).toNat)
      case atStart =>
        exact ⟨0, [], none, 0, [], none, 0, by omega, rfl, rfl, rfl, rfl, rfl, rfl, by simp, by simp, OwnB.nil _ _ _, OwnB.nil _ _ _, Apart.none, hb⟩
      case round =>
        clear hb hlt
        obtain ⟨k, us, A3, c3, hs, A4, c4, hk, rfl, rfl, rfl, rfl, HU, HH, hul, hhl, hown3, hown4, hap, hb⟩ := hrel
        rw [List.length_map] at hk
        by_cases hlt : k < l.length
        · obtain ⟨ad, p, rfl, hadb, hg, hc1, hd1, hr1, hrc1, hr2, hrc2⟩ := hrow.at_ hlt
          have hp := HFEW.out.2 p.pair (List.mem_map.2 ⟨p, List.mem_of_getElem? hg.out, rfl⟩)
          have hpk : p.k.length ≤ 1000 := hp.1
          have hpv : p.v.length ≤ 5000 := hp.2
          have hgp : Hid ((l.map Pr.pair)[k]? = some p.pair) := by show _ = _; rw [List.getElem?_map, hg.out]; rfl
          have HS : Hid (St2 w A3 c3 us A4 c4 hs _) := ⟨hb, hown3, hown4, hap⟩
          have HROW := hide hrow
          clear hown3 hown4 hap hb
          by_cases hkm : k % E = 0
          · skip
            have hmod : ((k : Int) % (E : Int) == 0) = true := by simp; omega
            have HKM := hide hkm
            clear hkm
            go_wp2_with (go_at_call 24; refine halted ?_)
            refine go_on ?_
            refine (rfour_any us.length _ (by omega)).mono ?_
            rintro e w1 ⟨A1, c1, rfl, hown1, hb1⟩
            have HS := hide (HS.out.call hb1)
            clear hb1
            go_wp2_with (at_builtin; refine halted ?_)
            refine go_on ?_
            refine wpList_append_bytes _ rfl (.tmp 53) (.tmp 56) 25 rfl w.heap.size 5 Try.underlying25 info_u8 _ _ _ hs rfl rfl HS.out.own2 _ A1 _ c1 (four us.length) rfl rfl hown1.bytes (by rw [four_len]; omega) HS.out.below.size ?_
            intro hs2 A2 c2 w2 hds2 hdl2 hown2 hg2 hat2
            have HS := hide (HS.out.swap.put hg2 hat2 hown2).swap
            have hl2 : hs2.length = hs.length + 4 := by rw [hds2.out, List.length_append, four_len]
            have HL2 := hide hl2
            clear hg2 hat2 hown2 hdl2 hown1 hl2
            go_wp2_with (go_at_call 26; refine halted ?_)
            refine go_on ?_
            refine (rnumber_any 0 _ (by omega)).mono ?_
            rintro e w5 ⟨A5, c5, rfl, hown5, hb5⟩
            have HS := hide (HS.out.call hb5)
            have hnl := hide (numB_len (0))
            clear hb5
            go_wp2_with (at_builtin; refine halted ?_)
            refine go_on ?_
            refine wpList_append_bytes _ rfl (.tmp 72) (.tmp 75) 25 rfl w.heap.size 5 Try.underlying25 info_u8 _ _ _ us rfl rfl HS.out.own _ A5 _ c5 (numB (0)) rfl rfl hown5.bytes (by have := hnl.out; omega) HS.out.below.size ?_
            intro ds6 A6 c6 w6 hds6 hdl6 hown6 hg6 hat6
            have HS := hide (HS.out.put hg6 hat6 hown6)
            have hl6 : ds6.length ≤ 13000011 := by rw [hds6.out, List.length_append]; have := hnl.out; omega
            have hcW := (HS.out.below.cell (p := ad.add (k * 2)) (by rw [add_block]; exact hadb)).trans hc1
            have hr1w := (hr1.below HS.out.below).more HS.out.below.size
            clear hg6 hat6 hown6 hdl6 hown5
            obtain ⟨A7, hcut, hr7⟩ := cut_from elem_bytes size_byte hr1w rfl hrc1 0 0 rfl (by omega) .i64
            go_wp2_with (go_at_call 27; refine halted ?_)
            refine go_on ?_
            refine (rtext_any A7 _ (p.c - 0) (p.k.length - 0) (p.k.drop 0) _ (by rw [List.length_drop]) hr7 (Nat.le_refl _) (by rw [List.length_drop]; omega)).mono ?_
            rintro e w7 ⟨A8, c8, rfl, hown8, hb7⟩
            have HS := hide (HS.out.call hb7)
            have htl := hide (textB_len (p.k.drop 0))
            have hdrop : (p.k.drop 0).length ≤ 1000 := by rw [List.length_drop]; omega
            have HDR := hide hdrop
            clear hcW hcut hr7 hr1w hb7 hdrop
            go_wp2_with (at_builtin; refine halted ?_)
            refine go_on ?_
            refine wpList_append_bytes _ rfl (.tmp 77) (.tmp 85) 25 rfl w.heap.size 5 Try.underlying25 info_u8 _ _ _ ds6 rfl rfl HS.out.own _ A8 _ c8 (textB (p.k.drop 0)) rfl rfl hown8.bytes (by have := htl.out; have := HDR.out; omega) HS.out.below.size ?_
            intro ds9 A9 c9 w9 hds9 hdl9 hown9 hg9 hat9
            have HS := hide (HS.out.put hg9 hat9 hown9)
            have hl9 : ds9.length ≤ 13001100 := by rw [hds9.out, List.length_append]; have := htl.out; have := HDR.out; omega
            have hdW := (HS.out.below.cell (p := ⟨(ad.add (k * 2)).block, (ad.add (k * 2)).off + 1, none⟩) (by show (ad.add (k * 2)).block < _; rw [add_block]; exact hadb)).trans hd1
            have hr2w := (hr2.below HS.out.below).more HS.out.below.size
            clear hg9 hat9 hown9 hdl9 hown8
            go_wp2_with (go_at_call 27; refine halted ?_)
            refine go_on ?_
            refine (rtext_any p.A2 _ p.c2 p.v.length p.v _ rfl hr2w (Nat.le_refl _) (by omega)).mono ?_
            rintro e w10 ⟨A10, c10, rfl, hown10, hb10⟩
            have HS := hide (HS.out.call hb10)
            have htv := hide (textB_len p.v)
            clear hdW hr2w hb10
            go_wp2_with (at_builtin; refine halted ?_)
            refine go_on ?_
            refine wpList_append_bytes _ rfl (.tmp 87) (.tmp 93) 25 rfl w.heap.size 5 Try.underlying25 info_u8 _ _ _ ds9 rfl rfl HS.out.own _ A10 _ c10 (textB p.v) rfl rfl hown10.bytes (by have := htv.out; omega) HS.out.below.size ?_
            intro ds11 A11 c11 w11 hds11 hdl11 hown11 hg11 hat11
            have HS := hide (HS.out.put hg11 hat11 hown11)
            clear hg11 hat11 hown11 hdl11 hown10
            have hde : ds11 = us ++ entryB (0) p.pair := by
              rw [hds11.out, hds9.out, hds6.out]
              unfold entryB
              simp only [List.append_assoc]
              rfl
            have hbt := (bodyTo_head (every := E) hgp.out HKM.out)
            have hlen := bodyTo_len (every := E) HFEW.out (k + 1)
            have HU2 : Hid (ds11 = (bodyTo E (l.map Pr.pair) (k + 1)).1) := by
              show _ = _
              rw [hbt, hde, HU.out]
            have HH2 : Hid (hs2 = (bodyTo E (l.map Pr.pair) (k + 1)).2) := by
              show _ = _
              rw [hbt]
              rw [hds2.out, HU.out, HH.out]
            rw [← HU2.out, ← HH2.out] at hlen
            have hl11 : ds11.length ≤ 13000000 := by omega
            have hlh : hs2.length ≤ 8000 := by omega
            clear hde hbt hlen HU HH hds11 hds9 hds6
            go_wp2
            go_roundw
            case rel => exact ⟨k + 1, ds11, A11, c11, hs2, A2, c2, by rw [List.length_map]; omega, by go_num, rfl, rfl, congrArg (Value.int .i64) (by have := HL2.out; omega), HU2.out, HH2.out, hl11, hlh, HS.out.own, HS.out.own2, HS.out.apart, HS.out.below⟩
            case measure => simp [intOf]; omega
          · skip
            have hmod : ((k : Int) % (E : Int) == 0) = false := by simp; omega
            have hk0 : 0 < k := by
              rcases Nat.eq_zero_or_pos k with h | h
              · subst h; simp at hkm
              · exact h
            have HKM := hide hkm
            clear hkm
            obtain ⟨ad', q, had', -, hgq, hcq, -, hrq, -, -, -⟩ := HROW.out.at_ (show k - 1 < l.length by omega)
            injection had' with had'
            subst had'
            have hgq' : Hid ((l.map Pr.pair)[k - 1]? = some q.pair) := by show _ = _; rw [List.getElem?_map, hgq.out]; rfl
            have hlk : q.k = prevKey (l.map Pr.pair) k := by unfold prevKey; rw [hgq'.out]; rfl
            have HLK := hide hlk
            have hqp := HFEW.out.2 q.pair (List.mem_map.2 ⟨q, List.mem_of_getElem? hgq.out, rfl⟩)
            have hqk : q.k.length ≤ 1000 := hqp.1
            obtain ⟨m', hm'⟩ : ∃ m, m = k - 1 := ⟨_, rfl⟩
            have hw : IntKind.i64.wrap ((k : Int) - 1) = (m' : Int) := by rw [IntKind.wrap_i64, hm']; omega
            rw [← hm'] at hcq
            have hml : m' < l.length := by omega
            have HM := hide hm'
            clear hm' hlk hqp
            have hcW := (HS.out.below.cell (p := ad.add (k * 2)) (by rw [add_block]; exact hadb)).trans hc1
            have hcqW := (HS.out.below.cell (p := ad.add (m' * 2)) (by rw [add_block]; exact hadb)).trans hcq
            obtain ⟨m, hm⟩ : ∃ m, Hid (m = comm q.k p.k) := ⟨_, rfl⟩
            have hmk : m ≤ p.k.length := by rw [hm.out]; exact comm_le_right _ _
            have hcm := fun n => rcommon_any (w := wr.drewN n) (c1 := q.c) (c2 := p.c) (drewN_bytes (n := n) (hrq.below HS.out.below)) rfl (drewN_bytes (n := n) (hr1.below HS.out.below)) rfl HS.out.below.size HS.out.below.size (by omega) (by omega)
            simp only [← hm.out] at hcm
            have HCM := hide hcm
            clear hcm
            go_wp2
            go_region_with (go_at_call 25; refine (HCM.out _).mono ?_; rintro e w1 ⟨rfl, hb1⟩)
            all_goals
              have hb01 : Below wr.heap.size wr w1 := (below_drewN' (Below.refl wr.heap.size wr) _).trans hb1
              have HS := hide (HS.out.call hb01)
              clear hb1 hb01 hcW hcqW HCM hcq hgq
              go_wp2_with (go_at_call 26; refine halted ?_)
              refine go_on ?_
              refine (rnumber_any m _ (by omega)).mono ?_
              rintro e w5 ⟨A5, c5, rfl, hown5, hb5⟩
              have HS := hide (HS.out.call hb5)
              have hnl := hide (numB_len (m))
              clear hb5
              go_wp2_with (at_builtin; refine halted ?_)
              refine go_on ?_
              refine wpList_append_bytes _ rfl (.tmp 72) (.tmp 75) 25 rfl w.heap.size 5 Try.underlying25 info_u8 _ _ _ us rfl rfl HS.out.own _ A5 _ c5 (numB (m)) rfl rfl hown5.bytes (by have := hnl.out; omega) HS.out.below.size ?_
              intro ds6 A6 c6 w6 hds6 hdl6 hown6 hg6 hat6
              have HS := hide (HS.out.put hg6 hat6 hown6)
              have hl6 : ds6.length ≤ 13000011 := by rw [hds6.out, List.length_append]; have := hnl.out; omega
              have hcW := (HS.out.below.cell (p := ad.add (k * 2)) (by rw [add_block]; exact hadb)).trans hc1
              have hr1w := (hr1.below HS.out.below).more HS.out.below.size
              clear hg6 hat6 hown6 hdl6 hown5
              obtain ⟨A7, hcut, hr7⟩ := cut_from elem_bytes size_byte hr1w rfl hrc1 (m : Int) m rfl (by omega) .i64
              go_wp2_with (go_at_call 27; refine halted ?_)
              refine go_on ?_
              refine (rtext_any A7 _ (p.c - m) (p.k.length - m) (p.k.drop m) _ (by rw [List.length_drop]) hr7 (Nat.le_refl _) (by rw [List.length_drop]; omega)).mono ?_
              rintro e w7 ⟨A8, c8, rfl, hown8, hb7⟩
              have HS := hide (HS.out.call hb7)
              have htl := hide (textB_len (p.k.drop m))
              have hdrop : (p.k.drop m).length ≤ 1000 := by rw [List.length_drop]; omega
              have HDR := hide hdrop
              clear hcW hcut hr7 hr1w hb7 hdrop
              go_wp2_with (at_builtin; refine halted ?_)
              refine go_on ?_
              refine wpList_append_bytes _ rfl (.tmp 77) (.tmp 85) 25 rfl w.heap.size 5 Try.underlying25 info_u8 _ _ _ ds6 rfl rfl HS.out.own _ A8 _ c8 (textB (p.k.drop m)) rfl rfl hown8.bytes (by have := htl.out; have := HDR.out; omega) HS.out.below.size ?_
              intro ds9 A9 c9 w9 hds9 hdl9 hown9 hg9 hat9
              have HS := hide (HS.out.put hg9 hat9 hown9)
              have hl9 : ds9.length ≤ 13001100 := by rw [hds9.out, List.length_append]; have := htl.out; have := HDR.out; omega
              have hdW := (HS.out.below.cell (p := ⟨(ad.add (k * 2)).block, (ad.add (k * 2)).off + 1, none⟩) (by show (ad.add (k * 2)).block < _; rw [add_block]; exact hadb)).trans hd1
              have hr2w := (hr2.below HS.out.below).more HS.out.below.size
              clear hg9 hat9 hown9 hdl9 hown8
              go_wp2_with (go_at_call 27; refine halted ?_)
              refine go_on ?_
              refine (rtext_any p.A2 _ p.c2 p.v.length p.v _ rfl hr2w (Nat.le_refl _) (by omega)).mono ?_
              rintro e w10 ⟨A10, c10, rfl, hown10, hb10⟩
              have HS := hide (HS.out.call hb10)
              have htv := hide (textB_len p.v)
              clear hdW hr2w hb10
              go_wp2_with (at_builtin; refine halted ?_)
              refine go_on ?_
              refine wpList_append_bytes _ rfl (.tmp 87) (.tmp 93) 25 rfl w.heap.size 5 Try.underlying25 info_u8 _ _ _ ds9 rfl rfl HS.out.own _ A10 _ c10 (textB p.v) rfl rfl hown10.bytes (by have := htv.out; omega) HS.out.below.size ?_
              intro ds11 A11 c11 w11 hds11 hdl11 hown11 hg11 hat11
              have HS := hide (HS.out.put hg11 hat11 hown11)
              clear hg11 hat11 hown11 hdl11 hown10
              have hde : ds11 = us ++ entryB (m) p.pair := by
                rw [hds11.out, hds9.out, hds6.out]
                unfold entryB
                simp only [List.append_assoc]
                rfl
              have hbt := (bodyTo_next (every := E) hgp.out HKM.out)
              have hlen := bodyTo_len (every := E) HFEW.out (k + 1)
              have HU2 : Hid (ds11 = (bodyTo E (l.map Pr.pair) (k + 1)).1) := by
                show _ = _
                rw [hbt, hde, HU.out, hm.out, HLK.out]
                rfl
              have HH2 : Hid (hs = (bodyTo E (l.map Pr.pair) (k + 1)).2) := by
                show _ = _
                rw [hbt]
                rw [HH.out]
              rw [← HU2.out, ← HH2.out] at hlen
              have hl11 : ds11.length ≤ 13000000 := by omega
              have hlh : hs.length ≤ 8000 := by omega
              clear hde hbt hlen HU HH hds11 hds9 hds6
              go_wp2
              go_roundw
              case rel => exact ⟨k + 1, ds11, A11, c11, hs, A4, c4, by rw [List.length_map]; omega, by go_num, rfl, rfl, rfl, HU2.out, HH2.out, hl11, hlh, HS.out.own, HS.out.own2, HS.out.apart, HS.out.below⟩
              case measure => simp [intOf]; omega
        · have hkl : k = (l.map Pr.pair).length := by rw [List.length_map]; omega
          have HRES := hide (HRok.out HRI2.out)
          have HUF : Hid (us ++ (hs ++ (four (hs.length / 4) ++ [UInt8.ofNat E])) = builtB E (l.map Pr.pair)) := by
            show _ = _
            unfold builtB
            rw [HU.out, HH.out, hkl]
          clear hrow HU HH HRI2
          go_wp2_with (at_builtin; refine halted ?_)
          refine go_on ?_
          refine wpList_append_bytes _ rfl (.tmp 95) (.tmp 96) 25 rfl w.heap.size 5 Try.underlying25 info_u8 _ _ _ us rfl rfl hown3 _ A4 _ c4 hs rfl rfl hown4.bytes (by omega) hb.size ?_
          intro ds1 A5 c5 w1 hds1 hdl1 hown1 hg1 hat1
          have hb1 := hown3.below_grown hb hg1 (Nat.le_refl _) hb.size
          have hl1 : ds1.length ≤ 13008000 := by rw [hds1.out, List.length_append]; omega
          clear hown3 hg1 hb hdl1 hat1 hown4 hap
          go_wp2_with (go_at_call 24; refine halted ?_)
          refine go_on ?_
          rw [show (hs.length : Int) / 4 = ((hs.length / 4 : Nat) : Int) from by omega]
          refine (rfour_any (hs.length / 4) _ (by omega)).mono ?_
          rintro e w2 ⟨A6, c6, rfl, hown6, hb2⟩
          have o1 := hown1.below hb2 (Nat.le_refl _)
          have hb02 := hb1.trans (hb2.mono hb1.size)
          clear hown1 hb1 hb2
          go_wp2_with (at_builtin; refine halted ?_)
          refine go_on ?_
          refine wpList_append_bytes _ rfl (.tmp 98) (.tmp 100) 25 rfl w.heap.size 5 Try.underlying25 info_u8 _ _ _ ds1 rfl rfl o1 _ A6 _ c6 (four (hs.length / 4)) rfl rfl hown6.bytes (by rw [four_len]; omega) hb02.size ?_
          intro ds3 A7 c7 w3 hds3 hdl3 hown7 hg3 hat3
          have hb3 := o1.below_grown hb02 hg3 (Nat.le_refl _) hb02.size
          have hl3 : ds3.length ≤ 13008004 := by rw [hds3.out, List.length_append, four_len]; omega
          have hE8 : byv (UInt8.ofNat E) = .int .u8 (E : Int) := by
            unfold byv
            congr 1
            rw [UInt8.toNat_ofNat']
            omega
          have hal := (OwnB.lit (base := w.heap.size) w3 5 [UInt8.ofNat E] hb3.size (by unfold maxLen; simp)).bytes
          rw [List.map_cons, List.map_nil, hE8] at hal
          have hob3 := hown7.alloc (.cells #[.int .u8 (E : Int)] 5)
          have hb04 := hb3.alloc hb3.size (.cells #[.int .u8 (E : Int)] 5)
          clear o1 hown6 hg3 hat3 hdl3 hb02 hown7 hE8
          go_wp2_with (at_builtin; refine halted ?_)
          refine go_on ?_
          refine wpList_append_bytes _ rfl (.tmp 102) (.tmp 105) 25 rfl w.heap.size 5 Try.underlying25 info_u8 _ _ _ ds3 rfl rfl hob3 _ _ 1 _ [UInt8.ofNat E] rfl rfl hal (by simp; omega) hb04.size ?_
          intro ds A9 c9 w9 hds hdl hown9 hg9 _
          have hb09 := hob3.below_grown hb04 hg9 (Nat.le_refl _) hb04.size
          have hde : ds = builtB E (l.map Pr.pair) := by
            rw [hds.out, hds3.out, hds1.out, ← HUF.out]
            simp only [List.append_assoc]
          have HN := hide (show NewB2 w w9 (.returned (.tuple #[.slice A9 ds.length c9, .int .i64 0])) (buildR (E : Int) (l.map Pr.pair)) from by rw [HRES.out, ← hde]; exact ⟨A9, c9, rfl, hown9, hb09⟩)
          clear hob3 hb04 hg9 hds hds1 hds3 hdl hown9 hb09 hde hal
          go_wp2
          go_ret2
          exact HN.out
end Go.Proofs.Yteagjjiggneheaa
