/-
  The reference's Encode: what it does.
-/
import Derived.Test.YtedaajilmeplnaaEncode
import Derived.Test.YtedaajilmeplnaaStepRow
namespace Go.Proofs.Ytedaajilmeplnaa
open Go.RowKit
set_option linter.unusedVariables false

def u64s (l : List Int) : List Value := l.map fun x => .int .u64 x
theorem info_u64 : (Try.prog.info? 46).map (fun i => (i.zero, i.size, i.bytes)) = some (some (.int .u64 0), 1, 8) := by kernel_rfl

def REncRel (s : Sch) (w : World) (v i : Value) (wr : World) : Prop :=
  ∃ (k n : Nat) (A : Option Addr) (c : Nat), k ≤ s.brs.length ∧ i = .int .i64 (k : Int) ∧ v = .slice A n c ∧ Hid (n = (numsTo s k).length) ∧ wr.ownsRow w.heap.size 46 1 (.slice A n c) n (u64s (numsTo s k)) ∧ Below w.heap.size w wr
def RNumsRel (l : List Int) (w : World) (v i : Value) (wr : World) : Prop :=
  ∃ (j : Nat) (us : List UInt8) (A : Option Addr) (c : Nat), j ≤ l.length ∧ i = .int .i64 (j : Int) ∧ v = .slice A us.length c ∧ Hid (us = numsB (l.take j)) ∧ OwnB wr w.heap.size 5 A c us ∧ Below w.heap.size w wr
theorem u64_wrap {x : Int} (h0 : 0 ≤ x) (h1 : x ≤ 9223372036854775807) : IntKind.u64.wrap x = x := by unfold IntKind.wrap; simp [IntKind.signed, IntKind.bits]; omega
theorem u64s_append (a b : List Int) : u64s (a ++ b) = u64s a ++ u64s b := List.map_append
theorem u64s_one (l : List Int) : ∀ u ∈ u64s l, u.oneCell' = true := by
  intro u hu
  obtain ⟨b, _, rfl⟩ := List.mem_map.1 hu
  rfl

set_option maxRecDepth 100000 in
set_option maxHeartbeats 2000000 in
theorem rencode_any (s : Sch) (A : Option Addr) (c : Nat) (w : World) (hr : Row w w.heap.size A (brCells s.brs)) (hl : s.brs.length ≤ 9223372036854775807) :
    Calls Try.prog 17 #[schV s A c] w fun e w' => NewB2 w w' e (encR s) := by
  have hra := rright_any s A c (w.alloc (.cells #[.slice A s.brs.length c, .int .i64 s.ded, .int .i64 s.cred, .int .i64 s.lbp, .int .i64 s.lmost, .int .i64 s.lleast] 24)) ((hr.alloc (Nat.le_refl _) _).more (by simp)) hl
  have hb0 : Below w.heap.size w (w.alloc (.cells #[.slice A s.brs.length c, .int .i64 s.ded, .int .i64 s.cred, .int .i64 s.lbp, .int .i64 s.lmost, .int .i64 s.lleast] 24)) := (Below.refl w.heap.size w).alloc (Nat.le_refl _) _
  have HRA := hide hra
  clear hra
  unfold schV at *
  by_cases hR : s.right = true
  · rw [hR] at HRA
    have HE := hide (encR_ok hR)
    obtain ⟨a1, a2, a3, a4, a5, a6, a7, a8⟩ := right_all hR
    have HBR := hide a8
    clear a8 hR
    go_enter Try.func17, Try.ntmps17
    go_wp2_with (go_at_call 15; refine halted ?_)
    refine go_on ?_
    refine HRA.out.mono ?_
    rintro e w1 ⟨rfl, hb1⟩
    have hs1 : w.heap.size < w1.heap.size := by have := hb1.size; simp at this; omega
    have hc0 := hb1.cell (p := ⟨w.heap.size, 0, none⟩) (by simp)
    have hc1 := hb1.cell (p := ⟨w.heap.size, 1, none⟩) (by simp)
    have hc2 := hb1.cell (p := ⟨w.heap.size, 2, none⟩) (by simp)
    have hc3 := hb1.cell (p := ⟨w.heap.size, 3, none⟩) (by simp)
    have hc4 := hb1.cell (p := ⟨w.heap.size, 4, none⟩) (by simp)
    have hc5 := hb1.cell (p := ⟨w.heap.size, 5, none⟩) (by simp)
    simp at hc0 hc1 hc2 hc3 hc4 hc5
    have hbw : Below w.heap.size w w1 := hb0.trans (hb1.mono (by simp))
    have hr1 : Row w1 w.heap.size A (brCells s.brs) := hr.below hbw
    clear hb0 hb1 hr
    obtain ⟨i0, hi, hz0, hz1, hz2⟩ := info_parts info_u64
    have hlit : (w1.alloc (.cells #[.int .u64 (s.brs.length : Int)] 46)).ownsRow w1.heap.size 46 1 (.slice (some ⟨w1.heap.size, 0, none⟩) 1 1) 1 [.int .u64 (s.brs.length : Int)] := World.ownsRow_lit (base := w1.heap.size) (e := 46) (size := 1) w1 #[.int .u64 (s.brs.length : Int)] 1 (Nat.le_refl _) (by unfold maxLen; omega) (by simp)
    go_wp2
    go_loopw [5, 6] (fun v i wr => REncRel s w1 v i wr) (fun _ i _ => s.brs.length - (intOf i).toNat)
    case atStart => exact ⟨0, 1, _, 1, by omega, rfl, rfl, rfl, hlit, (Below.refl _ _).alloc (Nat.le_refl _) _⟩
    case round =>
      clear hlit
      obtain ⟨k, n, A3, c3, hk, rfl, rfl, HN, hown, hb⟩ := hrel
      have hnl : n ≤ 21 := by have := numsTo_len s k; rw [HN.out]; omega
      by_cases hlt : k < s.brs.length
      · have hrr : Row wr w.heap.size A (brCells s.brs) := hr1.belowLe hb (by omega)
        obtain ⟨ad, f, p, rfl, hadb, hbk, hk1, hk2⟩ := hrr.bracket hlt
        have hget := brsOk_get HBR.out hbk.out
        have g1 := hget.2.1
        have g2 := hget.2.2.1
        have g3 := hget.2.2.2.1
        have g4 := hget.2.2.2.2.1
        have wf := u64_wrap g1 (by omega)
        have wp := u64_wrap g3 (by omega)
        have hcr := (hb.cell (p := ⟨w.heap.size, 0, none⟩) hs1).trans hc0
        have HOWN := hide hown
        have HB := hide hb
        clear hrr hget hr1
        go_wp2
        go_region_held_law (fun w' => w'.cell? ⟨w.heap.size, 0, none⟩ = some (.slice (some ad) s.brs.length c) ∧ w'.cell? (ad.add (k * 2)) = some (.int .i64 f) ∧ w'.cell? ⟨(ad.add (k * 2)).block, (ad.add (k * 2)).off + 1, none⟩ = some (.int .i64 p)) (first | go_keep | exact ⟨y0, y1, y2⟩)
          (first
            | (refine step_append_own _ rfl (.tmp 25) (.tmp 40) 58 rfl w1.heap.size 46 i0 _ 1 8 Try.underlying58 hi hz0 hz1 hz2 rfl (by decide) A3 n c3 (u64s (numsTo s k)) rfl ((World.ownsRow.drew HOWN.out).alloc _) _ _ 2 _ [.int .u64 f, .int .u64 p] rfl rfl (Row.new wr.drew #[.int .u64 f, .int .u64 p] 46 (0, 0)) (by intro u hu; simp at hu; rcases hu with rfl | rfl <;> rfl) (by unfold maxLen; omega) (by omega) (by have := HB.out.size; simp; exact Nat.le_succ_of_le this) ?_
               intro n' xs' A5 c5 w5 hn' hxs' hnc _ hown5 hg5 hat5
               have hb5 : Below w1.heap.size w1 w5 := ((below_drewN' HB.out 1).alloc HB.out.size _).grown hg5 (by have := HB.out.size; simp; exact Nat.le_succ_of_le this) (fun q hq => (World.ownsRow.lt HOWN.out q (by rw [ownBlock_slice]; exact hq)).1)
               have y0 := (hb5.cell (p := ⟨w.heap.size, 0, none⟩) hs1).trans hc0
               have y1 : w5.cell? (ad.add (k * 2)) = some (.int .i64 f) := ((hb5.cell (p := ad.add (k * 2)) (by rw [add_block]; omega)).trans (HB.out.cell (p := ad.add (k * 2)) (by rw [add_block]; omega)).symm).trans hk1
               have y2 : w5.cell? ⟨(ad.add (k * 2)).block, (ad.add (k * 2)).off + 1, none⟩ = some (.int .i64 p) := ((hb5.cell (p := ⟨(ad.add (k * 2)).block, (ad.add (k * 2)).off + 1, none⟩) (by show (ad.add (k * 2)).block < _; rw [add_block]; omega)).trans (HB.out.cell (p := ⟨(ad.add (k * 2)).block, (ad.add (k * 2)).off + 1, none⟩) (by show (ad.add (k * 2)).block < _; rw [add_block]; omega)).symm).trans hk2))
        have en : n' = n + 2 := hn'.out
        have HN2 : Hid (n' = (numsTo s (k + 1)).length) := by
          show _ = _
          rw [numsTo_next hbk.out, List.length_append, ← HN.out, en]
          rfl
        have ex : xs' = u64s (numsTo s (k + 1)) := by rw [hxs'.out, numsTo_next hbk.out, u64s_append]; rfl
        rw [ex] at hown5
        clear ex en hn' hxs' hg5 hat5 hown hb HOWN HB y0 y1 y2
        go_wp2
        go_roundw
        case rel => exact ⟨k + 1, n', A5, c5, by omega, by go_num, rfl, HN2.out, hown5, hb5⟩
        case measure => simp [intOf]; omega
      · have hkl : k = s.brs.length := by omega
        have hcr := (hb.cell (p := ⟨w.heap.size, 0, none⟩) hs1).trans hc0
        have d1 := (hb.cell (p := ⟨w.heap.size, 1, none⟩) hs1).trans hc1
        have d2 := (hb.cell (p := ⟨w.heap.size, 2, none⟩) hs1).trans hc2
        have d3 := (hb.cell (p := ⟨w.heap.size, 3, none⟩) hs1).trans hc3
        have d4 := (hb.cell (p := ⟨w.heap.size, 4, none⟩) hs1).trans hc4
        have d5 := (hb.cell (p := ⟨w.heap.size, 5, none⟩) hs1).trans hc5
        have HOWN := hide hown
        have HB := hide hb
        have v1 := u64_wrap a1.1 (by omega)
        have v2 := u64_wrap a2.1 (by omega)
        have v3 := u64_wrap a3.1 (by omega)
        have v4 := u64_wrap a4.1 (by omega)
        have v5 := u64_wrap a5.1 (by omega)
        clear hr1
        go_wp2_with (at_builtin; refine halted ?_)
        refine go_on ?_
        refine wpList_append_own _ rfl (.tmp 42) (.tmp 58) 58 rfl w1.heap.size 46 i0 _ 1 8 Try.underlying58 hi hz0 hz1 hz2 rfl (by decide) A3 n c3 (u64s (numsTo s k)) rfl (World.ownsRow.alloc HOWN.out _) _ _ 5 _ (u64s (numsEnd s)) rfl rfl (Row.new wr #[.int .u64 s.ded, .int .u64 s.cred, .int .u64 s.lbp, .int .u64 s.lmost, .int .u64 s.lleast] 46 (0, 0)) (u64s_one _) (by unfold maxLen; omega) (by omega) (by have := HB.out.size; simp; exact Nat.le_succ_of_le this) ?_
        intro n' xs' A5 c5 w5 hn' hxs' hnc _ hown5 hg5 hat5
        have hb5 : Below w1.heap.size w1 w5 := (HB.out.alloc HB.out.size _).grown hg5 (by have := HB.out.size; simp; exact Nat.le_succ_of_le this) (fun q hq => (World.ownsRow.lt HOWN.out q (by rw [ownBlock_slice]; exact hq)).1)
        have HN2 : Hid (n' = (numsOf s).length) := by
          show _ = _
          unfold numsOf
          rw [List.length_append, ← hkl, ← HN.out, hn'.out]
          rfl
        have ex : xs' = u64s (numsOf s) := by rw [hxs'.out]; unfold numsOf; rw [u64s_append, hkl]
        rw [ex] at hown5
        have hrow5 := Row.of_own hown5
        have hbw5 : Below w.heap.size w w5 := hbw.trans (hb5.mono (by omega))
        have hn26 : n' ≤ 26 := by rw [hn'.out]; omega
        have hnp : Hid (∀ x ∈ numsOf s, 0 ≤ x ∧ x ≤ 9223372036854775807) := by
          show ∀ _, _
          intro x hx
          unfold numsOf numsTo numsEnd at hx
          rw [List.take_length] at hx
          rcases List.mem_append.1 hx with h | h
          · rcases List.mem_cons.1 h with h | h
            · subst h; omega
            · obtain ⟨b, hb1, hb2⟩ := List.mem_flatMap.1 h
              obtain ⟨j, hj⟩ := List.mem_iff_getElem?.1 hb1
              have hget := brsOk_get HBR.out (f := b.1) (p := b.2) hj
              simp at hb2
              rcases hb2 with rfl | rfl <;> omega
          · simp at h
            rcases h with rfl | rfl | rfl | rfl | rfl <;> omega
        clear ex hn' hxs' hg5 hat5 hown hb HOWN HB hown5 hb5 d1 d2 d3 d4 d5 hcr hc0 hc1 hc2 hc3 hc4 hc5
        go_wp2
        generalize hNS : numsOf s = NS at *
        go_loopw [7, 8] (fun v i wr => RNumsRel NS w5 v i wr) (fun _ i _ => n' - (intOf i).toNat)
        case atStart => exact ⟨0, [], none, 0, by omega, rfl, rfl, by show _ = _; simp [numsB], OwnB.nil _ _ _, Below.refl _ _⟩
        case round =>
          obtain ⟨j, us, A6, c6, hj, rfl, rfl, HU, hown6, hb6⟩ := hrel
          rw [← HN2.out] at hj
          have hul : us.length ≤ 300 := by
            rw [HU.out]
            have h1 := numsB_len (NS.take j)
            rw [List.length_take] at h1
            omega
          by_cases hlt2 : j < n'
          · obtain ⟨x, hx⟩ : ∃ x, NS[j]? = some x := ⟨_, List.getElem?_eq_getElem (by rw [← HN2.out]; exact hlt2)⟩
            obtain ⟨x0, x1⟩ := hnp.out x (List.mem_of_getElem? hx)
            obtain ⟨ad, rfl, hadb, hcx⟩ := (hrow5.below hb6) j (.int .u64 x) (by unfold u64s; rw [List.getElem?_map, hx]; rfl)
            obtain ⟨m, rfl⟩ := Int.eq_ofNat_of_zero_le x0
            have HX := hide hx
            have hnl := hide (numB_len m)
            clear hx hrow5
            go_wp2_with (go_at_call 31; refine halted ?_)
            refine go_on ?_
            refine (rnumber_any m _ (by omega)).mono ?_
            rintro e w7 ⟨A7, c7, rfl, hown7, hb7⟩
            have o6 := hown6.below hb7 (Nat.le_refl _)
            have hb57 := hb6.trans (hb7.mono hb6.size)
            clear hb7 hcx
            go_wp2_with (at_builtin; refine halted ?_)
            refine go_on ?_
            refine wpList_append_bytes _ rfl (.tmp 66) (.tmp 71) 37 rfl w5.heap.size 5 Try.underlying37 info_u8 _ _ _ us rfl rfl o6 _ A7 _ c7 (numB m) rfl rfl hown7.bytes (by have := hnl.out; omega) hb57.size ?_
            intro ds8 A8 c8 w8 hds8 hdl8 hown8 hg8 _
            have hb8 := o6.below_grown hb57 hg8 (Nat.le_refl _) hb57.size
            have HU2 : Hid (ds8 = numsB (NS.take (j + 1))) := by
              show _ = _
              rw [hds8.out, HU.out, numsB_next HX.out]
              rfl
            clear o6 hown7 hg8 hds8 hdl8 hown6 hb6 hb57
            go_wp2
            go_roundw
            case rel => exact ⟨j + 1, ds8, A8, c8, by rw [← HN2.out]; omega, by go_num, rfl, HU2.out, hown8, hb8⟩
            case measure => simp [intOf]; omega
          · have hjl : j = NS.length := by rw [← HN2.out]; omega
            have hus : us = numsB NS := by rw [HU.out, hjl, List.take_length]
            have HF := hide (show NewB2 w wr (.returned (.tuple #[.slice A6 us.length c6, .int .i64 0])) (encR s) from by rw [HE.out, ← hus]; exact ⟨A6, c6, rfl, hown6.more hbw5.size, hbw5.trans (hb6.mono hbw5.size)⟩)
            clear hus hown6 hb6 hrow5
            go_wp2
            go_ret2
            exact HF.out
  · have hR' : s.right = false := by simpa using hR
    rw [hR'] at HRA
    have HE := hide (encR_no hR')
    clear hR hR'
    go_enter Try.func17, Try.ntmps17
    go_wp2_with (go_at_call 15; refine halted ?_)
    refine go_on ?_
    refine HRA.out.mono ?_
    rintro e w1 ⟨rfl, hb1⟩
    have hbw : Below w.heap.size w w1 := hb0.trans (hb1.mono (by simp))
    go_wp2
    go_ret2
    rw [HE.out]
    exact ⟨none, 0, rfl, OwnB.nil _ _ _, hbw⟩
end Go.Proofs.Ytedaajilmeplnaa
