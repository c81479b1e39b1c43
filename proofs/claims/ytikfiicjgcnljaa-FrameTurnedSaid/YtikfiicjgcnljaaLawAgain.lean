/-
  FrameAgain, walked.
-/
import Derived.Test.YtikfiicjgcnljaaLawTakes
namespace Go.Proofs.Ytikfiicjgcnljaa
open Go.RowKit
set_option linter.unusedVariables false

/-- Frames put one behind the other. -/
def AgainRel (l : List Fr) (w : World) (v i : Value) (wr : World) : Prop :=
  ∃ (k : Nat) (us : List UInt8) (A : Option Addr) (c : Nat), k ≤ l.length ∧ i = .int .i64 (k : Int) ∧ v = .slice A us.length c ∧ Hid (us = flat ((l.take k).map Fr.pair)) ∧ us.length ≤ 1000000 ∧ OwnB wr w.heap.size 5 A c us ∧ Below w.heap.size w wr

theorem flat_take_len (l : List Fr) (k : Nat) : (flat ((l.take k).map Fr.pair)).length ≤ (flat (l.map Fr.pair)).length := by
  have : l.map Fr.pair = (l.take k).map Fr.pair ++ (l.drop k).map Fr.pair := by rw [← List.map_append, List.take_append_drop]
  rw [this, flat_append, List.length_append]
  omega

set_option maxRecDepth 100000 in
set_option maxHeartbeats 2000000 in
theorem frameAgain_any (A : Option Addr) (c : Nat) (bs : List UInt8) (w : World) (hr : Bytes w w.heap.size A bs) (hl : bs.length ≤ 9223372036854775807) (hc : bs.length ≤ c) :
    Calls Try.prog 8 #[.slice A bs.length c] w fun e w' => e = .returned (.bool true) ∧ Below w.heap.size w w' := by
  by_cases hL : 200000 < bs.length
  · go_enter Try.func8, Try.ntmps8
    go_wp2_with (go_at_call 9; refine (awake_any _).mono ?_; rintro e w1 ⟨rfl, hb1⟩)
    go_ret
    exact ⟨rfl, hb1⟩
  have HC := hide hc
  clear hc
  go_enter Try.func8, Try.ntmps8
  go_wp2_with (first | (go_at_call 9; refine (awake_any _).mono ?_; rintro e w1 ⟨rfl, hb1⟩) | (go_at_call 14; refine halted ?_))
  refine go_on ?_
  refine (scan_any A c _ bs _ rfl ((hr.below hb1).more hb1.size) (by omega) HC.out).mono ?_
  rintro e w2 ⟨l, r, A6, c6, rfl, HS, n1, n2, n3, n4⟩
  have hb2 := hb1.trans (n4.mono hb1.size)
  have hrow : FrRow w2 w2.heap.size A6 l := ⟨n1, fun f hf => ⟨(n3 f hf).1, (n3 f hf).2.1⟩⟩
  have hfl := congrArg List.length HS.out.1
  rw [List.length_append] at hfl
  have HFL := hide hfl
  have hll : 6 * l.length ≤ bs.length := by
    have h1 := flat_len (l.map Fr.pair)
    rw [List.length_map] at h1
    omega
  have hrl : r.length ≤ bs.length := by omega
  have hnI : wrap64 ((bs.length : Int) - (r.length : Int)) = (bs.length : Int) - (r.length : Int) := IntWalk.wrap64_in _ (by omega)
  clear hfl n1 n3 n4
  go_wp2
  go_loopw [6, 7] (fun v i wr => AgainRel l w2 v i wr) (fun _ i _ => l.length - (intOf i).toNat)
  case atStart => exact ⟨0, [], none, 0, by omega, rfl, rfl, rfl, by simp, OwnB.nil _ _ _, Below.refl _ _⟩
  case round =>
    obtain ⟨k, us, A3, c3, hk, rfl, rfl, HU, hul, hown, hb⟩ := hrel
    by_cases hlt : k < l.length
    · obtain ⟨ad, f, rfl, hadb, hg, hc1, hd1, hf1, hf2⟩ := hrow.at_ hlt
      have hc1' := (hb.cell (p := ad.add (k * 2)) (by rw [add_block]; exact hadb)).trans hc1
      have hd1' := (hb.cell (p := ⟨(ad.add (k * 2)).block, (ad.add (k * 2)).off + 1, none⟩) (by show (ad.add (k * 2)).block < _; rw [add_block]; exact hadb)).trans hd1
      have hfb : f.b.length ≤ 65536 := HS.out.2.1 f.pair (List.mem_map.2 ⟨f, List.mem_of_getElem? hg.out, rfl⟩)
      have hput := fun n => put_any f.k f.A w2.heap.size f.c _ f.b (wr.drewN n) rfl (drewN_bytes (hf1.belowLe hb (Nat.le_refl _))) (by exact hb.size) (by omega)
      rw [putR_ok hfb] at hput
      have HPUT := hide hput
      have HFB := hide hfb
      clear hput hfb hc1 hd1 hf1 hf2
      go_wp2
      go_region_with (go_at_call 10; refine (HPUT.out _).mono ?_; rintro e w3 ⟨A7, c7, rfl, hown7, hb7⟩)
      all_goals
        have hb07 : Below wr.heap.size wr w3 := (below_drewN' (Below.refl wr.heap.size wr) _).trans hb7
        have hown3 := hown.below hb07 (Nat.le_refl _)
        have hb3 := hb.trans (hb07.mono hb.size)
        have hfl7 := hide (frameB_len f.k f.b)
        clear hb7 hown hb HPUT
        go_wp2_with (at_builtin; refine halted ?_)
        refine go_on ?_
        refine wpList_append_bytes _ rfl (.tmp 42) (.tmp 43) 22 rfl w2.heap.size 5 Try.underlying22 info_u8 _ _ _ us rfl rfl hown3 _ A7 _ c7 (frameB f.k f.b) rfl rfl hown7.bytes (by have := hfl7.out; have := HFB.out; omega) hb3.size ?_
        intro ds A8 c8 w8 hds hdl hown8 hg8 _
        have hb8 := hown3.below_grown hb3 hg8 (Nat.le_refl _) hb3.size
        have HU2 : Hid (ds = flat ((l.take (k + 1)).map Fr.pair)) := by
          show _ = _
          rw [hds.out, HU.out, take_next hg.out, List.map_append, List.map_cons, List.map_nil, show f.pair = (f.k, f.b) from rfl, flat_snoc]
        have HDL : Hid (ds.length ≤ 1000000) := by
          show _ ≤ _
          have h1 := HFL.out
          have h2 := flat_take_len l (k + 1)
          rw [HU2.out]; omega
        clear hown3 hb3 hg8 hds hdl hown7
        go_wp2
        go_roundw
        case rel => exact ⟨k + 1, ds, A8, c8, by omega, by go_num, rfl, HU2.out, HDL.out, hown8, hb8⟩
        case measure => simp [intOf]; omega
    · have hk' : k = l.length := by omega
      have hus : us = flat (l.map Fr.pair) := by rw [HU.out, hk', List.take_length]
      have hbs : bs.take (bs.length - r.length) = us := by
        have h1 := HS.out.1
        have h2 := HFL.out
        rw [hus, show bs.length - r.length = (flat (l.map Fr.pair)).length by omega]
        conv => lhs; rw [h1]
        exact List.take_left' rfl
      have hbw := hb2.trans (hb.mono hb2.size)
      have hcut := cut_to (A := A) (n := bs.length) (c := c) (k := bs.length - r.length) (h := (bs.length : Int) - (r.length : Int)) elem_bytes size_byte (by omega) (by have := HC.out; omega) .i64
      have k1 := fun n => run_str (P := Try.prog) (w := wr.drewN n) (dst := 9) (c := c3) Try.underlying22 Try.underlying5 Try.underlying9 (drewN_bytes (n := n) hown.bytes) rfl
      have hr2 : Bytes wr w.heap.size A us := by rw [← hbs]; exact (hr.below hbw).take _
      have hul2 : us.length = bs.length - r.length := by rw [← hbs, List.length_take]; omega
      have k2 := fun n => run_str (P := Try.prog) (w := wr.drewN n) (dst := 9) (c := c) Try.underlying22 Try.underlying5 Try.underlying9 (drewN_bytes (n := n) hr2) hul2
      have hrlI : (r.length : Int) ≤ (bs.length : Int) := by omega
      have hnn : 0 ≤ (bs.length : Int) - (r.length : Int) := by omega
      have hn2 : (bs.length : Int) - (r.length : Int) ≤ (bs.length : Int) := by omega
      clear hus hbs hr2 HU hown hk' hk hl hrow hll hrl hul2
      go_wp2
      go_quiet (fail)
      go_wp2
      go_ret
      exact ⟨rfl, below_drewN' hbw _⟩
end Go.Proofs.Ytikfiicjgcnljaa
