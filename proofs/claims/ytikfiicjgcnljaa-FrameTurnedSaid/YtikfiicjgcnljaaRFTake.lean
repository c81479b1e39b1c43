/-
  The reference's Take: what it does.
-/
import Derived.Test.YtikfiicjgcnljaaFTake
import Derived.Test.YtikfiicjgcnljaaStr
namespace Go.Proofs.Ytikfiicjgcnljaa
open Go.RowKit
set_option linter.unusedVariables false

theorem frame_same (k : UInt8) (body rest : List UInt8) (h : 4 ≤ rest.length) : frameB k body = (k :: textB body) ++ rest.take 4 ↔ be4 (rest.take 4) = addS 0 (k :: textB body) := by
  have hs := addS_lt 0 (k :: textB body) (by omega)
  unfold frameB
  rw [List.append_cancel_left_eq]
  constructor
  · intro e; rw [← e, be4_four (by omega)]
  · intro e; rw [← e, four_be4 (by rw [List.length_take]; omega)]

set_option maxRecDepth 100000 in
set_option maxHeartbeats 2000000 in
theorem rftake_any (A : Option Addr) (B c n : Nat) (bs : List UInt8) (w : World) (hn : bs.length = n) (hr : Bytes w B A bs) (hB : B ≤ w.heap.size) (hl : bs.length ≤ 140737488350000) (hc : bs.length ≤ c) {X : Nat → Prop} (haw : Away X A bs) (hX : ∀ k, X k → k < w.heap.size) :
    Calls Try.prog 13 #[.slice A n c] w fun e w' => TookF X w w' e (tookF (takeF bs)) := by
  subst hn
  have hb0 : Below w.heap.size w (w.alloc (.cells #[.int .u8 0, .slice none 0 0] 33)) := (Below.refl w.heap.size w).alloc (Nat.le_refl _) _
  cases bs with
  | nil =>
    have hz : ((0 : Int) == 0) = true := rfl
    go_enter Try.func13, Try.ntmps13
    go_wp2
    refine bodyPost_ret (v := .tuple #[.agg #[.int .u8 0, .slice none 0 0], .slice none 0 0, .int .i64 3]) (by simp [results, Try.results13, go_sem]) rfl ?_
    exact ⟨none, 0, none, 0, rfl, Bytes.nil, by simp [tookF, takeF], Bytes.nil, by simp [tookF, takeF], hb0, Away.none, Away.none⟩
  | cons kd t =>
    obtain ⟨A1, hcut, hrest, hac⟩ := cut_from' (k := 1) (l := 1) elem_bytes size_byte hr rfl hc rfl (by simp) .i64
    have hd1 : (kd :: t).drop 1 = t := rfl
    rw [hd1] at hrest
    have haw1 := hac X haw
    rw [hd1] at haw1
    have haw2 : Away (fun k => X k ∨ k = w.heap.size) A1 t := haw1.or (Away.of_bytes hrest (fun k hk => by omega))
    have HX := hide hX
    have HAW := hide haw
    clear hac haw haw1 hX
    have hlen : (kd :: t).length = t.length + 1 := rfl
    obtain ⟨ad, k0, hA, hadb, hk0, hkc⟩ := hr.at_ (k := 0) (by simp)
    have hkd : k0 = kd := by have := hk0.out; simp at this; exact this.symm
    subst hkd
    have hkc0 : w.cell? ad = some (.int .u8 (k0.toNat : Int)) := hkc
    generalize hL : (k0 :: t).length = L at *
    have hLz : ((L : Int) == 0) = false := by simp; omega
    have hLp : (1 : Int) ≤ (L : Int) := by omega
    have hsub : L - 1 = t.length := by omega
    have HSUB := hide hsub
    have HLN := hide hlen
    have ht0 := fun (w0 : World) (h0 : Below w.heap.size w w0) (hs0 : w.heap.size < w0.heap.size) => rtakeText_any A1 B (c - 1) (L - 1) t w0 HSUB.out.symm (hrest.belowLe h0 hB) (Nat.le_trans hB h0.size) (by omega) (by omega) haw2 (fun k hk => by have h1 := h0.size; rcases hk with hk | hk; exact Nat.lt_of_lt_of_le (HX.out k hk) h1; omega)
    have HTT := hide ht0
    clear ht0 haw2 hsub hlen hk0 hkc
    subst hA
    cases hT : takeT t with
    | none =>
      have HF := hide (takeF_none (k := k0) hT)
      rw [hT] at HTT
      clear hT
      go_enter Try.func13, Try.ntmps13
      go_wp2_with (go_at_call 23; refine halted ?_)
      refine go_on ?_
      refine (HTT.out _ hb0 (by simp)).mono ?_
      rintro e w1 ⟨A2, c2, A3, c3, rfl, h2, h3, h4, h5, h6, h7, h8⟩
      dsimp only [tookT] at *
      have hb1 := hb0.trans (h6.mono hb0.size)
      have hcell0 := h6.cell (p := ⟨w.heap.size, 0, none⟩) (by simp)
      have hcell1 := h6.cell (p := ⟨w.heap.size, 1, none⟩) (by simp)
      simp at hcell0 hcell1
      have hfz0 := h6.frozen (p := ⟨w.heap.size, 0, none⟩) (by simp)
      have hfz1 := h6.frozen (p := ⟨w.heap.size, 1, none⟩) (by simp)
      simp at hfz0 hfz1
      clear hcut h2 h4 h6
      go_wp2
      rw [HF.out]
      refine bodyPost_ret (v := .tuple #[.agg #[.int .u8 0, .slice none 0 0], .slice none 0 0, .int .i64 3]) ?_ rfl (failed ?_)
      · simp [results, Try.results13, go_sem, hcell0, hcell1]
      · exact (hb1.setCell (Nat.le_refl _) _).setCell (Nat.le_refl _) _
    | some x =>
      obtain ⟨body, rest⟩ := x
      rw [hT] at HTT
      have hput := takeT_put hT
      have hbl : body.length ≤ t.length ∧ rest.length ≤ t.length := by
        have h1 := congrArg List.length hput
        have h2 : body.length ≤ (textB body).length := by simp [textB]
        rw [List.length_append] at h1
        omega
      by_cases hok : body.length ≤ 65536 ∧ 4 ≤ rest.length
      · obtain ⟨hbs, hrs⟩ := hok
        have hpre : (k0 :: t).take (L - rest.length + 4) = (k0 :: textB body) ++ rest.take 4 := by
          have h1 := congrArg List.length hput
          rw [List.length_append] at h1
          have hL2 := HLN.out
          rw [show L - rest.length + 4 = (k0 :: textB body).length + 4 by simp; omega, hput]
          exact List.take_length_add_append 4
        have hdr : (k0 :: t).drop (L - rest.length + 4) = rest.drop 4 := by
          have h1 := congrArg List.length hput
          rw [List.length_append] at h1
          have hL2 := HLN.out
          rw [show L - rest.length + 4 = (k0 :: textB body).length + 4 by simp; omega, hput]
          exact List.drop_length_add_append 4
        have hs0 := fun (A0 : Option Addr) (B0 c0 : Nat) (w0 : World) (h0 : Bytes w0 B0 A0 body) (h1 : B0 ≤ w0.heap.size) => rput_any k0 A0 B0 c0 body.length body w0 rfl h0 h1 (by omega)
        have hs1 := putR_ok (k := k0) hbs
        rw [hs1] at hs0
        have HS := hide hs0
        have hL3 := HLN.out
        have hbl2 := hbl.2
        have hrl : (rest.length : Int) + 1 ≤ (L : Int) := by omega
        have hwrap : wrap64 ((L : Int) - (rest.length : Int)) = (L : Int) - (rest.length : Int) := IntWalk.wrap64_in _ (by omega)
        have hwrap2 : wrap64 ((L : Int) - (rest.length : Int) + 4) = (L : Int) - (rest.length : Int) + 4 := IntWalk.wrap64_in _ (by omega)
        have hcutb := cut_to (A := some ad) (n := L) (c := c) (k := L - rest.length + 4) (h := (L : Int) - (rest.length : Int) + 4) elem_bytes size_byte (by omega) (by omega) .i64
        obtain ⟨A4, hcutd, h4d, h8d⟩ := cut_from' (k := L - rest.length + 4) (l := (L : Int) - (rest.length : Int) + 4) elem_bytes size_byte hr hL hc (by omega) (by omega) .i64
        have h8d := h8d (fun k => X k ∨ k = w.heap.size) (HAW.out.or (Away.of_bytes hr (fun k hk => by omega)))
        rw [hdr] at h4d h8d
        have hrb : Bytes w B (some ad) ((k0 :: textB body) ++ rest.take 4) := by rw [← hpre]; exact hr.take _
        have hlb : ((k0 :: textB body) ++ rest.take 4).length = L - rest.length + 4 := by rw [← hpre, List.length_take, hL]; omega
        have HLB := hide hlb
        have HRB := hide hrb
        have HT := hide hT
        have HLEN := hide (show (rest.drop 4).length = L - (L - rest.length + 4) ∧ (rest.drop 4).length ≤ c - (L - rest.length + 4) from by rw [List.length_drop]; omega)
        have hL0 : 0 < L := by omega
        clear hs0 hs1 hT hput hbl hpre hL3 hdr hlb hrb
        go_enter Try.func13, Try.ntmps13
        go_wp2_with (go_at_call 23; refine halted ?_)
        refine go_on ?_
        refine (HTT.out _ hb0 (by simp)).mono ?_
        rintro e w1 ⟨A2, c2, A3, c3, rfl, h2, h3, h4, h5, h6, h7, h8⟩
        dsimp only [tookT] at *
        have hb1 := hb0.trans (h6.mono hb0.size)
        have hcell0 := h6.cell (p := ⟨w.heap.size, 0, none⟩) (by simp)
        have hcell1 := h6.cell (p := ⟨w.heap.size, 1, none⟩) (by simp)
        simp at hcell0 hcell1
        have hfz0 := h6.frozen (p := ⟨w.heap.size, 0, none⟩) (by simp)
        have hfz1 := h6.frozen (p := ⟨w.heap.size, 1, none⟩) (by simp)
        simp at hfz0 hfz1
        have hsz : w.heap.size < w1.heap.size := by have := h6.size; simp at this; omega
        have hkc1 : w1.cell? ad = some (.int .u8 (k0.toNat : Int)) := by
          rw [hb1.cell (p := ad) (by omega)]; exact hkc0
        have HS1 := hide (HS.out A2 w1.heap.size c2 w1 h2 (Nat.le_refl _))
        clear HS hcut h6 h4 h5 h8 hrest hl hc HSUB HLN hL hLp hd1 hbl2 hrl
        go_wp2_with (go_at_call 11; refine halted ?_)
        refine go_on ?_
        refine HS1.out.mono ?_
        rintro e w3 ⟨A5, c5, rfl, hown, hb3⟩
        have hb13 := hb1.trans (hb3.mono hb1.size)
        have hc0 : w3.cell? ⟨w.heap.size, 0, none⟩ = some (.int .u8 0) := by
          rw [hb3.cell (p := ⟨w.heap.size, 0, none⟩) (by exact hsz)]; exact hcell0
        have hc1 : w3.cell? ⟨w.heap.size, 1, none⟩ = some (.slice none 0 0) := by
          rw [hb3.cell (p := ⟨w.heap.size, 1, none⟩) (by exact hsz)]; exact hcell1
        have hf0 : w3.frozen? ⟨w.heap.size, 0, none⟩ = false := by
          rw [hb3.frozen (p := ⟨w.heap.size, 0, none⟩) (by exact hsz)]; exact hfz0
        have hf1 : w3.frozen? ⟨w.heap.size, 1, none⟩ = false := by
          rw [hb3.frozen (p := ⟨w.heap.size, 1, none⟩) (by exact hsz)]; exact hfz1
        have hkc3 : w3.cell? ad = some (.int .u8 (k0.toNat : Int)) := by
          rw [hb13.cell (p := ad) (by omega)]; exact hkc0
        have k2 : (convert 22 9 (.slice A5 (frameB k0 body).length c5)).run Try.prog w3.drew = .ok (.string (strB (frameB k0 body))) w3.drew := run_str (P := Try.prog) (dst := 9) (c := c5) Try.underlying22 Try.underlying5 Try.underlying9 (drewN_bytes (n := 1) hown.bytes) rfl
        have k3 : (convert 22 9 (.slice (some ad) (L - rest.length + 4) c)).run Try.prog w3.drew = .ok (.string (strB ((k0 :: textB body) ++ rest.take 4))) w3.drew := run_str (P := Try.prog) (dst := 9) (c := c) Try.underlying22 Try.underlying5 Try.underlying9 (drewN_bytes (n := 1) (HRB.out.belowLe hb13 hB)) HLB.out
        clear hcell0 hcell1 hfz0 hfz1 hown
        have hiff : (strB (frameB k0 body)).toList = (strB ((k0 :: textB body) ++ rest.take 4)).toList ↔ be4 (rest.take 4) = addS 0 (k0 :: textB body) := by
          rw [strB_toList, strB_toList]
          exact frame_same _ _ _ hrs
        have HIFF := hide hiff
        generalize strB (frameB k0 body) = S1 at *
        generalize strB ((k0 :: textB body) ++ rest.take 4) = S2 at *
        clear hiff
        cases hsy : S1.toList == S2.toList
        · have HNO := hide (takeF_no (k := k0) HT.out (fun h => by have h1 := HIFF.out.2 h.2.2; rw [h1] at hsy; simp at hsy))
          go_wp2
          go_region
          go_wp2
          rw [HNO.out]
          refine bodyPost_ret (v := .tuple #[.agg #[.int .u8 0, .slice none 0 0], .slice none 0 0, .int .i64 3]) ?_ rfl (failed ?_)
          · simp [results, Try.results13, go_sem, hc0, hc1]
          · exact (hb13.drew.setCell (Nat.le_refl _) _).setCell (Nat.le_refl _) _
        · have HOK := hide (takeF_yes (k := k0) HT.out ⟨hbs, hrs, HIFF.out.1 (by simpa using hsy)⟩)
          go_wp2
          go_region
          go_wp2
          go_region
          go_wp2
          refine bodyPost_ret (v := .tuple #[.agg #[.int .u8 (k0.toNat : Int), .slice A2 body.length c2], .slice A4 (L - (L - rest.length + 4)) (c - (L - rest.length + 4)), .int .i64 0]) ?_ rfl ?_
          · simp [results, Try.results13, go_sem, hc0, hc1]
          · rw [HOK.out]
            have hb3s := hb3.size
            have hbN : Below w.heap.size w ((w3.setCell ⟨w.heap.size, 0, none⟩ (.int .u8 (k0.toNat : Int))).setCell ⟨w.heap.size, 1, none⟩ (.slice A2 body.length c2)).drew.drew := ((hb13.setCell (Nat.le_refl _) _).setCell (Nat.le_refl _) _).drew.drew
            have hsN : ((w3.setCell ⟨w.heap.size, 0, none⟩ (.int .u8 (k0.toNat : Int))).setCell ⟨w.heap.size, 1, none⟩ (.slice A2 body.length c2)).drew.drew.heap.size = w3.heap.size := by simp
            have hA : ∀ (A : Option Addr) (l : List UInt8), Bytes w3 w3.heap.size A l → Away (fun k => X k ∨ k = w.heap.size) A l → Bytes ((w3.setCell ⟨w.heap.size, 0, none⟩ (.int .u8 (k0.toNat : Int))).setCell ⟨w.heap.size, 1, none⟩ (.slice A2 body.length c2)).drew.drew w3.heap.size A l := by
              intro A l e1 haw
              have e2 := haw.setCell (p := ⟨w.heap.size, 0, none⟩) e1 (Or.inr rfl) (.int .u8 (k0.toNat : Int))
              exact haw.setCell (p := ⟨w.heap.size, 1, none⟩) e2 (Or.inr rfl) (.slice A2 body.length c2)
            refine ⟨A2, c2, A4, c - (L - rest.length + 4), ?_, ?_, h3, ?_, ?_, hbN, h7.less (fun k hk => .inl hk), h8d.less (fun k hk => .inl hk)⟩
            · show _ = Ending.returned (.tuple #[.agg #[.int .u8 (k0.toNat : Int), .slice A2 body.length c2], .slice A4 (rest.drop 4).length (c - (L - rest.length + 4)), .int .i64 0])
              rw [HLEN.out.1]
            · rw [hsN]; exact hA _ _ ((h2.below hb3).more hb3s) h7
            · rw [hsN]; exact hA _ _ ((h4d.belowLe hb13 hB).more (by omega)) h8d
            · exact HLEN.out.2
      · have HF := hide (takeF_no (k := k0) hT (fun h => hok ⟨h.1, h.2.1⟩))
        have hok' : (rest.length : Int) < 4 ∨ (4 ≤ (rest.length : Int) ∧ 65536 < (body.length : Int)) := by omega
        clear hT hok hput hbl
        rcases hok' with hb | ⟨hb, hs⟩
        all_goals
          go_enter Try.func13, Try.ntmps13
          go_wp2_with (go_at_call 23; refine halted ?_)
          refine go_on ?_
          refine (HTT.out _ hb0 (by simp)).mono ?_
          rintro e w1 ⟨A2, c2, A3, c3, rfl, h2, h3, h4, h5, h6, h7, h8⟩
          dsimp only [tookT] at *
          have hb1 := hb0.trans (h6.mono hb0.size)
          have hcell0 := h6.cell (p := ⟨w.heap.size, 0, none⟩) (by simp)
          have hcell1 := h6.cell (p := ⟨w.heap.size, 1, none⟩) (by simp)
          simp at hcell0 hcell1
          have hfz0 := h6.frozen (p := ⟨w.heap.size, 0, none⟩) (by simp)
          have hfz1 := h6.frozen (p := ⟨w.heap.size, 1, none⟩) (by simp)
          simp at hfz0 hfz1
          clear hcut h2 h4 h6
          go_wp2
          rw [HF.out]
          refine bodyPost_ret (v := .tuple #[.agg #[.int .u8 0, .slice none 0 0], .slice none 0 0, .int .i64 3]) ?_ rfl (failed ?_)
          · simp [results, Try.results13, go_sem, hcell0, hcell1]
          · exact (hb1.setCell (Nat.le_refl _) _).setCell (Nat.le_refl _) _
end Go.Proofs.Ytikfiicjgcnljaa
