/-
  frame.Take: what it does.
-/
import Derived.Test.YtikfiicjgcnljaaTakeT
import Derived.Test.YtikfiicjgcnljaaFrame
import Derived.Test.YtikfiicjgcnljaaFrameLaw
import Derived.BigRegion
namespace Go.Proofs.Ytikfiicjgcnljaa
open Go.RowKit
set_option linter.unusedVariables false

/-- A frame taken, and the rest. -/
def TookF (X : Nat → Prop) (w w' : World) (e : Ending) (r : UInt8 × List UInt8 × List UInt8 × Int) : Prop :=
  ∃ A c A2 c2, e = .returned (.tuple #[.agg #[.int .u8 (r.1.toNat : Int), .slice A r.2.1.length c], .slice A2 r.2.2.1.length c2, .int .i64 r.2.2.2]) ∧ Bytes w' w'.heap.size A r.2.1 ∧ r.2.1.length ≤ c ∧ Bytes w' w'.heap.size A2 r.2.2.1 ∧ r.2.2.1.length ≤ c2 ∧ Below w.heap.size w w' ∧ Away X A r.2.1 ∧ Away X A2 r.2.2.1

/-- The loop over the sum's bytes. -/
def SumRel (l : List UInt8) (t i : Value) : Prop :=
  ∃ (k : Nat) (y : Int), k ≤ 4 ∧ i = .int .i64 (k : Int) ∧ t = .int .u32 y ∧ 0 ≤ y ∧ y ≤ 4294967295 ∧ Hid (y < 256 ^ k) ∧ Hid (y = (be4 (l.take k) : Int))

theorem powI_le {a k n : Nat} (ha : 0 < a) (h : k ≤ n) : (a : Int) ^ k ≤ (a : Int) ^ n := by
  have h3 := Nat.pow_le_pow_right ha h
  exact_mod_cast h3
theorem pow256_le {k n : Nat} (h : k ≤ n) : (256 : Int) ^ k ≤ 256 ^ n := powI_le (a := 256) (by decide) h

theorem failed {X : Nat → Prop} {w w' : World} (h : Below w.heap.size w w') : TookF X w w' (.returned (.tuple #[.agg #[.int .u8 0, .slice none 0 0], .slice none 0 0, .int .i64 3])) (tookF none) :=
  ⟨none, 0, none, 0, rfl, Bytes.nil, by simp [tookF], Bytes.nil, by simp [tookF], h, Away.none, Away.none⟩

set_option maxRecDepth 100000 in
set_option maxHeartbeats 2000000 in
theorem ftake_any (A : Option Addr) (B c n : Nat) (bs : List UInt8) (w : World) (hn : bs.length = n) (hr : Bytes w B A bs) (hB : B ≤ w.heap.size) (hl : bs.length ≤ 140737488350000) (hc : bs.length ≤ c) {X : Nat → Prop} (haw : Away X A bs) (hX : ∀ k, X k → k < w.heap.size) :
    Calls Try.prog 12 #[.slice A n c] w fun e w' => TookF X w w' e (tookF (takeF bs)) := by
  subst hn
  have hb0 : Below w.heap.size w (w.alloc (.cells #[.int .u8 0, .slice none 0 0] 29)) := (Below.refl w.heap.size w).alloc (Nat.le_refl _) _
  cases bs with
  | nil =>
    have hz : ((0 : Int) == 0) = true := rfl
    go_enter Try.func12, Try.ntmps12
    go_wp2
    refine bodyPost_ret (v := .tuple #[.agg #[.int .u8 0, .slice none 0 0], .slice none 0 0, .int .i64 3]) (by simp [results, Try.results12, go_sem]) rfl ?_
    exact ⟨none, 0, none, 0, rfl, Bytes.nil, by simp [tookF, takeF], Bytes.nil, by simp [tookF, takeF], hb0, Away.none, Away.none⟩
  | cons kd t =>
    obtain ⟨A1, hcut, hrest, hac⟩ := cut_from' (k := 1) (l := 1) elem_bytes size_byte hr rfl hc rfl (by simp) .i64
    have hd1 : (kd :: t).drop 1 = t := rfl
    rw [hd1] at hrest
    have haw1 := hac X haw
    rw [hd1] at haw1
    have haw2 : Away (fun k => X k ∨ k = w.heap.size) A1 t := haw1.or (Away.of_bytes hrest (fun k hk => by omega))
    have HX := hide hX
    have HAW := hide haw
    clear hac haw haw1 hX
    have hlen : (kd :: t).length = t.length + 1 := rfl
    obtain ⟨ad, k0, hA, hadb, hk0, hkc⟩ := hr.at_ (k := 0) (by simp)
    have hkd : k0 = kd := by have := hk0.out; simp at this; exact this.symm
    subst hkd
    have hkc0 : w.cell? ad = some (.int .u8 (k0.toNat : Int)) := hkc
    generalize hL : (k0 :: t).length = L at *
    have hLz : ((L : Int) == 0) = false := by simp; omega
    have hLp : (1 : Int) ≤ (L : Int) := by omega
    have hsub : L - 1 = t.length := by omega
    have HSUB := hide hsub
    have HLN := hide hlen
    have ht0 := fun (w0 : World) (h0 : Below w.heap.size w w0) (hs0 : w.heap.size < w0.heap.size) => takeText_any A1 B (c - 1) (L - 1) t w0 HSUB.out.symm (hrest.belowLe h0 hB) (Nat.le_trans hB h0.size) (by omega) (by omega) haw2 (fun k hk => by have h1 := h0.size; rcases hk with hk | hk; exact Nat.lt_of_lt_of_le (HX.out k hk) h1; omega)
    have HTT := hide ht0
    clear ht0 haw2 hsub hlen hk0 hkc
    subst hA
    cases hT : takeT t with
    | none =>
      have HF := hide (takeF_none (k := k0) hT)
      rw [hT] at HTT
      clear hT
      go_enter Try.func12, Try.ntmps12
      go_wp2_with (go_at_call 22; refine halted ?_)
      refine go_on ?_
      refine (HTT.out _ hb0 (by simp)).mono ?_
      rintro e w1 ⟨A2, c2, A3, c3, rfl, h2, h3, h4, h5, h6, h7, h8⟩
      dsimp only [tookT] at *
      have hb1 := hb0.trans (h6.mono hb0.size)
      have hcell0 := h6.cell (p := ⟨w.heap.size, 0, none⟩) (by simp)
      have hcell1 := h6.cell (p := ⟨w.heap.size, 1, none⟩) (by simp)
      simp at hcell0 hcell1
      have hfz0 := h6.frozen (p := ⟨w.heap.size, 0, none⟩) (by simp)
      have hfz1 := h6.frozen (p := ⟨w.heap.size, 1, none⟩) (by simp)
      simp at hfz0 hfz1
      clear hcut h2 h4 h6
      go_wp2
      rw [HF.out]
      refine bodyPost_ret (v := .tuple #[.agg #[.int .u8 0, .slice none 0 0], .slice none 0 0, .int .i64 3]) ?_ rfl (failed ?_)
      · simp [results, Try.results12, go_sem, hcell0, hcell1]
      · exact (hb1.setCell (Nat.le_refl _) _).setCell (Nat.le_refl _) _
    | some x =>
      obtain ⟨body, rest⟩ := x
      rw [hT] at HTT
      have hput := takeT_put hT
      have hbl : body.length ≤ t.length ∧ rest.length ≤ t.length := by
        have h1 := congrArg List.length hput
        have h2 : body.length ≤ (textB body).length := by simp [textB]
        rw [List.length_append] at h1
        omega
      by_cases hok : body.length ≤ 65536 ∧ 4 ≤ rest.length
      · obtain ⟨hbs, hrs⟩ := hok
        have hpre : (k0 :: t).take (L - rest.length) = k0 :: textB body := by
          have h1 := congrArg List.length hput
          rw [List.length_append] at h1
          have hL2 := HLN.out
          rw [show L - rest.length = (k0 :: textB body).length by simp; omega, hput]
          exact List.take_left' rfl
        have hs0 := fun (w0 : World) (h0 : Below w.heap.size w w0) => sum_n (some ad) B c (L - rest.length) (k0 :: textB body) w0 (by rw [← hpre, List.length_take, hL]; omega) (by rw [← hpre]; exact (hr.belowLe h0 hB).take _) (Nat.le_trans hB h0.size) (by rw [← hpre, List.length_take]; omega)
        have HS := hide hs0
        have hL3 := HLN.out
        have hcutb := cut_to (A := some ad) (n := L) (c := c) (k := L - rest.length) (h := (L : Int) - (rest.length : Int)) elem_bytes size_byte (by omega) (by omega) .i64
        have hsum := hide (addS_lt 0 (k0 :: textB body) (by omega))
        have HT := hide hT
        have hbl2 := hbl.2
        have hrl : (rest.length : Int) + 1 ≤ (L : Int) := by omega
        clear hs0 hT hput hbl hpre hL3
        go_enter Try.func12, Try.ntmps12
        go_wp2_with (go_at_call 22; refine halted ?_)
        refine go_on ?_
        refine (HTT.out _ hb0 (by simp)).mono ?_
        rintro e w1 ⟨A2, c2, A3, c3, rfl, h2, h3, h4, h5, h6, h7, h8⟩
        dsimp only [tookT] at *
        have hb1 := hb0.trans (h6.mono hb0.size)
        have hcell0 := h6.cell (p := ⟨w.heap.size, 0, none⟩) (by simp)
        have hcell1 := h6.cell (p := ⟨w.heap.size, 1, none⟩) (by simp)
        simp at hcell0 hcell1
        have hfz0 := h6.frozen (p := ⟨w.heap.size, 0, none⟩) (by simp)
        have hfz1 := h6.frozen (p := ⟨w.heap.size, 1, none⟩) (by simp)
        simp at hfz0 hfz1
        have hcut4 := cut_to (A := A3) (n := rest.length) (c := c3) (k := 4) (h := (4 : Int)) elem_bytes size_byte rfl (by omega) .i64
        obtain ⟨A4, hcut5, h4d, h8d⟩ := cut_from' (k := 4) (l := 4) elem_bytes size_byte h4 rfl h5 rfl hrs .i64
        have hsz : w.heap.size < w1.heap.size := by have := h6.size; simp at this; omega
        have h8d := h8d _ h8
        clear hcut h6
        go_wp2
        go_loop [8, 38] (fun t i => SumRel rest t i) (fun _ i => 4 - (intOf i).toNat)
        case atStart => exact ⟨0, 0, by omega, rfl, rfl, by omega, by omega, by show _ < _; simp, by show _ = _; simp [be4]⟩
        case round =>
          obtain ⟨k, y, hk, rfl, rfl, y0, y1, HY, HB⟩ := hrel
          by_cases hlt : k < 4
          · obtain ⟨ad3, b, rfl, hadb3, hb, hcell⟩ := h4.at_ (k := k) (by omega)
            have hb1 := b.toNat_lt
            have y2 : y < 16777216 := by
              have h1 := HY.out
              have h2 := pow256_le (show k ≤ 3 by omega)
              omega
            have hor : bits .or .u32 (y * 256) (b.toNat : Int) = ((be4 (rest.take (k + 1)) : Nat) : Int) := by
              rw [take_next hb.out, be4_snoc, HB.out, show ((be4 (rest.take k) : Nat) : Int) * 256 = ((be4 (rest.take k) * 256 : Nat) : Int) by omega, u32_or_nat _ _ (by have := HB.out; omega) (by omega)]
              rw [nat_join 8 _ _ (by omega) (by omega)]
            generalize hz : bits .or .u32 (y * 256) (b.toNat : Int) = z at *
            have hzlt : z < 256 ^ (k + 1) := by
              rw [hor]
              have h1 := be4_lt (rest.take (k + 1))
              rw [List.length_take, Nat.min_eq_left (by omega)] at h1
              exact_mod_cast h1
            have z0 : 0 ≤ z := by rw [hor]; omega
            have z1 : z ≤ 4294967295 := by
              have h2 := pow256_le (show k + 1 ≤ 4 by omega)
              omega
            have HZ := hide hor
            have HZL := hide hzlt
            clear hor hzlt hcut4 hcut5 h4d h8d h7 h8 HB HY hcutb
            go_wp2
            refine ⟨⟨k + 1, z, by omega, by go_num, rfl, z0, z1, HZL.out, HZ.out⟩, ?_⟩
            simp [intOf]; omega
          · have hk4 : k = 4 := by omega
            subst hk4
            have h44 : ((4 : Nat) : Int) = 4 := rfl
            rw [h44]
            clear hlt hk
            have hL0 : 0 < L := by omega
            have hwrap : wrap64 ((L : Int) - (rest.length : Int)) = (L : Int) - (rest.length : Int) := IntWalk.wrap64_in _ (by omega)
            clear hrest hl hc HSUB HLN hL hLz hLp hd1 hbl2 hrl
            go_wp2_with (go_at_call 19; refine halted ?_)
            refine go_on ?_
            refine (HS.out _ hb1).mono ?_
            rintro e w3 ⟨rfl, hb3⟩
            have hb13 := hb1.trans (hb3.mono hb1.size)
            obtain ⟨s, hs⟩ : ∃ s : Int, (addS 0 (k0 :: textB body) : Int) = s := ⟨_, rfl⟩
            rw [hs]
            have hc0 : w3.cell? ⟨w.heap.size, 0, none⟩ = some (.int .u8 0) := by
              rw [hb3.cell (p := ⟨w.heap.size, 0, none⟩) (by exact hsz)]; exact hcell0
            have hc1 : w3.cell? ⟨w.heap.size, 1, none⟩ = some (.slice none 0 0) := by
              rw [hb3.cell (p := ⟨w.heap.size, 1, none⟩) (by exact hsz)]; exact hcell1
            have hf0 : w3.frozen? ⟨w.heap.size, 0, none⟩ = false := by
              rw [hb3.frozen (p := ⟨w.heap.size, 0, none⟩) (by exact hsz)]; exact hfz0
            have hf1 : w3.frozen? ⟨w.heap.size, 1, none⟩ = false := by
              rw [hb3.frozen (p := ⟨w.heap.size, 1, none⟩) (by exact hsz)]; exact hfz1
            clear hcell0 hcell1 hfz0 hfz1
            by_cases hsy : s = y
            · subst hsy
              have HOK := hide (takeF_yes (k := k0) HT.out ⟨hbs, hrs, by have h := HB.out; rw [← hs] at h; exact_mod_cast h.symm⟩)
              have hkc3 : w3.cell? ad = some (.int .u8 (k0.toNat : Int)) := by
                rw [hb13.cell (p := ad) (by omega)]; exact hkc0
              go_wp2
              go_region
              go_wp2
              refine bodyPost_ret (v := .tuple #[.agg #[.int .u8 (k0.toNat : Int), .slice A2 body.length c2], .slice A4 (rest.length - 4) (c3 - 4), .int .i64 0]) ?_ rfl ?_
              · simp [results, Try.results12, go_sem, hc0, hc1]
              · rw [HOK.out]
                have hb3s := hb3.size
                have hdl : (rest.drop 4).length = rest.length - 4 := List.length_drop
                have hbN : Below w.heap.size w ((w3.setCell ⟨w.heap.size, 0, none⟩ (.int .u8 (k0.toNat : Int))).setCell ⟨w.heap.size, 1, none⟩ (.slice A2 body.length c2)).drew := ((hb13.setCell (Nat.le_refl _) _).setCell (Nat.le_refl _) _).drew
                have hsN : ((w3.setCell ⟨w.heap.size, 0, none⟩ (.int .u8 (k0.toNat : Int))).setCell ⟨w.heap.size, 1, none⟩ (.slice A2 body.length c2)).drew.heap.size = w3.heap.size := by simp
                have hA : ∀ (A : Option Addr) (l : List UInt8), Bytes w1 w1.heap.size A l → Away (fun k => X k ∨ k = w.heap.size) A l → Bytes ((w3.setCell ⟨w.heap.size, 0, none⟩ (.int .u8 (k0.toNat : Int))).setCell ⟨w.heap.size, 1, none⟩ (.slice A2 body.length c2)).drew w3.heap.size A l := by
                  intro A l hr1 haw
                  have e1 := (hr1.below hb3).more hb3s
                  have e2 := haw.setCell (p := ⟨w.heap.size, 0, none⟩) e1 (Or.inr rfl) (.int .u8 (k0.toNat : Int))
                  exact haw.setCell (p := ⟨w.heap.size, 1, none⟩) e2 (Or.inr rfl) (.slice A2 body.length c2)
                refine ⟨A2, c2, A4, c3 - 4, ?_, ?_, h3, ?_, ?_, hbN, h7.less (fun k hk => .inl hk), h8d.less (fun k hk => .inl hk)⟩
                · show _ = Ending.returned (.tuple #[.agg #[.int .u8 (k0.toNat : Int), .slice A2 body.length c2], .slice A4 (rest.drop 4).length (c3 - 4), .int .i64 0])
                  rw [hdl]
                · rw [hsN]; exact hA _ _ h2 h7
                · rw [hsN]; exact hA _ _ h4d h8d
                · show (rest.drop 4).length ≤ _
                  rw [hdl]; omega
            · go_wp2
              rw [takeF_no HT.out (fun h => hsy (by have h1 := HB.out; rw [← hs, ← h.2.2, h1]))]
              refine bodyPost_ret (v := .tuple #[.agg #[.int .u8 0, .slice none 0 0], .slice none 0 0, .int .i64 3]) ?_ rfl (failed ?_)
              · simp [results, Try.results12, go_sem, hc0, hc1]
              · exact (hb13.setCell (Nat.le_refl _) _).setCell (Nat.le_refl _) _
      · have HF := hide (takeF_no (k := k0) hT (fun h => hok ⟨h.1, h.2.1⟩))
        have hok' : 65536 < (body.length : Int) ∨ ((body.length : Int) ≤ 65536 ∧ (rest.length : Int) < 4) := by omega
        clear hT hok hput hbl
        rcases hok' with hb | ⟨hb, hs⟩
        all_goals
          go_enter Try.func12, Try.ntmps12
          go_wp2_with (go_at_call 22; refine halted ?_)
          refine go_on ?_
          refine (HTT.out _ hb0 (by simp)).mono ?_
          rintro e w1 ⟨A2, c2, A3, c3, rfl, h2, h3, h4, h5, h6, h7, h8⟩
          dsimp only [tookT] at *
          have hb1 := hb0.trans (h6.mono hb0.size)
          have hcell0 := h6.cell (p := ⟨w.heap.size, 0, none⟩) (by simp)
          have hcell1 := h6.cell (p := ⟨w.heap.size, 1, none⟩) (by simp)
          simp at hcell0 hcell1
          have hfz0 := h6.frozen (p := ⟨w.heap.size, 0, none⟩) (by simp)
          have hfz1 := h6.frozen (p := ⟨w.heap.size, 1, none⟩) (by simp)
          simp at hfz0 hfz1
          clear hcut h2 h4 h6
          go_wp2
          rw [HF.out]
          refine bodyPost_ret (v := .tuple #[.agg #[.int .u8 0, .slice none 0 0], .slice none 0 0, .int .i64 3]) ?_ rfl (failed ?_)
          · simp [results, Try.results12, go_sem, hcell0, hcell1]
          · exact (hb1.setCell (Nat.le_refl _) _).setCell (Nat.le_refl _) _
end Go.Proofs.Ytikfiicjgcnljaa
