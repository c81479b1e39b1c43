/-
  The reference's Encode of a posting.
-/
import Derived.Test.YtibanikfalfmcaaRRightD
import Derived.Test.YtibanikfalfmcaaRIntFn
import Derived.Test.YtibanikfalfmcaaEncC1
namespace Go.Proofs.Ytibanikfalfmcaa
open Go.RowKit
set_option linter.unusedVariables false

def RenRel (hd : List UInt8) (ls : List (Int × Int)) (w2 : World) (v i : Value) (wr : World) : Prop :=
  ∃ (k : Nat) (us : List UInt8) (A' : Option Addr) (c' : Nat), k ≤ ls.length ∧ i = .int .i64 (k : Int) ∧ v = .slice A' us.length c' ∧ Hid (us = hd ++ legsB (ls.take k)) ∧ Hid (OwnB wr w2.heap.size 5 A' c' us) ∧ Below w2.heap.size w2 wr

set_option maxRecDepth 100000 in
set_option maxHeartbeats 4000000 in
theorem rencodeC_any (day : Int) (tx : ByteArray) (A : Option Addr) (n c : Nat) (ls : List (Int × Int)) (w : World) (hn : ls.length = n) (hr : Row w w.heap.size A (legCells ls)) (hl : n ≤ 1000000) (htx : tx.size ≤ maxLen)
    (hR : rightE day tx.size ls = true) :
    Calls Try.prog 20 #[.agg #[.int .i64 day, .string tx, .slice A n c]] w fun e w' => ∃ A' c', e = .returned (.tuple #[.slice A' (headB day tx.data.toList n ++ legsB ls).length c', .int .i64 0]) ∧ Bytes w' w'.heap.size A' (headB day tx.data.toList n ++ legsB ls) ∧ Below w.heap.size w w' := by
  subst hn
  obtain ⟨hdl, htl, hll, hday0, hday1⟩ : (2 ≤ ls.length) ∧ tx.size ≤ 200 ∧ ls.length ≤ 20 ∧ 0 ≤ day ∧ day ≤ 3652058 := by
    unfold rightE dayOk at hR
    simp only [Bool.and_eq_true, decide_eq_true_eq] at hR
    omega
  obtain ⟨w1, hw1⟩ : ∃ w1, w1 = w.alloc (.cells #[.int .i64 day, .string tx, .slice A ls.length c] 25) := ⟨_, rfl⟩
  have hb1 : Below w.heap.size w w1 := by rw [hw1]; exact below_new w _
  have hz1 : w1.heap.size = w.heap.size + 1 := by rw [hw1]; simp
  have hx1 : w1.heap[w.heap.size]? = some (.cells #[.int .i64 day, .string tx, .slice A ls.length c] 25 (0, 0)) := by rw [hw1]; exact heap_alloc_new w _
  have HRA := hide (rright_any day tx A w.heap.size ls.length c ls w1 rfl (hr.belowLe hb1 (Nat.le_refl _)) hb1.size (by omega) htx)
  have HBX := hide (show ∀ W, Below w1.heap.size w1 W → W.cell? ⟨w.heap.size, 0, none⟩ = some (.int .i64 day) ∧ W.cell? ⟨w.heap.size, 1, none⟩ = some (.string tx) ∧ W.cell? ⟨w.heap.size, 2, none⟩ = some (.slice A ls.length c) from fun W hW => by
    have h := (hW.block w.heap.size (by omega)).trans hx1
    exact ⟨Joins.cell_of_block h 0, Joins.cell_of_block h 1, Joins.cell_of_block h 2⟩)
  have HB1 := hide hb1
  have HR := hide hr
  have HLA := hide (legsOk_amt (right_legs hR))
  have HLE := hide (legsOk_rng (right_legs hR))
  have HRT := hide hR
  have HCV := hide (fun (W : World) => Lib.run_convert_string_bytes (P := Try.prog) W 9 40 5 tx Try.underlying9 Try.underlying40 Try.underlying5)
  have HN1 := hide (fun (W : World) => rnumber_any day.toNat W (by omega))
  have HN2 := hide (fun (W : World) => rnumber_any ls.length W (by omega))
  have e1 : ((day.toNat : Nat) : Int) = day := by omega
  rw [e1] at HN1
  have hwd : IntKind.u64.wrap day = day := by rw [wrap_u64]; omega
  have hwn : IntKind.u64.wrap (ls.length : Int) = (ls.length : Int) := by rw [wrap_u64]; omega
  clear hb1 hx1 hr hR hz1 e1
  go_enter Try.func20, Try.ntmps20
  go_wp2_with (go_at_call 45; refine halted ?_)
  refine go_on ?_
  rw [← hw1]
  refine HRA.out.mono ?_
  rintro e w2 ⟨rfl, hb2⟩
  rw [HRT.out]
  have hbo2 : Below w1.heap.size w1 w2 := ⟨hb2.os, hb2.tape, hb2.output, hb2.size, hb2.block⟩
  obtain ⟨k0, k1, k2⟩ := HBX.out w2 hbo2
  have HB2 := hide (HB1.out.trans (hb2.mono HB1.out.size))
  have HBX2 := hide (show ∀ W, Below w2.heap.size w2 W → W.cell? ⟨w.heap.size, 0, none⟩ = some (.int .i64 day) ∧ W.cell? ⟨w.heap.size, 1, none⟩ = some (.string tx) ∧ W.cell? ⟨w.heap.size, 2, none⟩ = some (.slice A ls.length c) from fun W hW => HBX.out W (hbo2.trans (hW.mono hb2.size)))
  clear HRA hb2 hw1 hbo2 HBX HB1
  go_wp2_with (go_at_call 46; refine halted ?_)
  refine go_on ?_
  refine (HN1.out w2).mono ?_
  rintro e w3 ⟨A1, c1, rfl, o1, b3⟩
  obtain ⟨k0, k1, k2⟩ := HBX2.out w3 b3
  have hconv := HCV.out w3
  have O1 := hide o1
  have B3 := hide b3
  clear o1 b3
  go_wp2_with (go_at_call 47; refine halted ?_)
  refine go_on ?_
  refine (rtext_any _ (w3.heap.size + 1) _ _ tx.data.toList _ (by simp) (bytesW w3 tx) (by rw [Lib.bytesWorld_size]; omega) (by simp; omega)).mono ?_
  rintro e w5 ⟨A2, c2, rfl, o2, b5⟩
  rw [Lib.bytesWorld_size] at b5
  have hbb : Below w3.heap.size w3 w5 := (below_bytesW w3 (Nat.le_refl _) tx).trans (b5.mono (Nat.le_succ _))
  have B5 : Below w2.heap.size w2 w5 := B3.out.trans (hbb.mono B3.out.size)
  have o1' := O1.out.below hbb (Nat.le_refl _)
  have o2' := o2.bytes
  have HL1 := hide (numB_len day.toNat)
  have HL2 := hide (show (textB tx.data.toList).length ≤ 211 from by
    have h3 := numB_len tx.data.toList.length
    have h4 : tx.data.toList.length = tx.size := by simp
    unfold textB
    rw [List.length_append]
    omega)
  have HL3 := hide (numB_len ls.length)
  clear o2 b5 hbb O1 B3 hconv k0 k1 k2
  obtain ⟨tb, htb⟩ : ∃ tb, tb = textB tx.data.toList := ⟨_, rfl⟩
  rw [← htb] at o2' HL2 ⊢
  have HTB := hide htb
  clear htb
  go_wp2_with (at_builtin; refine halted ?_)
  refine go_on ?_
  refine wpList_append_bytes _ rfl (.tmp 15) (.tmp 19) 40 rfl w2.heap.size 5 Try.underlying40 info_u8 _ _ _ (numB day.toNat) rfl rfl o1' _ A2 _ c2 tb rfl rfl o2' (by have := HL1.out; have := HL2.out; omega) B5.size ?_
  intro ds6 A3 c3 w6 hds6 hdl6 o3 hg6 _
  have B6 := o1'.below_grown B5 hg6 (Nat.le_refl _) B5.size
  obtain ⟨k0, k1, k2⟩ := HBX2.out w6 B6
  have HDS := hide hds6.out
  clear o1' o2' hg6 hds6 B5
  have O3 := hide o3
  have HB6 := hide B6
  clear o3 B6
  go_wp2_with (go_at_call 46; refine halted ?_)
  refine go_on ?_
  refine (HN2.out w6).mono ?_
  rintro e w7 ⟨A4, c4, rfl, o4, b7⟩
  have o3' := O3.out.below b7 (Nat.le_refl _)
  have B7 := HB6.out.trans (b7.mono HB6.out.size)
  have o4' := o4.bytes
  clear o4 b7 O3 HB6 k0 k1 k2
  go_wp2_with (at_builtin; refine halted ?_)
  refine go_on ?_
  refine wpList_append_bytes _ rfl (.tmp 21) (.tmp 26) 40 rfl w2.heap.size 5 Try.underlying40 info_u8 _ _ _ ds6 rfl rfl o3' _ A4 _ c4 (numB ls.length) rfl rfl o4' (by have := HL3.out; have := HL1.out; have := HL2.out; have := HDS.out; subst this; rw [List.length_append]; omega) B7.size ?_
  intro hd A5 c5 w8 hds8 hdl8 o5 hg8 _
  have B8 := o3'.below_grown B7 hg8 (Nat.le_refl _) B7.size
  have HHD := hide (show hd = headB day tx.data.toList ls.length from by rw [hds8.out, HDS.out, HTB.out]; rfl)
  have HHL := hide (show hd.length ≤ 240 from by
    rw [hds8.out, HDS.out, List.length_append, List.length_append]
    have := HL3.out; have := HL1.out; have := HL2.out
    omega)
  have O5 := hide o5
  have HB8 := hide B8
  clear o3' o4' hds8 hg8 o5 B7 B8 HN1 HN2 HCV HL1 HL2 HL3 HDS HTB hdl6 hdl8 hwd hwn
  go_wp2
  go_loopw [5, 6] (fun v i wr => RenRel hd ls w2 v i wr) (fun _ i _ => ls.length - (intOf i).toNat)
  case atStart => exact ⟨0, hd, A5, c5, Nat.zero_le _, rfl, rfl, by show _ = _; simp [legsB], O5, HB8.out⟩
  case round =>
    obtain ⟨k, us, A6, c6, hk, rfl, rfl, HU, HY, hb⟩ := hrel
    have hbw : Below w.heap.size w wr := HB2.out.trans (hb.mono HB2.out.size)
    obtain ⟨k0, k1, k2⟩ := HBX2.out wr hb
    have hul : us.length ≤ 10000 := by
      have h5 := legsB_len (ls.take k)
      rw [List.length_take] at h5
      rw [HU.out, List.length_append]
      have := HHL.out
      omega
    have HUL := hide hul
    clear hul
    by_cases hlt : k < ls.length
    · obtain ⟨ad, a, m, rfl, hadb, hx, ha, hm⟩ := (HR.out.belowLe hbw (Nat.le_refl _)).leg hlt
      have hma := (amt_iff _).1 (HLA.out _ (List.mem_of_getElem? hx.out))
      have hra := HLE.out _ (List.mem_of_getElem? hx.out)
      dsimp only at hma hra
      have HN := hide (legsB_next hx.out)
      have hwa : IntKind.u64.wrap a = a := by rw [wrap_u64]; omega
      have HN3 := hide (fun (W : World) => rnumber_any a.toNat W (by omega))
      have HN4 := hide (fun (W : World) => rint_any m W (by omega) (by omega))
      have e2 : ((a.toNat : Nat) : Int) = a := by omega
      rw [e2] at HN3
      have hlt' : (k : Int) < (ls.length : Int) := by omega
      have HB := hide hb
      have HLEG := hide (show ∀ W, Below wr.heap.size wr W → W.cell? ⟨(ad.add (k * 2)).block, (ad.add (k * 2)).off + 1, none⟩ = some (.int .i64 m) from fun W hW =>
        (hW.cell (p := ⟨(ad.add (k * 2)).block, (ad.add (k * 2)).off + 1, none⟩) (by show (ad.add (k * 2)).block < _; rw [add_block]; have := hbw.size; omega)).trans hm)
      have hla := numB_len a.toNat
      have hlm : (intB m).length ≤ 11 := numB_len (zig m)
      have HLN := hide (And.intro hla hlm)
      clear hb hbw hma hra hx e2 hla hlm
      go_wp2_with (go_at_call 46; refine halted ?_)
      refine go_on ?_
      refine (HN3.out wr).mono ?_
      rintro e w9 ⟨A7, c7, rfl, o7, b9⟩
      have o6' := HY.out.below b9 (Nat.le_refl _)
      have B9 := HB.out.trans (b9.mono HB.out.size)
      have B9r := hide b9
      have o7' := o7.bytes
      clear o7 b9 HN3 ha hm k0 k1 k2
      go_wp2_with (at_builtin; refine halted ?_)
      refine go_on ?_
      refine wpList_append_bytes _ rfl (.tmp 35) (.tmp 43) 40 rfl w2.heap.size 5 Try.underlying40 info_u8 _ _ _ us rfl rfl o6' _ A7 _ c7 (numB a.toNat) rfl rfl o7' (by have := HUL.out; have := HLN.out; omega) B9.size ?_
      intro ds10 A8 c8 w10 hds10 hdl10 o8 hg10 _
      have B10 := o6'.below_grown B9 hg10 (Nat.le_refl _) B9.size
      have hdiff : ∀ j, A6.map (·.block) = some j → w2.heap.size ≤ j := fun j hj => (o6'.lt hj).1
      have hB10r : w10.cell? ⟨(ad.add (k * 2)).block, (ad.add (k * 2)).off + 1, none⟩ = some (.int .i64 m) := by
        have h1 := HLEG.out w9 B9r.out
        have hblk : (ad.add (k * 2)).block < w2.heap.size := by rw [add_block]; have := HB2.out.size; omega
        have h3 : w10.heap[(ad.add (k * 2)).block]? = w9.heap[(ad.add (k * 2)).block]? := hg10.block _ (by have := B9.size; omega) (fun e => by have := hdiff _ e.symm; omega)
        exact (World.cell?_of_block (a := ⟨(ad.add (k * 2)).block, (ad.add (k * 2)).off + 1, none⟩) h3).trans h1
      obtain ⟨k0, k1, k2⟩ := HBX2.out w10 B10
      have HD10 := hide hds10.out
      have O8 := hide o8
      have HB10 := hide B10
      have hr10 : Below w.heap.size w w10 := HB2.out.trans (B10.mono HB2.out.size)
      obtain ⟨ad', a', m', hA', -, hx', ha', hm'⟩ := (HR.out.belowLe hr10 (Nat.le_refl _)).leg hlt
      injection hA' with hA'
      subst hA'
      clear o6' o7' hds10 hg10 o8 B10 B9 hr10 hdiff HY
      obtain rfl : m' = m := by
        rw [hB10r] at hm'
        injection hm' with hm'
        injection hm' with _ hm'
        exact hm'.symm
      clear hB10r hx'
      go_wp2_with (go_at_call 48; refine halted ?_)
      refine go_on ?_
      refine (HN4.out w10).mono ?_
      rintro e w11 ⟨A9, c9, rfl, o9, b11⟩
      have o8' := O8.out.below b11 (Nat.le_refl _)
      have B11 := HB10.out.trans (b11.mono HB10.out.size)
      have o9' := o9.bytes
      clear o9 b11 O8 HB10 k0 k1 k2 ha' hm'
      go_wp2_with (at_builtin; refine halted ?_)
      refine go_on ?_
      refine wpList_append_bytes _ rfl (.tmp 45) (.tmp 52) 40 rfl w2.heap.size 5 Try.underlying40 info_u8 _ _ _ ds10 rfl rfl o8' _ A9 _ c9 (intB m') rfl rfl o9' (by have := HUL.out; have := HLN.out; have := HD10.out; subst this; rw [List.length_append]; omega) B11.size ?_
      intro ds12 A10 c10 w12 hds12 hdl12 o10 hg12 _
      have B12 := o8'.below_grown B11 hg12 (Nat.le_refl _) B11.size
      have hrel2 : RenRel hd ls w2 (.slice A10 ds12.length c10) (.int .i64 ((k : Int) + 1)) w12 := ⟨k + 1, ds12, A10, c10, hlt, by simp, rfl, by
        show _ = _
        rw [hds12.out, HD10.out, HU.out, HN.out]
        simp, o10, B12⟩
      have HR2 := hide hrel2
      clear hrel2 o8' o9' hds12 hg12 o10 B11 B12
      go_wp2
      case roundEnd => exact ⟨HR2.out, by simp [intOf]; omega⟩
    · have hkE : k = ls.length := by omega
      subst hkE
      have HF : Hid (us = headB day tx.data.toList ls.length ++ legsB ls) := by
        show _ = _
        rw [HU.out, HHD.out, List.take_of_length_le (Nat.le_refl _)]
      have HBW := hide hbw
      have HYB := hide HY.out.bytes
      clear hb hbw HY
      go_wp2
      refine bodyPost_ret (results_tmp2 rfl _ _ _) rfl ?_
      exact ⟨A6, c6, by rw [← HF.out]; rfl, by rw [← HF.out]; exact HYB.out, HBW.out⟩

set_option maxRecDepth 100000 in
set_option maxHeartbeats 2000000 in
theorem rencodeC_no (day : Int) (tx : ByteArray) (A : Option Addr) (n c : Nat) (ls : List (Int × Int)) (w : World) (hn : ls.length = n) (hr : Row w w.heap.size A (legCells ls)) (hl : n ≤ 1000000) (htx : tx.size ≤ maxLen)
    (hR : rightE day tx.size ls = false) :
    Calls Try.prog 20 #[.agg #[.int .i64 day, .string tx, .slice A n c]] w fun e w' => e = .returned (.tuple #[.slice none 0 0, .int .i64 1]) ∧ Below w.heap.size w w' := by
  subst hn
  have hb1 := below_new w (.cells #[.int .i64 day, .string tx, .slice A ls.length c] 25)
  have HRA := hide (rright_any day tx A w.heap.size ls.length c ls _ rfl (hr.belowLe hb1 (Nat.le_refl _)) hb1.size (by omega) htx)
  rw [hR] at HRA
  have HB1 := hide hb1
  clear hb1 hr hR
  go_enter Try.func20, Try.ntmps20
  go_wp2_with (go_at_call 45; refine halted ?_)
  refine go_on ?_
  refine HRA.out.mono ?_
  rintro e w2 ⟨rfl, hb2⟩
  have HB2 := hide (HB1.out.trans (hb2.mono HB1.out.size))
  clear hb2 HRA HB1
  go_wp2
  refine bodyPost_ret (results_tmp2 rfl _ _ _) rfl ?_
  exact ⟨rfl, HB2.out⟩
end Go.Proofs.Ytibanikfalfmcaa
