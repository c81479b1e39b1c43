/-
  BlockBack, walked.
-/
import Derived.Test.YteagjjiggneheaaLaws10b
namespace Go.Proofs.Yteagjjiggneheaa
open Go.RowKit
set_option linter.unusedVariables false

theorem built_len {E : Nat} {l : List KV} (h : FewP l) : (builtB E l).length ≤ 13000000 := by
  have h1 := bodyTo_len (every := E) h l.length
  have h2 := h.1
  unfold builtB
  simp only [List.length_append, four_len, List.length_singleton]
  omega
theorem few_small {l : List KV} (h : FewP l) : ∀ p ∈ l, p.1.length < 18446744073709551616 ∧ p.2.length < 18446744073709551616 := fun p hp => by have := h.2 p hp; omega

set_option maxRecDepth 100000 in
set_option maxHeartbeats 4000000 in
theorem blockBack_any (A AK : Option Addr) (c cK : Nat) (l : List Pr) (every : Int) (key : List UInt8) (w : World) (hrow : PrRow w w.heap.size A l) (hll : l.length ≤ 9223372036854775807) (hk : Bytes w w.heap.size AK key) (hlk : key.length ≤ 9223372036854775807) :
    Calls Try.prog 6 #[.slice A l.length c, .int .i64 every, .slice AK key.length cK] w fun e w' => e = .returned (.bool true) ∧ Below w.heap.size w w' := by
  go_enter Try.func6, Try.ntmps6
  go_wp2_with (first | (go_at_call 8; refine (awake_any _).mono ?_; rintro e w1 ⟨rfl, hb1⟩) | (go_at_call 9; refine halted ?_))
  refine go_on ?_
  refine (few_any A c l w1 (hrow.below hb1) hll).mono ?_
  rintro e w2 ⟨hR, hb12⟩
  have hb2 := hb1.trans (hb12.mono hb1.size)
  rcases hR with rfl | ⟨rfl, HF⟩
  · clear hrow hk
    go_wp2
    go_ret
    exact ⟨rfl, hb2⟩
  by_cases k2 : 10000 < key.length
  · clear hrow hk
    go_wp2
    go_ret
    exact ⟨rfl, hb2⟩
  have HBU := hide (build_any A c l every w2 (hrow.below hb2) hll HF.out)
  go_wp2_with (go_at_call 10; refine halted ?_)
  refine go_on ?_
  refine HBU.out.mono ?_
  clear HBU hb12
  have herr := buildR_err (every := every) (l := l.map Pr.pair)
  have hbp := fun b (h : buildR every (l.map Pr.pair) = (b, 0)) => built_parse h (few_small HF.out)
  have hris := fun b (h : buildR every (l.map Pr.pair) = (b, 0)) => buildR_zero h
  generalize buildR every (l.map Pr.pair) = r at *
  obtain ⟨us, er⟩ := r
  rintro e w3 ⟨A3, c3, rfl, hown3, hb23⟩
  have hb3 := hb2.trans (hb23.mono hb2.size)
  dsimp only at *
  by_cases her : er = 0
  case neg =>
    have hne : (er != 0) = true := by rw [bne_iff_ne]; exact her
    have h2 : ((er == 1) || (er == 10)) = true := by
      rcases herr with h | h | h
      · exact absurd h her
      · rw [h]; rfl
      · rw [h]; rfl
    have hways : (er == 1) = true ∨ ((er == 1) = false ∧ (er == 10) = true) := by
      rcases herr with h | h | h
      · exact absurd h her
      · exact .inl (by rw [h]; rfl)
      · exact .inr ⟨by rw [h]; rfl, by rw [h]; rfl⟩
    clear hbp hris herr her hown3 hrow hk hb23 h2
    rcases hways with h1 | ⟨h1, h2⟩
    all_goals
      go_wp2
      go_ret
      exact ⟨rfl, hb3⟩
  subst her
  have hPQ := hbp us rfl
  obtain ⟨E, -, hE1, hE2, -, hrise, hus⟩ := hris us rfl
  have hul : us.length ≤ 13000000 := by rw [hus]; exact built_len HF.out
  have hPP : parseP us = some (l.map Pr.pair) := by rw [parse_same (by omega)]; exact hPQ
  have hlen : l.length ≤ 2000 := by have := HF.out.1; rwa [List.length_map] at this
  have HRI := hide hrise
  clear hbp hris herr hPQ hus hrise hb23
  have hucap := own_capV hown3
  have B1 := hide (parse_any A3 c3 us.length us w3 hown3.bytes rfl hucap (by omega))
  have B3 := hide fun W (hb : Below w3.heap.size w3 W) => seek_any A3 AK c3 cK us.length us key W ((hown3.bytes.below hb).more hb.size) rfl hucap (by omega) (((hk.below hb3).more hb3.size |>.below hb).more hb.size)
  rw [hPP] at B1 B3
  dsimp only [parsedR, seekV] at B1 B3
  obtain ⟨o, HO⟩ : ∃ o, Hid (o = (l.map Pr.pair).find? (notLess key)) := ⟨_, rfl⟩
  rw [← HO.out] at B3
  have hrow3 := hrow.below hb3
  clear hown3 hPP hrow
  go_wp2_with (go_at_call 12; refine halted ?_)
  refine go_on ?_
  refine B1.out.mono ?_
  clear B1
  rintro e w4 ⟨A4, c4, l4, rfl, hm4, hrow4, hcap4, hb4⟩
  dsimp only at *
  have hB4 := hb3.trans (hb4.mono hb3.size)
  have hl4 : l4.length ≤ 2000 := by
    have := congrArg List.length hm4
    simp at this
    omega
  have HSA := hide (rsameAll_any A4 A c4 c l4.length l.length l4 l w4 hrow4 (hrow3.below hb4) rfl rfl (by omega) (by omega))
  rw [decide_eq_true (show l4.map Pr.pair = l.map Pr.pair from hm4)] at HSA
  go_wp2_with (go_at_call 16; refine halted ?_)
  refine go_on ?_
  refine HSA.out.mono ?_
  clear HSA
  rintro e w5 ⟨rfl, hb5⟩
  have hb35 := hb4.trans (hb5.mono hb4.size)
  have hB5 := hb3.trans (hb35.mono hb3.size)
  clear hm4 hrow4
  go_wp2_with (go_at_call 14; refine halted ?_)
  refine go_on ?_
  refine (B3.out _ hb35).mono ?_
  clear B3
  rintro e w6 ⟨q, rfl, hq, hqo, hb6⟩
  dsimp only at *
  have hb36 := hb35.trans (hb6.mono hb35.size)
  have hB6 := hb3.trans (hb36.mono hb3.size)
  have hal6 : Below w6.heap.size w6 (w6.alloc (.cells #[.slice q.A q.k.length q.c, .slice q.A2 q.v.length q.c2] 34)) := (Below.refl _ _).alloc (Nat.le_refl _) _
  have hbq : BoxP w6.heap.size (.slice q.A q.k.length q.c) (.slice q.A2 q.v.length q.c2) (w6.alloc (.cells #[.slice q.A q.k.length q.c, .slice q.A2 q.v.length q.c2] 34)) := heap_alloc_new w6 _
  have hB7 := hB6.trans (hal6.mono hB6.size)
  have hb37 := hb36.trans (hal6.mono hb36.size)
  have hrow7 := hrow3.below hb37
  have hqo := hqo.below hal6
  have hk7 := (hk.below hB7).more hB7.size
  have hz7 : w6.heap.size < (w6.alloc (.cells #[.slice q.A q.k.length q.c, .slice q.A2 q.v.length q.c2] 34)).heap.size := by simp
  have HQ := hide hq
  clear hq hb6 hal6 hb4 hb5 hb35 hb36 hrow3 hk
  go_wp2
  generalize w6.alloc (.cells #[.slice q.A q.k.length q.c, .slice q.A2 q.v.length q.c2] 34) = w7 at *
  have k2 := fun (m : Nat) => run_str (P := Try.prog) (w := w7.drewN m) (dst := 9) (c := cK) Try.underlying25 Try.underlying5 Try.underlying9 (drewN_bytes hk7) rfl
  clear hk7
  go_loopw [17] (fun i wr => ∃ k m : Nat, k ≤ l.length ∧ i = .int .i64 (k : Int) ∧ wr = w7.drewN m ∧ Hid (∀ (j : Nat) (p : KV), j < k → (l.map Pr.pair)[j]? = some p → notLess key p = false)) (fun i _ => l.length - (intOf i).toNat)
  case atStart => exact ⟨0, 0, Nat.zero_le _, rfl, rfl, by show ∀ _, _; intro j p hj; omega⟩
  case round =>
    obtain ⟨k, m, hk', rfl, rfl, HS⟩ := hrel
    by_cases hlt : k < l.length
    · obtain ⟨ad, p, rfl, hadb, hpm, hc0, hd0, hpo⟩ := hrow7.get hlt
      have k1 := fun (m : Nat) => run_str (P := Try.prog) (w := w7.drewN m) (dst := 9) (c := p.c) Try.underlying25 Try.underlying5 Try.underlying9 (drewN_bytes hpo.k) rfl
      have j1 : (k : Int) < (l.length : Int) := by omega
      have hpm2 : (l.map Pr.pair)[k]? = some p.pair := by rw [List.getElem?_map, hpm.out]; rfl
      have HPM := hide hpm2
      clear hpm2
      cases hless : Op.bytesLess p.k key with
      | true =>
        have hlb : Op.bytesLess (strB p.k).toList (strB key).toList = true := by rw [strB_toList, strB_toList, hless]
        have HS2 : Hid (∀ (j : Nat) (p : KV), j < k + 1 → (l.map Pr.pair)[j]? = some p → notLess key p = false) := by
          show ∀ _, _
          intro j q hj hq
          by_cases hjk : j < k
          · exact HS.out j q hjk hq
          · obtain rfl : j = k := by omega
            rw [HPM.out] at hq
            injection hq with hq
            subst hq
            show (!Op.bytesLess p.k key) = false
            rw [hless]; rfl
        clear hrow7 hpo hless HS HPM hd0 hbq hqo
        go_wp2
        go_quiet (fail)
        go_wp2
        go_roundw
        case rel => exact ⟨k + 1, m + nq, by omega, by go_num, rfl, HS2.out⟩
        case measure => simp [intOf]; omega
      | false =>
        have hlb : Op.bytesLess (strB p.k).toList (strB key).toList = false := by rw [strB_toList, strB_toList, hless]
        have hF : IsFirst key (l.map Pr.pair) k := ⟨by rw [List.length_map]; omega, HS.out, fun q hq => by
          rw [HPM.out] at hq
          injection hq with hq
          subst hq
          show (!Op.bytesLess p.k key) = true
          rw [hless]; rfl⟩
        have hoe : o = some p.pair := by rw [HO.out, find_first hF, HPM.out]
        have hqp : q.pair = p.pair := by rw [HQ.out, hoe]; rfl
        have HSM := hide fun W (hb' : Below w7.heap.size w7 W) => rsame_any q p W (hqo.below hb') (hpo.below hb')
        rw [decide_eq_true hqp] at HSM
        have HK := hide fun W (hb' : Below w7.heap.size w7 W) => show W.cell? ⟨w6.heap.size, 0, none⟩ = some (.slice q.A q.k.length q.c) ∧ W.cell? ⟨w6.heap.size, 1, none⟩ = some (.slice q.A2 q.v.length q.c2) ∧ W.cell? (ad.add (k * 2)) = some (.slice p.A p.k.length p.c) ∧ W.cell? ⟨(ad.add (k * 2)).block, (ad.add (k * 2)).off + 1, none⟩ = some (.slice p.A2 p.v.length p.c2) from
          ⟨(hbq.below hb' hz7).cell0, (hbq.below hb' hz7).cell1, (hb'.cell (p := ad.add (k * 2)) (by rw [add_block]; exact hadb)).trans hc0, (hb'.cell (p := ⟨(ad.add (k * 2)).block, (ad.add (k * 2)).off + 1, none⟩) (by show (ad.add (k * 2)).block < _; rw [add_block]; exact hadb)).trans hd0⟩
        subst hoe
        clear hrow7 hpo hless HS HPM hd0 hbq hqo hF hqp HQ HO
        go_wp2
        go_quiet (fail)
        go_wp2
        have hBd := below_drewN' (Below.refl w7.heap.size w7) (m + nq + 1)
        have hSd0 := HK.out _ hBd
        have hSd' : (((w7.drewN m).drewN nq).drew).cell? ⟨w6.heap.size, 0, none⟩ = some (.slice q.A q.k.length q.c) ∧ (((w7.drewN m).drewN nq).drew).cell? ⟨w6.heap.size, 1, none⟩ = some (.slice q.A2 q.v.length q.c2) ∧ (((w7.drewN m).drewN nq).drew).cell? (ad.add (k * 2)) = some (.slice p.A p.k.length p.c) ∧ (((w7.drewN m).drewN nq).drew).cell? ⟨(ad.add (k * 2)).block, (ad.add (k * 2)).off + 1, none⟩ = some (.slice p.A2 p.v.length p.c2) := hSd0
        go_region_held3 (fun W => W.cell? ⟨w6.heap.size, 0, none⟩ = some (.slice q.A q.k.length q.c) ∧ W.cell? ⟨w6.heap.size, 1, none⟩ = some (.slice q.A2 q.v.length q.c2) ∧ W.cell? (ad.add (k * 2)) = some (.slice p.A p.k.length p.c) ∧ W.cell? ⟨(ad.add (k * 2)).block, (ad.add (k * 2)).off + 1, none⟩ = some (.slice p.A2 p.v.length p.c2))
          (with_reducible assumption)
          ((go_at_call 17; (refine (HSM.out _ hBd).mono ?_); rintro e w2 ⟨rfl, hb2⟩; have hb3 := hBd.trans (hb2.mono hBd.size); have hS3 := HK.out _ hb3))
        go_wp2
        go_ret
        exact ⟨rfl, hB7.trans (hb3.mono hB7.size)⟩
    · obtain rfl : k = l.length := by omega
      have hF : IsFirst key (l.map Pr.pair) l.length := ⟨by rw [List.length_map]; exact Nat.le_refl _, HS.out, fun q hq => by
        rw [List.getElem?_eq_none (by rw [List.length_map]; exact Nat.le_refl _)] at hq
        cases hq⟩
      have hoe : o = none := by rw [HO.out, find_first hF, List.getElem?_eq_none (by rw [List.length_map]; exact Nat.le_refl _)]
      subst hoe
      clear hrow7 HS hF k2 hbq hqo HQ HO
      go_wp2
      go_ret
      exact ⟨rfl, below_drewN' hB7 m⟩
end Go.Proofs.Yteagjjiggneheaa
