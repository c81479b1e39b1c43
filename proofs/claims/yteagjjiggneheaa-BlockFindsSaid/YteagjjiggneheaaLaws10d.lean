/-
  BlockFinds, walked.
-/
import Derived.Test.YteagjjiggneheaaLaws10c
namespace Go.Proofs.Yteagjjiggneheaa
open Go.RowKit
set_option linter.unusedVariables false

set_option maxRecDepth 100000 in
set_option maxHeartbeats 4000000 in
theorem blockFinds_any (A AK : Option Addr) (c cK : Nat) (l : List Pr) (every : Int) (key : List UInt8) (w : World) (hrow : PrRow w w.heap.size A l) (hll : l.length ≤ 9223372036854775807) (hk : Bytes w w.heap.size AK key) (hlk : key.length ≤ 9223372036854775807) :
    Calls Try.prog 7 #[.slice A l.length c, .int .i64 every, .slice AK key.length cK] w fun e w' => e = .returned (.bool true) ∧ Below w.heap.size w w' := by
  go_enter Try.func7, Try.ntmps7
  go_wp2_with (first | (go_at_call 8; refine (awake_any _).mono ?_; rintro e w1 ⟨rfl, hb1⟩) | (go_at_call 9; refine halted ?_))
  refine go_on ?_
  refine (few_any A c l w1 (hrow.below hb1) hll).mono ?_
  rintro e w2 ⟨hR, hb12⟩
  have hb2 := hb1.trans (hb12.mono hb1.size)
  rcases hR with rfl | ⟨rfl, HF⟩
  · clear hrow hk
    go_wp2
    go_ret
    exact ⟨rfl, hb2⟩
  by_cases k0 : 100 < l.length
  · clear hrow hk
    go_wp2
    go_ret
    exact ⟨rfl, hb2⟩
  by_cases k2 : 1000 < key.length
  · clear hrow hk
    go_wp2
    go_ret
    exact ⟨rfl, hb2⟩
  have HBU := hide (build_any A c l every w2 (hrow.below hb2) hll HF.out)
  go_wp2_with (go_at_call 10; refine halted ?_)
  refine go_on ?_
  refine HBU.out.mono ?_
  clear HBU hb12
  have herr := buildR_err (every := every) (l := l.map Pr.pair)
  have hbp := fun b (h : buildR every (l.map Pr.pair) = (b, 0)) => built_parse h (few_small HF.out)
  have hris := fun b (h : buildR every (l.map Pr.pair) = (b, 0)) => buildR_zero h
  generalize buildR every (l.map Pr.pair) = r at *
  obtain ⟨us, er⟩ := r
  rintro e w3 ⟨A3, c3, rfl, hown3, hb23⟩
  have hb3 := hb2.trans (hb23.mono hb2.size)
  dsimp only at *
  by_cases her : er = 0
  case neg =>
    have hne : (er != 0) = true := by rw [bne_iff_ne]; exact her
    have h2 : ((er == 1) || (er == 10)) = true := by
      rcases herr with h | h | h
      · exact absurd h her
      · rw [h]; rfl
      · rw [h]; rfl
    have hways : (er == 1) = true ∨ ((er == 1) = false ∧ (er == 10) = true) := by
      rcases herr with h | h | h
      · exact absurd h her
      · exact .inl (by rw [h]; rfl)
      · exact .inr ⟨by rw [h]; rfl, by rw [h]; rfl⟩
    clear hbp hris herr her hown3 hrow hk hb23 h2
    rcases hways with h1 | ⟨h1, h2⟩
    all_goals
      go_wp2
      go_ret
      exact ⟨rfl, hb3⟩
  subst her
  have hPQ := hbp us rfl
  obtain ⟨E, -, hE1, hE2, -, hrise, hus⟩ := hris us rfl
  have hul : us.length ≤ 13000000 := by rw [hus]; exact built_len HF.out
  have hPP : parseP us = some (l.map Pr.pair) := by rw [parse_same (by omega)]; exact hPQ
  have hlen : l.length ≤ 2000 := by have := HF.out.1; rwa [List.length_map] at this
  have HRI := hide hrise
  clear hbp hris herr hPQ hus hrise hb23
  have hucap := own_capV hown3
  have B3 := hide fun (AK : Option Addr) (cK : Nat) (key : List UInt8) W (hb : Below w3.heap.size w3 W) (hk : Bytes W W.heap.size AK key) => seek_any A3 AK c3 cK us.length us key W ((hown3.bytes.below hb).more hb.size) rfl hucap (by omega) hk
  rw [hPP] at B3
  dsimp only [seekV] at B3
  have hrow3 := hrow.below hb3
  have hk3 := (hk.below hb3).more hb3.size
  have HX := hide (show True from trivial)
  clear hown3 hPP hrow hk
  go_wp2
  go_loopw [11, 12] (fun t i wr => ∃ (k : Nat) (tb : Bool), k ≤ l.length ∧ i = .int .i64 (k : Int) ∧ t = .bool tb ∧ Hid (tb = ((l.map Pr.pair).take k).any fun p => decide (p.1 = key)) ∧ Below w3.heap.size w3 wr) (fun _ i _ => l.length - (intOf i).toNat)
  case atStart => exact ⟨0, false, Nat.zero_le _, rfl, rfl, rfl, Below.refl _ _⟩
  case round =>
    obtain ⟨k, tb, hk', rfl, rfl, HT, hb⟩ := hrel
    by_cases hlt : k < l.length
    · obtain ⟨ad, p, rfl, hadb, hpm, hc0, hd0, hpo⟩ := (hrow3.below hb).get hlt
      have hpm2 : (l.map Pr.pair)[k]? = some p.pair := by rw [List.getElem?_map, hpm.out]; rfl
      have hsk := B3.out p.A p.c p.k wr hb hpo.k
      rw [show (l.map Pr.pair).find? (notLess p.k) = some p.pair from seek_at HRI.out hpm2] at hsk
      have HSK := hide hsk
      have HPM := hide hpm2
      clear hsk hpm2
      go_wp2_with (go_at_call 14; refine halted ?_)
      refine go_on ?_
      refine HSK.out.mono ?_
      clear HSK
      rintro e w4 ⟨q, rfl, hq, hqo, hb4⟩
      dsimp only at *
      have hqp : q.pair = p.pair := hq
      have hal6 : Below w4.heap.size w4 (w4.alloc (.cells #[.slice q.A q.k.length q.c, .slice q.A2 q.v.length q.c2] 34)) := (Below.refl _ _).alloc (Nat.le_refl _) _
      have hbq : BoxP w4.heap.size (.slice q.A q.k.length q.c) (.slice q.A2 q.v.length q.c2) (w4.alloc (.cells #[.slice q.A q.k.length q.c, .slice q.A2 q.v.length q.c2] 34)) := heap_alloc_new w4 _
      have hbr := hb4.trans (hal6.mono hb4.size)
      have hb7 := hb.trans (hbr.mono hb.size)
      have hz7 : w4.heap.size < (w4.alloc (.cells #[.slice q.A q.k.length q.c, .slice q.A2 q.v.length q.c2] 34)).heap.size := by simp
      have hqo := hqo.below hal6
      have hpo := hpo.below hbr
      have hk7 := (hk3.below hb7).more hb7.size
      have hadz := hbr.size
      have hd0 := (hbr.cell (p := ⟨(ad.add (k * 2)).block, (ad.add (k * 2)).off + 1, none⟩) (by show (ad.add (k * 2)).block < _; rw [add_block]; exact hadb)).trans hd0
      have hc0 := (hbr.cell (p := ad.add (k * 2)) (by rw [add_block]; exact hadb)).trans hc0
      clear hq hb4 hal6 hbr
      go_wp2
      generalize w4.alloc (.cells #[.slice q.A q.k.length q.c, .slice q.A2 q.v.length q.c2] 34) = w7 at *
      have hadb7 : ad.block < w7.heap.size := Nat.lt_of_lt_of_le hadb hadz
      have HSM := hide fun W (hb' : Below w7.heap.size w7 W) => rsame_any q p W (hqo.below hb') (hpo.below hb')
      rw [decide_eq_true hqp] at HSM
      have HK := hide fun W (hb' : Below w7.heap.size w7 W) => show W.cell? ⟨w4.heap.size, 0, none⟩ = some (.slice q.A q.k.length q.c) ∧ W.cell? ⟨w4.heap.size, 1, none⟩ = some (.slice q.A2 q.v.length q.c2) ∧ W.cell? (ad.add (k * 2)) = some (.slice p.A p.k.length p.c) ∧ W.cell? ⟨(ad.add (k * 2)).block, (ad.add (k * 2)).off + 1, none⟩ = some (.slice p.A2 p.v.length p.c2) from
        ⟨(hbq.below hb' hz7).cell0, (hbq.below hb' hz7).cell1, (hb'.cell (p := ad.add (k * 2)) (by rw [add_block]; exact hadb7)).trans hc0, (hb'.cell (p := ⟨(ad.add (k * 2)).block, (ad.add (k * 2)).off + 1, none⟩) (by show (ad.add (k * 2)).block < _; rw [add_block]; exact hadb7)).trans hd0⟩
      have HKP := hide (And.intro hpo.k hk7)
      have j1 : (k : Int) < (l.length : Int) := by omega
      have hBd := below_drewN' (Below.refl w7.heap.size w7) 1
      have hSd0 := HK.out _ hBd
      have hSd' : w7.drew.cell? ⟨w4.heap.size, 0, none⟩ = some (.slice q.A q.k.length q.c) ∧ w7.drew.cell? ⟨w4.heap.size, 1, none⟩ = some (.slice q.A2 q.v.length q.c2) ∧ w7.drew.cell? (ad.add (k * 2)) = some (.slice p.A p.k.length p.c) ∧ w7.drew.cell? ⟨(ad.add (k * 2)).block, (ad.add (k * 2)).off + 1, none⟩ = some (.slice p.A2 p.v.length p.c2) := hSd0
      clear hpo hqo hbq hc0 hd0 hqp hk7
      go_region_held3 (fun W => W.cell? ⟨w4.heap.size, 0, none⟩ = some (.slice q.A q.k.length q.c) ∧ W.cell? ⟨w4.heap.size, 1, none⟩ = some (.slice q.A2 q.v.length q.c2) ∧ W.cell? (ad.add (k * 2)) = some (.slice p.A p.k.length p.c) ∧ W.cell? ⟨(ad.add (k * 2)).block, (ad.add (k * 2)).off + 1, none⟩ = some (.slice p.A2 p.v.length p.c2))
        (with_reducible assumption)
        ((go_at_call 17; (refine (HSM.out _ hBd).mono ?_); rintro e w8 ⟨rfl, hb8⟩; have hb9 := hBd.trans (hb8.mono hBd.size); have hS3 := HK.out _ hb9))
      have hB9 := hb7.trans (hb9.mono hb7.size)
      have kk1 := (HKP.out.1.below hb9).more hb9.size
      have kk2 := (HKP.out.2.below hb9).more hb9.size
      have k1 := fun (m : Nat) => run_str (P := Try.prog) (w := w8.drewN m) (dst := 9) (c := p.c) Try.underlying25 Try.underlying5 Try.underlying9 (drewN_bytes kk1) rfl
      have k2 := fun (m : Nat) => run_str (P := Try.prog) (w := w8.drewN m) (dst := 9) (c := cK) Try.underlying25 Try.underlying5 Try.underlying9 (drewN_bytes kk2) rfl
      have hc9 := hS3.2.2.1
      clear hSd0 hSd' HK HSM hb8 hb9 hBd kk1 kk2 hS3 HKP
      have htk := take_next HPM.out
      cases tb with
      | true =>
        have HT2 : Hid (true = ((l.map Pr.pair).take (k + 1)).any fun p => decide (p.1 = key)) := by
          show _ = _
          rw [htk, List.any_append, ← HT.out]; rfl
        clear htk HT HPM
        go_wp2
        go_quiet (fail)
        go_wp2
        go_roundw
        case rel => exact ⟨k + 1, true, by omega, by go_num, rfl, HT2.out, below_drewN' hB9 _⟩
        case measure => simp [intOf]; omega
      | false =>
        have HT2 : Hid (decide (p.k = key) = ((l.map Pr.pair).take (k + 1)).any fun p => decide (p.1 = key)) := by
          show _ = _
          rw [htk, List.any_append, ← HT.out]
          simp [Pr.pair]
        clear htk HT HPM
        cases hpk : decide (p.k = key) with
        | true =>
          have e1 : ((strB p.k).toList == (strB key).toList) = true := by rw [strB_beq]; exact hpk
          rw [hpk] at HT2
          clear hpk
          go_wp2
          go_quiet (fail)
          go_wp2
          go_roundw
          case rel => exact ⟨k + 1, true, by omega, by go_num, rfl, HT2.out, below_drewN' hB9 _⟩
          case measure => simp [intOf]; omega
        | false =>
          have e1 : ((strB p.k).toList == (strB key).toList) = false := by rw [strB_beq]; exact hpk
          rw [hpk] at HT2
          clear hpk
          go_wp2
          go_quiet (fail)
          go_wp2
          go_roundw
          case rel => exact ⟨k + 1, false, by omega, by go_num, rfl, HT2.out, below_drewN' hB9 _⟩
          case measure => simp [intOf]; omega
    · obtain rfl : k = l.length := by omega
      have hsk := B3.out AK cK key wr hb ((hk3.below hb).more hb.size)
      have hst := seek_there HRI.out key
      have htb : tb = (l.map Pr.pair).any fun p => decide (p.1 = key) := by
        rw [HT.out, List.take_of_length_le (by rw [List.length_map]; exact Nat.le_refl _)]
      rw [← htb] at hst
      generalize (l.map Pr.pair).find? (notLess key) = o at *
      have HSK := hide hsk
      have HST := hide hst
      clear hsk hst htb HT
      go_wp2_with (go_at_call 14; refine halted ?_)
      refine go_on ?_
      refine HSK.out.mono ?_
      clear HSK
      rintro e w4 ⟨q, rfl, hq, hqo, hb4⟩
      dsimp only at *
      have hal6 : Below w4.heap.size w4 (w4.alloc (.cells #[.slice q.A q.k.length q.c, .slice q.A2 q.v.length q.c2] 34)) := (Below.refl _ _).alloc (Nat.le_refl _) _
      have hB4 := hb.trans (hb4.mono hb.size)
      have hB7 := hB4.trans (hal6.mono hB4.size)
      have hBE := hb3.trans (hB7.mono hb3.size)
      have k1 := run_str (P := Try.prog) (dst := 9) (c := q.c) Try.underlying25 Try.underlying5 Try.underlying9 (hqo.below hal6).k rfl
      have k2 := run_str (P := Try.prog) (dst := 9) (c := cK) Try.underlying25 Try.underlying5 Try.underlying9 (hk3.below hB7) rfl
      cases o with
      | none =>
        have htf : tb = false := HST.out.symm
        subst htf
        clear hq hqo hb4 hal6 hB4 hB7
        go_wp2
        go_ret
        exact ⟨rfl, hBE⟩
      | some x =>
        have hx : tb = decide (q.k = key) := by
          rw [← HST.out]
          have : q.k = x.1 := by
            have := congrArg Prod.fst hq
            exact this
          rw [this]
          rfl
        have e1 : ((strB q.k).toList == (strB key).toList) = tb := by rw [strB_beq, hx]
        clear hq hqo hb4 hal6 hB4 hB7 hx
        cases tb
        all_goals
          go_wp2
          go_ret
          exact ⟨rfl, hBE⟩
end Go.Proofs.Yteagjjiggneheaa
