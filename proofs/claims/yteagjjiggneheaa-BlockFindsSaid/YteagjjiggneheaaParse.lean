/-
  block's Parse: what it does.
-/
import Derived.Test.YteagjjiggneheaaParseSt
import Derived.Deep.RegionHeld3
namespace Go.Proofs.Yteagjjiggneheaa
open Go.RowKit
set_option linter.unusedVariables false

def ParseRel (bs : List UInt8) (every : Nat) (W0 : World) (qb : Nat) (outv headsv leftv : Value) (wr : World) : Prop :=
  ∃ (outs : List Pr) (AO : Option Addr) (cO : Nat) (hs : List Nat) (AH : Option Addr) (cH : Nat) (left : List UInt8) (A : Option Addr) (c : Nat) (last : List UInt8) (AL : Option Addr) (cL : Nat),
    outv = .slice AO outs.length cO ∧ headsv = .slice AH hs.length cH ∧ leftv = .slice A left.length c ∧ PSt W0 qb outs AO cO hs AH cH left A c last AL cL wr ∧ outs.length + left.length ≤ bs.length ∧ hs.length ≤ outs.length ∧ last.length + left.length ≤ bs.length ∧
    Hid (last = lastKey [] (outs.map Pr.pair)) ∧ Hid (allP every bs.length 0 [] bs = (allP every bs.length outs.length last left).map fun q => (outs.map Pr.pair ++ q.1, hs ++ q.2))

theorem Box3.below {q : Nat} {v0 v1 v2 : Value} {W W' : World} {B : Nat} (h : Box3 q v0 v1 v2 W) (hb : Below B W W') (hq : q < B) : Box3 q v0 v1 v2 W' := (hb.block q hq).trans h
theorem Box3.kept {q : Nat} {v0 v1 v2 : Value} {W W' : World} {S : Nat → Prop} (h : Box3 q v0 v1 v2 W) (hk : Kept S W W') (hS : ¬ S q) (hq : q < W.heap.size) : Box3 q v0 v1 v2 W' := (hk.block q hq hS).trans h

theorem splitB_parts {bs body : List UInt8} {heads : List Nat} {every : Nat} (h : splitB bs = some (body, heads, every)) : 1 ≤ every ∧ every ≤ 64 ∧ body.length ≤ bs.length ∧ heads.length ≤ bs.length := by
  unfold splitB at h
  split at h
  · cases h
  · split at h
    · cases h
    · injection h with h
      simp only [Prod.mk.injEq] at h
      obtain ⟨rfl, rfl, rfl⟩ := h
      rename_i h1 h2
      refine ⟨by omega, by omega, by rw [List.length_take]; omega, by rw [List.length_map, List.length_range]; omega⟩
/-- The box of a pair. -/
def BoxP (q : Nat) (v0 v1 : Value) (W : World) : Prop := W.heap[q]? = some (.cells #[v0, v1] 34 (0, 0))
theorem BoxP.cell0 {q : Nat} {v0 v1 : Value} {W : World} (h : BoxP q v0 v1 W) : W.cell? ⟨q, 0, none⟩ = some v0 := by
  have := Joins.cell_of_block h 0
  simpa using this
theorem BoxP.cell1 {q : Nat} {v0 v1 : Value} {W : World} (h : BoxP q v0 v1 W) : W.cell? ⟨q, 1, none⟩ = some v1 := by
  have := Joins.cell_of_block h 1
  simpa using this
theorem Kept.below_of {S : Nat → Prop} {B : Nat} {w w' : World} (h : Kept S w w') (hs : ∀ k, S k → B ≤ k) (hB : B ≤ w.heap.size) : Below B w w' := h.below hs hB

set_option maxRecDepth 100000 in
set_option maxHeartbeats 4000000 in
theorem parse_any (A : Option Addr) (c n : Nat) (bs : List UInt8) (w : World) (hr : Bytes w w.heap.size A bs) (hn : bs.length = n) (hc : n ≤ c) (hl : n ≤ 100000000) :
    Calls Try.prog 12 #[.slice A n c] w fun e w' => NewP w w' e (parsedR (parseP bs)) := by
  have HSP := hide (split_any (B := w.heap.size) hr (Nat.le_refl _) hn hc (by omega))
  go_enter Try.func12, Try.ntmps12
  go_wp2_with (go_at_call 28; refine halted ?_)
  refine go_on ?_
  refine HSP.out.mono ?_
  clear HSP
  cases hs : splitB bs with
  | none =>
    have HPP : Hid (parsedR (parseP bs) = ([], 3)) := by show _ = _; unfold parseP; rw [hs]; rfl
    rintro e w1 ⟨rfl, hb1⟩
    clear hr hs
    go_wp2
    go_ret2
    rw [HPP.out]
    exact ⟨none, 0, [], rfl, rfl, ⟨Row.nil, fun p hp => by simp at hp⟩, Nat.le_refl _, hb1.alloc hb1.size _⟩
  | some q =>
    obtain ⟨body, heads, every⟩ := q
    rintro e w1 ⟨A1, c1, A2, c2, rfl, hr1, hc1, hown2, hb1⟩
    have hE : 1 ≤ every ∧ every ≤ 64 ∧ body.length ≤ n ∧ heads.length ≤ n := by
      have h := splitB_parts hs
      rw [← hn]
      exact h
    have HS := hide hs
    have hx0 : Box3 w1.heap.size (.slice A1 body.length c1) (.slice A2 heads.length c2) (.int .i64 (every : Int)) (w1.alloc (.cells #[.slice A1 body.length c1, .slice A2 heads.length c2, .int .i64 (every : Int)] 49)) := heap_alloc_new w1 _
    have hal : Below w1.heap.size w1 (w1.alloc (.cells #[.slice A1 body.length c1, .slice A2 heads.length c2, .int .i64 (every : Int)] 49)) := (Below.refl _ _).alloc (Nat.le_refl _) _
    have hqx : w1.heap.size < (w1.alloc (.cells #[.slice A1 body.length c1, .slice A2 heads.length c2, .int .i64 (every : Int)] 49)).heap.size := by simp
    clear hs
    go_wp2
    generalize w1.alloc (.cells #[.slice A1 body.length c1, .slice A2 heads.length c2, .int .i64 (every : Int)] 49) = Wx at *
    have z0 := Joins.cell_of_block hx0 0
    simp at z0
    have z0' : ∀ o1 o2, ((Wx.alloc o1).alloc o2).drew.cell? ⟨w1.heap.size, 0, none⟩ = some (.slice A1 body.length c1) := fun o1 o2 =>
      ((((Below.refl Wx.heap.size Wx).alloc (Nat.le_refl _) o1).alloc (by simp) o2).cell (p := ⟨w1.heap.size, 0, none⟩) hqx).trans z0
    have hSd : Wx.drew.cell? ⟨w1.heap.size, 0, none⟩ = some (.slice A1 body.length c1) := z0
    go_region_held3 (fun W => W.cell? ⟨w1.heap.size, 0, none⟩ = some (.slice A1 body.length c1))
      (with_reducible assumption)
      ((go_at_call 29; refine (pairsFn_any _ A1 body.length c1).mono ?_; rintro e w2 ⟨rfl, rfl⟩; have hS2 := z0' (.cells #[.slice A1 body.length c1] 25) (.cells #[.slice none 0 0] 25)))
    have hbx0 : Below w.heap.size w Wx := hb1.trans (hal.mono hb1.size)
    have hAl2 : Below Wx.heap.size Wx (((Wx.alloc (.cells #[.slice A1 body.length c1] 25)).alloc (.cells #[.slice none 0 0] 25)).drew) := below_drewN' (((Below.refl _ _).alloc (Nat.le_refl _) _).alloc (by simp) _) 1
    have hq0 : BoxS Wx.heap.size (.slice A1 body.length c1) (((Wx.alloc (.cells #[.slice A1 body.length c1] 25)).alloc (.cells #[.slice none 0 0] 25)).drew) := by
      have h := heap_alloc_new Wx (.cells #[.slice A1 body.length c1] 25)
      exact (((Below.refl (Wx.alloc (.cells #[.slice A1 body.length c1] 25)).heap.size _).alloc (Nat.le_refl _) (.cells #[.slice none 0 0] 25)).block _ (by simp)).trans h
    have hq1 : BoxS (Wx.heap.size + 1) (.slice none 0 0) (((Wx.alloc (.cells #[.slice A1 body.length c1] 25)).alloc (.cells #[.slice none 0 0] 25)).drew) := by
      have h := heap_alloc_new (Wx.alloc (.cells #[.slice A1 body.length c1] 25)) (.cells #[.slice none 0 0] 25)
      rw [World.size_alloc] at h
      exact h
    have hz0 : Wx.heap.size + 1 < (((Wx.alloc (.cells #[.slice A1 body.length c1] 25)).alloc (.cells #[.slice none 0 0] 25)).drew).heap.size := by simp
    generalize (((Wx.alloc (.cells #[.slice A1 body.length c1] 25)).alloc (.cells #[.slice none 0 0] 25)).drew) = W0 at *
    have hx0W := hx0.below hAl2 hqx
    have hrow2 : Row W0 Wx.heap.size A2 (heads.map intv) := ((Row.of_own hown2).belowLe (B' := w1.heap.size) hal (Nat.le_refl _) |>.more hal.size).below hAl2
    have hbody : Bytes W0 W0.heap.size A1 body := ((((hr1.belowLe hal (hb1.size)).more (Nat.le_trans hb1.size hal.size)).below hAl2).more hAl2.size)
    have hst0 : PSt W0 Wx.heap.size [] none 0 [] none 0 body A1 c1 [] none 0 W0 := by
      refine ⟨World.ownsRow_nil _ _ _ _, World.ownsRow_nil _ _ _ _, Apart.none, hq0, hq1, hz0, ⟨hbody, hc1, ?_⟩, ⟨Bytes.nil, Nat.le_refl _, Away.nil⟩, fun p hp => by simp at hp, Kept.refl _⟩
      have hlow1 : Bytes W0 Wx.heap.size A1 body := ((hr1.belowLe hal (hb1.size)).more (Nat.le_trans hb1.size hal.size)).below hAl2
      refine Away.of_bytes hlow1 ?_
      rintro k ((rfl | rfl) | h | h)
      · omega
      · omega
      · unfold InRow at h; simp at h
      · unfold InRow at h; simp at h
    have HST := hide hst0
    have hlowb : w.heap.size ≤ Wx.heap.size := hbx0.size
    clear hst0 hbody hown2 hal hr1 z0 z0' hSd hS2 hq0 hq1
    go_wp2
    clear hx0 hr hb1
    obtain ⟨i0, hi, hz0, hz1, hz2⟩ := info_parts info_int
    obtain ⟨i1, hj, hw0, hw1, hw2⟩ := info_parts info_pair
    have hbW0 : Below w.heap.size w W0 := hbx0.trans (hAl2.mono hbx0.size)
    have hlow0 : ∀ k, (k = Wx.heap.size ∨ k = Wx.heap.size + 1) → w.heap.size ≤ k := fun k hk => by omega
    obtain ⟨he1, he2, he3, he4⟩ := hE
    have q1 : 1 ≤ (every : Int) := by omega
    have q2 : (every : Int) ≤ 64 := by omega
    go_loopw [6, 7, 9] (fun o h l wr => ParseRel body every W0 Wx.heap.size o h l wr) (fun _ _ l _ => match l with | .slice _ n _ => n | _ => 0)
    case atStart => exact ⟨[], none, 0, [], none, 0, body, A1, c1, [], none, 0, rfl, rfl, rfl, HST.out, by simp, Nat.le_refl _, by simp, rfl, by show _ = _; cases allP every body.length 0 [] body <;> rfl⟩
    case round =>
      obtain ⟨outs, AO, cO, hs, AH, cH, left, A, c, last, AL, cL, rfl, rfl, rfl, hst, hb1, hb2, hb3, HK, HP⟩ := hrel
      by_cases hlt : 0 < left.length
      · have hne : left ≠ [] := by intro e; subst e; simp at hlt
        have hx := hx0W.kept hst.kept (fun h => by rcases h with h | h <;> omega) (Nat.lt_of_lt_of_le hqx hAl2.size)
        have v0 := Joins.cell_of_block hx 0
        have v2 := Joins.cell_of_block hx 2
        simp at v0 v2
        have HBD := hide (show outs.length ≤ 100000000 ∧ hs.length ≤ 100000000 from by omega)
        by_cases hh : outs.length % every = 0
        · have hq : (outs.length : Int) % (every : Int) = 0 := by exact_mod_cast hh
          have hqb : ((outs.length : Int) % (every : Int) == 0) = true := beq_iff_eq.2 hq
          clear hq
          have hsub : ((body.length : Int) - (left.length : Int)) = ((body.length - left.length : Nat) : Int) := by omega
          have HSUB := hide hsub
          clear hsub
          obtain ⟨ob1, ob2⟩ := HBD.out
          have hlw := hst.kept.size
          go_wp2_with (at_builtin; refine halted ?_)
          refine go_on ?_
          refine wpList_append_own _ rfl (.tmp 36) (.tmp 43) 47 rfl W0.heap.size 3 i0 _ 1 8 Try.underlying47 hi hz0 hz1 hz2 rfl (by decide) AH hs.length cH (hs.map intv) rfl (World.ownsRow.alloc hst.ownH _) _ _ 1 _ [.int .i64 ((body.length : Int) - (left.length : Int))] rfl rfl (Row.new wr #[.int .i64 ((body.length : Int) - (left.length : Int))] 3 (0, 0)) (by intro u hu; simp at hu; subst hu; rfl) (by unfold maxLen; omega) (by omega) (by simp; omega) ?_
          intro n' xs' AHa cHa wa hn' hxs' _ _ hown5 hg5 hat5
          obtain rfl : n' = (hs ++ [body.length - left.length]).length := by rw [hn'.out]; simp
          obtain rfl : xs' = (hs ++ [body.length - left.length]).map intv := by rw [hxs'.out, HSUB.out]; simp [intv]
          have hsta := hst.moveH (((Kept.refl wr).alloc _).trans (Kept.of_grown hg5 (fun k e => e))) hown5 (fun k hk => by
            rcases hat5 with h | h
            · exact .inl (by unfold InRow at hk ⊢; rw [← h]; exact hk)
            · refine .inr ?_
              unfold InRow at hk
              rw [h] at hk
              injection hk with hk
              rw [← hk]
              simp)
          clear hn' hxs' hown5 hg5 hat5
          obtain ⟨r, hr⟩ := nextP_ex true last left
          have hal := allP_told (every := every) (tot := body.length) (i := outs.length) hne (head := true) (by simp [hh]) hr
          have HNX := hide (next_any true Wx.heap.size (Wx.heap.size + 1) A AL 0 c cL left last wa (Xs Wx.heap.size AO AHa) hsta.bb hsta.bl (by omega) hsta.sl.row hsta.sl.cap hsta.sk.row hsta.sk.cap (by omega) (by omega) hsta.wider (.inl (.inl rfl)) (.inl (.inr rfl)) hsta.sl.away hsta.sk.away r hr)
          have HAL := hide hal
          clear hal hr hne
          go_wp2_with (go_at_call 39; refine halted ?_)
          refine go_on ?_
          refine HNX.out.mono ?_
          clear HNX
          cases r with
          | none =>
            have HPN : Hid (parseP bs = none) := by
              show _ = _
              unfold parseP
              rw [HS.out]
              dsimp only
              rw [HP.out, HAL.out.1 rfl]
              rfl
            rintro e w6 ⟨rfl, hb6⟩
            have hB6 := hbW0.trans (hsta.kept.below_of hlow0 (hbW0.size))
            have hB6 := hB6.trans (hb6.mono (Nat.le_trans hbW0.size hsta.kept.size))
            have HB6 := hide (below_drewN' (hB6.alloc hB6.size (.cells #[.slice none 0 0, .slice none 0 0] 34)))
            clear hsta hst hx hb6 hB6 HAL HP HK
            go_wp2
            go_quiet (fail)
            go_wp2
            go_ret2
            rw [HPN.out]
            exact ⟨none, 0, [], rfl, rfl, ⟨Row.nil, fun p hp => by simp at hp⟩, Nat.le_refl _, HB6.out _⟩
          | some q =>
            obtain ⟨⟨pk, pv⟩, left2⟩ := q
            rintro e w6 ⟨Ak, ck, Av, cv, A3, c3, A4, c4, rfl, hrk, hck, hrv, hcv, hr3, hc3, hr4, hc4, hak, hav, ha3, ha4, hK6, hbl6, hbb6⟩
            dsimp only at *
            obtain ⟨hal1, hal2, hal3, hal4⟩ := HAL.out.2 _ _ rfl
            dsimp only at hal1 hal2 hal3
            have HA1 := hide hal1
            have HA2 := hide hal2
            have hst6 := hsta.told hK6 hbb6 hbl6 ⟨hr3, hc3, ha3⟩ ⟨hr4, hc4, ha4⟩
            have hAl7 : Below w6.heap.size w6 (w6.alloc (.cells #[.slice Ak pk.length ck, .slice Av pv.length cv] 34)) := (Below.refl _ _).alloc (Nat.le_refl _) _
            have hst7 := hst6.call hAl7
            have hk7 : Sl (Xs Wx.heap.size AO AHa) (w6.alloc (.cells #[.slice Ak pk.length ck, .slice Av pv.length cv] 34)) Ak ck pk := Sl.kept ⟨hrk, hck, hak⟩ (Kept.of_below (S := fun _ => False) hAl7) (fun _ h => h.elim) (fun _ h => .inl h)
            have hv7 : Sl (Xs Wx.heap.size AO AHa) (w6.alloc (.cells #[.slice Ak pk.length ck, .slice Av pv.length cv] 34)) Av cv pv := Sl.kept ⟨hrv, hcv, hav⟩ (Kept.of_below (S := fun _ => False) hAl7) (fun _ h => h.elim) (fun _ h => .inl h)
            clear hal1 hal2 hK6 hbl6 hbb6 hr3 hc3 ha3 hr4 hc4 ha4 hrk hck hak hrv hcv hav HAL hsta hst6
            have hbx7 : BoxP w6.heap.size (.slice Ak pk.length ck) (.slice Av pv.length cv) (w6.alloc (.cells #[.slice Ak pk.length ck, .slice Av pv.length cv] 34)) := heap_alloc_new w6 _
            have hq7 : w6.heap.size < (w6.alloc (.cells #[.slice Ak pk.length ck, .slice Av pv.length cv] 34)).heap.size := by simp
            have HD7 := hide (fun m => And.intro (hst7.call (w' := (w6.alloc (.cells #[.slice Ak pk.length ck, .slice Av pv.length cv] 34)).drewN m) (below_drewN' (Below.refl _ _) m)) (And.intro (hk7.kept (X' := Xs Wx.heap.size AO AHa) (Kept.of_below (S := fun _ => False) (below_drewN' (Below.refl _ _) m)) (fun _ h => h.elim) (fun _ h => .inl h)) (And.intro (hv7.kept (X' := Xs Wx.heap.size AO AHa) (Kept.of_below (S := fun _ => False) (below_drewN' (Below.refl _ _) m)) (fun _ h => h.elim) (fun _ h => .inl h)) (show BoxP w6.heap.size (.slice Ak pk.length ck) (.slice Av pv.length cv) ((w6.alloc (.cells #[.slice Ak pk.length ck, .slice Av pv.length cv] 34)).drewN m) from hbx7))))
            have hB7 := (hbW0.trans (hst7.kept.below_of hlow0 hbW0.size))
            have HB7 := hide hB7
            have hroom : outs.length + 1 + left2.length ≤ body.length := by omega
            have hkl : pk.length + left2.length ≤ body.length := by omega
            have b0 := hbx7.cell0
            go_wp2
            generalize w6.alloc (.cells #[.slice Ak pk.length ck, .slice Av pv.length cv] 34) = w7 at *
            by_cases ho : 0 < outs.length
            · obtain ⟨ad, pr, hAO, hadb, hpr, hcx, -, hprk, -, -, -⟩ := hst7.row.at_ (k := outs.length - 1) (by omega)
              have hlk : last = pr.k := by
                rw [HK.out]
                unfold lastKey
                rw [List.getLast?_eq_getElem?, List.getElem?_map, List.length_map, hpr.out]
                rfl
              subst hAO
              have hcmpQ := hide (fun m => compare_any (w := w7.drewN m) (c1 := ck) (c2 := pr.c) (drewN_bytes hk7.row) rfl (drewN_bytes hprk) rfl)
              have hi1 : (outs.length : Int) - 1 = ((outs.length - 1 : Nat) : Int) := by omega
              have s1 : IntKind.i64.wrap ((outs.length : Int) - 1) = (outs.length : Int) - 1 := IntWalk.i64_in _ (by omega)
              have o1 : 0 < (outs.length : Int) := by omega
              have o5 : 1 ≤ (outs.length : Int) := by omega
              have o6 : outs.length - 1 < outs.length := by omega
              have o2 : 0 ≤ (outs.length : Int) - 1 := by omega
              have o3 : (outs.length : Int) - 1 < (outs.length : Int) := by omega
              have o4 : ((outs.length : Int) - 1).toNat = outs.length - 1 := by omega
              have HLK := hide hlk
              have HPR := hide hpr
              clear hst7 hk7 hv7 hprk hlk hpr hst hx hAl7 hbx7 hi1
              by_cases hcmp : Lib.compareBytes pk pr.k ≤ 0
              · have HPN : Hid (parseP bs = none) := by
                  show _ = _
                  unfold parseP
                  rw [HS.out]
                  dsimp only
                  rw [HP.out, HA1.out (by
                    rintro (h | h)
                    · omega
                    · rw [HLK.out, compare_le.1 hcmp] at h; cases h)]
                  rfl
                clear HP HA1 HA2 HK HD7
                go_wp2
                go_quiet ((go_at_call 18; exact Calls.quiet_of_same (hcmpQ.out _)))
                go_wp2
                go_ret2
                rw [HPN.out]
                exact ⟨none, 0, [], rfl, rfl, ⟨Row.nil, fun p hp => by simp at hp⟩, Nat.le_refl _, below_drewN' HB7.out _⟩
              · have hcmp' : 0 < Lib.compareBytes pk pr.k := by omega
                have hless : outs.length = 0 ∨ Op.bytesLess last pk = true := by
                  right
                  rw [HLK.out]
                  cases hb : Op.bytesLess pr.k pk
                  · exact absurd (compare_le.2 hb) hcmp
                  · rfl
                have HHP : Hid (allP every body.length 0 [] body = (allP every body.length (outs ++ [(⟨Ak, ck, pk, Av, cv, pv⟩ : Pr)]).length pk left2).map fun q => ((outs ++ [(⟨Ak, ck, pk, Av, cv, pv⟩ : Pr)]).map Pr.pair ++ q.1, (hs ++ [body.length - left.length]) ++ q.2)) := by
                  show _ = _
                  rw [HP.out, HA2.out hless, List.length_append, List.length_singleton]
                  cases allP every body.length (outs.length + 1) pk left2 with
                  | none => rfl
                  | some q => simp [hh, Pr.pair]
                have HHK : Hid (pk = lastKey [] ((outs ++ [(⟨Ak, ck, pk, Av, cv, pv⟩ : Pr)]).map Pr.pair)) := by
                  show _ = _
                  unfold lastKey
                  simp [Pr.pair]
                have hcap := own_capV (HD7.out 0).1.own
                clear HP HA1 HA2 HK hless hh
                go_wp2
                go_quiet ((go_at_call 18; exact Calls.quiet_of_same (hcmpQ.out _)))
                obtain ⟨hst8, hk8, hv8, hbx8⟩ := HD7.out nq
                have HB8 := hide (below_drewN' HB7.out nq)
                generalize w7.drewN nq = w8 at *
                have c0 := hbx8.cell0
                have c1' := hbx8.cell1
                clear HD7 HB7 hbx8
                have hz8 := hst8.kept.size
                obtain ⟨ob1, ob2⟩ := HBD.out
                go_wp2_with (at_builtin; refine halted ?_)
                refine go_on ?_
                refine wpList_append_own _ rfl (.tmp 72) (.tmp 74) 22 rfl W0.heap.size 34 i1 _ 2 48 Try.underlying22 hj hw0 hw1 hw2 rfl (by decide) (some ad) outs.length cO (outs.flatMap Pr.cells) rfl (World.ownsRow.alloc hst8.own _) _ _ 1 _ [.slice Ak pk.length ck, .slice Av pv.length cv] rfl rfl (Row.new w8 #[.slice Ak pk.length ck, .slice Av pv.length cv] 34 (0, 0)) (by intro u hu; simp at hu; rcases hu with rfl | rfl <;> rfl) (by unfold maxLen; omega) (by omega) (by simp; omega) ?_
                intro n' xs' AOa cOa wb hn' hxs' _ _ hown9 hg9 hat9
                obtain rfl : n' = (outs ++ [(⟨Ak, ck, pk, Av, cv, pv⟩ : Pr)]).length := by rw [hn'.out]; simp
                obtain rfl : xs' = (outs ++ [(⟨Ak, ck, pk, Av, cv, pv⟩ : Pr)]).flatMap Pr.cells := by rw [hxs'.out]; simp [Pr.cells]
                have hst9 := hst8.moveO (p := ⟨Ak, ck, pk, Av, cv, pv⟩) (((Kept.refl w8).alloc _).trans (Kept.of_grown hg9 (fun k e => e))) hown9 (fun k hk => by
                  rcases hat9 with h | h
                  · exact .inl (by unfold InRow at hk ⊢; rw [← h]; exact hk)
                  · refine .inr ?_
                    unfold InRow at hk
                    rw [h] at hk
                    injection hk with hk
                    rw [← hk]
                    simp) ⟨hk8, hv8⟩
                have HST9 := hide hst9
                clear hn' hxs' hown9 hg9 hat9 hst8 hk8 hv8 c0 c1' hst9
                go_wp2
                go_roundw
                case rel => exact ⟨outs ++ [(⟨Ak, ck, pk, Av, cv, pv⟩ : Pr)], AOa, cOa, (hs ++ [body.length - left.length]), AHa, cHa, left2, A3, c3, pk, A4, c4, by simp, by simp, rfl, HST9.out, by simp; omega, by simp; omega, hkl, HHK.out, HHP.out⟩
                case measure => simp; omega
            · have ho' : ¬ 0 < (outs.length : Int) := by omega
              have hless : outs.length = 0 ∨ Op.bytesLess last pk = true := .inl (by omega)
              clear hst7 hk7 hv7 hst hx hAl7 hbx7
              have HHP : Hid (allP every body.length 0 [] body = (allP every body.length (outs ++ [(⟨Ak, ck, pk, Av, cv, pv⟩ : Pr)]).length pk left2).map fun q => ((outs ++ [(⟨Ak, ck, pk, Av, cv, pv⟩ : Pr)]).map Pr.pair ++ q.1, (hs ++ [body.length - left.length]) ++ q.2)) := by
                show _ = _
                rw [HP.out, HA2.out hless, List.length_append, List.length_singleton]
                cases allP every body.length (outs.length + 1) pk left2 with
                | none => rfl
                | some q => simp [hh, Pr.pair]
              have HHK : Hid (pk = lastKey [] ((outs ++ [(⟨Ak, ck, pk, Av, cv, pv⟩ : Pr)]).map Pr.pair)) := by
                show _ = _
                unfold lastKey
                simp [Pr.pair]
              have hcap := own_capV (HD7.out 0).1.own
              clear HP HA1 HA2 HK hless hh
              go_wp2
              go_quiet (fail)
              obtain ⟨hst8, hk8, hv8, hbx8⟩ := HD7.out nq
              have HB8 := hide (below_drewN' HB7.out nq)
              generalize w7.drewN nq = w8 at *
              have c0 := hbx8.cell0
              have c1' := hbx8.cell1
              clear HD7 HB7 hbx8
              have hz8 := hst8.kept.size
              obtain ⟨ob1, ob2⟩ := HBD.out
              go_wp2_with (at_builtin; refine halted ?_)
              refine go_on ?_
              refine wpList_append_own _ rfl (.tmp 72) (.tmp 74) 22 rfl W0.heap.size 34 i1 _ 2 48 Try.underlying22 hj hw0 hw1 hw2 rfl (by decide) AO outs.length cO (outs.flatMap Pr.cells) rfl (World.ownsRow.alloc hst8.own _) _ _ 1 _ [.slice Ak pk.length ck, .slice Av pv.length cv] rfl rfl (Row.new w8 #[.slice Ak pk.length ck, .slice Av pv.length cv] 34 (0, 0)) (by intro u hu; simp at hu; rcases hu with rfl | rfl <;> rfl) (by unfold maxLen; omega) (by omega) (by simp; omega) ?_
              intro n' xs' AOa cOa wb hn' hxs' _ _ hown9 hg9 hat9
              obtain rfl : n' = (outs ++ [(⟨Ak, ck, pk, Av, cv, pv⟩ : Pr)]).length := by rw [hn'.out]; simp
              obtain rfl : xs' = (outs ++ [(⟨Ak, ck, pk, Av, cv, pv⟩ : Pr)]).flatMap Pr.cells := by rw [hxs'.out]; simp [Pr.cells]
              have hst9 := hst8.moveO (p := ⟨Ak, ck, pk, Av, cv, pv⟩) (((Kept.refl w8).alloc _).trans (Kept.of_grown hg9 (fun k e => e))) hown9 (fun k hk => by
                rcases hat9 with h | h
                · exact .inl (by unfold InRow at hk ⊢; rw [← h]; exact hk)
                · refine .inr ?_
                  unfold InRow at hk
                  rw [h] at hk
                  injection hk with hk
                  rw [← hk]
                  simp) ⟨hk8, hv8⟩
              have HST9 := hide hst9
              clear hn' hxs' hown9 hg9 hat9 hst8 hk8 hv8 c0 c1' hst9
              go_wp2
              go_roundw
              case rel => exact ⟨outs ++ [(⟨Ak, ck, pk, Av, cv, pv⟩ : Pr)], AOa, cOa, (hs ++ [body.length - left.length]), AHa, cHa, left2, A3, c3, pk, A4, c4, by simp, by simp, rfl, HST9.out, by simp; omega, by simp; omega, hkl, HHK.out, HHP.out⟩
              case measure => simp; omega
        · have hqb : ((outs.length : Int) % (every : Int) == 0) = false := by rw [beq_eq_false_iff_ne]; intro h; exact hh (by exact_mod_cast h)
          obtain ⟨wa, rfl⟩ : ∃ wa, wa = wr := ⟨_, rfl⟩
          obtain ⟨AHa, rfl⟩ : ∃ AHa, AHa = AH := ⟨_, rfl⟩
          have hsta := hst
          obtain ⟨r, hr⟩ := nextP_ex false last left
          have hal := allP_told (every := every) (tot := body.length) (i := outs.length) hne (head := false) (by simp [hh]) hr
          have HNX := hide (next_any false Wx.heap.size (Wx.heap.size + 1) A AL 0 c cL left last wa (Xs Wx.heap.size AO AHa) hsta.bb hsta.bl (by omega) hsta.sl.row hsta.sl.cap hsta.sk.row hsta.sk.cap (by omega) (by omega) hsta.wider (.inl (.inl rfl)) (.inl (.inr rfl)) hsta.sl.away hsta.sk.away r hr)
          have HAL := hide hal
          clear hal hr hne
          go_wp2_with (go_at_call 39; refine halted ?_)
          refine go_on ?_
          refine HNX.out.mono ?_
          clear HNX
          cases r with
          | none =>
            have HPN : Hid (parseP bs = none) := by
              show _ = _
              unfold parseP
              rw [HS.out]
              dsimp only
              rw [HP.out, HAL.out.1 rfl]
              rfl
            rintro e w6 ⟨rfl, hb6⟩
            have hB6 := hbW0.trans (hsta.kept.below_of hlow0 (hbW0.size))
            have hB6 := hB6.trans (hb6.mono (Nat.le_trans hbW0.size hsta.kept.size))
            have HB6 := hide (below_drewN' (hB6.alloc hB6.size (.cells #[.slice none 0 0, .slice none 0 0] 34)))
            clear hsta hst hx hb6 hB6 HAL HP HK
            go_wp2
            go_quiet (fail)
            go_wp2
            go_ret2
            rw [HPN.out]
            exact ⟨none, 0, [], rfl, rfl, ⟨Row.nil, fun p hp => by simp at hp⟩, Nat.le_refl _, HB6.out _⟩
          | some q =>
            obtain ⟨⟨pk, pv⟩, left2⟩ := q
            rintro e w6 ⟨Ak, ck, Av, cv, A3, c3, A4, c4, rfl, hrk, hck, hrv, hcv, hr3, hc3, hr4, hc4, hak, hav, ha3, ha4, hK6, hbl6, hbb6⟩
            dsimp only at *
            obtain ⟨hal1, hal2, hal3, hal4⟩ := HAL.out.2 _ _ rfl
            dsimp only at hal1 hal2 hal3
            have HA1 := hide hal1
            have HA2 := hide hal2
            have hst6 := hsta.told hK6 hbb6 hbl6 ⟨hr3, hc3, ha3⟩ ⟨hr4, hc4, ha4⟩
            have hAl7 : Below w6.heap.size w6 (w6.alloc (.cells #[.slice Ak pk.length ck, .slice Av pv.length cv] 34)) := (Below.refl _ _).alloc (Nat.le_refl _) _
            have hst7 := hst6.call hAl7
            have hk7 : Sl (Xs Wx.heap.size AO AHa) (w6.alloc (.cells #[.slice Ak pk.length ck, .slice Av pv.length cv] 34)) Ak ck pk := Sl.kept ⟨hrk, hck, hak⟩ (Kept.of_below (S := fun _ => False) hAl7) (fun _ h => h.elim) (fun _ h => .inl h)
            have hv7 : Sl (Xs Wx.heap.size AO AHa) (w6.alloc (.cells #[.slice Ak pk.length ck, .slice Av pv.length cv] 34)) Av cv pv := Sl.kept ⟨hrv, hcv, hav⟩ (Kept.of_below (S := fun _ => False) hAl7) (fun _ h => h.elim) (fun _ h => .inl h)
            clear hal1 hal2 hK6 hbl6 hbb6 hr3 hc3 ha3 hr4 hc4 ha4 hrk hck hak hrv hcv hav HAL hsta hst6
            have hbx7 : BoxP w6.heap.size (.slice Ak pk.length ck) (.slice Av pv.length cv) (w6.alloc (.cells #[.slice Ak pk.length ck, .slice Av pv.length cv] 34)) := heap_alloc_new w6 _
            have hq7 : w6.heap.size < (w6.alloc (.cells #[.slice Ak pk.length ck, .slice Av pv.length cv] 34)).heap.size := by simp
            have HD7 := hide (fun m => And.intro (hst7.call (w' := (w6.alloc (.cells #[.slice Ak pk.length ck, .slice Av pv.length cv] 34)).drewN m) (below_drewN' (Below.refl _ _) m)) (And.intro (hk7.kept (X' := Xs Wx.heap.size AO AHa) (Kept.of_below (S := fun _ => False) (below_drewN' (Below.refl _ _) m)) (fun _ h => h.elim) (fun _ h => .inl h)) (And.intro (hv7.kept (X' := Xs Wx.heap.size AO AHa) (Kept.of_below (S := fun _ => False) (below_drewN' (Below.refl _ _) m)) (fun _ h => h.elim) (fun _ h => .inl h)) (show BoxP w6.heap.size (.slice Ak pk.length ck) (.slice Av pv.length cv) ((w6.alloc (.cells #[.slice Ak pk.length ck, .slice Av pv.length cv] 34)).drewN m) from hbx7))))
            have hB7 := (hbW0.trans (hst7.kept.below_of hlow0 hbW0.size))
            have HB7 := hide hB7
            have hroom : outs.length + 1 + left2.length ≤ body.length := by omega
            have hkl : pk.length + left2.length ≤ body.length := by omega
            have b0 := hbx7.cell0
            go_wp2
            generalize w6.alloc (.cells #[.slice Ak pk.length ck, .slice Av pv.length cv] 34) = w7 at *
            by_cases ho : 0 < outs.length
            · obtain ⟨ad, pr, hAO, hadb, hpr, hcx, -, hprk, -, -, -⟩ := hst7.row.at_ (k := outs.length - 1) (by omega)
              have hlk : last = pr.k := by
                rw [HK.out]
                unfold lastKey
                rw [List.getLast?_eq_getElem?, List.getElem?_map, List.length_map, hpr.out]
                rfl
              subst hAO
              have hcmpQ := hide (fun m => compare_any (w := w7.drewN m) (c1 := ck) (c2 := pr.c) (drewN_bytes hk7.row) rfl (drewN_bytes hprk) rfl)
              have hi1 : (outs.length : Int) - 1 = ((outs.length - 1 : Nat) : Int) := by omega
              have s1 : IntKind.i64.wrap ((outs.length : Int) - 1) = (outs.length : Int) - 1 := IntWalk.i64_in _ (by omega)
              have o1 : 0 < (outs.length : Int) := by omega
              have o5 : 1 ≤ (outs.length : Int) := by omega
              have o6 : outs.length - 1 < outs.length := by omega
              have o2 : 0 ≤ (outs.length : Int) - 1 := by omega
              have o3 : (outs.length : Int) - 1 < (outs.length : Int) := by omega
              have o4 : ((outs.length : Int) - 1).toNat = outs.length - 1 := by omega
              have HLK := hide hlk
              have HPR := hide hpr
              clear hst7 hk7 hv7 hprk hlk hpr hst hx hAl7 hbx7 hi1
              by_cases hcmp : Lib.compareBytes pk pr.k ≤ 0
              · have HPN : Hid (parseP bs = none) := by
                  show _ = _
                  unfold parseP
                  rw [HS.out]
                  dsimp only
                  rw [HP.out, HA1.out (by
                    rintro (h | h)
                    · omega
                    · rw [HLK.out, compare_le.1 hcmp] at h; cases h)]
                  rfl
                clear HP HA1 HA2 HK HD7
                go_wp2
                go_quiet ((go_at_call 18; exact Calls.quiet_of_same (hcmpQ.out _)))
                go_wp2
                go_ret2
                rw [HPN.out]
                exact ⟨none, 0, [], rfl, rfl, ⟨Row.nil, fun p hp => by simp at hp⟩, Nat.le_refl _, below_drewN' HB7.out _⟩
              · have hcmp' : 0 < Lib.compareBytes pk pr.k := by omega
                have hless : outs.length = 0 ∨ Op.bytesLess last pk = true := by
                  right
                  rw [HLK.out]
                  cases hb : Op.bytesLess pr.k pk
                  · exact absurd (compare_le.2 hb) hcmp
                  · rfl
                have HHP : Hid (allP every body.length 0 [] body = (allP every body.length (outs ++ [(⟨Ak, ck, pk, Av, cv, pv⟩ : Pr)]).length pk left2).map fun q => ((outs ++ [(⟨Ak, ck, pk, Av, cv, pv⟩ : Pr)]).map Pr.pair ++ q.1, hs ++ q.2)) := by
                  show _ = _
                  rw [HP.out, HA2.out hless, List.length_append, List.length_singleton]
                  cases allP every body.length (outs.length + 1) pk left2 with
                  | none => rfl
                  | some q => simp [hh, Pr.pair]
                have HHK : Hid (pk = lastKey [] ((outs ++ [(⟨Ak, ck, pk, Av, cv, pv⟩ : Pr)]).map Pr.pair)) := by
                  show _ = _
                  unfold lastKey
                  simp [Pr.pair]
                have hcap := own_capV (HD7.out 0).1.own
                clear HP HA1 HA2 HK hless hh
                go_wp2
                go_quiet ((go_at_call 18; exact Calls.quiet_of_same (hcmpQ.out _)))
                obtain ⟨hst8, hk8, hv8, hbx8⟩ := HD7.out nq
                have HB8 := hide (below_drewN' HB7.out nq)
                generalize w7.drewN nq = w8 at *
                have c0 := hbx8.cell0
                have c1' := hbx8.cell1
                clear HD7 HB7 hbx8
                have hz8 := hst8.kept.size
                obtain ⟨ob1, ob2⟩ := HBD.out
                go_wp2_with (at_builtin; refine halted ?_)
                refine go_on ?_
                refine wpList_append_own _ rfl (.tmp 72) (.tmp 74) 22 rfl W0.heap.size 34 i1 _ 2 48 Try.underlying22 hj hw0 hw1 hw2 rfl (by decide) (some ad) outs.length cO (outs.flatMap Pr.cells) rfl (World.ownsRow.alloc hst8.own _) _ _ 1 _ [.slice Ak pk.length ck, .slice Av pv.length cv] rfl rfl (Row.new w8 #[.slice Ak pk.length ck, .slice Av pv.length cv] 34 (0, 0)) (by intro u hu; simp at hu; rcases hu with rfl | rfl <;> rfl) (by unfold maxLen; omega) (by omega) (by simp; omega) ?_
                intro n' xs' AOa cOa wb hn' hxs' _ _ hown9 hg9 hat9
                obtain rfl : n' = (outs ++ [(⟨Ak, ck, pk, Av, cv, pv⟩ : Pr)]).length := by rw [hn'.out]; simp
                obtain rfl : xs' = (outs ++ [(⟨Ak, ck, pk, Av, cv, pv⟩ : Pr)]).flatMap Pr.cells := by rw [hxs'.out]; simp [Pr.cells]
                have hst9 := hst8.moveO (p := ⟨Ak, ck, pk, Av, cv, pv⟩) (((Kept.refl w8).alloc _).trans (Kept.of_grown hg9 (fun k e => e))) hown9 (fun k hk => by
                  rcases hat9 with h | h
                  · exact .inl (by unfold InRow at hk ⊢; rw [← h]; exact hk)
                  · refine .inr ?_
                    unfold InRow at hk
                    rw [h] at hk
                    injection hk with hk
                    rw [← hk]
                    simp) ⟨hk8, hv8⟩
                have HST9 := hide hst9
                clear hn' hxs' hown9 hg9 hat9 hst8 hk8 hv8 c0 c1' hst9
                go_wp2
                go_roundw
                case rel => exact ⟨outs ++ [(⟨Ak, ck, pk, Av, cv, pv⟩ : Pr)], AOa, cOa, hs, AHa, cH, left2, A3, c3, pk, A4, c4, by simp, by simp, rfl, HST9.out, by simp; omega, by simp; omega, hkl, HHK.out, HHP.out⟩
                case measure => simp; omega
            · have ho' : ¬ 0 < (outs.length : Int) := by omega
              have hless : outs.length = 0 ∨ Op.bytesLess last pk = true := .inl (by omega)
              clear hst7 hk7 hv7 hst hx hAl7 hbx7
              have HHP : Hid (allP every body.length 0 [] body = (allP every body.length (outs ++ [(⟨Ak, ck, pk, Av, cv, pv⟩ : Pr)]).length pk left2).map fun q => ((outs ++ [(⟨Ak, ck, pk, Av, cv, pv⟩ : Pr)]).map Pr.pair ++ q.1, hs ++ q.2)) := by
                show _ = _
                rw [HP.out, HA2.out hless, List.length_append, List.length_singleton]
                cases allP every body.length (outs.length + 1) pk left2 with
                | none => rfl
                | some q => simp [hh, Pr.pair]
              have HHK : Hid (pk = lastKey [] ((outs ++ [(⟨Ak, ck, pk, Av, cv, pv⟩ : Pr)]).map Pr.pair)) := by
                show _ = _
                unfold lastKey
                simp [Pr.pair]
              have hcap := own_capV (HD7.out 0).1.own
              clear HP HA1 HA2 HK hless hh
              go_wp2
              go_quiet (fail)
              obtain ⟨hst8, hk8, hv8, hbx8⟩ := HD7.out nq
              have HB8 := hide (below_drewN' HB7.out nq)
              generalize w7.drewN nq = w8 at *
              have c0 := hbx8.cell0
              have c1' := hbx8.cell1
              clear HD7 HB7 hbx8
              have hz8 := hst8.kept.size
              obtain ⟨ob1, ob2⟩ := HBD.out
              go_wp2_with (at_builtin; refine halted ?_)
              refine go_on ?_
              refine wpList_append_own _ rfl (.tmp 72) (.tmp 74) 22 rfl W0.heap.size 34 i1 _ 2 48 Try.underlying22 hj hw0 hw1 hw2 rfl (by decide) AO outs.length cO (outs.flatMap Pr.cells) rfl (World.ownsRow.alloc hst8.own _) _ _ 1 _ [.slice Ak pk.length ck, .slice Av pv.length cv] rfl rfl (Row.new w8 #[.slice Ak pk.length ck, .slice Av pv.length cv] 34 (0, 0)) (by intro u hu; simp at hu; rcases hu with rfl | rfl <;> rfl) (by unfold maxLen; omega) (by omega) (by simp; omega) ?_
              intro n' xs' AOa cOa wb hn' hxs' _ _ hown9 hg9 hat9
              obtain rfl : n' = (outs ++ [(⟨Ak, ck, pk, Av, cv, pv⟩ : Pr)]).length := by rw [hn'.out]; simp
              obtain rfl : xs' = (outs ++ [(⟨Ak, ck, pk, Av, cv, pv⟩ : Pr)]).flatMap Pr.cells := by rw [hxs'.out]; simp [Pr.cells]
              have hst9 := hst8.moveO (p := ⟨Ak, ck, pk, Av, cv, pv⟩) (((Kept.refl w8).alloc _).trans (Kept.of_grown hg9 (fun k e => e))) hown9 (fun k hk => by
                rcases hat9 with h | h
                · exact .inl (by unfold InRow at hk ⊢; rw [← h]; exact hk)
                · refine .inr ?_
                  unfold InRow at hk
                  rw [h] at hk
                  injection hk with hk
                  rw [← hk]
                  simp) ⟨hk8, hv8⟩
              have HST9 := hide hst9
              clear hn' hxs' hown9 hg9 hat9 hst8 hk8 hv8 c0 c1' hst9
              go_wp2
              go_roundw
              case rel => exact ⟨outs ++ [(⟨Ak, ck, pk, Av, cv, pv⟩ : Pr)], AOa, cOa, hs, AHa, cH, left2, A3, c3, pk, A4, c4, by simp, by simp, rfl, HST9.out, by simp; omega, by simp; omega, hkl, HHK.out, HHP.out⟩
              case measure => simp; omega
      · have hl0 : left = [] := List.eq_nil_of_length_eq_zero (by omega)
        have hP : allP every body.length 0 [] body = some (outs.map Pr.pair, hs) := by rw [HP.out, hl0, allP_nil]; simp
        have HP2 := hide hP
        have hx := hx0W.kept hst.kept (fun h => by rcases h with h | h <;> omega) (Nat.lt_of_lt_of_le hqx hAl2.size)
        have v1 := Joins.cell_of_block hx 1
        simp at v1
        have hbl0 : Below Wx.heap.size W0 wr := hst.kept.below_of (fun k hk => by omega) hAl2.size
        have hqe := equal_any (w := wr) (c1 := cH) (c2 := c2) (Row.of_own hst.ownH) rfl (hrow2.below hbl0) rfl (Nat.le_refl _) (Nat.le_trans hAl2.size hst.kept.size) (by omega) (by omega)
        have hbE := hbW0.trans (hst.kept.below_of hlow0 hbW0.size)
        have hcapE := own_capV hst.own
        have HROW := hide hst.row
        have hbz := hbE.size
        clear hl0 hP HP hst hx hbl0 HK
        by_cases hh : hs = heads
        · rw [decide_eq_true hh] at hqe
          have HQE := hide hqe
          have HHH := hide hh
          clear hqe hh
          by_cases hm : 20000 < outs.length
          · have HPN : Hid (parseP bs = none) := by
              show _ = _
              unfold parseP
              rw [HS.out]
              dsimp only
              rw [HP2.out]
              dsimp only
              rw [if_neg (by rw [List.length_map]; omega)]
            go_wp2_with (go_at_call 30; refine halted ?_)
            refine go_on ?_
            refine HQE.out.mono ?_
            rintro e w9 ⟨rfl, hb9⟩
            go_wp2
            go_ret2
            rw [HPN.out]
            exact ⟨none, 0, [], rfl, rfl, ⟨Row.nil, fun p hp => by simp at hp⟩, Nat.le_refl _, hbE.trans (hb9.mono hbz)⟩
          · have HPN : Hid (parseP bs = some (outs.map Pr.pair)) := by
              show _ = _
              unfold parseP
              rw [HS.out]
              dsimp only
              rw [HP2.out]
              dsimp only
              rw [if_pos ⟨HHH.out, by rw [List.length_map]; omega⟩]
            go_wp2_with (go_at_call 30; refine halted ?_)
            refine go_on ?_
            refine HQE.out.mono ?_
            rintro e w9 ⟨rfl, hb9⟩
            go_wp2
            go_ret2
            rw [HPN.out]
            exact ⟨AO, cO, outs, rfl, rfl, HROW.out.below hb9, hcapE, hbE.trans (hb9.mono hbz)⟩
        · rw [decide_eq_false hh] at hqe
          have HQE := hide hqe
          have HPN : Hid (parseP bs = none) := by
            show _ = _
            unfold parseP
            rw [HS.out]
            dsimp only
            rw [HP2.out]
            dsimp only
            rw [if_neg (fun h => hh h.1)]
          clear hqe hh
          go_wp2_with (go_at_call 30; refine halted ?_)
          refine go_on ?_
          refine HQE.out.mono ?_
          rintro e w9 ⟨rfl, hb9⟩
          go_wp2
          go_ret2
          rw [HPN.out]
          exact ⟨none, 0, [], rfl, rfl, ⟨Row.nil, fun p hp => by simp at hp⟩, Nat.le_refl _, hbE.trans (hb9.mono hbz)⟩
end Go.Proofs.Yteagjjiggneheaa
