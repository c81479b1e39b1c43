/-
  The reference's Parse: what it does.
-/
import Derived.Test.YteagjjiggneheaaParse
import Derived.Test.YteagjjiggneheaaRBuildQ
namespace Go.Proofs.Yteagjjiggneheaa
open Go.RowKit
set_option linter.unusedVariables false

/-- A number of bytes. -/
def beF (l : List UInt8) : Nat := l.foldl (fun a c => a * 256 + c.toNat) 0
theorem beF_snoc (l : List UInt8) (c : UInt8) : beF (l ++ [c]) = beF l * 256 + c.toNat := by simp [beF, List.foldl_append]

/-- The state of the loop. -/
structure RSt (w : World) (outs : List Pr) (AO : Option Addr) (cO : Nat) (rest : List UInt8) (A : Option Addr) (c : Nat) (last : List UInt8) (AL : Option Addr) (cL : Nat) (wr : World) : Prop where
  own : wr.ownsRow w.heap.size 34 2 (.slice AO outs.length cO) outs.length (outs.flatMap Pr.cells)
  sl : Sl (InRow AO) wr A c rest
  sk : Sl (InRow AO) wr AL cL last
  goods : ∀ p ∈ outs, Sl (InRow AO) wr p.A p.c p.k ∧ Sl (InRow AO) wr p.A2 p.c2 p.v
  below : Below w.heap.size w wr
section
variable {w wr w' : World} {outs : List Pr} {AO A AL : Option Addr} {cO c cL : Nat} {rest last : List UInt8}
theorem RSt.call (h : RSt w outs AO cO rest A c last AL cL wr) (hb : Below wr.heap.size wr w') : RSt w outs AO cO rest A c last AL cL w' := by
  have hk : Kept (fun _ => False) wr w' := Kept.of_below hb
  exact ⟨hk.own h.own (fun _ _ h => h), h.sl.kept hk (fun _ h => h.elim) (fun _ h => .inl h), h.sk.kept hk (fun _ h => h.elim) (fun _ h => .inl h), fun p hp => ⟨(h.goods p hp).1.kept hk (fun _ h => h.elim) (fun _ h => .inl h), (h.goods p hp).2.kept hk (fun _ h => h.elim) (fun _ h => .inl h)⟩, h.below.trans (hb.mono h.below.size)⟩
theorem RSt.with (h : RSt w outs AO cO rest A c last AL cL wr) {A' AL' : Option Addr} {c' cL' : Nat} {rest' last' : List UInt8} (s1 : Sl (InRow AO) wr A' c' rest') (s2 : Sl (InRow AO) wr AL' cL' last') : RSt w outs AO cO rest' A' c' last' AL' cL' wr :=
  ⟨h.own, s1, s2, h.goods, h.below⟩
theorem RSt.lt (h : RSt w outs AO cO rest A c last AL cL wr) : ∀ k, InRow AO k → k < wr.heap.size := fun k hk => (own_low h.own hk).2
theorem RSt.moveO (h : RSt w outs AO cO rest A c last AL cL wr) {AO' : Option Addr} {cO' : Nat} {p : Pr} (hk : Kept (InRow AO) wr w') (ho : w'.ownsRow w.heap.size 34 2 (.slice AO' (outs ++ [p]).length cO') (outs ++ [p]).length ((outs ++ [p]).flatMap Pr.cells))
    (hat : ∀ k, InRow AO' k → InRow AO k ∨ wr.heap.size ≤ k) (hp : Sl (InRow AO) wr p.A p.c p.k ∧ Sl (InRow AO) wr p.A2 p.c2 p.v) : RSt w (outs ++ [p]) AO' cO' rest A c last AL cL w' := by
  refine ⟨ho, h.sl.kept hk (fun _ h => h) hat, h.sk.kept hk (fun _ h => h) hat, ?_, h.below.trans (hk.below (fun k hk => (own_low h.own hk).1) h.below.size)⟩
  intro q hq
  rcases List.mem_append.1 hq with h1 | h1
  · exact ⟨(h.goods q h1).1.kept hk (fun _ h => h) hat, (h.goods q h1).2.kept hk (fun _ h => h) hat⟩
  · rw [List.mem_singleton.1 h1]
    exact ⟨hp.1.kept hk (fun _ h => h) hat, hp.2.kept hk (fun _ h => h) hat⟩
theorem RSt.row (h : RSt w outs AO cO rest A c last AL cL wr) : PrRow wr wr.heap.size AO outs :=
  ⟨Row.of_own h.own, fun p hp => ⟨(h.goods p hp).1.row, (h.goods p hp).1.cap, (h.goods p hp).2.row, (h.goods p hp).2.cap⟩⟩
end
/-- The loop. -/
def RParseRel (w : World) (body : List UInt8) (restv outv lastv : Value) (wr : World) : Prop :=
  ∃ (outs : List Pr) (AO : Option Addr) (cO : Nat) (rest : List UInt8) (A : Option Addr) (c : Nat) (last : List UInt8) (AL : Option Addr) (cL : Nat) (es : List (Nat × KV)),
    outv = .slice AO outs.length cO ∧ restv = .slice A rest.length c ∧ lastv = .slice AL last.length cL ∧ RSt w outs AO cO rest A c last AL cL wr ∧ outs.length + rest.length ≤ body.length ∧ last.length + rest.length ≤ body.length ∧
    Hid (es.map (·.2) = outs.map Pr.pair) ∧ Hid (∀ p ∈ outs, p.k.length ≤ body.length ∧ p.v.length ≤ body.length) ∧ Hid (allE [] body = (allE last rest).map (es ++ ·))

set_option maxRecDepth 100000 in
set_option maxHeartbeats 4000000 in
theorem rparse_any (A : Option Addr) (c n : Nat) (bs : List UInt8) (w : World) (hr : Bytes w w.heap.size A bs) (hn : bs.length = n) (hc : n ≤ c) (hl : n ≤ 20000) :
    Calls Try.prog 13 #[.slice A n c] w fun e w' => NewP w w' e (parsedR (parseQ bs)) := by
  by_cases h5 : n < 5
  · have HPN : Hid (parseQ bs = none) := by show _ = _; unfold parseQ; rw [if_pos (by omega)]
    go_enter Try.func13, Try.ntmps13
    clear hr
    go_wp2
    go_ret2
    rw [HPN.out]
    exact ⟨none, 0, [], rfl, rfl, ⟨Row.nil, fun p hp => by simp at hp⟩, Nat.le_refl _, Below.refl _ _⟩
  obtain ⟨ad, x, hA, hadb, hx, hcx⟩ := hr.at_ (k := n - 1) (by omega)
  have hx1 := x.toNat_lt
  have hE : tailE bs = x.toNat := by
    unfold tailE
    rw [List.getD_eq_getElem?_getD, hn, hx.out]; rfl
  have HE := hide hE
  subst hA
  have h5' : ¬ (n : Int) < 5 := by omega
  clear hx hE
  go_enter Try.func13, Try.ntmps13
  go_wp2
  go_loop [5, 6] (fun m i => ∃ (j k : Nat) (y : Int), j ≤ 4 ∧ Hid (k = n - 5 + j) ∧ k ≤ n - 1 ∧ i = .int .i64 (k : Int) ∧ m = .int .i64 y ∧ 0 ≤ y ∧ y ≤ 4294967295 ∧ Hid (y < 256 ^ j) ∧ Hid (y = (beF ((bs.drop (n - 5)).take j) : Int))) (fun _ i => n - (intOf i).toNat)
  case atStart => exact ⟨0, n - 5, 0, Nat.zero_le _, rfl, by omega, congrArg (Value.int .i64) (by omega), rfl, by omega, by omega, by show (0 : Int) < _; simp, by show _ = _; simp [beF]⟩
  case round =>
    obtain ⟨j, k, y, hj, HK, hk, rfl, rfl, y0, y1, HYL, HY⟩ := hrel
    by_cases hlt : k < n - 1
    · obtain ⟨ad1, b, hA1, hadb1, hb, hcb⟩ := hr.at_ (k := k) (by omega)
      injection hA1 with hA1
      subst hA1
      have hj4 : j < 4 := by have := HK.out; omega
      have hb1 := b.toNat_lt
      have y2 : y ≤ 16777215 := by
        have h1 := HYL.out
        have h2 : (256 : Int) ^ j ≤ 256 ^ 3 := by exact_mod_cast Nat.pow_le_pow_right (by omega) (by omega : j ≤ 3)
        omega
      have hbe : y * 256 + (b.toNat : Int) = (beF ((bs.drop (n - 5)).take (j + 1)) : Int) := by
        have hb' : (bs.drop (n - 5))[j]? = some b := by rw [List.getElem?_drop, ← HK.out]; exact hb.out
        rw [take_next hb', beF_snoc, HY.out]
        omega
      have HBE := hide hbe
      have hyl : y * 256 + (b.toNat : Int) < 256 ^ (j + 1) := by
        have := HYL.out
        rw [Int.pow_succ]
        omega
      have HYL2 := hide hyl
      have hkl : (k : Int) < (n : Int) - 1 := by omega
      have HK2 : Hid (k + 1 = n - 5 + (j + 1)) := by show _ = _; have := HK.out; omega
      clear hr hb hbe hyl HK HY HYL hcx
      go_wp2
      go_round
      case rel => exact ⟨j + 1, k + 1, y * 256 + (b.toNat : Int), by omega, HK2.out, by omega, by go_num, rfl, by omega, by omega, HYL2.out, HBE.out⟩
      case measure => simp [intOf]; omega
    · obtain rfl : k = n - 1 := by omega
      have hj4 : j = 4 := by have := HK.out; omega
      subst hj4
      obtain ⟨M, hM⟩ : ∃ M, M = tailM bs := ⟨_, rfl⟩
      have hyM : y = (M : Int) := by
        rw [HY.out, hM]
        unfold tailM
        rw [hn]
        rfl
      subst hyM
      have HM := hide hM.symm
      have hcx' := hcx
      clear HYL HY HK hM
      by_cases hbig : (n - 5) / 4 < M
      · have HPN : Hid (parseQ bs = none) := by
          show _ = _
          unfold parseQ
          rw [if_neg (by omega), hn, HM.out, if_pos hbig]
        have hbig' : ((n : Int) - 5) / 4 < (M : Int) := by omega
        clear hr hbig
        go_wp2
        go_ret2
        rw [HPN.out]
        exact ⟨none, 0, [], rfl, rfl, ⟨Row.nil, fun p hp => by simp at hp⟩, Nat.le_refl _, Below.refl _ _⟩
      have hbig' : (M : Int) ≤ ((n : Int) - 5) / 4 := by omega
      have hm4 : 4 * (M : Int) ≤ (n : Int) - 5 := by omega
      have hcutB := cut_to (P := Try.prog) (t := 25) (A := some ad) (n := n) (c := c) (k := n - 5 - 4 * M) (h := (n : Int) - 5 - 4 * (M : Int)) elem_bytes size_byte (by omega) (by omega) .i64
      obtain ⟨body, hbody⟩ : ∃ body, body = bs.take (n - 5 - 4 * M) := ⟨_, rfl⟩
      have hbl : body.length = n - 5 - 4 * M := by rw [hbody, List.length_take]; omega
      have hrb : Bytes w w.heap.size (some ad) body := by rw [hbody]; exact hr.take _
      rw [← hbl] at hcutB
      have HBODY := hide hbody
      have hcB : body.length ≤ c := by omega
      have hbn : body.length ≤ 20000 := by omega
      have hHB := hide hbl
      clear hbody hbl
      go_wp2
      obtain ⟨i1, hj, hw0, hw1, hw2⟩ := info_parts info_pair
      go_loopw [7, 8, 9] (fun r o l wr => RParseRel w body r o l wr) (fun r _ _ _ => match r with | .slice _ n _ => n | _ => 0)
      case atStart =>
        refine ⟨[], none, 0, body, some ad, c, [], none, 0, [], rfl, rfl, rfl, ⟨World.ownsRow_nil _ _ _ _, ⟨hrb, hcB, ?_⟩, ⟨Bytes.nil, Nat.le_refl _, Away.nil⟩, fun p hp => by simp at hp, Below.refl _ _⟩, by simp, by simp, rfl, by show ∀ _, _; simp, ?_⟩
        · exact fun _ _ _ h => by unfold InRow at h; simp at h
        · show _ = _
          cases allE [] body <;> rfl
      case round =>
        obtain ⟨outs, AO, cO, rest, A, cR, last, AL, cL, es, rfl, rfl, rfl, hst, hl1, hl2, HES, HSM, HAE⟩ := hrel
        by_cases hlt : 0 < rest.length
        · have hne : rest ≠ [] := by intro e; subst e; simp at hlt
          have HT := hide (rtakeNumber_any A wr.heap.size cR _ rest wr rfl hst.sl.row (Nat.le_refl _) (by omega) hst.sl.cap hst.sl.away hst.lt)
          go_wp2_with (go_at_call 31; refine halted ?_)
          refine go_on ?_
          refine HT.out.mono ?_
          clear HT
          cases hn1 : takeN rest with
          | none =>
            have hEN := allE_none hne (takeE_n (last := last) hn1)
            rintro e w1 ⟨A1, c1, rfl, -, -, hb1, -⟩
            dsimp only [tookR] at *
            have HPN : Hid (parseQ bs = none) := by
              show _ = _
              unfold parseQ
              rw [if_neg (by omega), hn, HM.out, if_neg (by omega), ← HBODY.out, HAE.out, hEN]
              rfl
            have HBB := hide (hst.below.trans (hb1.mono hst.below.size))
            clear HAE hst HES HSM
            go_wp2
            go_ret2
            rw [HPN.out]
            exact ⟨none, 0, [], rfl, rfl, ⟨Row.nil, fun p hp => by simp at hp⟩, Nat.le_refl _, HBB.out⟩
          | some q =>
            obtain ⟨m, t1⟩ := q
            obtain ⟨s1, hs1, -⟩ := takeN_suffix hn1
            have ht1 : t1.length ≤ rest.length := by rw [hs1, List.length_append]; omega
            have hml := takeN_lt hn1
            rintro e w1 ⟨A1, c1, rfl, hr1, hc1, hb1, ha1⟩
            dsimp only [tookR] at *
            have hst1 := hst.call hb1
            have HN1 := hide hn1
            clear hn1 hs1 s1
            by_cases hgt : last.length < m
            · have hEN := allE_none hne (takeE_big (last := last) HN1.out (by omega))
              have hgt' : (last.length : Int) < (m : Int) := by omega
              clear hgt
              have HPN : Hid (parseQ bs = none) := by
                show _ = _
                unfold parseQ
                rw [if_neg (by omega), hn, HM.out, if_neg (by omega), ← HBODY.out, HAE.out, hEN]
                rfl
              have HBB := hide (hst1.below)
              clear HAE hst HES HSM
              go_wp2
              go_ret2
              rw [HPN.out]
              exact ⟨none, 0, [], rfl, rfl, ⟨Row.nil, fun p hp => by simp at hp⟩, Nat.le_refl _, HBB.out⟩
            have hle : (m : Int) ≤ (last.length : Int) := by omega
            have HT1 := hide (rtakeText_any A1 w1.heap.size c1 _ t1 w1 rfl hr1 (Nat.le_refl _) (by omega) hc1 ha1 hst1.lt)
            clear hst hb1
            go_wp2_with (go_at_call 32; refine halted ?_)
            refine go_on ?_
            refine HT1.out.mono ?_
            clear HT1
            cases hk1 : takeT t1 with
            | none =>
              have hEN := allE_none hne (takeE_k (last := last) HN1.out hk1)
              rintro e w2 ⟨A2, c2, A3, c3, rfl, -, -, -, -, hb2, -, -⟩
              dsimp only [tookT] at *
              have hst := hst1
              have HPN : Hid (parseQ bs = none) := by
                show _ = _
                unfold parseQ
                rw [if_neg (by omega), hn, HM.out, if_neg (by omega), ← HBODY.out, HAE.out, hEN]
                rfl
              have HBB := hide (hst.below.trans (hb2.mono hst.below.size))
              clear HAE hst HES HSM
              go_wp2
              go_ret2
              rw [HPN.out]
              exact ⟨none, 0, [], rfl, rfl, ⟨Row.nil, fun p hp => by simp at hp⟩, Nat.le_refl _, HBB.out⟩
            | some q =>
              obtain ⟨kk, t2⟩ := q
              have hkput := takeT_put hk1
              have hkl : kk.length + t2.length ≤ t1.length := by rw [hkput, List.length_append]; unfold textB; rw [List.length_append]; omega
              rintro e w2 ⟨A2, c2, A3, c3, rfl, hr2, hc2, hr3, hc3, hb2, ha2, ha3⟩
              dsimp only [tookT] at *
              have hst2 := hst1.call hb2
              have HK1 := hide hk1
              have HT2 := hide (rtakeText_any A3 w2.heap.size c3 _ t2 w2 rfl hr3 (Nat.le_refl _) (by omega) hc3 ha3 hst2.lt)
              clear hst1 hb2 hk1 hkput hr1 ha1
              go_wp2_with (go_at_call 32; refine halted ?_)
              refine go_on ?_
              refine HT2.out.mono ?_
              clear HT2
              cases hv1 : takeT t2 with
              | none =>
                have hEN := allE_none hne (takeE_v (last := last) HN1.out HK1.out hv1)
                rintro e w3 ⟨A4, c4, A5, c5, rfl, -, -, -, -, hb3, -, -⟩
                dsimp only [tookT] at *
                have hst := hst2
                have HPN : Hid (parseQ bs = none) := by
                  show _ = _
                  unfold parseQ
                  rw [if_neg (by omega), hn, HM.out, if_neg (by omega), ← HBODY.out, HAE.out, hEN]
                  rfl
                have HBB := hide (hst.below.trans (hb3.mono hst.below.size))
                clear HAE hst HES HSM
                go_wp2
                go_ret2
                rw [HPN.out]
                exact ⟨none, 0, [], rfl, rfl, ⟨Row.nil, fun p hp => by simp at hp⟩, Nat.le_refl _, HBB.out⟩
              | some q =>
                obtain ⟨vv, t3⟩ := q
                have hvput := takeT_put hv1
                have hvl : vv.length + t3.length ≤ t2.length := by rw [hvput, List.length_append]; unfold textB; rw [List.length_append]; omega
                rintro e w3 ⟨A4, c4, A5, c5, rfl, hr4, hc4, hr5, hc5, hb3, ha4, ha5⟩
                dsimp only [tookT] at *
                have hst3 := hst2.call hb3
                have s2 : Sl (InRow AO) w3 A2 c2 kk := Sl.kept (X := InRow AO) ⟨hr2, hc2, ha2⟩ (Kept.of_below (S := fun _ => False) hb3) (fun _ h => h.elim) (fun _ h => .inl h)
                have s4 : Sl (InRow AO) w3 A4 c4 vv := ⟨hr4, hc4, ha4⟩
                have s5 : Sl (InRow AO) w3 A5 c5 t3 := ⟨hr5, hc5, ha5⟩
                have hE := takeE_yes HN1.out (by omega : m ≤ last.length) HK1.out hv1
                have hlt3 := takeE_lt hE
                have HE1 := hide (allE_some hE)
                have hcut := cut_to (P := Try.prog) (t := 25) (A := AL) (n := last.length) (c := cL) (k := m) (h := (m : Int)) elem_bytes size_byte rfl (by have := hst3.sk.cap; omega) .u64
                clear hst2 hb3 hr2 ha2 hr4 ha4 hr5 ha5 hv1 hvput hE HN1 HK1
                go_wp2_with (at_builtin; refine halted ?_)
                refine go_on ?_
                have htk : (last.take m).length = m := by rw [List.length_take]; omega
                have hal : Below w3.heap.size w3 (w3.alloc (.cells #[] 5)) := (Below.refl _ _).alloc (Nat.le_refl _) _
                have hown0 : OwnB (w3.alloc (.cells #[] 5)) w3.heap.size 5 (some ⟨w3.heap.size, 0, none⟩) 0 [] := OwnB.lit w3 5 [] (Nat.le_refl _) (by simp)
                refine wpList_append_bytes _ rfl (.tmp 95) (.tmp 98) 25 rfl w3.heap.size 5 Try.underlying25 info_u8 (some ⟨w3.heap.size, 0, none⟩) 0 0 [] rfl rfl hown0 w3.heap.size _ m _ (last.take m) rfl htk.symm ((hst3.sk.row.below hal).take m) (by rw [htk]; simp; omega) hal.size ?_
                intro ds6 A6 c6 w6 hds6 hdl6 hown6 hg6 _
                have hb6 : Below w3.heap.size w3 w6 := hown0.below_grown hal hg6 (Nat.le_refl _) hal.size
                have hd6 : ds6.length = m := by rw [hds6.out]; simp [htk]
                have s2' := s2.row.below hb6
                have HD6 := hide hd6
                have hmle : ds6.length ≤ 20000 := by omega
                clear hcut hd6 hg6 hown0 hal htk
                go_wp2_with (at_builtin; refine halted ?_)
                refine go_on ?_
                refine wpList_append_bytes _ rfl (.tmp 99) (.tmp 100) 25 rfl w3.heap.size 5 Try.underlying25 info_u8 A6 ds6.length c6 ds6 rfl rfl hown6 w3.heap.size _ kk.length _ kk rfl rfl s2' (by omega) hb6.size ?_
                intro whole A7 c7 w7 hwh hwl hown7 hg7 _
                have hb7 : Below w3.heap.size w3 w7 := hown6.below_grown hb6 hg7 (Nat.le_refl _) hb6.size
                have hst7 := hst3.call hb7
                have s4' : Sl (InRow AO) w7 A4 c4 vv := s4.kept (Kept.of_below (S := fun _ => False) hb7) (fun _ h => h.elim) (fun _ h => .inl h)
                have s5' : Sl (InRow AO) w7 A5 c5 t3 := s5.kept (Kept.of_below (S := fun _ => False) hb7) (fun _ h => h.elim) (fun _ h => .inl h)
                have sw : Sl (InRow AO) w7 A7 c7 whole := ⟨hown7.bytes, own_capV hown7, Away.of_own hown7 (fun k hk => hst3.lt k hk)⟩
                have hwe : whole = last.take m ++ kk := by rw [hwh.out, hds6.out]; rfl
                have hwl2 : whole.length ≤ last.length + kk.length := by rw [hwe, List.length_append, List.length_take]; omega
                have HW := hide hwe
                have hcap := own_capV hst7.own
                have hz7 := hst7.below.size
                clear hst3 hg7 hown7 hown6 hwh hds6 hwe s2' s2 s4 s5 hb6 hb7 HD6 hdl6 hwl
                go_wp2_with (at_builtin; refine halted ?_)
                refine go_on ?_
                refine wpList_append_own _ rfl (.tmp 102) (.tmp 106) 22 rfl w.heap.size 34 i1 _ 2 48 Try.underlying22 hj hw0 hw1 hw2 rfl (by decide) AO outs.length cO (outs.flatMap Pr.cells) rfl (World.ownsRow.alloc hst7.own _) _ _ 1 _ [.slice A7 whole.length c7, .slice A4 vv.length c4] rfl rfl (Row.new w7 #[.slice A7 whole.length c7, .slice A4 vv.length c4] 34 (0, 0)) (by intro u hu; simp at hu; rcases hu with rfl | rfl <;> rfl) (by unfold maxLen; omega) (by omega) (by simp; omega) ?_
                intro n' xs' AOa cOa wb hn' hxs' _ _ hown9 hg9 hat9
                obtain rfl : n' = (outs ++ [(⟨A7, c7, whole, A4, c4, vv⟩ : Pr)]).length := by rw [hn'.out]; simp
                obtain rfl : xs' = (outs ++ [(⟨A7, c7, whole, A4, c4, vv⟩ : Pr)]).flatMap Pr.cells := by rw [hxs'.out]; simp [Pr.cells]
                have hst9 := (hst7.with s5' sw).moveO (p := ⟨A7, c7, whole, A4, c4, vv⟩) (((Kept.refl w7).alloc _).trans (Kept.of_grown hg9 (fun k e => e))) hown9 (fun k hk => by
                  rcases hat9 with h | h
                  · exact .inl (by unfold InRow at hk ⊢; rw [← h]; exact hk)
                  · refine .inr ?_
                    unfold InRow at hk
                    rw [h] at hk
                    injection hk with hk
                    rw [← hk]
                    simp) ⟨sw, s4'⟩
                have HST9 := hide hst9
                have HES2 : Hid ((es ++ [(m, (whole, vv))]).map (·.2) = (outs ++ [(⟨A7, c7, whole, A4, c4, vv⟩ : Pr)]).map Pr.pair) := by
                  show _ = _
                  rw [List.map_append, List.map_append, HES.out]; rfl
                have HSM2 : Hid (∀ p ∈ outs ++ [(⟨A7, c7, whole, A4, c4, vv⟩ : Pr)], p.k.length ≤ body.length ∧ p.v.length ≤ body.length) := by
                  show ∀ _, _
                  intro p hp
                  rcases List.mem_append.1 hp with h | h
                  · exact HSM.out p h
                  · rw [List.mem_singleton.1 h]
                    exact ⟨by show whole.length ≤ _; omega, by show vv.length ≤ _; omega⟩
                have HAE2 : Hid (allE [] body = (allE whole t3).map ((es ++ [(m, (whole, vv))]) ++ ·)) := by
                  show _ = _
                  rw [HAE.out, HE1.out, ← HW.out]
                  cases allE whole t3 <;> simp
                have hA : outs.length + 1 + t3.length ≤ body.length := by omega
                have hB : whole.length + t3.length ≤ body.length := by omega
                clear hn' hxs' hown9 hg9 hat9 hst7 s4' s5' sw hst9 HES HSM HAE HE1 HW
                go_wp2
                go_roundw
                case rel => exact ⟨outs ++ [(⟨A7, c7, whole, A4, c4, vv⟩ : Pr)], AOa, cOa, t3, A5, c5, whole, A7, c7, es ++ [(m, (whole, vv))], by simp, rfl, rfl, HST9.out, by simp; omega, hB, HES2.out, HSM2.out, HAE2.out⟩
                case measure => simp; omega
        · have hl0 : rest = [] := List.eq_nil_of_length_eq_zero (by omega)
          have hAE : allE [] body = some es := by rw [HAE.out, hl0, allE_nil]; simp
          have hfq : FewQ (outs.map Pr.pair) := ⟨by rw [List.length_map]; omega, fun q hq => by
            obtain ⟨p, hp, rfl⟩ := List.mem_map.1 hq
            have := HSM.out p hp
            exact ⟨by show p.k.length ≤ _; omega, by show p.v.length ≤ _; omega⟩⟩
          have hrb2 := rbuildQ_any AO cO outs (x.toNat : Int) wr hst.row (by omega) hfq
          have hPQ : parseQ bs = if buildR (x.toNat : Int) (outs.map Pr.pair) = (bs, 0) then some (outs.map Pr.pair) else none := by
            unfold parseQ
            rw [if_neg (by omega), hn, HM.out, if_neg (by omega), ← HBODY.out, hAE, HE.out]
            dsimp only
            rw [HES.out]
          generalize hR : buildR (x.toNat : Int) (outs.map Pr.pair) = R at *
          obtain ⟨us, er⟩ := R
          have HPQ := hide hPQ
          have HRB := hide hrb2
          have HROW := hide hst.row
          have hcapE := own_capV hst.own
          have hbE := hst.below
          clear hl0 hAE hfq hrb2 hPQ hR hst HAE HES HSM
          go_wp2_with (go_at_call 11; refine halted ?_)
          refine go_on ?_
          refine HRB.out.mono ?_
          clear HRB
          rintro e w9 ⟨A9, c9, rfl, hown9, hb9⟩
          dsimp only at *
          have hbF := hbE.trans (hb9.mono hbE.size)
          have k1 := run_str (P := Try.prog) (dst := 9) (c := c9) Try.underlying25 Try.underlying5 Try.underlying9 hown9.bytes rfl
          have k2 := run_str (P := Try.prog) (dst := 9) (c := c) Try.underlying25 Try.underlying5 Try.underlying9 (hr.below hbF) hn
          clear hown9 hr
          by_cases her : er = 0
          case neg =>
            have hne : (er != 0) = true := by rw [bne_iff_ne]; exact her
            have HPN : Hid (parseQ bs = none) := by
              show _ = _
              rw [HPQ.out, if_neg (by intro h; injection h with _ h; exact her h)]
            clear her k1 k2
            go_wp2
            go_ret2
            rw [HPN.out]
            exact ⟨none, 0, [], rfl, rfl, ⟨Row.nil, fun p hp => by simp at hp⟩, Nat.le_refl _, hbF⟩
          subst her
          by_cases hus : us = bs
          · have e1 : ((strB us).toList == (strB bs).toList) = true := by rw [strB_toList, strB_toList, hus]; simp
            have HPN : Hid (parseQ bs = some (outs.map Pr.pair)) := by
              show _ = _
              rw [HPQ.out, if_pos (by rw [hus])]
            clear hus
            go_wp2
            go_ret2
            rw [HPN.out]
            exact ⟨AO, cO, outs, rfl, rfl, HROW.out.below hb9, hcapE, hbF⟩
          · have e1 : ((strB us).toList == (strB bs).toList) = false := by rw [strB_toList, strB_toList]; simpa using hus
            have HPN : Hid (parseQ bs = none) := by
              show _ = _
              rw [HPQ.out, if_neg (by intro h; injection h with h _; exact hus h)]
            clear hus
            go_wp2
            go_ret2
            rw [HPN.out]
            exact ⟨none, 0, [], rfl, rfl, ⟨Row.nil, fun p hp => by simp at hp⟩, Nat.le_refl _, hbF⟩
end Go.Proofs.Yteagjjiggneheaa
