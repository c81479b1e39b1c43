/-
  FrameTurned, walked.
-/
import Derived.Test.YtikfiicjgcnljaaLawCut
namespace Go.Proofs.Ytikfiicjgcnljaa
open Go.RowKit
set_option linter.unusedVariables false

set_option maxRecDepth 100000 in
set_option maxHeartbeats 2000000 in
theorem frameTurned_any (A : Option Addr) (c : Nat) (l : List Fr) (x y : Int) (t : UInt8) (w : World) (hrow : FrRow w w.heap.size A l) (hll : l.length ≤ 9223372036854775807) (hlc : l.length ≤ c) (hx0 : -9223372036854775808 ≤ x) (hx1 : x ≤ 9223372036854775807)
    (hy0 : -9223372036854775808 ≤ y) (hy1 : y ≤ 9223372036854775807) :
    Calls Try.prog 7 #[.slice A l.length c, .agg #[.int .i64 x, .int .i64 y], .int .u8 (t.toNat : Int)] w fun e w' => e = .returned (.bool true) ∧ Below w.heap.size w w' := by
  have HLC := hide hlc
  clear hlc
  go_enter Try.func7, Try.ntmps7
  go_wp2_with (first | (go_at_call 9; refine (awake_any _).mono ?_; rintro e w1 ⟨rfl, hb1⟩) | (go_at_call 17; refine halted ?_))
  refine go_on ?_
  have hA0 : Below w.heap.size w (w.alloc (.cells #[.int .i64 x, .int .i64 y] 48)) := (Below.refl w.heap.size w).alloc (Nat.le_refl _) _
  have hb01 := hA0.trans (hb1.mono hA0.size)
  have x0 := hb1.cell (p := ⟨w.heap.size, 0, none⟩) (by simp)
  have x1 := hb1.cell (p := ⟨w.heap.size, 1, none⟩) (by simp)
  simp at x0 x1
  have hs1 : w.heap.size < w1.heap.size := by have := hb1.size; simp at this; omega
  refine (whole_any A c l w1 (hrow.below hb01) hll).mono ?_
  rintro e w2 ⟨hb12, hr⟩
  have hb2 := hb01.trans (hb12.mono hb01.size)
  have x2 := (hb12.cell (p := ⟨w.heap.size, 0, none⟩) hs1).trans x0
  have x3 := (hb12.cell (p := ⟨w.heap.size, 1, none⟩) hs1).trans x1
  clear x0 x1
  rcases hr with rfl | ⟨us, A1, c1, A2, c2, rfl, h200, HU, hul, hcu, hc2, hby, hen, H2⟩
  · clear hrow
    go_wp2
    go_ret
    exact ⟨rfl, hb2⟩
  by_cases hL0 : l.length = 0
  · have hz : ((l.length : Int) == 0) = true := by simp [hL0]
    clear hrow hL0
    go_wp2
    go_ret
    exact ⟨rfl, hb2⟩
  have hz : ((l.length : Int) == 0) = false := by simp; intro h; exact hL0 (by simp [h])
  by_cases hx : x < 0
  · clear hrow
    go_wp2
    go_ret
    exact ⟨rfl, hb2⟩
  by_cases hy : y < 0
  · clear hrow
    go_wp2
    go_ret
    exact ⟨rfl, hb2⟩
  by_cases ht : t = 0
  · subst ht
    clear hrow
    go_wp2
    go_ret
    exact ⟨rfl, hb2⟩
  have htz : ((t.toNat : Int) == 0) = false := by
    simp
    intro h
    exact ht (UInt8.toNat_inj.1 (by rw [show (0 : UInt8).toNat = 0 from rfl]; omega))
  have Ht := hide ht
  obtain ⟨X, rfl⟩ := Int.eq_ofNat_of_zero_le (show 0 ≤ x by omega)
  obtain ⟨Y, rfl⟩ := Int.eq_ofNat_of_zero_le (show 0 ≤ y by omega)
  have h6 : 6 * l.length ≤ us.length := by
    rw [HU.out]
    have := flat_len (l.map Fr.pair)
    rwa [List.length_map] at this
  obtain ⟨en, hen0⟩ : ∃ en : Nat → Nat, en = fun k => (flat ((l.map Fr.pair).take k)).length := ⟨_, rfl⟩
  have hrow2 := hrow.below hb2
  have hi : X % l.length < l.length := Nat.mod_lt _ (by omega)
  obtain ⟨ad, f, rfl, hadb, hg, hc1, hd1, hf1, hf2⟩ := hrow2.at_ hi
  obtain ⟨ad2, rfl, hadb2, hend⟩ := hen _ _ (endsTo_at (l.map Fr.pair) hi)
  have hgp : (l.map Fr.pair)[X % l.length]? = some f.pair := by rw [List.getElem?_map, hg.out]; rfl
  have hnx := (flat_next hgp).1
  have hfl := frameB_len' f.k f.b
  have hfb := H2.out f (List.mem_of_getElem? hg.out)
  have hee : en (X % l.length + 1) = en (X % l.length) + (frameB f.k f.b).length := by rw [hen0]; show (flat _).length = _; rw [hnx, List.length_append]; rfl
  have hle : en (X % l.length + 1) ≤ us.length := by
    rw [hen0, HU.out]
    show (flat ((l.map Fr.pair).take (X % l.length + 1))).length ≤ _
    have := congrArg List.length (flat_split (l.map Fr.pair) (X % l.length + 1))
    rw [List.length_append] at this
    omega
  have e2 : (flat ((l.map Fr.pair).take (X % l.length + 1))).length = en (X % l.length + 1) := by rw [hen0]
  rw [e2] at hend
  have HEN := hide hen0
  have HNX := hide hnx
  obtain ⟨nl, hnl⟩ : ∃ nl, nl = (numB f.b.length).length := ⟨_, rfl⟩
  rw [← hnl] at hfl
  have HNL := hide hnl
  have hnl11 : nl ≤ 11 := by rw [hnl]; exact numB_len _
  have hzi : X % l.length = 0 → en (X % l.length) = 0 := by intro h; rw [h, HEN.out]; simp [flat]
  have hprev : X % l.length ≠ 0 → w2.cell? (ad2.add (X % l.length - 1)) = some (.int .i64 (en (X % l.length) : Int)) := by
    intro h
    obtain ⟨ad3, h1, _, h2⟩ := hen _ _ (endsTo_at (l.map Fr.pair) (show X % l.length - 1 < l.length by omega))
    injection h1 with h1
    subst h1
    rw [h2, HEN.out]
    show some (Value.int .i64 ((flat ((l.map Fr.pair).take (X % l.length - 1 + 1))).length : Int)) = _
    rw [show X % l.length - 1 + 1 = X % l.length by omega]
  clear hrow hb1 hb12 hx hy ht hen0 hnx hgp e2 hen hnl hf1 hb01 hA0 hs1 hc1
  have HZI := hide hzi
  have HPREV := hide hprev
  clear hzi hprev
  obtain ⟨S, hS⟩ : ∃ S, S = en (X % l.length) := ⟨_, rfl⟩
  obtain ⟨E, hE⟩ : ∃ E, E = en (X % l.length + 1) := ⟨_, rfl⟩
  rw [← hS, ← hE, hfl] at hee
  rw [← hE] at hle hend
  have HES := hide hS
  clear hS hE hfl
  have hYI0 : 0 ≤ (Y : Int) % ((f.b.length : Int) + 4) := Int.emod_nonneg _ (by omega)
  have hYI1 : (Y : Int) % ((f.b.length : Int) + 4) < (f.b.length : Int) + 4 := Int.emod_lt_of_pos _ (by omega)
  go_wp2
  go_quiet (fail)
  go_wp2
  go_quiet (fail)
  have hways : (Hid (X % l.length = 0) ∧ (X : Int) % (l.length : Int) ≤ 0) ∨ (Hid (X % l.length ≠ 0) ∧ 0 < (X : Int) % (l.length : Int)) := by
    by_cases h : X % l.length = 0
    · exact .inl ⟨h, by omega⟩
    · exact .inr ⟨h, by omega⟩
  have hde : Hid True := trivial
  rcases hways with ⟨HI, hI⟩ | ⟨HI, hI⟩
  · clear hc2
    go_wp2_with (at_builtin; refine halted ?_)
    · have hby3 : ∀ n, Bytes (w2.drewN n) w2.heap.size A1 us := fun n => hby
      have hcell0 := hde.out
      have hS0 : S = 0 := by rw [HES.out]; exact HZI.out HI.out
      have hqlt : 0 < us.length := by omega
      have HP : Hid (∃ p, 0 = S + p ∧ p < 1 + nl + f.b.length + 4 ∧ (p = 0 ∨ 1 + nl ≤ p)) := ⟨0, by omega, by omega, .inl rfl⟩
      obtain ⟨b, hb⟩ : ∃ b, Hid (us[0]? = some b) := ⟨_, List.getElem?_eq_getElem hqlt⟩
      obtain ⟨b', hb'⟩ : ∃ b', Hid (b' = b ^^^ t) := ⟨_, rfl⟩
      have hbx : bits .xor .u8 (b.toNat : Int) (t.toNat : Int) = (b'.toNat : Int) := by
        rw [u8_xor_nat _ _ b.toNat_lt t.toNat_lt, hb'.out]; simp
      have hbne : b ≠ b' := by
        intro h1
        have h2 : b ^^^ b = b ^^^ (b ^^^ t) := by rw [← hb'.out, ← h1]
        rw [← UInt8.xor_assoc, UInt8.xor_self, UInt8.zero_xor] at h2
        exact Ht.out h2.symm
      have HX : Hid (∃ r, Scans (us.set 0 b') ((l.take (X % l.length)).map Fr.pair) r ∧ S + r.length = us.length) := by
        obtain ⟨p, hp1, hp2, hp3⟩ := HP.out
        have e1 : 0 = (flat ((l.map Fr.pair).take (X % l.length))).length + p := by
          have e2 := HES.out
          rw [HEN.out] at e2
          show _ = _
          have e3 : S = (flat ((l.map Fr.pair).take (X % l.length))).length := e2
          omega
        have hb1 := hb.out
        rw [e1, HU.out] at hb1
        obtain ⟨r, hr1, hr2⟩ := scans_turned (fs := l.map Fr.pair) (fun f hf => by
          obtain ⟨x, hx, rfl⟩ := List.mem_map.1 hf
          have := H2.out x hx
          show x.b.length ≤ _
          omega) (by rw [List.getElem?_map, hg.out]; rfl : (l.map Fr.pair)[X % l.length]? = some f.pair) hb1 hbne (by rw [show f.pair = (f.k, f.b) from rfl, frameB_len', ← HNL.out]; exact hp2) (by rw [show f.pair = (f.k, f.b) from rfl, ← HNL.out]; exact hp3)
        refine ⟨r, ?_, ?_⟩
        · rw [e1, HU.out, List.map_take]; exact hr1
        · have e2 := HES.out
          rw [HEN.out] at e2
          have e3 : S = (flat ((l.map Fr.pair).take (X % l.length))).length := e2
          rw [HU.out]
          omega
      have HBNE := hide hbne
      clear hde hcell0 hbne hd1
      refine go_on ?_
      refine wpList_append_bytes _ rfl (.tmp 99) (.tmp 100) 22 rfl w.heap.size 5 Try.underlying22 info_u8 _ _ _ [] rfl rfl (OwnB.lit _ _ [] hb2.size (by simp)) _ A1 _ c1 us rfl rfl ((hby3 _).alloc (Nat.le_refl _) _) (by simp; omega) (by have := hb2.size; simp; omega) ?_
      intro d1 A9 c9 w3 hdd1 hdl1 hown1 hg1 hat1
      have hb3 : Below w.heap.size w w3 := ((below_drewN' hb2 _).alloc hb2.size _).grown hg1 (by have := hb2.size; simp; omega) (by intro k hk; simp at hk; have := hb2.size; omega)
      have hb23 : Below w2.heap.size w2 w3 := ((below_drewN' (Below.refl w2.heap.size w2) _).alloc (Nat.le_refl _) _).grown hg1 (by simp) (by intro k hk; simp at hk; omega)
      have hd1e : d1 = us := by rw [hdd1.out]; rfl
      subst hd1e
      obtain ⟨g, rfl, hbg, hgl⟩ := hown1.form (by omega)
      have hg2 : w2.heap.size ≤ g := by
        rcases hat1 with h | h
        · simp at h; omega
        · simp at h; omega
      have hcell := hown1.cellAt hb.out
      have hfro := hown1.frozenAt (0)
      have hstored := hown1.stored (0) b'
      have HS := hide hstored
      have hb4 : Below w.heap.size w (w3.setCell ⟨g, 0, none⟩ (.int .u8 (b'.toNat : Int))) := hb3.setCell (p := ⟨g, 0, none⟩) hbg _
      have hb24 : Below w2.heap.size w2 (w3.setCell ⟨g, 0, none⟩ (.int .u8 (b'.toNat : Int))) := hb23.setCell (p := ⟨g, 0, none⟩) hg2 _
      clear hg1 hat1 hdd1 hstored hown1 hb3 hb23 hg2
      go_wp2_with (go_at_call 14; refine halted ?_)
      refine go_on ?_
      generalize w3.setCell ⟨g, 0, none⟩ (.int .u8 (b'.toNat : Int)) = w4 at *
      clear hcell hfro
      have hln : (d1.set (0) b').length = d1.length := List.length_set ..
      have HLN := hide hln
      clear hln
      refine (scan_any _ _ d1.length (d1.set (0) b') _ HLN.out HS.out.bytes (by rw [HLN.out]; omega) (by rw [HLN.out]; exact own_cap HS.out |> fun h => by rw [HLN.out] at h; exact h)).mono ?_
      rintro e w5 ⟨xs, r', A6, c6, he, HSC, n1, n2, n3, n4⟩
      obtain ⟨r, hr1, hr2⟩ := HX.out
      obtain ⟨hfs, hrr⟩ := HSC.out.unique hr1
      have e1 : ((d1.set (0) b').length : Int) - (r'.length : Int) = 0 := by rw [HLN.out, hrr]; omega
      rw [e1] at he
      subst he
      have hb5 := hb4.trans (n4.mono hb4.size)
      have hkt : (l.take (X % l.length)).length = X % l.length := by rw [List.length_take]; omega
      have hxl : xs.length = X % l.length := by have := congrArg List.length hfs; rw [List.length_map, List.length_map, hkt] at this; exact this
      have q1 : FrRow w5 w5.heap.size A6 xs := ⟨n1, fun f hf => ⟨(n3 f hf).1, (n3 f hf).2.1⟩⟩
      have HSM := hide (same_any A6 (some ad) c6 c _ (X % l.length) xs (l.take (X % l.length)) w5 q1 (((hrow2.below hb24).below n4).take _) rfl hkt hfs (by omega))
      have hcut2 := cut_to_n (A := some ad) (n := l.length) (c := c) (k := X % l.length) (h := (X : Int) % (l.length : Int)) elem_rfr size_rfr (by omega) (by have := HLC.out; omega) .i64
      clear q1 n1 n2 n3 n4 hfs hrr hr1 hr2 e1 hkt hxl hrow2 hb24
      go_wp2_with (go_at_call 16; refine halted ?_)
      refine go_on ?_
      refine HSM.out.mono ?_
      rintro e w6 ⟨rfl, hb6⟩
      have hbN := hb5.trans (hb6.mono hb5.size)
      go_wp2
      go_ret
      exact ⟨rfl, hbN⟩
    · have hby3 : ∀ n, Bytes (w2.drewN n) w2.heap.size A1 us := fun n => hby
      have hcell0 := hde.out
      have hS0 : S = 0 := by rw [HES.out]; exact HZI.out HI.out
      obtain ⟨q, hq⟩ : ∃ q, q = S + (1 + nl + Y % (f.b.length + 4)) := ⟨_, rfl⟩
      have hYn : Y % (f.b.length + 4) < f.b.length + 4 := Nat.mod_lt _ (by omega)
      have hYc : ((Y % (f.b.length + 4) : Nat) : Int) = (Y : Int) % ((f.b.length : Int) + 4) := by exact_mod_cast rfl
      rw [show (S : Int) + (1 + (nl : Int) + (f.b.length : Int) + 4) - 4 - (f.b.length : Int) + (Y : Int) % ((f.b.length : Int) + 4) = (q : Int) from by omega]
      have hqlt : q < us.length := by omega
      have HP : Hid (∃ p, q = S + p ∧ p < 1 + nl + f.b.length + 4 ∧ (p = 0 ∨ 1 + nl ≤ p)) := ⟨1 + nl + Y % (f.b.length + 4), by omega, by omega, .inr (by omega)⟩
      clear hq hYn hYc
      obtain ⟨b, hb⟩ : ∃ b, Hid (us[q]? = some b) := ⟨_, List.getElem?_eq_getElem hqlt⟩
      obtain ⟨b', hb'⟩ : ∃ b', Hid (b' = b ^^^ t) := ⟨_, rfl⟩
      have hbx : bits .xor .u8 (b.toNat : Int) (t.toNat : Int) = (b'.toNat : Int) := by
        rw [u8_xor_nat _ _ b.toNat_lt t.toNat_lt, hb'.out]; simp
      have hbne : b ≠ b' := by
        intro h1
        have h2 : b ^^^ b = b ^^^ (b ^^^ t) := by rw [← hb'.out, ← h1]
        rw [← UInt8.xor_assoc, UInt8.xor_self, UInt8.zero_xor] at h2
        exact Ht.out h2.symm
      have HX : Hid (∃ r, Scans (us.set q b') ((l.take (X % l.length)).map Fr.pair) r ∧ S + r.length = us.length) := by
        obtain ⟨p, hp1, hp2, hp3⟩ := HP.out
        have e1 : q = (flat ((l.map Fr.pair).take (X % l.length))).length + p := by
          have e2 := HES.out
          rw [HEN.out] at e2
          show _ = _
          have e3 : S = (flat ((l.map Fr.pair).take (X % l.length))).length := e2
          omega
        have hb1 := hb.out
        rw [e1, HU.out] at hb1
        obtain ⟨r, hr1, hr2⟩ := scans_turned (fs := l.map Fr.pair) (fun f hf => by
          obtain ⟨x, hx, rfl⟩ := List.mem_map.1 hf
          have := H2.out x hx
          show x.b.length ≤ _
          omega) (by rw [List.getElem?_map, hg.out]; rfl : (l.map Fr.pair)[X % l.length]? = some f.pair) hb1 hbne (by rw [show f.pair = (f.k, f.b) from rfl, frameB_len', ← HNL.out]; exact hp2) (by rw [show f.pair = (f.k, f.b) from rfl, ← HNL.out]; exact hp3)
        refine ⟨r, ?_, ?_⟩
        · rw [e1, HU.out, List.map_take]; exact hr1
        · have e2 := HES.out
          rw [HEN.out] at e2
          have e3 : S = (flat ((l.map Fr.pair).take (X % l.length))).length := e2
          rw [HU.out]
          omega
      have HBNE := hide hbne
      clear hde hcell0 hbne hd1
      refine go_on ?_
      refine wpList_append_bytes _ rfl (.tmp 99) (.tmp 100) 22 rfl w.heap.size 5 Try.underlying22 info_u8 _ _ _ [] rfl rfl (OwnB.lit _ _ [] hb2.size (by simp)) _ A1 _ c1 us rfl rfl ((hby3 _).alloc (Nat.le_refl _) _) (by simp; omega) (by have := hb2.size; simp; omega) ?_
      intro d1 A9 c9 w3 hdd1 hdl1 hown1 hg1 hat1
      have hb3 : Below w.heap.size w w3 := ((below_drewN' hb2 _).alloc hb2.size _).grown hg1 (by have := hb2.size; simp; omega) (by intro k hk; simp at hk; have := hb2.size; omega)
      have hb23 : Below w2.heap.size w2 w3 := ((below_drewN' (Below.refl w2.heap.size w2) _).alloc (Nat.le_refl _) _).grown hg1 (by simp) (by intro k hk; simp at hk; omega)
      have hd1e : d1 = us := by rw [hdd1.out]; rfl
      subst hd1e
      obtain ⟨g, rfl, hbg, hgl⟩ := hown1.form (by omega)
      have hg2 : w2.heap.size ≤ g := by
        rcases hat1 with h | h
        · simp at h; omega
        · simp at h; omega
      have hcell := hown1.cellAt hb.out
      have hfro := hown1.frozenAt (q)
      have hstored := hown1.stored (q) b'
      have HS := hide hstored
      have hb4 : Below w.heap.size w (w3.setCell ⟨g, q, none⟩ (.int .u8 (b'.toNat : Int))) := hb3.setCell (p := ⟨g, q, none⟩) hbg _
      have hb24 : Below w2.heap.size w2 (w3.setCell ⟨g, q, none⟩ (.int .u8 (b'.toNat : Int))) := hb23.setCell (p := ⟨g, q, none⟩) hg2 _
      clear hg1 hat1 hdd1 hstored hown1 hb3 hb23 hg2
      go_wp2_with (go_at_call 14; refine halted ?_)
      refine go_on ?_
      generalize w3.setCell ⟨g, q, none⟩ (.int .u8 (b'.toNat : Int)) = w4 at *
      clear hcell hfro
      have hln : (d1.set (q) b').length = d1.length := List.length_set ..
      have HLN := hide hln
      clear hln
      refine (scan_any _ _ d1.length (d1.set (q) b') _ HLN.out HS.out.bytes (by rw [HLN.out]; omega) (by rw [HLN.out]; exact own_cap HS.out |> fun h => by rw [HLN.out] at h; exact h)).mono ?_
      rintro e w5 ⟨xs, r', A6, c6, he, HSC, n1, n2, n3, n4⟩
      obtain ⟨r, hr1, hr2⟩ := HX.out
      obtain ⟨hfs, hrr⟩ := HSC.out.unique hr1
      have e1 : ((d1.set (q) b').length : Int) - (r'.length : Int) = 0 := by rw [HLN.out, hrr]; omega
      rw [e1] at he
      subst he
      have hb5 := hb4.trans (n4.mono hb4.size)
      have hkt : (l.take (X % l.length)).length = X % l.length := by rw [List.length_take]; omega
      have hxl : xs.length = X % l.length := by have := congrArg List.length hfs; rw [List.length_map, List.length_map, hkt] at this; exact this
      have q1 : FrRow w5 w5.heap.size A6 xs := ⟨n1, fun f hf => ⟨(n3 f hf).1, (n3 f hf).2.1⟩⟩
      have HSM := hide (same_any A6 (some ad) c6 c _ (X % l.length) xs (l.take (X % l.length)) w5 q1 (((hrow2.below hb24).below n4).take _) rfl hkt hfs (by omega))
      have hcut2 := cut_to_n (A := some ad) (n := l.length) (c := c) (k := X % l.length) (h := (X : Int) % (l.length : Int)) elem_rfr size_rfr (by omega) (by have := HLC.out; omega) .i64
      clear q1 n1 n2 n3 n4 hfs hrr hr1 hr2 e1 hkt hxl hrow2 hb24
      go_wp2_with (go_at_call 16; refine halted ?_)
      refine go_on ?_
      refine HSM.out.mono ?_
      rintro e w6 ⟨rfl, hb6⟩
      have hbN := hb5.trans (hb6.mono hb5.size)
      go_wp2
      go_ret
      exact ⟨rfl, hbN⟩
  · have hp := HPREV.out HI.out
    rw [← HES.out] at hp
    go_wp2_with (at_builtin; refine halted ?_)
    all_goals clear hp
    · have hby3 : ∀ n, Bytes (w2.drewN n) w2.heap.size A1 us := fun n => hby
      have hcell0 := hde.out
      have hqlt : S < us.length := by omega
      have HP : Hid (∃ p, S = S + p ∧ p < 1 + nl + f.b.length + 4 ∧ (p = 0 ∨ 1 + nl ≤ p)) := ⟨0, by omega, by omega, .inl rfl⟩
      obtain ⟨b, hb⟩ : ∃ b, Hid (us[S]? = some b) := ⟨_, List.getElem?_eq_getElem hqlt⟩
      obtain ⟨b', hb'⟩ : ∃ b', Hid (b' = b ^^^ t) := ⟨_, rfl⟩
      have hbx : bits .xor .u8 (b.toNat : Int) (t.toNat : Int) = (b'.toNat : Int) := by
        rw [u8_xor_nat _ _ b.toNat_lt t.toNat_lt, hb'.out]; simp
      have hbne : b ≠ b' := by
        intro h1
        have h2 : b ^^^ b = b ^^^ (b ^^^ t) := by rw [← hb'.out, ← h1]
        rw [← UInt8.xor_assoc, UInt8.xor_self, UInt8.zero_xor] at h2
        exact Ht.out h2.symm
      have HX : Hid (∃ r, Scans (us.set S b') ((l.take (X % l.length)).map Fr.pair) r ∧ S + r.length = us.length) := by
        obtain ⟨p, hp1, hp2, hp3⟩ := HP.out
        have e1 : S = (flat ((l.map Fr.pair).take (X % l.length))).length + p := by
          have e2 := HES.out
          rw [HEN.out] at e2
          show _ = _
          have e3 : S = (flat ((l.map Fr.pair).take (X % l.length))).length := e2
          omega
        have hb1 := hb.out
        rw [e1, HU.out] at hb1
        obtain ⟨r, hr1, hr2⟩ := scans_turned (fs := l.map Fr.pair) (fun f hf => by
          obtain ⟨x, hx, rfl⟩ := List.mem_map.1 hf
          have := H2.out x hx
          show x.b.length ≤ _
          omega) (by rw [List.getElem?_map, hg.out]; rfl : (l.map Fr.pair)[X % l.length]? = some f.pair) hb1 hbne (by rw [show f.pair = (f.k, f.b) from rfl, frameB_len', ← HNL.out]; exact hp2) (by rw [show f.pair = (f.k, f.b) from rfl, ← HNL.out]; exact hp3)
        refine ⟨r, ?_, ?_⟩
        · rw [e1, HU.out, List.map_take]; exact hr1
        · have e2 := HES.out
          rw [HEN.out] at e2
          have e3 : S = (flat ((l.map Fr.pair).take (X % l.length))).length := e2
          rw [HU.out]
          omega
      have HBNE := hide hbne
      clear hde hcell0 hbne hd1
      refine go_on ?_
      refine wpList_append_bytes _ rfl (.tmp 99) (.tmp 100) 22 rfl w.heap.size 5 Try.underlying22 info_u8 _ _ _ [] rfl rfl (OwnB.lit _ _ [] hb2.size (by simp)) _ A1 _ c1 us rfl rfl ((hby3 _).alloc (Nat.le_refl _) _) (by simp; omega) (by have := hb2.size; simp; omega) ?_
      intro d1 A9 c9 w3 hdd1 hdl1 hown1 hg1 hat1
      have hb3 : Below w.heap.size w w3 := ((below_drewN' hb2 _).alloc hb2.size _).grown hg1 (by have := hb2.size; simp; omega) (by intro k hk; simp at hk; have := hb2.size; omega)
      have hb23 : Below w2.heap.size w2 w3 := ((below_drewN' (Below.refl w2.heap.size w2) _).alloc (Nat.le_refl _) _).grown hg1 (by simp) (by intro k hk; simp at hk; omega)
      have hd1e : d1 = us := by rw [hdd1.out]; rfl
      subst hd1e
      obtain ⟨g, rfl, hbg, hgl⟩ := hown1.form (by omega)
      have hg2 : w2.heap.size ≤ g := by
        rcases hat1 with h | h
        · simp at h; omega
        · simp at h; omega
      have hcell := hown1.cellAt hb.out
      have hfro := hown1.frozenAt (S)
      have hstored := hown1.stored (S) b'
      have HS := hide hstored
      have hb4 : Below w.heap.size w (w3.setCell ⟨g, S, none⟩ (.int .u8 (b'.toNat : Int))) := hb3.setCell (p := ⟨g, S, none⟩) hbg _
      have hb24 : Below w2.heap.size w2 (w3.setCell ⟨g, S, none⟩ (.int .u8 (b'.toNat : Int))) := hb23.setCell (p := ⟨g, S, none⟩) hg2 _
      clear hg1 hat1 hdd1 hstored hown1 hb3 hb23 hg2
      go_wp2_with (go_at_call 14; refine halted ?_)
      refine go_on ?_
      generalize w3.setCell ⟨g, S, none⟩ (.int .u8 (b'.toNat : Int)) = w4 at *
      clear hcell hfro
      have hln : (d1.set (S) b').length = d1.length := List.length_set ..
      have HLN := hide hln
      clear hln
      refine (scan_any _ _ d1.length (d1.set (S) b') _ HLN.out HS.out.bytes (by rw [HLN.out]; omega) (by rw [HLN.out]; exact own_cap HS.out |> fun h => by rw [HLN.out] at h; exact h)).mono ?_
      rintro e w5 ⟨xs, r', A6, c6, he, HSC, n1, n2, n3, n4⟩
      obtain ⟨r, hr1, hr2⟩ := HX.out
      obtain ⟨hfs, hrr⟩ := HSC.out.unique hr1
      have e1 : ((d1.set (S) b').length : Int) - (r'.length : Int) = (S : Int) := by rw [HLN.out, hrr]; omega
      rw [e1] at he
      subst he
      have hb5 := hb4.trans (n4.mono hb4.size)
      have hkt : (l.take (X % l.length)).length = X % l.length := by rw [List.length_take]; omega
      have hxl : xs.length = X % l.length := by have := congrArg List.length hfs; rw [List.length_map, List.length_map, hkt] at this; exact this
      have q1 : FrRow w5 w5.heap.size A6 xs := ⟨n1, fun f hf => ⟨(n3 f hf).1, (n3 f hf).2.1⟩⟩
      have HSM := hide (same_any A6 (some ad) c6 c _ (X % l.length) xs (l.take (X % l.length)) w5 q1 (((hrow2.below hb24).below n4).take _) rfl hkt hfs (by omega))
      have hcut2 := cut_to_n (A := some ad) (n := l.length) (c := c) (k := X % l.length) (h := (X : Int) % (l.length : Int)) elem_rfr size_rfr (by omega) (by have := HLC.out; omega) .i64
      clear q1 n1 n2 n3 n4 hfs hrr hr1 hr2 e1 hkt hxl hrow2 hb24
      go_wp2_with (go_at_call 16; refine halted ?_)
      refine go_on ?_
      refine HSM.out.mono ?_
      rintro e w6 ⟨rfl, hb6⟩
      have hbN := hb5.trans (hb6.mono hb5.size)
      go_wp2
      go_ret
      exact ⟨rfl, hbN⟩
    · have hby3 : ∀ n, Bytes (w2.drewN n) w2.heap.size A1 us := fun n => hby
      have hcell0 := hde.out
      obtain ⟨q, hq⟩ : ∃ q, q = S + (1 + nl + Y % (f.b.length + 4)) := ⟨_, rfl⟩
      have hYn : Y % (f.b.length + 4) < f.b.length + 4 := Nat.mod_lt _ (by omega)
      have hYc : ((Y % (f.b.length + 4) : Nat) : Int) = (Y : Int) % ((f.b.length : Int) + 4) := by exact_mod_cast rfl
      rw [show (S : Int) + (1 + (nl : Int) + (f.b.length : Int) + 4) - 4 - (f.b.length : Int) + (Y : Int) % ((f.b.length : Int) + 4) = (q : Int) from by omega]
      have hqlt : q < us.length := by omega
      have HP : Hid (∃ p, q = S + p ∧ p < 1 + nl + f.b.length + 4 ∧ (p = 0 ∨ 1 + nl ≤ p)) := ⟨1 + nl + Y % (f.b.length + 4), by omega, by omega, .inr (by omega)⟩
      clear hq hYn hYc
      obtain ⟨b, hb⟩ : ∃ b, Hid (us[q]? = some b) := ⟨_, List.getElem?_eq_getElem hqlt⟩
      obtain ⟨b', hb'⟩ : ∃ b', Hid (b' = b ^^^ t) := ⟨_, rfl⟩
      have hbx : bits .xor .u8 (b.toNat : Int) (t.toNat : Int) = (b'.toNat : Int) := by
        rw [u8_xor_nat _ _ b.toNat_lt t.toNat_lt, hb'.out]; simp
      have hbne : b ≠ b' := by
        intro h1
        have h2 : b ^^^ b = b ^^^ (b ^^^ t) := by rw [← hb'.out, ← h1]
        rw [← UInt8.xor_assoc, UInt8.xor_self, UInt8.zero_xor] at h2
        exact Ht.out h2.symm
      have HX : Hid (∃ r, Scans (us.set q b') ((l.take (X % l.length)).map Fr.pair) r ∧ S + r.length = us.length) := by
        obtain ⟨p, hp1, hp2, hp3⟩ := HP.out
        have e1 : q = (flat ((l.map Fr.pair).take (X % l.length))).length + p := by
          have e2 := HES.out
          rw [HEN.out] at e2
          show _ = _
          have e3 : S = (flat ((l.map Fr.pair).take (X % l.length))).length := e2
          omega
        have hb1 := hb.out
        rw [e1, HU.out] at hb1
        obtain ⟨r, hr1, hr2⟩ := scans_turned (fs := l.map Fr.pair) (fun f hf => by
          obtain ⟨x, hx, rfl⟩ := List.mem_map.1 hf
          have := H2.out x hx
          show x.b.length ≤ _
          omega) (by rw [List.getElem?_map, hg.out]; rfl : (l.map Fr.pair)[X % l.length]? = some f.pair) hb1 hbne (by rw [show f.pair = (f.k, f.b) from rfl, frameB_len', ← HNL.out]; exact hp2) (by rw [show f.pair = (f.k, f.b) from rfl, ← HNL.out]; exact hp3)
        refine ⟨r, ?_, ?_⟩
        · rw [e1, HU.out, List.map_take]; exact hr1
        · have e2 := HES.out
          rw [HEN.out] at e2
          have e3 : S = (flat ((l.map Fr.pair).take (X % l.length))).length := e2
          rw [HU.out]
          omega
      have HBNE := hide hbne
      clear hde hcell0 hbne hd1
      refine go_on ?_
      refine wpList_append_bytes _ rfl (.tmp 99) (.tmp 100) 22 rfl w.heap.size 5 Try.underlying22 info_u8 _ _ _ [] rfl rfl (OwnB.lit _ _ [] hb2.size (by simp)) _ A1 _ c1 us rfl rfl ((hby3 _).alloc (Nat.le_refl _) _) (by simp; omega) (by have := hb2.size; simp; omega) ?_
      intro d1 A9 c9 w3 hdd1 hdl1 hown1 hg1 hat1
      have hb3 : Below w.heap.size w w3 := ((below_drewN' hb2 _).alloc hb2.size _).grown hg1 (by have := hb2.size; simp; omega) (by intro k hk; simp at hk; have := hb2.size; omega)
      have hb23 : Below w2.heap.size w2 w3 := ((below_drewN' (Below.refl w2.heap.size w2) _).alloc (Nat.le_refl _) _).grown hg1 (by simp) (by intro k hk; simp at hk; omega)
      have hd1e : d1 = us := by rw [hdd1.out]; rfl
      subst hd1e
      obtain ⟨g, rfl, hbg, hgl⟩ := hown1.form (by omega)
      have hg2 : w2.heap.size ≤ g := by
        rcases hat1 with h | h
        · simp at h; omega
        · simp at h; omega
      have hcell := hown1.cellAt hb.out
      have hfro := hown1.frozenAt (q)
      have hstored := hown1.stored (q) b'
      have HS := hide hstored
      have hb4 : Below w.heap.size w (w3.setCell ⟨g, q, none⟩ (.int .u8 (b'.toNat : Int))) := hb3.setCell (p := ⟨g, q, none⟩) hbg _
      have hb24 : Below w2.heap.size w2 (w3.setCell ⟨g, q, none⟩ (.int .u8 (b'.toNat : Int))) := hb23.setCell (p := ⟨g, q, none⟩) hg2 _
      clear hg1 hat1 hdd1 hstored hown1 hb3 hb23 hg2
      go_wp2_with (go_at_call 14; refine halted ?_)
      refine go_on ?_
      generalize w3.setCell ⟨g, q, none⟩ (.int .u8 (b'.toNat : Int)) = w4 at *
      clear hcell hfro
      have hln : (d1.set (q) b').length = d1.length := List.length_set ..
      have HLN := hide hln
      clear hln
      refine (scan_any _ _ d1.length (d1.set (q) b') _ HLN.out HS.out.bytes (by rw [HLN.out]; omega) (by rw [HLN.out]; exact own_cap HS.out |> fun h => by rw [HLN.out] at h; exact h)).mono ?_
      rintro e w5 ⟨xs, r', A6, c6, he, HSC, n1, n2, n3, n4⟩
      obtain ⟨r, hr1, hr2⟩ := HX.out
      obtain ⟨hfs, hrr⟩ := HSC.out.unique hr1
      have e1 : ((d1.set (q) b').length : Int) - (r'.length : Int) = (S : Int) := by rw [HLN.out, hrr]; omega
      rw [e1] at he
      subst he
      have hb5 := hb4.trans (n4.mono hb4.size)
      have hkt : (l.take (X % l.length)).length = X % l.length := by rw [List.length_take]; omega
      have hxl : xs.length = X % l.length := by have := congrArg List.length hfs; rw [List.length_map, List.length_map, hkt] at this; exact this
      have q1 : FrRow w5 w5.heap.size A6 xs := ⟨n1, fun f hf => ⟨(n3 f hf).1, (n3 f hf).2.1⟩⟩
      have HSM := hide (same_any A6 (some ad) c6 c _ (X % l.length) xs (l.take (X % l.length)) w5 q1 (((hrow2.below hb24).below n4).take _) rfl hkt hfs (by omega))
      have hcut2 := cut_to_n (A := some ad) (n := l.length) (c := c) (k := X % l.length) (h := (X : Int) % (l.length : Int)) elem_rfr size_rfr (by omega) (by have := HLC.out; omega) .i64
      clear q1 n1 n2 n3 n4 hfs hrr hr1 hr2 e1 hkt hxl hrow2 hb24
      go_wp2_with (go_at_call 16; refine halted ?_)
      refine go_on ?_
      refine HSM.out.mono ?_
      rintro e w6 ⟨rfl, hb6⟩
      have hbN := hb5.trans (hb6.mono hb5.size)
      go_wp2
      go_ret
      exact ⟨rfl, hbN⟩
end Go.Proofs.Ytikfiicjgcnljaa
