/-
  BloomNever, walked. (Under way.)
-/
import Derived.Test.YtnmgbhpmmbhgoaaTurned
namespace Go.Proofs.Ytnmgbhpmmbhgoaa
open Go.RowKit
set_option linter.unusedVariables false

theorem countF_le (f : List UInt8) : countF f ≤ 8 * f.length := by
  unfold countF
  split
  · have := sumO_le (f.drop 1)
    rw [List.length_drop] at this
    omega
  · omega

set_option maxRecDepth 100000 in
set_option maxHeartbeats 4000000 in
theorem bloomNever_any (A A2 : Option Addr) (c c2 : Nat) (l l2 : List Ky) (bits : Int) (w : World) (hr : KyRow w w.heap.size A l) (hl : l.length ≤ 9223372036854775807) (hr2 : KyRow w w.heap.size A2 l2) (hl2 : l2.length ≤ 9223372036854775807) :
    Calls Try.prog 5 #[.slice A l.length c, .slice A2 l2.length c2, .int .i64 bits] w fun e w' => e = .returned (.bool true) ∧ Below w.heap.size w w' := by
  obtain ⟨i0, hi, hz0, hz1, hz2⟩ := info_parts info_sl
  have HF1 := hide fun W (hb : Below w.heap.size w W) => few_any A c l W (hr.below hb) hl
  have HF2 := hide fun W (hb : Below w.heap.size w W) => few_any A2 c2 l2 W (hr2.below hb) hl2
  go_enter Try.func5, Try.ntmps5
  go_wp2_with (go_at_call 6; refine halted ?_)
  refine go_on ?_
  refine (awake_any _).mono ?_
  rintro e w1 ⟨rfl, hb1⟩
  go_wp2_with (go_at_call_of 7 (Value.slice A l.length c); refine halted ?_)
  refine go_on ?_
  refine (HF1.out _ hb1).mono ?_
  rintro e w2 ⟨rfl, rfl⟩
  cases hfw : fewK l with
  | false =>
    go_wp2
    go_ret
    exact ⟨rfl, hb1⟩
  | true =>
    obtain ⟨h2000, h600⟩ := fewK_true hfw
    go_wp2_with (go_at_call 7; refine halted ?_)
    refine go_on ?_
    refine (HF2.out _ hb1).mono ?_
    rintro e w2 ⟨rfl, rfl⟩
    cases hfw2 : fewK l2 with
    | false =>
      go_wp2
      go_ret
      exact ⟨rfl, hb1⟩
    | true =>
      obtain ⟨m2000, m600⟩ := fewK_true hfw2
      have H600 := hide h600
      have M600 := hide m600
      have B1 := hide fun W (hb : Below w.heap.size w W) => build_any A c l bits W (hr.below hb) (by omega) (fun p hp => by have := H600.out p hp; omega)
      have B2 := hide fun W (hb : Below w.heap.size w W) => build_any A2 c2 l2 bits W (hr2.below hb) (by omega) (fun p hp => by have := M600.out p hp; omega)
      clear h600 m600 HF1 HF2 hfw hfw2
      have hin : ∀ (x : List Ky), x.length ≤ 2000 → (1 ≤ bits ∧ bits ≤ 32) → buildR (x.map Ky.k) bits = (buildF (x.map Ky.k) bits, 0) := fun x hx hb => buildR_ok (by rw [List.length_map]; unfold okB; simp; omega)
      by_cases hbits : 1 ≤ bits ∧ bits ≤ 32
      case neg =>
        have hno : buildR (l.map Ky.k) bits = ([], 1) := buildR_no (by unfold okB; simp; omega)
        rw [hno] at B1
        have hw : bits < 1 ∨ (¬ bits < 1 ∧ 32 < bits) := by omega
        rcases hw with hw | ⟨hw1, hw2⟩
        all_goals
          go_wp2_with (go_at_call 8; refine halted ?_)
          refine go_on ?_
          refine (B1.out _ hb1).mono ?_
          rintro e w3 ⟨A3, c3, rfl, o3, hb3⟩
          dsimp only
          have hbw3 := hb1.trans (hb3.mono hb1.size)
          clear o3 hb3
          go_wp2
          go_ret
          exact ⟨rfl, hbw3⟩
      rw [hin l h2000 hbits] at B1
      rw [hin l2 m2000 hbits] at B2
      obtain ⟨z1, z2⟩ := hbits
      have hmay : ∀ p ∈ l, mayF (buildF (l.map Ky.k) bits) p.k = true := fun p hp => may_build z1 z2 (List.mem_map_of_mem hp)
      have hmay2 : ∀ p ∈ l2, mayF (buildF (l2.map Ky.k) bits) p.k = true := fun p hp => may_build z1 z2 (List.mem_map_of_mem hp)
      have hF := isF_build z1 z2 (l.map Ky.k)
      have hG := isF_build z1 z2 (l2.map Ky.k)
      have hblen : ∀ x : List Ky, x.length ≤ 2000 → (buildF (x.map Ky.k) bits).length ≤ 1000000 := by
        intro x hx
        have h1 : bits * ((x.map Ky.k).length : Int) ≤ 32 * 2000 := Int.mul_le_mul z2 (by rw [List.length_map]; omega) (by omega) (by omega)
        unfold buildF
        rw [orKeys_len]
        unfold zeroF szN
        rw [List.length_cons, List.length_replicate]
        omega
      have hFl := hblen l h2000
      have hGl := hblen l2 m2000
      have hFh : (buildF (l.map Ky.k) bits).headD 0 = UInt8.ofNat (prbN bits) := by unfold buildF; rw [orKeys_head]; rfl
      have hGh : (buildF (l2.map Ky.k) bits).headD 0 = UInt8.ofNat (prbN bits) := by unfold buildF; rw [orKeys_head]; rfl
      have hHH := hide (hFh.trans hGh.symm)
      generalize buildF (l.map Ky.k) bits = F at *
      generalize buildF (l2.map Ky.k) bits = G at *
      have MF := hide hmay
      have MG := hide hmay2
      have IF := hide hF
      have IG := hide hG
      clear hmay hmay2 hF hG hFh hGh hblen hin
      go_wp2_with (go_at_call_of 8 (Value.slice A l.length c); refine halted ?_)
      refine go_on ?_
      refine (B1.out _ hb1).mono ?_
      rintro e w3 ⟨A3, c3, rfl, o3, hb3⟩
      dsimp only at o3
      dsimp only
      have hbw3 := hb1.trans (hb3.mono hb1.size)
      have p3 := o3.bytes
      have hcap3 := own_cap8 o3
      clear o3 hb3 B1
      go_wp2
      go_loopw [11] (fun i wr => ∃ k : Nat, k ≤ l.length ∧ i = .int .i64 (k : Int) ∧ Below w3.heap.size w3 wr) (fun i _ => l.length - (intOf i).toNat)
      case atStart => exact ⟨0, Nat.zero_le _, rfl, Below.refl _ _⟩
      case round =>
        obtain ⟨k, hk, rfl, hb⟩ := hrel
        have hbw := hbw3.trans (hb.mono hbw3.size)
        by_cases hlt : k < l.length
        · obtain ⟨ad, q, rfl, hadb, hq, hc, hqb⟩ := (hr.below hbw).at_ hlt
          have hql := H600.out q (List.mem_of_getElem? hq.out)
          have hm := may_any A3 q.A c3 q.c F q.k wr ((p3.below hb).more hb.size) hqb (by omega) (by omega)
          rw [MF.out q (List.mem_of_getElem? hq.out)] at hm
          have HM := hide hm
          clear hm hq hqb hr hr2
          go_wp2_with (go_at_call 9; refine halted ?_)
          refine go_on ?_
          refine HM.out.mono ?_
          rintro e w4 ⟨rfl, hb4⟩
          have hb5 := hb.trans (hb4.mono hb.size)
          clear hb4
          go_wp2
          go_roundw
          case rel => exact ⟨k + 1, by omega, by go_num, hb5⟩
          case measure => simp [intOf]; omega
        · go_wp2_with (go_at_call 8; refine halted ?_)
          refine go_on ?_
          refine (B2.out _ hbw).mono ?_
          rintro e w4 ⟨A4, c4, rfl, o4, hb4⟩
          dsimp only at o4
          dsimp only
          have hbw4 := hbw.trans (hb4.mono hbw.size)
          have p3 := (((p3.below hb).more hb.size).below hb4).more hb4.size
          have p4 := o4.bytes
          have hcap4 := own_cap8 o4
          clear o4 hb4 hb B2
          have hbo := both_any A3 A4 c3 c4 F G w4 p3 p4 (by omega) (by omega) hcap3 hcap4
          by_cases hlen : F.length = G.length
          case neg =>
            have hno : bothR F G = ([], 1) := bothR_no (by unfold bothOk; simp [hlen])
            rw [hno] at hbo
            have HBO := hide hbo
            have hne : ((F.length : Int) != (G.length : Int)) = true := by rw [bne_iff_ne]; omega
            clear hbo hno hlen p3 p4 hr hr2
            go_wp2_with (go_at_call 11; refine halted ?_)
            refine go_on ?_
            refine HBO.out.mono ?_
            rintro e w5 ⟨A5, c5, rfl, o5, hb5⟩
            dsimp only
            have hbw5 := hbw4.trans (hb5.mono hbw4.size)
            clear o5 hb5
            go_wp2
            go_ret
            exact ⟨by first | rfl | simp, hbw5⟩
          have hbk : bothOk F G = true := by unfold bothOk; rw [IF.out, IG.out, hHH.out]; simp [hlen]
          rw [bothR_ok hbk] at hbo
          have HBO := hide hbo
          have HBK := hide hbk
          have HLN := hide hlen
          clear hbo hbk hlen
          go_wp2_with (go_at_call 11; refine halted ?_)
          refine go_on ?_
          refine HBO.out.mono ?_
          rintro e w5 ⟨A5, c5, rfl, o5, hb5⟩
          dsimp only at o5
          dsimp only
          have hbw5 := hbw4.trans (hb5.mono hbw4.size)
          have p3 := (p3.below hb5).more hb5.size
          have p4 := (p4.below hb5).more hb5.size
          have p5 := o5.bytes
          have hcap5 := own_cap8 o5
          clear o5 hb5
          have hl0 := World.ownsRow_lit (base := w5.heap.size) (e := 23) (size := 1) w5 #[] 0 (Nat.le_refl _) (by unfold maxLen; omega) (by simp)
          go_wp2_with (at_builtin; refine halted ?_)
          refine go_on ?_
          have hba := hbw5.alloc hbw5.size (.cells #[] 23)
          have hrk := (hr.below hba)
          have hrk2 := (hr2.below hba)
          refine wpList_append_own _ rfl (.tmp 97) (.tmp 98) 22 rfl w5.heap.size 23 i0 _ 1 24 Try.underlying22 hi hz0 hz1 hz2 rfl (by decide) (some ⟨w5.heap.size, 0, none⟩) 0 0 [] rfl hl0 _ _ l.length _ (l.map Ky.cell) rfl (by simp) hrk.1 (by intro u hu; obtain ⟨q, -, rfl⟩ := List.mem_map.1 hu; rfl) (by unfold maxLen; omega) (by omega) (by simp) ?_
          intro n6 xs6 A6 c6 w6 hn6 hxs6 _ _ hown6 hg6 _
          obtain rfl : n6 = l.length := by rw [hn6.out]; omega
          obtain rfl : xs6 = l.map Ky.cell := by rw [hxs6.out]; rfl
          have hbw6 : Below w.heap.size w w6 := hba.grown hg6 (by have := hbw5.size; simp; omega) (fun p hp => by simp at hp; subst hp; exact hbw5.size)
          have hb6 : Below w5.heap.size w5 w6 := ((Below.refl _ _).alloc (Nat.le_refl _) _).grown hg6 (by simp) (fun p hp => by simp at hp; subst hp; exact Nat.le_refl _)
          have hrk6 := hr2.below hbw6
          have H6 := hide hown6
          clear hrk hrk2 hba hl0 hn6 hxs6 hg6 hown6
          go_wp2_with (at_builtin; refine halted ?_)
          refine go_on ?_
          refine wpList_append_own _ rfl (.tmp 99) (.tmp 100) 22 rfl w5.heap.size 23 i0 _ 1 24 Try.underlying22 hi hz0 hz1 hz2 rfl (by decide) A6 l.length c6 (l.map Ky.cell) rfl H6.out _ _ l2.length _ (l2.map Ky.cell) rfl (by simp) hrk6.1 (by intro u hu; obtain ⟨q, -, rfl⟩ := List.mem_map.1 hu; rfl) (by unfold maxLen; omega) (by omega) hb6.size ?_
          intro n7 xs7 A7 c7 w7 hn7 hxs7 _ _ hown7 hg7 _
          obtain rfl : n7 = (l ++ l2).length := by rw [hn7.out]; simp
          obtain rfl : xs7 = (l ++ l2).map Ky.cell := by rw [hxs7.out]; simp
          have hlow : ∀ p, A6.map (·.block) = some p → w5.heap.size ≤ p := fun p hp => (World.ownsRow.lt H6.out p (by rw [ownBlock_slice]; exact hp)).1
          have hbw7 : Below w.heap.size w w7 := hbw6.grown hg7 hbw6.size (fun p hp => Nat.le_trans hbw5.size (hlow p hp))
          have hb7 : Below w5.heap.size w5 w7 := hb6.grown hg7 hb6.size hlow
          have p3 := (p3.below hb7).more hb7.size
          have p4 := (p4.below hb7).more hb7.size
          have p5 := (p5.below hb7).more hb7.size
          have hky : KyRow w7 w7.heap.size A7 (l ++ l2) := ⟨Row.of_own hown7, fun p hp => by
            rcases List.mem_append.1 hp with h | h
            · exact (hr.below hbw7).2 p h
            · exact (hr2.below hbw7).2 p h⟩
          have hL : (l ++ l2).length ≤ 4000 := by rw [List.length_append]; omega
          have HK6 : Hid (∀ p ∈ l ++ l2, p.k.length ≤ 600 ∧ mayF (orL F G) p.k = true) := fun p hp => by
            rcases List.mem_append.1 hp with h | h
            · exact ⟨H600.out p h, may_both HBK.out (.inl (MF.out p h))⟩
            · exact ⟨M600.out p h, may_both HBK.out (.inr (MG.out p h))⟩
          have hcnt := count_both HBK.out
          have hol : (orL F G).length = F.length := orL_len HLN.out
          have HOL := hide hol
          have HCNT := hide hcnt
          have HKY := hide hky
          generalize l ++ l2 = L at *
          generalize orL F G = O at *
          clear hrk6 hb6 hbw6 H6 hn7 hxs7 hown7 hg7 hlow hky hol hcnt hr hr2
          go_wp2
          go_loopw [18] (fun i wr => ∃ k : Nat, k ≤ L.length ∧ i = .int .i64 (k : Int) ∧ Below w7.heap.size w7 wr) (fun i _ => L.length - (intOf i).toNat)
          case atStart => exact ⟨0, Nat.zero_le _, rfl, Below.refl _ _⟩
          case round =>
            obtain ⟨k, hk, rfl, hb⟩ := hrel
            by_cases hlt : k < L.length
            · obtain ⟨ad, q, rfl, hadb, hq, hc, hqb⟩ := (HKY.out.below hb).at_ hlt
              obtain ⟨hql, hqm⟩ := HK6.out q (List.mem_of_getElem? hq.out)
              have hm := may_any A5 q.A c5 q.c O q.k _ ((p5.below hb).more hb.size) hqb (by have := HOL.out; omega) (by omega)
              rw [hqm] at hm
              have HM := hide hm
              clear hm hq hqb hqm
              go_wp2_with (go_at_call 9; refine halted ?_)
              refine go_on ?_
              refine HM.out.mono ?_
              rintro e w8 ⟨rfl, hb8⟩
              have hb9 := hb.trans (hb8.mono hb.size)
              clear hb8
              go_wp2
              go_roundw
              case rel => exact ⟨k + 1, by omega, by go_num, hb9⟩
              case measure => simp [intOf]; omega
            · have hbe := hbw7.trans (hb.mono hbw7.size)
              have C5 := hide (count_any A5 c5 O _ ((p5.below hb).more hb.size) (by have := HOL.out; omega) hcap5)
              have C3 := hide (count_any A3 c3 F _ ((p3.below hb).more hb.size) (by omega) hcap3)
              have C4 := hide (count_any A4 c4 G _ ((p4.below hb).more hb.size) (by omega) hcap4)
              have n1 := countF_le F
              have n2 := countF_le G
              have n0 := HCNT.out
              generalize countF O = x0 at *
              generalize countF F = x1 at *
              generalize countF G = x2 at *
              have m1 : (x1 : Int) ≤ 8000000 := by omega
              have m2 : (x2 : Int) ≤ 8000000 := by omega
              have m0 : (x0 : Int) ≤ (x1 : Int) + (x2 : Int) := by omega
              clear n0 n1 n2 HCNT hbw7 p3 p4 p5
              go_wp2_with (go_at_call 10; refine halted ?_)
              refine go_on ?_
              refine C5.out.mono ?_
              rintro e w8 ⟨rfl, rfl⟩
              go_wp2_with (go_at_call 10; refine halted ?_)
              refine go_on ?_
              refine C3.out.mono ?_
              rintro e w9 ⟨rfl, rfl⟩
              go_wp2_with (go_at_call 10; refine halted ?_)
              refine go_on ?_
              refine C4.out.mono ?_
              rintro e w10 ⟨rfl, rfl⟩
              go_wp2
              go_ret
              exact ⟨by simp, hbe⟩
end Go.Proofs.Ytnmgbhpmmbhgoaa
