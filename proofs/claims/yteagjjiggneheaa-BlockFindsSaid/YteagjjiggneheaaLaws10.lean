/-
  awake; BlockBuilds, walked.
-/
import Derived.Test.YteagjjiggneheaaRBuild
import Derived.Lib.SmallJoins
import Derived.Test.YteagjjiggneheaaBlockShort
namespace Go.Proofs.Yteagjjiggneheaa
open Go.RowKit
set_option linter.unusedVariables false

theorem awake_pairs : buildR 2 [([97, 98], [1]), ([97, 98, 99], [2])] = (builtB 2 [([97, 98], [1]), ([97, 98, 99], [2])], 0) := by
  unfold buildR
  rw [if_neg (by simp), if_pos ?_]
  · rfl
  · intro j p q hj hp hq
    simp at hj
    have : j = 0 := by omega
    subst this
    simp at hp hq
    subst hp hq
    decide
theorem awake_built : ∃ us, Hid (us = builtB 2 [([97, 98], [1]), ([97, 98, 99], [2])]) ∧ us.length = 20 ∧ us[6]? = some 2 := ⟨_, rfl, by decide +kernel, by decide +kernel⟩

set_option maxRecDepth 100000 in
set_option maxHeartbeats 2000000 in
theorem awake_any (w : World) : Calls Try.prog 8 #[] w fun e w' => e = .returned (.bool true) ∧ Below w.heap.size w w' := by
  have c1 := Lib.run_convert_bytes_const (P := Try.prog) w 25 5 #[.int .u8 97, .int .u8 98] 2 2 Try.underlying25 Try.underlying5
  have c2 := _root_.Go.Joins.run_convert_bytes_const_at (P := Try.prog) ((w.alloc (.cells #[.int .u8 97, .int .u8 98] 5 (2, 3))).alloc (.cells #[.int .u8 1] 5)) 25 5 #[.int .u8 97, .int .u8 98, .int .u8 99] 3 3 (w.heap.size + 2) (by simp) Try.underlying25 Try.underlying5
  simp only [List.size_toArray, List.length_cons, List.length_nil, Nat.reduceAdd] at c1 c2
  go_enter Try.func8, Try.ntmps8
  go_wp2_with (go_at_call 10; refine halted ?_)
  refine go_on ?_
  obtain ⟨us, hus, hul, hu6⟩ := awake_built
  have h1 : Bytes (w.alloc (.cells #[.int .u8 97, .int .u8 98] 5 (2, 3))) (w.heap.size + 1) (some ⟨w.heap.size, 0, none⟩) [97, 98] := Row.new w #[.int .u8 97, .int .u8 98] 5 (2, 3)
  have hb1 : Below w.heap.size w (w.alloc (.cells #[.int .u8 97, .int .u8 98] 5 (2, 3))) := (Below.refl w.heap.size w).alloc (Nat.le_refl _) _
  have s1 : (w.alloc (.cells #[.int .u8 97, .int .u8 98] 5 (2, 3))).heap.size = w.heap.size + 1 := World.size_alloc ..
  clear c1 c2
  generalize w.alloc (.cells #[.int .u8 97, .int .u8 98] 5 (2, 3)) = u1 at *
  have h2 : Bytes (u1.alloc (.cells #[.int .u8 1] 5)) (u1.heap.size + 1) (some ⟨u1.heap.size, 0, none⟩) [1] := Row.new u1 #[.int .u8 1] 5 (0, 0)
  have h12 := h1.alloc (by omega) (.cells #[.int .u8 1] 5)
  have hb2 := hb1.alloc hb1.size (.cells #[.int .u8 1] 5)
  have s2 : (u1.alloc (.cells #[.int .u8 1] 5)).heap.size = u1.heap.size + 1 := World.size_alloc ..
  generalize u1.alloc (.cells #[.int .u8 1] 5) = u2 at *
  have h3 : Bytes (u2.alloc (.cells #[.int .u8 97, .int .u8 98, .int .u8 99] 5 (3, 4))) (u2.heap.size + 1) (some ⟨u2.heap.size, 0, none⟩) [97, 98, 99] := Row.new u2 #[.int .u8 97, .int .u8 98, .int .u8 99] 5 (3, 4)
  have h13 := h12.alloc (by omega) (.cells #[.int .u8 97, .int .u8 98, .int .u8 99] 5 (3, 4))
  have h23 := h2.alloc (by omega) (.cells #[.int .u8 97, .int .u8 98, .int .u8 99] 5 (3, 4))
  have hb3 := hb2.alloc hb2.size (.cells #[.int .u8 97, .int .u8 98, .int .u8 99] 5 (3, 4))
  have s3 : (u2.alloc (.cells #[.int .u8 97, .int .u8 98, .int .u8 99] 5 (3, 4))).heap.size = u2.heap.size + 1 := World.size_alloc ..
  generalize u2.alloc (.cells #[.int .u8 97, .int .u8 98, .int .u8 99] 5 (3, 4)) = u3 at *
  have h4 : Bytes (u3.alloc (.cells #[.int .u8 2] 5)) (u3.heap.size + 1) (some ⟨u3.heap.size, 0, none⟩) [2] := Row.new u3 #[.int .u8 2] 5 (0, 0)
  have h14 := h13.alloc (by omega) (.cells #[.int .u8 2] 5)
  have h24 := h23.alloc (by omega) (.cells #[.int .u8 2] 5)
  have h34 := h3.alloc (by omega) (.cells #[.int .u8 2] 5)
  have hb4 := hb3.alloc hb3.size (.cells #[.int .u8 2] 5)
  have s4 : (u3.alloc (.cells #[.int .u8 2] 5)).heap.size = u3.heap.size + 1 := World.size_alloc ..
  generalize u3.alloc (.cells #[.int .u8 2] 5) = u4 at *
  have e1 : u1.heap.size = w.heap.size + 1 := s1
  have e2 : u2.heap.size = w.heap.size + 2 := by omega
  have e3 : u3.heap.size = w.heap.size + 3 := by omega
  have e4 : u4.heap.size = w.heap.size + 4 := by omega
  rw [e1] at h24 h23 h2
  rw [e2] at h34
  rw [e3] at h4
  have hN := Row.new u4 #[.slice (some ⟨w.heap.size, 0, none⟩) 2 2, .slice (some ⟨w.heap.size + 1, 0, none⟩) 1 1, .slice (some ⟨w.heap.size + 2, 0, none⟩) 3 3, .slice (some ⟨w.heap.size + 1 + 1 + 1, 0, none⟩) 1 1] 34 (0, 0)
  have hb5 := hb4.alloc hb4.size (.cells #[.slice (some ⟨w.heap.size, 0, none⟩) 2 2, .slice (some ⟨w.heap.size + 1, 0, none⟩) 1 1, .slice (some ⟨w.heap.size + 2, 0, none⟩) 3 3, .slice (some ⟨w.heap.size + 1 + 1 + 1, 0, none⟩) 1 1] 34)
  have h15 := h14.alloc (by omega) (.cells #[.slice (some ⟨w.heap.size, 0, none⟩) 2 2, .slice (some ⟨w.heap.size + 1, 0, none⟩) 1 1, .slice (some ⟨w.heap.size + 2, 0, none⟩) 3 3, .slice (some ⟨w.heap.size + 1 + 1 + 1, 0, none⟩) 1 1] 34)
  have h25 := h24.alloc (by omega) (.cells #[.slice (some ⟨w.heap.size, 0, none⟩) 2 2, .slice (some ⟨w.heap.size + 1, 0, none⟩) 1 1, .slice (some ⟨w.heap.size + 2, 0, none⟩) 3 3, .slice (some ⟨w.heap.size + 1 + 1 + 1, 0, none⟩) 1 1] 34)
  have h35 := h34.alloc (by omega) (.cells #[.slice (some ⟨w.heap.size, 0, none⟩) 2 2, .slice (some ⟨w.heap.size + 1, 0, none⟩) 1 1, .slice (some ⟨w.heap.size + 2, 0, none⟩) 3 3, .slice (some ⟨w.heap.size + 1 + 1 + 1, 0, none⟩) 1 1] 34)
  have h45 := h4.alloc (by omega) (.cells #[.slice (some ⟨w.heap.size, 0, none⟩) 2 2, .slice (some ⟨w.heap.size + 1, 0, none⟩) 1 1, .slice (some ⟨w.heap.size + 2, 0, none⟩) 3 3, .slice (some ⟨w.heap.size + 1 + 1 + 1, 0, none⟩) 1 1] 34)
  have s5 : (u4.alloc (.cells #[.slice (some ⟨w.heap.size, 0, none⟩) 2 2, .slice (some ⟨w.heap.size + 1, 0, none⟩) 1 1, .slice (some ⟨w.heap.size + 2, 0, none⟩) 3 3, .slice (some ⟨w.heap.size + 1 + 1 + 1, 0, none⟩) 1 1] 34)).heap.size = u4.heap.size + 1 := World.size_alloc ..
  generalize u4.alloc (.cells #[.slice (some ⟨w.heap.size, 0, none⟩) 2 2, .slice (some ⟨w.heap.size + 1, 0, none⟩) 1 1, .slice (some ⟨w.heap.size + 2, 0, none⟩) 3 3, .slice (some ⟨w.heap.size + 1 + 1 + 1, 0, none⟩) 1 1] 34) = u5 at *
  rw [e4] at hN
  have hrow : PrRow u5 u5.heap.size (some ⟨w.heap.size + 4, 0, none⟩) [⟨some ⟨w.heap.size, 0, none⟩, 2, [97, 98], some ⟨w.heap.size + 1, 0, none⟩, 1, [1]⟩, ⟨some ⟨w.heap.size + 2, 0, none⟩, 3, [97, 98, 99], some ⟨w.heap.size + 3, 0, none⟩, 1, [2]⟩] := by
    refine ⟨hN.more (by omega), ?_⟩
    intro p hp
    simp at hp
    rcases hp with rfl | rfl
    · exact ⟨h15.more (by omega), by simp, h25.more (by omega), by simp⟩
    · exact ⟨h35.more (by omega), by simp, h45.more (by omega), by simp⟩
  refine (build_any (some ⟨w.heap.size + 4, 0, none⟩) 2 _ 2 u5 hrow (by simp) ⟨by simp, by simp [Pr.pair]⟩).mono ?_
  simp only [List.map_cons, List.map_nil, Pr.pair]
  rw [awake_pairs, ← hus.out]
  rintro e w6 ⟨A6, c6, rfl, hown6, hb6⟩
  obtain ⟨ad, b, hA, hb, hbx, hcell⟩ := hown6.bytes.at_ (k := 6) (by show 6 < us.length; omega)
  have hb6v : b = 2 := by have := hbx.out; rw [hu6] at this; injection this with this; exact this.symm
  subst hA hb6v
  have hbw := hb5.trans (hb6.mono hb5.size)
  dsimp only
  rw [hul]
  have hc0 : w6.cell? ⟨ad.block, ad.off + 6, none⟩ = some (.int .u8 2) := hcell
  clear hu6 hus hown6
  go_wp2
  go_ret
  exact ⟨rfl, hbw⟩

set_option maxRecDepth 100000 in
set_option maxHeartbeats 2000000 in
theorem blockBuilds_any (A : Option Addr) (c : Nat) (l : List Pr) (every : Int) (w : World) (hrow : PrRow w w.heap.size A l) (hll : l.length ≤ 9223372036854775807) :
    Calls Try.prog 3 #[.slice A l.length c, .int .i64 every] w fun e w' => e = .returned (.bool true) ∧ Below w.heap.size w w' := by
  go_enter Try.func3, Try.ntmps3
  go_wp2_with (first | (go_at_call 8; refine (awake_any _).mono ?_; rintro e w1 ⟨rfl, hb1⟩) | (go_at_call 9; refine halted ?_))
  refine go_on ?_
  refine (few_any A c l w1 (hrow.below hb1) hll).mono ?_
  rintro e w2 ⟨hR, hb12⟩
  have hb2 := hb1.trans (hb12.mono hb1.size)
  rcases hR with rfl | ⟨rfl, HF⟩
  · clear hrow
    go_wp2
    go_ret
    exact ⟨rfl, hb2⟩
  go_wp2_with (go_at_call 10; refine halted ?_)
  refine go_on ?_
  refine (build_any A c l every w2 (hrow.below hb2) hll HF.out).mono ?_
  have hrb := fun W (hb : Below w.heap.size w W) => rbuild_any A c l every W (hrow.below hb) hll HF.out
  generalize buildR every (l.map Pr.pair) = r at *
  obtain ⟨us, er⟩ := r
  have HRB := hide hrb
  clear hrb hrow
  rintro e w3 ⟨A3, c3, rfl, hown3, hb23⟩
  have hb3 := hb2.trans (hb23.mono hb2.size)
  dsimp only at *
  go_wp2_with (go_at_call 11; refine halted ?_)
  refine go_on ?_
  refine (HRB.out w3 hb3).mono ?_
  rintro e w4 ⟨A4, c4, rfl, hown4, hb34⟩
  have hb4 := hb3.trans (hb34.mono hb3.size)
  dsimp only at *
  have k1 := run_str (P := Try.prog) (dst := 9) (c := c3) Try.underlying25 Try.underlying5 Try.underlying9 (hown3.bytes.below hb34) rfl
  have k2 := run_str (P := Try.prog) (dst := 9) (c := c4) Try.underlying25 Try.underlying5 Try.underlying9 hown4.bytes rfl
  clear hown3 hown4 HRB HF hb12 hb23 hb34
  go_wp2
  go_ret
  exact ⟨rfl, hb4⟩

set_option maxRecDepth 100000 in
set_option maxHeartbeats 2000000 in
theorem blockShorter_any (A : Option Addr) (c : Nat) (l : List Pr) (every times : Int) (w : World) (hrow : PrRow w w.heap.size A l) (hll : l.length ≤ 9223372036854775807) :
    Calls Try.prog 4 #[.slice A l.length c, .int .i64 every, .int .i64 times] w fun e w' => e = .returned (.bool true) ∧ Below w.heap.size w w' := by
  go_enter Try.func4, Try.ntmps4
  go_wp2_with (first | (go_at_call 8; refine (awake_any _).mono ?_; rintro e w1 ⟨rfl, hb1⟩) | (go_at_call 9; refine halted ?_))
  refine go_on ?_
  refine (few_any A c l w1 (hrow.below hb1) hll).mono ?_
  rintro e w2 ⟨hR, hb12⟩
  have hb2 := hb1.trans (hb12.mono hb1.size)
  rcases hR with rfl | ⟨rfl, HF⟩
  · clear hrow
    go_wp2
    go_ret
    exact ⟨rfl, hb2⟩
  by_cases hbad : every < 1 ∨ 64 < every ∨ times < 1 ∨ 64 < times
  · clear hrow
    by_cases h1 : every < 1
    · go_wp2
      go_ret
      exact ⟨rfl, hb2⟩
    by_cases h2 : 64 < every
    · go_wp2
      go_ret
      exact ⟨rfl, hb2⟩
    by_cases h3 : times < 1
    · go_wp2
      go_ret
      exact ⟨rfl, hb2⟩
    · have h4 : 64 < times := by omega
      clear hbad
      go_wp2
      go_ret
      exact ⟨rfl, hb2⟩
  obtain ⟨E, rfl⟩ := Int.eq_ofNat_of_zero_le (show 0 ≤ every by omega)
  obtain ⟨T, rfl⟩ := Int.eq_ofNat_of_zero_le (show 0 ≤ times by omega)
  have hE0 : 1 ≤ E := by omega
  have hE1 : E ≤ 64 := by omega
  have hT0 : 1 ≤ T := by omega
  have hT1 : T ≤ 64 := by omega
  clear hbad
  have hm : E * T ≤ 64 * 64 := Nat.mul_le_mul hE1 hT1
  obtain ⟨M, hM⟩ : ∃ M, M = E * T := ⟨_, rfl⟩
  have hMI : (E : Int) * (T : Int) = (M : Int) := by rw [hM]; exact_mod_cast rfl
  have hM1 : M ≤ 4096 := by omega
  have hM0 : 1 ≤ M := by rw [hM]; exact Nat.mul_pos hE0 hT0
  have HM := hide hM
  clear hM hm
  by_cases hbig : 64 < M
  · clear hrow
    go_wp2
    go_ret
    exact ⟨rfl, hb2⟩
  have hlen : l.length ≤ 2000 := by have := HF.out.1; rwa [List.length_map] at this
  have hboth : Hid (∃ er, (buildR (E : Int) (l.map Pr.pair)).2 = er ∧ (buildR (M : Int) (l.map Pr.pair)).2 = er ∧ (buildR (M : Int) (l.map Pr.pair)).1.length ≤ (buildR (E : Int) (l.map Pr.pair)).1.length) := by
    by_cases hr : Rises (l.map Pr.pair) (l.map Pr.pair).length
    · have e1 : ∀ K : Nat, 1 ≤ K → K ≤ 64 → buildR (K : Int) (l.map Pr.pair) = (builtB K (l.map Pr.pair), 0) := by
        intro K h1 h2
        unfold buildR
        rw [if_neg (by rw [List.length_map]; omega), Int.toNat_natCast, if_pos hr]
      rw [e1 E hE0 hE1, e1 M hM0 (by omega)]
      exact ⟨0, rfl, rfl, by rw [HM.out]; exact built_shorter E T _⟩
    · have e1 : ∀ K : Nat, 1 ≤ K → K ≤ 64 → buildR (K : Int) (l.map Pr.pair) = ([], 10) := by
        intro K h1 h2
        unfold buildR
        rw [if_neg (by rw [List.length_map]; omega), if_neg hr]
      rw [e1 E hE0 hE1, e1 M hM0 (by omega)]
      exact ⟨10, rfl, rfl, Nat.le_refl _⟩
  go_wp2_with (go_at_call 10; refine halted ?_)
  refine go_on ?_
  refine (build_any A c l (E : Int) w2 (hrow.below hb2) hll HF.out).mono ?_
  have hrb := fun W (hb : Below w.heap.size w W) => build_any A c l (M : Int) W (hrow.below hb) hll HF.out
  generalize buildR (E : Int) (l.map Pr.pair) = r at *
  generalize buildR (M : Int) (l.map Pr.pair) = r2 at *
  obtain ⟨us, er⟩ := r
  obtain ⟨us2, er2⟩ := r2
  obtain ⟨er0, b1, b2, b3⟩ := hboth.out
  dsimp only at b1 b2 b3
  subst b1 b2
  have HRB := hide hrb
  clear hrb hrow hboth
  rintro e w3 ⟨A3, c3, rfl, hown3, hb23⟩
  have hb3 := hb2.trans (hb23.mono hb2.size)
  dsimp only at *
  go_wp2_with (go_at_call 10; refine halted ?_)
  refine go_on ?_
  refine (HRB.out w3 hb3).mono ?_
  rintro e w4 ⟨A4, c4, rfl, hown4, hb34⟩
  have hb4 := hb3.trans (hb34.mono hb3.size)
  dsimp only at *
  clear hown3 hown4 HRB HF hb12 hb23 hb34
  go_wp2
  go_ret
  exact ⟨rfl, hb4⟩
end Go.Proofs.Yteagjjiggneheaa
