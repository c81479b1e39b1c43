/-
  frame.Put and the reference's: what they do.
-/
import Derived.Test.YtikfiicjgcnljaaCode
import Derived.Test.YtikfiicjgcnljaaSum
import Derived.Test.YtikfiicjgcnljaaFrameMath
namespace Go.Proofs.Ytikfiicjgcnljaa
open Go.RowKit
set_option linter.unusedVariables false

theorem sum_n (A : Option Addr) (B c n : Nat) (bs : List UInt8) (w : World) (hn : bs.length = n) (hr : Bytes w B A bs) (hB : B ≤ w.heap.size) (hl : bs.length ≤ 4611686018427387904) :
    Calls Try.prog 19 #[.slice A n c] w fun e w' => e = .returned (.int .u32 (addS 0 bs : Int)) ∧ Below w.heap.size w w' := by
  subst hn
  exact sum_any A B c bs w hr hB hl

/-- A slice just made and an error. -/
def NewB2 (w w' : World) (e : Ending) (r : List UInt8 × Int) : Prop :=
  ∃ A c, e = .returned (.tuple #[.slice A r.1.length c, .int .i64 r.2]) ∧ OwnB w' w.heap.size 5 A c r.1 ∧ Below w.heap.size w w'

theorem low_byte' (x : Nat) (h : x < 256) : ((UInt8.ofNat x).toNat : Int) = (x : Int) := by simp; omega

/-- The loop of frame.Put. -/
def PutRel (pre : List UInt8) (s : Nat) (w : World) (v i : Value) (wr : World) : Prop :=
  ∃ (k : Nat) (bs : List UInt8) (A : Option Addr) (c : Nat), k ≤ 4 ∧ i = .int .i64 (k : Int) ∧ v = .slice A bs.length c ∧ Hid (bs = pre ++ (four s).take k) ∧ bs.length ≤ 100000 ∧ OwnB wr w.heap.size 5 A c bs ∧ Below w.heap.size w wr

theorem put_any (kd : UInt8) (A : Option Addr) (B c n : Nat) (bs : List UInt8) (w : World) (hn : bs.length = n) (hr : Bytes w B A bs) (hB : B ≤ w.heap.size) (hl : bs.length ≤ 140737488355000) :
    Calls Try.prog 10 #[.int .u8 (kd.toNat : Int), .slice A n c] w fun e w' => NewB2 w w' e (putR kd bs) := by
  subst hn
  by_cases hL : bs.length ≤ 65536
  · have HP := hide (putR_ok (k := kd) hL)
    have hk0 : 0 ≤ (kd.toNat : Int) := by omega
    have hk1 := kd.toNat_lt
    have ht := fun (w0 : World) (h0 : Below w.heap.size w w0) => text_any A B c _ bs w0 rfl (hr.belowLe h0 hB) (Nat.le_trans hB h0.size) hl
    have HT := hide ht
    have htl := hide (textB_len bs)
    clear ht
    have hb0 : Below w.heap.size w (w.alloc (.cells #[.int .u8 (kd.toNat : Int)] 5)) := (Below.refl w.heap.size w).alloc (Nat.le_refl _) _
    have hown0 : OwnB (w.alloc (.cells #[.int .u8 (kd.toNat : Int)] 5)) w.heap.size 5 (some ⟨w.heap.size, 0, none⟩) 1 [kd] := OwnB.lit w 5 [kd] (Nat.le_refl _) (by unfold maxLen; simp)
    go_enter Try.func10, Try.ntmps10
    go_wp2_with (go_at_call 18; refine halted ?_)
    refine go_on ?_
    refine (HT.out _ hb0).mono ?_
    rintro e w1 ⟨A1, c1, rfl, hown1, hb1⟩
    have hown01 := hown0.below hb1 (Nat.le_refl _)
    have hb01 := hb0.trans (hb1.mono hb0.size)
    have hbase := hb01.size
    clear hown0 hb0 hb1
    go_wp2_with (at_builtin; refine halted ?_)
    refine go_on ?_
    refine wpList_append_bytes _ rfl (.tmp 13) (.tmp 15) 22 rfl w.heap.size 5 Try.underlying22 info_u8 _ _ _ [kd] rfl rfl hown01 _ A1 _ c1 (textB bs) rfl rfl hown1.bytes (by have := htl.out; simp; omega) hbase ?_
    intro ds A2 c2 w2 hds hdl hown2 hg _
    have hb2 := hown01.below_grown hb01 hg (Nat.le_refl _) hbase
    have hde : ds = kd :: textB bs := by rw [hds.out]; rfl
    have HDE := hide hde
    have hdl2 : ds.length ≤ 99000 := by have := htl.out; rw [hde]; simp; omega
    have hs := sum_any A2 _ c2 ds w2 hown2.bytes (Nat.le_refl _) (by omega)
    have HS := hide hs
    clear hown01 hb01 hg hds hdl hown1 hde hs
    go_wp2_with (go_at_call 19; refine halted ?_)
    refine go_on ?_
    refine HS.out.mono ?_
    rintro e w3 ⟨rfl, hb3⟩
    have hown3 := hown2.below hb3 (Nat.le_refl _)
    have hb23 := hb2.trans (hb3.mono hb2.size)
    have hs1 := addS_lt 0 ds (by omega)
    obtain ⟨x, hx⟩ : ∃ x : Int, (addS 0 ds : Int) = x := ⟨_, rfl⟩
    rw [hx]
    have x0 : 0 ≤ x := by omega
    have x1 : x < 2147483647 := by omega
    have HX := hide hx
    clear hs1 hb3 hown2 hb2 hx
    go_wp2
    go_loopw [6, 19] (fun v i wr => PutRel ds (addS 0 ds) w v i wr) (fun _ i _ => 4 - (intOf i).toNat)
    case atStart => exact ⟨0, ds, A2, c2, by omega, rfl, rfl, by show _ = _; simp, by omega, hown3, hb23⟩
    case round =>
      obtain ⟨k, us, A4, c4, hk, rfl, rfl, HU, hul, hown4, hb4⟩ := hrel
      by_cases hlt : k < 4
      · obtain ⟨d, hd, hdk⟩ : ∃ d : UInt8, Hid ((four (addS 0 ds))[k]? = some d) ∧ x / 2 ^ (8 * (3 - k)) % 256 = (d.toNat : Int) := by
          refine ⟨_, four_at (addS 0 ds) k hlt, ?_⟩
          rw [low_byte' _ (Nat.mod_lt _ (by omega)), ← HX.out]
          simp
        have HDK := hide hdk
        have hbase := hb4.size
        have HROW := hide (show Bytes (wr.alloc (.cells #[.int .u8 (d.toNat : Int)] 5)) (wr.heap.size + 1) (some ⟨wr.heap.size, 0, none⟩) [d] from Row.new wr #[.int .u8 (d.toNat : Int)] 5 (0, 0))
        have hown5 := hown4.alloc (.cells #[.int .u8 (d.toNat : Int)] 5)
        have hb5 := hb4.alloc hb4.size (.cells #[.int .u8 (d.toNat : Int)] 5)
        clear hdk hown4 hb4 hown3 hb23
        go_wp2_with (at_builtin; refine halted ?_)
        refine go_on ?_
        rw [HDK.out]
        refine wpList_append_bytes _ rfl (.tmp 22) (.tmp 29) 22 rfl w.heap.size 5 Try.underlying22 info_u8 _ _ _ us rfl rfl hown5 _ _ _ _ [d] rfl rfl HROW.out (by simp; omega) (by simp; omega) ?_
        intro vs A6 c6 w6 hvs hvl hown6 hg6 _
        have hb6 := hown5.below_grown hb5 hg6 (Nat.le_refl _) (by simp; omega)
        clear hown5 hb5 hg6
        go_wp2
        go_roundw
        case rel =>
          refine ⟨k + 1, vs, A6, c6, by omega, by go_num, rfl, ?_, ?_, hown6, hb6⟩
          · show _ = _
            rw [hvs.out, HU.out, take_next hd.out, List.append_assoc]
          · rw [hvs.out, HU.out]
            simp [four_len]
            omega
        case measure => simp [intOf]; omega
      · have hk4 : k = 4 := by omega
        have hfin : us = frameB kd bs := by
          rw [HU.out, hk4, List.take_of_length_le (by simp [four_len]), HDE.out]
          rfl
        subst hfin
        clear HU hown3 hb23
        go_wp2
        go_ret2
        exact ⟨A4, c4, by rw [HP.out]; rfl, by rw [HP.out]; exact hown4, hb4⟩
  · have HP := hide (putR_no (k := kd) hL)
    have hLI : 65536 < bs.length := by omega
    clear hL
    go_enter Try.func10, Try.ntmps10
    go_wp2
    go_ret2
    exact ⟨none, 0, by rw [HP.out]; rfl, by rw [HP.out]; exact OwnB.nil _ _ _, Below.refl _ _⟩

theorem rput_any (kd : UInt8) (A : Option Addr) (B c n : Nat) (bs : List UInt8) (w : World) (hn : bs.length = n) (hr : Bytes w B A bs) (hB : B ≤ w.heap.size) (hl : bs.length ≤ 140737488355000) :
    Calls Try.prog 11 #[.int .u8 (kd.toNat : Int), .slice A n c] w fun e w' => NewB2 w w' e (putR kd bs) := by
  subst hn
  by_cases hL : bs.length ≤ 65536
  · have HP := hide (putR_ok (k := kd) hL)
    have hk0 : 0 ≤ (kd.toNat : Int) := by omega
    have hk1 := kd.toNat_lt
    have ht := fun (w0 : World) (h0 : Below w.heap.size w w0) => rtext_any A B c _ bs w0 rfl (hr.belowLe h0 hB) (Nat.le_trans hB h0.size) hl
    have HT := hide ht
    have htl := hide (textB_len bs)
    clear ht
    have hb0 : Below w.heap.size w (w.alloc (.cells #[.int .u8 (kd.toNat : Int)] 5)) := (Below.refl w.heap.size w).alloc (Nat.le_refl _) _
    have hown0 : OwnB (w.alloc (.cells #[.int .u8 (kd.toNat : Int)] 5)) w.heap.size 5 (some ⟨w.heap.size, 0, none⟩) 1 [kd] := OwnB.lit w 5 [kd] (Nat.le_refl _) (by unfold maxLen; simp)
    go_enter Try.func11, Try.ntmps11
    go_wp2_with (go_at_call 20; refine halted ?_)
    refine go_on ?_
    refine (HT.out _ hb0).mono ?_
    rintro e w1 ⟨A1, c1, rfl, hown1, hb1⟩
    have hown01 := hown0.below hb1 (Nat.le_refl _)
    have hb01 := hb0.trans (hb1.mono hb0.size)
    have hbase := hb01.size
    clear hown0 hb0 hb1
    go_wp2_with (at_builtin; refine halted ?_)
    refine go_on ?_
    refine wpList_append_bytes _ rfl (.tmp 12) (.tmp 14) 22 rfl w.heap.size 5 Try.underlying22 info_u8 _ _ _ [kd] rfl rfl hown01 _ A1 _ c1 (textB bs) rfl rfl hown1.bytes (by have := htl.out; simp; omega) hbase ?_
    intro ds A2 c2 w2 hds hdl hown2 hg _
    have hb2 := hown01.below_grown hb01 hg (Nat.le_refl _) hbase
    have hde : ds = kd :: textB bs := by rw [hds.out]; rfl
    have HDE := hide hde
    have hdl2 : ds.length ≤ 99000 := by have := htl.out; rw [hde]; simp; omega
    have hs := rsum_any A2 _ c2 ds w2 hown2.bytes (by omega)
    have HS := hide hs
    clear hown01 hb01 hg hds hdl hown1 hde hs
    go_wp2_with (go_at_call 21; refine halted ?_)
    refine go_on ?_
    refine HS.out.mono ?_
    rintro e w3 ⟨rfl, rfl⟩
    have hs1 := addS_lt 0 ds (by omega)
    obtain ⟨x, hx⟩ : ∃ x : Int, (addS 0 ds : Int) = x := ⟨_, rfl⟩
    rw [hx]
    have x0 : 0 ≤ x := by omega
    have x1 : x < 2147483647 := by omega
    have hf : ∃ a b c d : UInt8, Hid (four (addS 0 ds) = [a, b, c, d]) ∧ x / 16777216 = (a.toNat : Int) ∧ x / 65536 % 256 = (b.toNat : Int) ∧ x / 256 % 256 = (c.toNat : Int) ∧ x % 256 = (d.toNat : Int) := by
      refine ⟨_, _, _, _, rfl, ?_, ?_, ?_, ?_⟩
      · rw [low_byte' _ (Nat.mod_lt _ (by omega)), ← hx]; omega
      · rw [low_byte' _ (Nat.mod_lt _ (by omega)), ← hx]; omega
      · rw [low_byte' _ (Nat.mod_lt _ (by omega)), ← hx]; omega
      · rw [low_byte' _ (Nat.mod_lt _ (by omega)), ← hx]; omega
    obtain ⟨a, b, c', d, hfour, f0, f1, f2, f3⟩ := hf
    have a1 := a.toNat_lt
    have b1 := b.toNat_lt
    have c1 := c'.toNat_lt
    have d1 := d.toNat_lt
    have HF := hide (And.intro f0 (And.intro f1 (And.intro f2 f3)))
    have HX := hide hx
    have HROW := hide (show Bytes (w2.alloc (.cells #[.int .u8 (a.toNat : Int), .int .u8 (b.toNat : Int), .int .u8 (c'.toNat : Int), .int .u8 (d.toNat : Int)] 5)) (w2.heap.size + 1) (some ⟨w2.heap.size, 0, none⟩) [a, b, c', d] from
      Row.new w2 #[.int .u8 (a.toNat : Int), .int .u8 (b.toNat : Int), .int .u8 (c'.toNat : Int), .int .u8 (d.toNat : Int)] 5 (0, 0))
    have hown3 := hown2.alloc (.cells #[.int .u8 (a.toNat : Int), .int .u8 (b.toNat : Int), .int .u8 (c'.toNat : Int), .int .u8 (d.toNat : Int)] 5)
    have hb3 := hb2.alloc hb2.size (.cells #[.int .u8 (a.toNat : Int), .int .u8 (b.toNat : Int), .int .u8 (c'.toNat : Int), .int .u8 (d.toNat : Int)] 5)
    have hbase2 := hb2.size
    clear hs1 hx f0 f1 f2 f3 hown2 hb2
    go_wp2_with (at_builtin; refine halted ?_)
    refine go_on ?_
    rw [HF.out.1, HF.out.2.1, HF.out.2.2.1, HF.out.2.2.2]
    refine wpList_append_bytes _ rfl (.tmp 18) (.tmp 33) 22 rfl w.heap.size 5 Try.underlying22 info_u8 _ _ _ ds rfl rfl hown3 _ _ _ _ [a, b, c', d] rfl rfl HROW.out (by simp; omega) (by simp; omega) ?_
    intro vs A6 c6 w6 hvs hvl hown6 hg6 _
    have hb6 := hown3.below_grown hb3 hg6 (Nat.le_refl _) (by simp; omega)
    have hfin : vs = frameB kd bs := by
      rw [hvs.out, ← hfour.out, HDE.out]; rfl
    subst hfin
    clear hown3 hb3 hg6 hvs
    go_wp2
    go_ret2
    exact ⟨A6, c6, by rw [HP.out]; rfl, by rw [HP.out]; exact hown6, hb6⟩
  · have HP := hide (putR_no (k := kd) hL)
    have hLI : 65536 < bs.length := by omega
    clear hL
    go_enter Try.func11, Try.ntmps11
    go_wp2
    go_ret2
    exact ⟨none, 0, by rw [HP.out]; rfl, by rw [HP.out]; exact OwnB.nil _ _ _, Below.refl _ _⟩
end Go.Proofs.Ytikfiicjgcnljaa
