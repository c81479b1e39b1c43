/-
  chart.Decode's number: what it takes from any bytes.
-/
import Derived.Test.YtibanikfalfmcaaDecC1
import Derived.Test.YtibanikfalfmcaaDecQ
namespace Go.Proofs.Ytibanikfalfmcaa
open Go.RowKit
set_option linter.unusedVariables false

/-- The state of a decoding that failed: what is left, in its box; not all is fine. -/
structure Df (q1 q4 : Nat) (X : Nat → Prop) (bs : List UInt8) (A : Option Addr) (c : Nat) (W : World) : Prop where
  box : Boxed W q1 40 (.slice A bs.length c)
  fine : Boxed W q4 4 (.bool false)
  row : Bytes W W.heap.size A bs
  cap : bs.length ≤ c
  away : Away X A bs

theorem Df.kept {q1 q4 : Nat} {X : Nat → Prop} {bs : List UInt8} {A : Option Addr} {c : Nat} {W W' : World} (h : Df q1 q4 X bs A c W) {S : Nat → Prop} (hk : Kept S W W') (hS : ∀ k, S k → X k) (h1 : ¬ S q1) (h4 : ¬ S q4) : Df q1 q4 X bs A c W' :=
  ⟨(hk.block _ h.box.lt h1).trans h.box, (hk.block _ h.fine.lt h4).trans h.fine, (hk.bytes h.row (Nat.le_refl _) (h.away.less hS)).more hk.size, h.cap, h.away⟩

set_option maxRecDepth 100000 in
set_option maxHeartbeats 2000000 in
theorem dnumY_any (q1 q4 : Nat) (X : Nat → Prop) (x : Nat) (bs r : List UInt8) (most : Int) (A : Option Addr) (c : Nat) (W : World) (h : Dc q1 q4 X bs A c W) (hX : ∀ k, X k → k < W.heap.size) (hq : q1 ≠ q4) (h1 : X q1) (h4 : X q4) (hl : bs.length ≤ 140737488355000) (hT : numQ most bs = some (x, r)) (hm : most ≤ 9223372036854775807) :
    Calls Try.prog 39 #[.int .i64 most, .pointer (some ⟨q1, 0, none⟩), .pointer (some ⟨q4, 0, none⟩)] W fun e W' => e = .returned (.int .i64 (x : Int)) ∧ (∃ A' c', Dc q1 q4 X r A' c' W') ∧ Kept (fun k => k = q1 ∨ k = q4) W W' := by
  have htn := takeNumber_any A W.heap.size c _ bs W rfl h.row (Nat.le_refl _) hl h.cap h.away hX
  obtain ⟨hT1, hx⟩ := numQ_some hT
  rw [hT1] at htn
  have HN := hide htn
  have k1 := h.box.cell
  have H := hide h
  have hw : IntKind.u64.wrap most = most := by rw [wrap_u64]; omega
  have hw2 : IntKind.i64.wrap (x : Int) = (x : Int) := by rw [IntKind.wrap_i64]; omega
  have HX := hide h1
  have HX4 := hide h4
  clear htn h hX h1 h4 hT hT1
  generalize hbl : bs.length = bl at *
  go_enter Try.func39, Try.ntmps39
  go_wp2_with (go_at_call 40; refine halted ?_)
  refine go_on ?_
  refine HN.out.mono ?_
  rintro e w1 ⟨A1, c1, rfl, hr1, hc1, hb1, haw1⟩
  dsimp only [tookR] at *
  have hbox1 : Boxed w1 q1 40 _ := (hb1.block q1 H.out.box.lt).trans H.out.box
  have hfin1 : Boxed w1 q4 4 _ := (hb1.block q4 H.out.fine.lt).trans H.out.fine
  have f4 := hfin1.frozen
  have c4 := hfin1.cell
  have hfin2 := hfin1.set (.bool true)
  have hbox2 := hbox1.other hq (.bool true)
  have f1 := hbox2.frozen
  have c42 := hfin2.cell
  have c41 := hbox2.cell
  have hbox3 := hbox2.set (.slice A1 r.length c1)
  have hfin3 := hfin2.other hq.symm (.slice A1 r.length c1)
  have hk3 : Kept (fun k => k = q1 ∨ k = q4) w1 ((w1.setCell ⟨q4, 0, none⟩ (.bool true)).setCell ⟨q1, 0, none⟩ (.slice A1 r.length c1)) := (Kept.set (S := fun k => k = q1 ∨ k = q4) w1 (.inr rfl) 0 _).trans (Kept.set (S := fun k => k = q1 ∨ k = q4) _ (.inl rfl) 0 _)
  have hdc : Dc q1 q4 X r A1 c1 ((w1.setCell ⟨q4, 0, none⟩ (.bool true)).setCell ⟨q1, 0, none⟩ (.slice A1 r.length c1)) := ⟨hbox3, hfin3, (hk3.bytes hr1 (Nat.le_refl _) (haw1.less (fun k hk => by
    rcases hk with rfl | rfl
    · exact HX.out
    · exact HX4.out))).more hk3.size, hc1, haw1⟩
  have HF := hide hdc
  have HK := hide ((Kept.of_below (S := fun k => k = q1 ∨ k = q4) hb1).trans hk3)
  have f1' : (w1.setCell ⟨q4, 0, none⟩ (.bool true)).frozen? ⟨q1, 0, none⟩ = false := f1
  clear f1
  clear hbox1 hfin1 hfin2 hbox2 hbox3 hfin3 hk3 hdc hr1 hc1 hb1 haw1 H HN k1
  go_wp2
  go_ret
  exact ⟨rfl, ⟨A1, c1, HF.out⟩, HK.out⟩

set_option maxRecDepth 100000 in
set_option maxHeartbeats 2000000 in
theorem dnumN_any (q1 q4 : Nat) (X : Nat → Prop) (bs : List UInt8) (most : Int) (A : Option Addr) (c : Nat) (W : World) (h : Dc q1 q4 X bs A c W) (hX : ∀ k, X k → k < W.heap.size) (hq : q1 ≠ q4) (h1 : X q1) (h4 : X q4) (hl : bs.length ≤ 140737488355000) (hT : numQ most bs = none) (hm : most ≤ 9223372036854775807) (hm0 : 0 ≤ most) :
    Calls Try.prog 39 #[.int .i64 most, .pointer (some ⟨q1, 0, none⟩), .pointer (some ⟨q4, 0, none⟩)] W fun e W' => e = .returned (.int .i64 0) ∧ Df q1 q4 X bs A c W' ∧ Kept (fun k => k = q1 ∨ k = q4) W W' := by
  have htn := takeNumber_any A W.heap.size c _ bs W rfl h.row (Nat.le_refl _) hl h.cap h.away hX
  have k1 := h.box.cell
  have H := hide h
  have hw : IntKind.u64.wrap most = most := by rw [wrap_u64]; omega
  have HEND := hide (show ∀ w1, Below W.heap.size W w1 → w1.cell? ⟨q4, 0, none⟩ = some (.bool true) ∧ w1.frozen? ⟨q4, 0, none⟩ = false ∧ (w1.setCell ⟨q4, 0, none⟩ (.bool false)).cell? ⟨q4, 0, none⟩ = some (.bool false) ∧ Hid (Df q1 q4 X bs A c (w1.setCell ⟨q4, 0, none⟩ (.bool false))) ∧ Hid (Kept (fun k => k = q1 ∨ k = q4) W (w1.setCell ⟨q4, 0, none⟩ (.bool false))) from fun w1 hb1 => by
    have hbox1 : Boxed w1 q1 40 _ := (hb1.block q1 h.box.lt).trans h.box
    have hfin1 : Boxed w1 q4 4 _ := (hb1.block q4 h.fine.lt).trans h.fine
    have hfin2 := hfin1.set (.bool false)
    have hk2 : Kept (fun k => k = q4) w1 (w1.setCell ⟨q4, 0, none⟩ (.bool false)) := Kept.set (S := fun k => k = q4) w1 rfl 0 _
    have hbox2 := hbox1.other hq (.bool false)
    have hrow1 : Bytes w1 w1.heap.size A bs := (h.row.below hb1).more hb1.size
    refine ⟨hfin1.cell, hfin1.frozen, hfin2.cell, ⟨hbox2, hfin2, (hk2.bytes hrow1 (Nat.le_refl _) (h.away.less (fun k hk => by subst hk; exact h4))).more hk2.size, h.cap, h.away⟩, (Kept.of_below hb1).trans (hk2.wider fun k _ e => .inr e)⟩)
  cases hT1 : takeN bs with
  | none =>
    rw [hT1] at htn
    have HN := hide htn
    clear htn h hX h1 h4 hT hT1
    generalize hbl : bs.length = bl at *
    go_enter Try.func39, Try.ntmps39
    go_wp2_with (go_at_call 40; refine halted ?_)
    refine go_on ?_
    refine HN.out.mono ?_
    rintro e w1 ⟨A1, c1, rfl, hr1, hc1, hb1, haw1⟩
    dsimp only [tookR] at *
    obtain ⟨c4, f4, c5, hdf, hkp⟩ := HEND.out w1 hb1
    clear hr1 hc1 hb1 haw1 H HN k1 HEND
    go_wp2
    go_ret
    exact ⟨rfl, hdf.out, hkp.out⟩
  | some y =>
    obtain ⟨m, r⟩ := y
    rw [hT1] at htn
    have HN := hide htn
    have hlt := takeN_lt hT1
    have hno : most < (m : Int) := by
      rcases Int.lt_or_le most (m : Int) with h0 | h0
      · exact h0
      · rw [numQ_yes hT1 h0] at hT; cases hT
    obtain ⟨y, hy⟩ : ∃ y : Int, y = (m : Int) := ⟨_, rfl⟩
    have hy1 : most < y := by omega
    have hy2 : y < 18446744073709551616 := by omega
    have hyd : decide (y ≤ most) = false := by simp; omega
    have HY := hide hy
    clear htn h hX h1 h4 hT hT1 hlt hno hy
    generalize hbl : bs.length = bl at *
    go_enter Try.func39, Try.ntmps39
    go_wp2_with (go_at_call 40; refine halted ?_)
    refine go_on ?_
    refine HN.out.mono ?_
    rintro e w1 ⟨A1, c1, rfl, hr1, hc1, hb1, haw1⟩
    dsimp only [tookR] at *
    obtain ⟨c4, f4, c5, hdf, hkp⟩ := HEND.out w1 hb1
    rw [← HY.out]
    clear hr1 hc1 hb1 haw1 H HN k1 HEND
    go_wp2
    go_ret
    exact ⟨rfl, hdf.out, hkp.out⟩
end Go.Proofs.Ytibanikfalfmcaa
