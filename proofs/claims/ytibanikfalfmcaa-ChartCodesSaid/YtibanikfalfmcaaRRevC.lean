/-
  The reference's Reverse.
-/
import Derived.Test.YtibanikfalfmcaaRRightD
import Derived.Test.YtibanikfalfmcaaNoC
import Derived.Test.YtibanikfalfmcaaDecQ
import Derived.Test.YtibanikfalfmcaaStepRow
namespace Go.Proofs.Ytibanikfalfmcaa
open Go.RowKit
set_option linter.unusedVariables false

/-- A posting that grows by legs. -/
def PgRel (q6 : Nat) (day : Int) (tx : ByteArray) (n : Nat) (f : Nat → List (Int × Int)) (w4 : World) (i : Value) (wr : World) : Prop :=
  ∃ (k : Nat) (A' : Option Addr) (c' : Nat), k ≤ n ∧ i = .int .i64 (k : Int) ∧ wr.heap[q6]? = some (.cells #[.int .i64 day, .string tx, .slice A' k c'] 25 (0, 0)) ∧
    wr.ownsRow (q6 + 1) 51 2 (.slice A' k c') k (legCells (f k)) ∧ Below q6 w4 wr

set_option maxRecDepth 100000 in
set_option maxHeartbeats 4000000 in
theorem rreverse_any (day0 : Int) (tx : ByteArray) (A : Option Addr) (n c : Nat) (ls : List (Int × Int)) (day : Int) (w : World) (hn : ls.length = n) (hr : Row w w.heap.size A (legCells ls)) (hl : n ≤ 1000000) (htx : tx.size ≤ maxLen)
    (hR : rightE day0 tx.size ls = true) (hd : dayOk day = true) :
    Calls Try.prog 22 #[.agg #[.int .i64 day0, .string tx, .slice A n c], .int .i64 day] w fun e w' => ∃ A' c', e = .returned (.tuple #[.agg #[.int .i64 day, .string tx, .slice A' n c'], .int .i64 0]) ∧ Row w' w'.heap.size A' (legCells (negL ls)) ∧ Below w.heap.size w w' := by
  subst hn
  obtain ⟨w2, hw2⟩ : ∃ w2, w2 = (w.alloc (.cells #[.int .i64 day0, .string tx, .slice A ls.length c] 25)).alloc (.cells #[.int .i64 0, .string ⟨#[]⟩, .slice none 0 0] 25) := ⟨_, rfl⟩
  have hb2 : Below w.heap.size w w2 := by rw [hw2]; exact (below_new w _).alloc (by simp) _
  have hz2 : w2.heap.size = w.heap.size + 2 := by rw [hw2]; simp
  have hx1 : w2.heap[w.heap.size]? = some (.cells #[.int .i64 day0, .string tx, .slice A ls.length c] 25 (0, 0)) := by
    rw [hw2]
    exact ((below_new (w.alloc (.cells #[.int .i64 day0, .string tx, .slice A ls.length c] 25)) _).block _ (by simp)).trans (heap_alloc_new w _)
  have hx2 : w2.heap[w.heap.size + 1]? = some (.cells #[.int .i64 0, .string ⟨#[]⟩, .slice none 0 0] 25 (0, 0)) := by
    rw [hw2]
    have := heap_alloc_new (w.alloc (.cells #[.int .i64 day0, .string tx, .slice A ls.length c] 25)) (.cells #[.int .i64 0, .string ⟨#[]⟩, .slice none 0 0] 25)
    simpa using this
  have HRA := hide (rright_any day0 tx A w.heap.size ls.length c ls w2 rfl (hr.belowLe hb2 (Nat.le_refl _)) hb2.size (by omega) htx)
  have HB2 := hide hb2
  have HX1 := hide hx1
  have HX2 := hide hx2
  have HZ2 := hide hz2
  have HLA := hide (legsOk_amt (right_legs hR))
  have HLL := hide (show ls.length ≤ 20 from by unfold rightE at hR; simp only [Bool.and_eq_true, decide_eq_true_eq] at hR; omega)
  have HRT := hide (And.intro hR hd)
  have HR := hide hr
  clear hb2 hx1 hx2 hr hR hd hz2
  go_enter Try.func22, Try.ntmps22
  go_wp2_with (go_at_call 45; refine halted ?_)
  refine go_on ?_
  rw [← hw2]
  clear hw2
  refine HRA.out.mono ?_
  rintro e w3 ⟨rfl, hb3⟩
  rw [HRT.out.1]
  have hb3w : Below w.heap.size w w3 := HB2.out.trans (hb3.mono HB2.out.size)
  have hz3 := hb3.size
  have hz2 := HZ2.out
  have hx1 := (hb3.block _ (by omega)).trans HX1.out
  have hx2 := (hb3.block _ (by omega)).trans HX2.out
  have HX1 := hide hx1
  have HX2 := hide hx2
  have HB3 := hide hb3w
  have HZ3 := hide (show w.heap.size + 2 ≤ w3.heap.size from by omega)
  clear hb3 hb3w hx1 hx2 hz3 hz2 HRA HB2 HZ2
  go_wp2_with (go_at_call 52; refine halted ?_)
  refine go_on ?_
  refine (isDay_any day w3).mono ?_
  rintro e w3' ⟨rfl, rfl⟩
  rw [HRT.out.2]
  have k1 : w3.cell? ⟨w.heap.size, 1, none⟩ = some (.string tx) := Joins.cell_of_block HX1.out 1
  obtain ⟨w4, hw4⟩ : ∃ w4, w4 = w3.alloc (.cells #[.int .i64 day, .string tx, .slice none 0 0] 25) := ⟨_, rfl⟩
  have hb4 : Below w3.heap.size w3 w4 := by rw [hw4]; exact below_new _ _
  have hx6 : w4.heap[w3.heap.size]? = some (.cells #[.int .i64 day, .string tx, .slice none 0 0] 25 (0, 0)) := by rw [hw4]; exact heap_alloc_new _ _
  obtain ⟨q6, hq6⟩ : ∃ q6, q6 = w3.heap.size := ⟨_, rfl⟩
  have HQ6 := hide (show w.heap.size + 2 ≤ q6 from by have := HZ3.out; omega)
  have HB4 := hide (HB3.out.trans (hb4.mono HB3.out.size))
  have hx14 := (hb4.block w.heap.size (by have := HZ3.out; omega)).trans HX1.out
  have hx24 := (hb4.block (w.heap.size + 1) (by have := HZ3.out; omega)).trans HX2.out
  have HX14 := hide hx14
  have HX24 := hide hx24
  rw [← hq6] at hx6
  have HX6 := hide hx6
  clear hb4 hx6 hx14 hx24 HX1 HX2 HZ3 HB3 HRT
  obtain ⟨i1, hj, hw0, hw1', hw2'⟩ := info_parts info_leg
  go_wp2
  rw [← hw4, ← hq6]
  clear hw4 hq6 k1
  go_loopw [9] (fun i wr => PgRel q6 day tx ls.length (fun k => negL (ls.take k)) w4 i wr) (fun i _ => ls.length - (intOf i).toNat)
  case atStart => exact ⟨0, none, 0, Nat.zero_le _, rfl, HX6.out, World.ownsRow_nil _ _ _ _, Below.refl _ _⟩
  case round =>
    obtain ⟨k, A', c', hk, rfl, hx6, hown, hb⟩ := hrel
    have hl6 := (Array.getElem?_eq_some_iff.1 hx6).1
    have hl4 := (Array.getElem?_eq_some_iff.1 HX6.out).1
    have hx1 := (hb.block w.heap.size (by have := HQ6.out; omega)).trans HX14.out
    have b2 : wr.cell? ⟨w.heap.size, 2, none⟩ = some (.slice A ls.length c) := Joins.cell_of_block hx1 2
    by_cases hlt : k < ls.length
    · have hrow : Row wr w.heap.size A (legCells ls) := HR.out.belowLe (HB4.out.trans (hb.mono (by have := HQ6.out; omega))) (Nat.le_refl _)
      obtain ⟨ad, a, m, rfl, hadb, hx, ha, hm⟩ := hrow.leg hlt
      have hma := (amt_iff _).1 (HLA.out _ (List.mem_of_getElem? hx.out))
      dsimp only at hma
      have hneg : IntKind.i64.wrap (-m) = -m := by rw [IntKind.wrap_i64]; omega
      have b3 : wr.cell? ⟨q6, 2, none⟩ = some (.slice A' k c') := Joins.cell_of_block hx6 2
      have hlt' : (k : Int) < (ls.length : Int) := by omega
      have HX6R := hide hx6
      have HOWN := hide hown
      have HB := hide hb
      have HX1R := hide hx1
      have hlow : ∀ j, InRow A' j → q6 + 1 ≤ j ∧ j < wr.heap.size := fun j hj => World.ownsRow.lt hown j (by rw [ownBlock_slice]; exact hj)
      have HLOW := hide hlow
      have hadw : ad.block < wr.heap.size := by have := HQ6.out; omega
      have hk20 := HLL.out
      have hl6' : q6 + 1 ≤ wr.heap.size := hl6
      clear hx6 hown hb hx1 hrow hlow
      go_wp2
      go_region_law
        (first
          | (refine step_append_own _ rfl (.tmp 33) (.tmp 48) 23 rfl (q6 + 1) 51 i1 _ 2 16 Try.underlying23 hj hw0 hw1' hw2' rfl (by decide) A' k c' (legCells (negL (ls.take k))) rfl (World.ownsRow.alloc (World.ownsRow.drew HOWN.out) _) _ _ 1 _ [.int .i64 a, .int .i64 (-m)] rfl rfl (Row.new wr.drew #[.int .i64 a, .int .i64 (-m)] 51 (0, 0)) (by intro u hu; simp at hu; rcases hu with rfl | rfl <;> rfl) (by unfold maxLen; omega) (by omega) (by simp; omega) ?_
             intro n' xs' A5 c5 w5 hn' hxs' hnc _ hown5 hg5 hat5
             have hk5 : Kept (fun j => InRow A' j) wr w5 := ((Kept.of_below (below_dN (Below.refl _ _) 1)).alloc _).trans (Kept.of_grown hg5 (fun j e => e))
             have hbx5 : w5.heap[q6]? = some (.cells #[.int .i64 day, .string tx, .slice A' k c'] 25 (0, 0)) := (hk5.block q6 hl6 (fun e => by have := HLOW.out q6 e; omega)).trans HX6R.out
             have hc5 : w5.cell? ⟨q6, 2, none⟩ = some (.slice A' k c') := Joins.cell_of_block hbx5 2
             have hf5 : w5.frozen? ⟨q6, 2, none⟩ = false := Joins.unfrozen_of_block hbx5 2))
      all_goals
        obtain rfl : n' = k + 1 := hn'.out
        have ex : xs' = legCells (negL (ls.take (k + 1))) := by rw [hxs'.out, take_next hx.out]; unfold negL; rw [List.map_append, legCells_append]; rfl
        rw [ex] at hown5
        have hx6g := Joins.block_setCell (i := 2) hbx5 (.slice A5 (k + 1) c5)
        simp at hx6g
        have hkg : Kept (fun j => j = q6) w5 (w5.setCell ⟨q6, 2, none⟩ (.slice A5 (k + 1) c5)) := Kept.set (S := fun j => j = q6) w5 rfl 2 _
        have hlow5 : ∀ j, InRow A5 j → q6 + 1 ≤ j ∧ j < w5.heap.size := fun j hj => World.ownsRow.lt hown5 j (by rw [ownBlock_slice]; exact hj)
        have hkw : Kept (fun j => InRow A' j ∨ j = q6) wr (w5.setCell ⟨q6, 2, none⟩ (.slice A5 (k + 1) c5)) := (hk5.wider fun j _ e => .inl e).trans (hkg.wider fun j _ e => .inr e)
        have hrel2 : PgRel q6 day tx ls.length (fun k => negL (ls.take k)) w4 (.int .i64 ((k : Int) + 1)) (w5.setCell ⟨q6, 2, none⟩ (.slice A5 (k + 1) c5)) :=
          ⟨k + 1, A5, c5, hlt, by simp, hx6g, hkg.own hown5 (fun j hj e => by have := hlow5 j hj; omega), HB.out.trans (hkw.below (fun j hj => by
            rcases hj with h | h
            · have := HLOW.out j h; omega
            · omega) (by omega))⟩
        have HR2 := hide hrel2
        clear hn' hxs' hown5 hg5 hat5 ex hx6g hkg hlow5 hkw hrel2 hk5 hbx5 hc5 hf5
        go_wp2
        case roundEnd => exact ⟨HR2.out, by simp [intOf]; omega⟩
    · have hkE : k = ls.length := by omega
      subst hkE
      have hx5 := (hb.block (w.heap.size + 1) (by have := HQ6.out; omega)).trans HX24.out
      dsimp only at hown
      rw [List.take_of_length_le (Nat.le_refl _)] at hown
      have hbw : Below w.heap.size w wr := HB4.out.trans (hb.mono (by have := HQ6.out; omega))
      have hlow : ∀ j, InRow A' j → q6 + 1 ≤ j := fun j hj => (World.ownsRow.lt hown j (by rw [ownBlock_slice]; exact hj)).1
      have hrow : ∀ W, Kept (fun k => k = w.heap.size + 1) wr W → Row W W.heap.size A' (legCells (negL ls)) := fun W hW =>
        Row.of_own (hW.own hown (fun j hj e => by have := hlow j hj; have := HQ6.out; omega))
      have b0 : wr.cell? ⟨q6, 0, none⟩ = some (.int .i64 day) := Joins.cell_of_block hx6 0
      have b1 : wr.cell? ⟨q6, 1, none⟩ = some (.string tx) := Joins.cell_of_block hx6 1
      have b3 : wr.cell? ⟨q6, 2, none⟩ = some (.slice A' ls.length c') := Joins.cell_of_block hx6 2
      have d0 : wr.cell? ⟨w.heap.size + 1, 0, none⟩ = some (.int .i64 0) := Joins.cell_of_block hx5 0
      have d1 : wr.cell? ⟨w.heap.size + 1, 1, none⟩ = some (.string ⟨#[]⟩) := Joins.cell_of_block hx5 1
      have d2 : wr.cell? ⟨w.heap.size + 1, 2, none⟩ = some (.slice none 0 0) := Joins.cell_of_block hx5 2
      have s0 : wr.frozen? ⟨w.heap.size + 1, 0, none⟩ = false := Joins.unfrozen_of_block hx5 0
      have hy6 := Joins.block_setCell (i := 0) hx5 (.int .i64 day)
      have s1 : (wr.setCell ⟨w.heap.size + 1, 0, none⟩ (.int .i64 day)).frozen? ⟨w.heap.size + 1, 1, none⟩ = false := Joins.unfrozen_of_block hy6 1
      have hy7 := Joins.block_setCell (i := 1) hy6 (.string tx)
      have s2 := Joins.unfrozen_of_block hy7 2
      have hy8 := Joins.block_setCell (i := 2) hy7 (.slice A' ls.length c')
      have e0 := Joins.cell_of_block hy8 0
      have e1 := Joins.cell_of_block hy8 1
      have e2 := Joins.cell_of_block hy8 2
      simp at e0 e1 e2 s2
      have hk8 : Kept (fun k => k = w.heap.size + 1) wr (((wr.setCell ⟨w.heap.size + 1, 0, none⟩ (.int .i64 day)).setCell ⟨w.heap.size + 1, 1, none⟩ (.string tx)).setCell ⟨w.heap.size + 1, 2, none⟩ (.slice A' ls.length c')) := ((Kept.set (S := fun k => k = w.heap.size + 1) wr rfl 0 _).trans (Kept.set (S := fun k => k = w.heap.size + 1) _ rfl 1 _)).trans (Kept.set (S := fun k => k = w.heap.size + 1) _ rfl 2 _)
      have HRW := hide (hrow _ hk8)
      have HB8 := hide (hbw.trans (hk8.below (fun j hj => by omega) hbw.size))
      clear hx5 hx6 hy6 hy7 hy8 hrow hk8 hown hb hbw hlt hk hx1 hlow
      go_wp2
      refine bodyPost_ret (v := .tuple #[.agg #[.int .i64 day, .string tx, .slice A' ls.length c'], .int .i64 0]) (by rw [results_cell_tmp rfl]; go_simp) rfl ?_
      exact ⟨_, _, rfl, HRW.out, HB8.out⟩

set_option maxRecDepth 100000 in
set_option maxHeartbeats 2000000 in
theorem rreverse_no (day0 : Int) (tx : ByteArray) (A : Option Addr) (n c : Nat) (ls : List (Int × Int)) (day : Int) (w : World) (hn : ls.length = n) (hr : Row w w.heap.size A (legCells ls)) (hl : n ≤ 1000000) (htx : tx.size ≤ maxLen)
    (hR : rightE day0 tx.size ls = false ∨ dayOk day = false) :
    Calls Try.prog 22 #[.agg #[.int .i64 day0, .string tx, .slice A n c], .int .i64 day] w fun e w' => e = .returned (.tuple #[.agg #[.int .i64 0, .string ⟨#[]⟩, .slice none 0 0], .int .i64 1]) ∧ Below w.heap.size w w' := by
  subst hn
  obtain ⟨w2, hw2⟩ : ∃ w2, w2 = (w.alloc (.cells #[.int .i64 day0, .string tx, .slice A ls.length c] 25)).alloc (.cells #[.int .i64 0, .string ⟨#[]⟩, .slice none 0 0] 25) := ⟨_, rfl⟩
  have hb2 : Below w.heap.size w w2 := by rw [hw2]; exact (below_new w _).alloc (by simp) _
  have hz2 : w2.heap.size = w.heap.size + 2 := by rw [hw2]; simp
  have hx2 : w2.heap[w.heap.size + 1]? = some (.cells #[.int .i64 0, .string ⟨#[]⟩, .slice none 0 0] 25 (0, 0)) := by
    rw [hw2]
    have := heap_alloc_new (w.alloc (.cells #[.int .i64 day0, .string tx, .slice A ls.length c] 25)) (.cells #[.int .i64 0, .string ⟨#[]⟩, .slice none 0 0] 25)
    simpa using this
  have HRA := hide (rright_any day0 tx A w.heap.size ls.length c ls w2 rfl (hr.belowLe hb2 (Nat.le_refl _)) hb2.size (by omega) htx)
  have HB2 := hide hb2
  have HX2 := hide hx2
  have HZ2 := hide hz2
  have HBAD := hide (show rightE day0 tx.size ls = true → dayOk day = true → False from fun h1 h2 => by
    rcases hR with h | h
    · rw [h1] at h; cases h
    · rw [h2] at h; cases h)
  clear hb2 hx2 hr hz2 hR
  generalize rightE day0 tx.size ls = R1 at *
  go_enter Try.func22, Try.ntmps22
  go_wp2_with (go_at_call 45; refine halted ?_)
  refine go_on ?_
  rw [← hw2]
  clear hw2
  refine HRA.out.mono ?_
  rintro e w3 ⟨rfl, hb3⟩
  go_wp2_with (go_at_call 52; refine halted ?_)
  refine go_on ?_
  refine (isDay_any day w3).mono ?_
  rintro e w3' ⟨rfl, rfl⟩
  generalize dayOk day = R2 at *
  have hx := (hb3.block (w.heap.size + 1) (by have := HZ2.out; omega)).trans HX2.out
  have hbw := HB2.out.trans (hb3.mono HB2.out.size)
  have d0 := Joins.cell_of_block hx 0
  have d1 := Joins.cell_of_block hx 1
  have d2 := Joins.cell_of_block hx 2
  have s0 : w3.frozen? ⟨w.heap.size + 1, 0, none⟩ = false := Joins.unfrozen_of_block hx 0
  have hx6 := Joins.block_setCell (i := 0) hx (.int .i64 0)
  have s1 := Joins.unfrozen_of_block hx6 1
  have hx7 := Joins.block_setCell (i := 1) hx6 (.string ⟨#[]⟩)
  have s2 := Joins.unfrozen_of_block hx7 2
  have hx8 := Joins.block_setCell (i := 2) hx7 (.slice none 0 0)
  have e0 := Joins.cell_of_block hx8 0
  have e1 := Joins.cell_of_block hx8 1
  have e2 := Joins.cell_of_block hx8 2
  simp at d0 d1 d2 e0 e1 e2
  have hk8 : Kept (fun k => k = w.heap.size + 1) w3 (((w3.setCell ⟨w.heap.size + 1, 0, none⟩ (.int .i64 0)).setCell ⟨w.heap.size + 1, 1, none⟩ (.string ⟨#[]⟩)).setCell ⟨w.heap.size + 1, 2, none⟩ (.slice none 0 0)) := ((Kept.set (S := fun k => k = w.heap.size + 1) w3 rfl 0 _).trans (Kept.set (S := fun k => k = w.heap.size + 1) _ rfl 1 _)).trans (Kept.set (S := fun k => k = w.heap.size + 1) _ rfl 2 _)
  have HB8 := hide (hbw.trans (hk8.below (fun j hj => by omega) hbw.size))
  clear hx hx6 hx7 hx8 hk8 hbw hb3 HRA HX2 HB2 HZ2
  cases R1 with
  | false =>
    go_wp2
    refine bodyPost_ret (v := .tuple #[.agg #[.int .i64 0, .string ⟨#[]⟩, .slice none 0 0], .int .i64 1]) (by rw [results_cell_tmp rfl]; go_simp) rfl ?_
    exact ⟨rfl, HB8.out⟩
  | true =>
    cases R2 with
    | true => exact (HBAD.out rfl rfl).elim
    | false =>
      go_wp2
      refine bodyPost_ret (v := .tuple #[.agg #[.int .i64 0, .string ⟨#[]⟩, .slice none 0 0], .int .i64 1]) (by rw [results_cell_tmp rfl]; go_simp) rfl ?_
      exact ⟨rfl, HB8.out⟩
end Go.Proofs.Ytibanikfalfmcaa
