/-
  chart.Encode and chart.Reverse of a posting that is not right.
-/
import Derived.Test.YtibanikfalfmcaaRevC
namespace Go.Proofs.Ytibanikfalfmcaa
open Go.RowKit
set_option linter.unusedVariables false

set_option maxRecDepth 100000 in
set_option maxHeartbeats 2000000 in
theorem encodeC_no (day : Int) (tx : ByteArray) (A : Option Addr) (n c : Nat) (ls : List (Int × Int)) (w : World) (hn : ls.length = n) (hr : Row w w.heap.size A (legCells ls)) (hl : n ≤ 1000000) (hwf : ∀ x ∈ ls, (Lit.int .i64 x.1).wf = true) (htx : tx.size ≤ maxLen)
    (hR : rightE day tx.size ls = false) :
    Calls Try.prog 16 #[.agg #[.int .i64 day, .string tx, .slice A n c]] w fun e w' => e = .returned (.tuple #[.slice none 0 0, .int .i64 1]) ∧ Below w.heap.size w w' := by
  subst hn
  have hb1 := below_new w (.cells #[.int .i64 day, .string tx, .slice A ls.length c] 25)
  have HRA := hide (right_any day tx A w.heap.size ls.length c ls _ rfl (hr.belowLe hb1 (Nat.le_refl _)) hb1.size (by omega) hwf htx)
  rw [hR] at HRA
  have HB1 := hide hb1
  clear hb1 hr hwf hR
  go_enter Try.func16, Try.ntmps16
  go_wp2_with (go_at_call 34; refine halted ?_)
  refine go_on ?_
  refine HRA.out.mono ?_
  rintro e w2 ⟨rfl, hb2⟩
  have HB2 := hide (HB1.out.trans (hb2.mono HB1.out.size))
  clear hb2 HRA HB1
  go_wp2
  refine bodyPost_ret (results_tmp2 rfl _ _ _) rfl ?_
  exact ⟨rfl, HB2.out⟩

set_option maxRecDepth 100000 in
set_option maxHeartbeats 2000000 in
theorem reverseC_no (day0 : Int) (tx : ByteArray) (A : Option Addr) (n c : Nat) (ls : List (Int × Int)) (day : Int) (w : World) (hn : ls.length = n) (hr : Row w w.heap.size A (legCells ls)) (hl : n ≤ 1000000) (hwf : ∀ x ∈ ls, (Lit.int .i64 x.1).wf = true) (htx : tx.size ≤ maxLen)
    (hR : rightE day0 tx.size ls = false ∨ dayOk day = false) :
    Calls Try.prog 19 #[.agg #[.int .i64 day0, .string tx, .slice A n c], .int .i64 day] w fun e w' => e = .returned (.tuple #[.agg #[.int .i64 0, .string ⟨#[]⟩, .slice none 0 0], .int .i64 1]) ∧ Below w.heap.size w w' := by
  subst hn
  obtain ⟨w2, hw2⟩ : ∃ w2, w2 = (w.alloc (.cells #[.int .i64 day0, .string tx, .slice A ls.length c] 25)).alloc (.cells #[.int .i64 0, .string ⟨#[]⟩, .slice none 0 0] 25) := ⟨_, rfl⟩
  have hb2 : Below w.heap.size w w2 := by rw [hw2]; exact (below_new w _).alloc (by simp) _
  have hz2 : w2.heap.size = w.heap.size + 2 := by rw [hw2]; simp
  have hx2 : w2.heap[w.heap.size + 1]? = some (.cells #[.int .i64 0, .string ⟨#[]⟩, .slice none 0 0] 25 (0, 0)) := by
    rw [hw2]
    have := heap_alloc_new (w.alloc (.cells #[.int .i64 day0, .string tx, .slice A ls.length c] 25)) (.cells #[.int .i64 0, .string ⟨#[]⟩, .slice none 0 0] 25)
    simpa using this
  have HRA := hide (right_any day0 tx A w.heap.size ls.length c ls w2 rfl (hr.belowLe hb2 (Nat.le_refl _)) hb2.size (by omega) hwf htx)
  have HB2 := hide hb2
  have HX2 := hide hx2
  have HZ2 := hide hz2
  clear hb2 hx2 hr hwf hz2
  have HEND := hide (show ∀ w3, Below w2.heap.size w2 w3 → (∀ i : Nat, w3.cell? ⟨w.heap.size + 1, i, none⟩ = (#[.int .i64 0, .string ⟨#[]⟩, .slice none 0 0] : Array Value)[i]? ∧ w3.frozen? ⟨w.heap.size + 1, i, none⟩ = false) ∧ w3.heap[w.heap.size + 1]? = some (.cells #[.int .i64 0, .string ⟨#[]⟩, .slice none 0 0] 25 (0, 0)) ∧ Below w.heap.size w w3 ∧ w.heap.size + 1 < w3.heap.size from fun w3 h3 => by
    have h := (h3.block (w.heap.size + 1) (by have := HZ2.out; omega)).trans HX2.out
    exact ⟨fun i => ⟨Joins.cell_of_block h i, Joins.unfrozen_of_block h i⟩, h, HB2.out.trans (h3.mono HB2.out.size), (Array.getElem?_eq_some_iff.1 h).1⟩)
  cases hR0 : rightE day0 tx.size ls with
  | false =>
    rw [hR0] at HRA
    clear hR hR0
    go_enter Try.func19, Try.ntmps19
    go_wp2_with (go_at_call 34; refine halted ?_)
    refine go_on ?_
    rw [← hw2]
    clear hw2
    refine HRA.out.mono ?_
    rintro e w3 ⟨rfl, hb3⟩
    obtain ⟨hc, hx, hbw, hlt⟩ := HEND.out w3 hb3
    have d0 := (hc 0).1
    have d1 := (hc 1).1
    have d2 := (hc 2).1
    have s0 := (hc 0).2
    have hx6 := Joins.block_setCell (i := 0) hx (.int .i64 0)
    have s1 := Joins.unfrozen_of_block hx6 1
    have hx7 := Joins.block_setCell (i := 1) hx6 (.string ⟨#[]⟩)
    have s2 := Joins.unfrozen_of_block hx7 2
    have hx8 := Joins.block_setCell (i := 2) hx7 (.slice none 0 0)
    have e0 := Joins.cell_of_block hx8 0
    have e1 := Joins.cell_of_block hx8 1
    have e2 := Joins.cell_of_block hx8 2
    simp at d0 d1 d2 e0 e1 e2
    have hk8 : Kept (fun k => k = w.heap.size + 1) w3 (((w3.setCell ⟨w.heap.size + 1, 0, none⟩ (.int .i64 0)).setCell ⟨w.heap.size + 1, 1, none⟩ (.string ⟨#[]⟩)).setCell ⟨w.heap.size + 1, 2, none⟩ (.slice none 0 0)) := ((Kept.set (S := fun k => k = w.heap.size + 1) w3 rfl 0 _).trans (Kept.set (S := fun k => k = w.heap.size + 1) _ rfl 1 _)).trans (Kept.set (S := fun k => k = w.heap.size + 1) _ rfl 2 _)
    have HB8 := hide (hbw.trans (hk8.below (fun j hj => by omega) hbw.size))
    clear hc hx hx6 hx7 hx8 hk8 hbw hlt hb3 HRA HEND HX2 HB2
    go_wp2
    refine bodyPost_ret (v := .tuple #[.agg #[.int .i64 0, .string ⟨#[]⟩, .slice none 0 0], .int .i64 1]) (by rw [results_cell_tmp rfl]; go_simp) rfl ?_
    exact ⟨rfl, HB8.out⟩
  | true =>
    rw [hR0] at HRA
    have hdf : dayOk day = false := by
      rcases hR with h | h
      · rw [hR0] at h; cases h
      · exact h
    have HDF := hide hdf
    clear hR hR0 hdf
    go_enter Try.func19, Try.ntmps19
    go_wp2_with (go_at_call 34; refine halted ?_)
    refine go_on ?_
    rw [← hw2]
    clear hw2
    refine HRA.out.mono ?_
    rintro e w3 ⟨rfl, hb3⟩
    go_wp2_with (go_at_call 43; refine halted ?_)
    refine go_on ?_
    refine (day_any day w3).mono ?_
    rintro e w3' ⟨rfl, rfl⟩
    rw [HDF.out]
    obtain ⟨hc, hx, hbw, hlt⟩ := HEND.out w3 hb3
    have d0 := (hc 0).1
    have d1 := (hc 1).1
    have d2 := (hc 2).1
    have s0 := (hc 0).2
    have hx6 := Joins.block_setCell (i := 0) hx (.int .i64 0)
    have s1 := Joins.unfrozen_of_block hx6 1
    have hx7 := Joins.block_setCell (i := 1) hx6 (.string ⟨#[]⟩)
    have s2 := Joins.unfrozen_of_block hx7 2
    have hx8 := Joins.block_setCell (i := 2) hx7 (.slice none 0 0)
    have e0 := Joins.cell_of_block hx8 0
    have e1 := Joins.cell_of_block hx8 1
    have e2 := Joins.cell_of_block hx8 2
    simp at d0 d1 d2 e0 e1 e2
    have hk8 : Kept (fun k => k = w.heap.size + 1) w3 (((w3.setCell ⟨w.heap.size + 1, 0, none⟩ (.int .i64 0)).setCell ⟨w.heap.size + 1, 1, none⟩ (.string ⟨#[]⟩)).setCell ⟨w.heap.size + 1, 2, none⟩ (.slice none 0 0)) := ((Kept.set (S := fun k => k = w.heap.size + 1) w3 rfl 0 _).trans (Kept.set (S := fun k => k = w.heap.size + 1) _ rfl 1 _)).trans (Kept.set (S := fun k => k = w.heap.size + 1) _ rfl 2 _)
    have HB8 := hide (hbw.trans (hk8.below (fun j hj => by omega) hbw.size))
    clear hc hx hx6 hx7 hx8 hk8 hbw hlt hb3 HRA HEND HX2 HB2
    go_wp2
    refine bodyPost_ret (v := .tuple #[.agg #[.int .i64 0, .string ⟨#[]⟩, .slice none 0 0], .int .i64 1]) (by rw [results_cell_tmp rfl]; go_simp) rfl ?_
    exact ⟨rfl, HB8.out⟩
end Go.Proofs.Ytibanikfalfmcaa
