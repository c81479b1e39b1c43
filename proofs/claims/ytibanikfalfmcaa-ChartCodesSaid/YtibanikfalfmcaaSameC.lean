/-
  The reference's Same: a posting and its like.
-/
import Derived.Test.YtibanikfalfmcaaRevC
namespace Go.Proofs.Ytibanikfalfmcaa
open Go.RowKit
set_option linter.unusedVariables false

set_option maxRecDepth 100000 in
set_option maxHeartbeats 2000000 in
theorem sameP_any (day : Int) (tx : ByteArray) (A A' : Option Addr) (B c c' : Nat) (ls : List (Int × Int)) (w : World) (hr : Row w B A (legCells ls)) (hr' : Row w B A' (legCells ls)) (hB : B ≤ w.heap.size) (hl : ls.length ≤ 1000000) (htx : tx.size ≤ maxLen) :
    Calls Try.prog 18 #[.agg #[.int .i64 day, .string tx, .slice A ls.length c], .agg #[.int .i64 day, .string tx, .slice A' ls.length c']] w fun e w' => e = .returned (.bool true) ∧ Below w.heap.size w w' := by
  obtain ⟨w2, hw2⟩ : ∃ w2, w2 = (w.alloc (.cells #[.int .i64 day, .string tx, .slice A ls.length c] 25)).alloc (.cells #[.int .i64 day, .string tx, .slice A' ls.length c'] 25) := ⟨_, rfl⟩
  have hb2 : Below w.heap.size w w2 := by rw [hw2]; exact (below_new w _).alloc (by simp) _
  have hx1 : w2.heap[w.heap.size]? = some (.cells #[.int .i64 day, .string tx, .slice A ls.length c] 25 (0, 0)) := by
    rw [hw2]
    exact ((below_new (w.alloc (.cells #[.int .i64 day, .string tx, .slice A ls.length c] 25)) _).block _ (by simp)).trans (heap_alloc_new w _)
  have hx2 : w2.heap[w.heap.size + 1]? = some (.cells #[.int .i64 day, .string tx, .slice A' ls.length c'] 25 (0, 0)) := by
    rw [hw2]
    have := heap_alloc_new (w.alloc (.cells #[.int .i64 day, .string tx, .slice A ls.length c] 25)) (.cells #[.int .i64 day, .string tx, .slice A' ls.length c'] 25)
    simpa using this
  have a0 : w2.cell? ⟨w.heap.size, 0, none⟩ = some (.int .i64 day) := Joins.cell_of_block hx1 0
  have a1 : w2.cell? ⟨w.heap.size, 1, none⟩ = some (.string tx) := Joins.cell_of_block hx1 1
  have a2 : w2.cell? ⟨w.heap.size, 2, none⟩ = some (.slice A ls.length c) := Joins.cell_of_block hx1 2
  have b0 : w2.cell? ⟨w.heap.size + 1, 0, none⟩ = some (.int .i64 day) := Joins.cell_of_block hx2 0
  have b1 : w2.cell? ⟨w.heap.size + 1, 1, none⟩ = some (.string tx) := Joins.cell_of_block hx2 1
  have b2 : w2.cell? ⟨w.heap.size + 1, 2, none⟩ = some (.slice A' ls.length c') := Joins.cell_of_block hx2 2
  have hr1 := hr.belowLe hb2 hB
  have hr2 := hr'.belowLe hb2 hB
  have HB2 := hide hb2
  have hd : (day != day) = false := by simp
  have ht : (tx != tx) = false := by
    cases tx with
    | mk d => show (!(d == d)) = false; simp
  have HK := hide (show ∀ W, Below w2.heap.size w2 W → W.cell? ⟨w.heap.size, 2, none⟩ = some (.slice A ls.length c) ∧ W.cell? ⟨w.heap.size + 1, 2, none⟩ = some (.slice A' ls.length c') from fun W hW =>
    ⟨Joins.cell_of_block ((hW.block _ (Array.getElem?_eq_some_iff.1 hx1).1).trans hx1) 2, Joins.cell_of_block ((hW.block _ (Array.getElem?_eq_some_iff.1 hx2).1).trans hx2) 2⟩)
  rw [hw2] at a0 a1 a2 b0 b1 b2
  have HR1 := hide hr1
  have HR2 := hide hr2
  clear hx1 hx2 hb2 hr1 hr2 hr hr'
  go_enter Try.func18, Try.ntmps18
  go_wp2
  rw [← hw2]
  clear a0 a1 a2 b0 b1 b2 hw2
  go_loopw [5] (fun i wr => ∃ k : Nat, k ≤ ls.length ∧ i = .int .i64 (k : Int) ∧ Below w2.heap.size w2 wr) (fun i _ => ls.length - (intOf i).toNat)
  case atStart => exact ⟨0, Nat.zero_le _, rfl, Below.refl _ _⟩
  case round =>
    obtain ⟨k, hk, rfl, hbr⟩ := hrel
    obtain ⟨hA2, hB2⟩ := HK.out wr hbr
    by_cases hlt : k < ls.length
    · obtain ⟨ad, a, m, rfl, hadb, hx, ha, hm⟩ := (HR1.out.belowLe hbr (Nat.le_trans hB HB2.out.size)).leg hlt
      obtain ⟨ad', a', m', rfl, hadb', hx', ha', hm'⟩ := (HR2.out.belowLe hbr (Nat.le_trans hB HB2.out.size)).leg hlt
      have he := hx.out.symm.trans hx'.out
      injection he with he
      injection he with he1 he2
      subst he1
      subst he2
      have hlt' : (k : Int) < (ls.length : Int) := by omega
      clear hx hx' hadb hadb'
      go_wp2
      go_region
      go_wp2
      case roundEnd => exact ⟨⟨k + 1, hlt, by simp, hbr.drew⟩, by simp [intOf]; omega⟩
    · have hkE : k = ls.length := by omega
      subst hkE
      go_wp2
      go_ret
      exact ⟨rfl, HB2.out.trans (hbr.mono HB2.out.size)⟩
end Go.Proofs.Ytibanikfalfmcaa
