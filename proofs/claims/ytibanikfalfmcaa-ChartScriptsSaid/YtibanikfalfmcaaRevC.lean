/-
  chart.Reverse: what it does.
-/
import Derived.Test.YtibanikfalfmcaaZeroLaw
import Derived.Test.YtibanikfalfmcaaPost
import Derived.Laws.OwnMore
import Derived.Lib.SliceRun
import Derived.Laws.ResultCell
namespace Go.Proofs.Ytibanikfalfmcaa
open Go.RowKit
set_option linter.unusedVariables false

abbrev OwnL (w : World) (base : Nat) (A : Option Addr) (c : Nat) (ls : List (Int × Int)) : Prop := w.ownsRow base 51 2 (.slice A ls.length c) ls.length (legCells ls)
theorem OwnL.form {w : World} {base : Nat} {A : Option Addr} {c : Nat} {ls : List (Int × Int)} (h : OwnL w base A c ls) (hn : 0 < ls.length) : ∃ g, A = some ⟨g, 0, none⟩ ∧ base ≤ g ∧ g < w.heap.size := by
  rcases h.2 with ⟨_, h0⟩ | ⟨g, cap, cur, hv, hb, hg, _⟩
  · omega
  · injection hv with hA
    refine ⟨g, hA, hb, ?_⟩
    rcases Nat.lt_or_ge g w.heap.size with hlt | hge
    · exact hlt
    · rw [Array.getElem?_eq_none hge] at hg; cases hg
theorem info_leg : (Try.prog.info? 51).map (fun i => (i.zero, i.size, i.bytes)) = some (some (.agg #[.int .i64 0, .int .i64 0]), 2, 16) := by kernel_rfl
theorem legCells_len (ls : List (Int × Int)) : (legCells ls).length = ls.length * 2 := by
  unfold legCells
  induction ls with
  | nil => rfl
  | cons x r ih => rw [List.flatMap_cons, List.length_append, ih]; simp; omega
theorem legCells_append (a b : List (Int × Int)) : legCells (a ++ b) = legCells a ++ legCells b := by unfold legCells; rw [List.flatMap_append]
theorem legCells_one (ls : List (Int × Int)) : ∀ u ∈ legCells ls, u.oneCell' = true := by
  intro u hu
  obtain ⟨x, _, h⟩ := List.mem_flatMap.1 hu
  simp at h
  rcases h with rfl | rfl <;> rfl

theorem cloneL_any (A : Option Addr) (B c n : Nat) (ls : List (Int × Int)) (w : World) (hn : ls.length = n) (hr : Row w B A (legCells ls)) (hB : B ≤ w.heap.size) (hl : ls.length ≤ 1000000000) :
    Calls Try.prog 44 #[.slice A n c] w fun e w' => ∃ A' c', e = .returned (.slice A' n c') ∧ OwnL w' w.heap.size A' c' ls ∧ Below w.heap.size w w' := by
  cases A with
  | none =>
    have hb : ls = [] := by
      have := congrArg List.length (Row.eq_nil_of_none hr)
      rw [legCells_len, List.length_nil] at this
      exact List.eq_nil_of_length_eq_zero (by omega)
    subst hb
    subst hn
    have hq : ∀ w : World, (binOp .eql 23 (.slice none 0 c) (.slice none 0 0)).run Try.prog w = .ok (.bool true) w := fun w => Lib.run_eql_slice_nil w 23 51 none 0 c 0 0 Try.underlying23
    go_enter Try.func44, Try.ntmps44
    go_wp2
    go_ret
    exact ⟨none, 0, rfl, World.ownsRow_nil _ _ _ _, Below.refl _ _⟩
  | some ad =>
    obtain ⟨i1, hj, hw0, hw1, hw2⟩ := info_parts info_leg
    have hq : ∀ w : World, (binOp .eql 23 (.slice (some ad) n c) (.slice none 0 0)).run Try.prog w = .ok (.bool false) w := fun w => Lib.run_eql_slice_nil w 23 51 (some ad) n c 0 0 Try.underlying23
    have hl0 := World.ownsRow_lit (base := w.heap.size) (e := 51) (size := 2) w #[] 0 (Nat.le_refl _) (by unfold maxLen; omega) (by simp)
    go_enter Try.func44, Try.ntmps44
    go_wp2_with (at_builtin; refine halted ?_)
    refine go_on ?_
    refine wpList_append_own _ rfl (.tmp 5) (.tmp 6) 23 rfl w.heap.size 51 i1 _ 2 16 Try.underlying23 hj hw0 hw1 hw2 rfl (by decide) (some ⟨w.heap.size, 0, none⟩) 0 0 [] rfl hl0 _ (some ad) n c (legCells ls) rfl (by rw [legCells_len, hn]) (hr.alloc hB _) (legCells_one ls) (by unfold maxLen; omega) (by omega) (by simp) ?_
    intro n6 xs6 A' c' w' hn6 hxs6 _ _ hown hg _
    have hb : Below w.heap.size w w' := ((Below.refl w.heap.size w).alloc (Nat.le_refl _) _).grown hg (by simp) (by intro k hk; simp at hk; omega)
    obtain rfl : n6 = n := by rw [hn6.out]; omega
    obtain rfl : xs6 = legCells ls := by rw [hxs6.out]; rfl
    clear hn6 hxs6 hg
    subst hn
    go_wp2
    go_ret
    exact ⟨A', c', rfl, hown, hb⟩

def negL (ls : List (Int × Int)) : List (Int × Int) := ls.map fun x => (x.1, -x.2)
def revTo (ls : List (Int × Int)) (k : Nat) : List (Int × Int) := negL (ls.take k) ++ ls.drop k
theorem revTo_len (ls : List (Int × Int)) (k : Nat) : (revTo ls k).length = ls.length := by unfold revTo negL; simp; omega
theorem revTo_at {ls : List (Int × Int)} {k : Nat} {x : Int × Int} (h : ls[k]? = some x) : (revTo ls k)[k]? = some x := by
  have hk : k < ls.length := (List.getElem?_eq_some_iff.1 h).1
  unfold revTo negL
  rw [List.getElem?_append_right (by simp; omega)]
  simp
  rw [show k + (k - min k ls.length) = k by omega, ← h]
theorem revTo_set {ls : List (Int × Int)} {k : Nat} {a m : Int} (h : ls[k]? = some (a, m)) : (legCells (revTo ls k)).set (k * 2 + 1) (.int .i64 (-m)) = legCells (revTo ls (k + 1)) := by
  have hk : k < ls.length := (List.getElem?_eq_some_iff.1 h).1
  have hx : ls[k] = (a, m) := (List.getElem?_eq_some_iff.1 h).2
  have e1 : revTo ls k = negL (ls.take k) ++ ((a, m) :: ls.drop (k + 1)) := by unfold revTo; rw [List.drop_eq_getElem_cons hk, hx]
  have e2 : revTo ls (k + 1) = negL (ls.take k) ++ ((a, -m) :: ls.drop (k + 1)) := by
    unfold revTo negL
    rw [take_next h, List.map_append, List.append_assoc]
    rfl
  have e3 : (legCells (negL (ls.take k))).length = k * 2 := by rw [legCells_len]; unfold negL; simp; omega
  rw [e1, e2, legCells_append, legCells_append, List.set_append_right _ _ (by omega), e3, show k * 2 + 1 - k * 2 = 1 by omega]
  rfl

def RvRel (base g c : Nat) (ls : List (Int × Int)) (w5 : World) (i : Value) (wr : World) : Prop :=
  ∃ k : Nat, k ≤ ls.length ∧ i = .int .i64 (k : Int) ∧ wr.ownsRow base 51 2 (.slice (some ⟨g, 0, none⟩) ls.length c) ls.length (legCells (revTo ls k)) ∧ Kept (fun k => k = g) w5 wr

set_option maxRecDepth 100000 in
set_option maxHeartbeats 2000000 in
theorem reverseC_any (day0 : Int) (tx : ByteArray) (A : Option Addr) (n c : Nat) (ls : List (Int × Int)) (day : Int) (w : World) (hn : ls.length = n) (hr : Row w w.heap.size A (legCells ls)) (hl : n ≤ 1000000) (hwf : ∀ x ∈ ls, (Lit.int .i64 x.1).wf = true) (htx : tx.size ≤ maxLen)
    (hR : rightE day0 tx.size ls = true) (hd : dayOk day = true) :
    Calls Try.prog 19 #[.agg #[.int .i64 day0, .string tx, .slice A n c], .int .i64 day] w fun e w' => ∃ A' c', e = .returned (.tuple #[.agg #[.int .i64 day, .string tx, .slice A' n c'], .int .i64 0]) ∧ Row w' w'.heap.size A' (legCells (negL ls)) ∧ Below w.heap.size w w' := by
  subst hn
  obtain ⟨w2, hw2⟩ : ∃ w2, w2 = (w.alloc (.cells #[.int .i64 day0, .string tx, .slice A ls.length c] 25)).alloc (.cells #[.int .i64 0, .string ⟨#[]⟩, .slice none 0 0] 25) := ⟨_, rfl⟩
  have hb2 : Below w.heap.size w w2 := by rw [hw2]; exact (below_new w _).alloc (by simp) _
  have hz2 : w2.heap.size = w.heap.size + 2 := by rw [hw2]; simp
  have hx1 : w2.heap[w.heap.size]? = some (.cells #[.int .i64 day0, .string tx, .slice A ls.length c] 25 (0, 0)) := by
    rw [hw2]
    exact ((below_new (w.alloc (.cells #[.int .i64 day0, .string tx, .slice A ls.length c] 25)) _).block _ (by simp)).trans (heap_alloc_new w _)
  have hx2 : w2.heap[w.heap.size + 1]? = some (.cells #[.int .i64 0, .string ⟨#[]⟩, .slice none 0 0] 25 (0, 0)) := by
    rw [hw2]
    have := heap_alloc_new (w.alloc (.cells #[.int .i64 day0, .string tx, .slice A ls.length c] 25)) (.cells #[.int .i64 0, .string ⟨#[]⟩, .slice none 0 0] 25)
    simpa using this
  have HRA := hide (right_any day0 tx A w.heap.size ls.length c ls w2 rfl (hr.belowLe hb2 (Nat.le_refl _)) hb2.size (by omega) hwf htx)
  have HCL := hide (fun (W : World) (hW : Below w.heap.size w W) => cloneL_any A w.heap.size c ls.length ls W rfl (hr.belowLe hW (Nat.le_refl _)) hW.size (by omega))
  have HB2 := hide hb2
  have HX1 := hide hx1
  have HX2 := hide hx2
  have HZ2 := hide hz2
  have HLA := hide (legsOk_amt (right_legs hR))
  have H2 := hide (show 2 ≤ ls.length from by unfold rightE at hR; simp only [Bool.and_eq_true, decide_eq_true_eq] at hR; omega)
  have HRT := hide (And.intro hR hd)
  clear hb2 hx1 hx2 hr hwf hR hd hz2
  go_enter Try.func19, Try.ntmps19
  go_wp2_with (go_at_call 34; refine halted ?_)
  refine go_on ?_
  rw [← hw2]
  clear hw2
  refine HRA.out.mono ?_
  rintro e w3 ⟨rfl, hb3⟩
  rw [HRT.out.1]
  have hb3w : Below w.heap.size w w3 := HB2.out.trans (hb3.mono HB2.out.size)
  have hz3 := hb3.size
  have hz2 := HZ2.out
  have hx1 := (hb3.block _ (by omega)).trans HX1.out
  have hx2 := (hb3.block _ (by omega)).trans HX2.out
  have HX1 := hide hx1
  have HX2 := hide hx2
  have HB3 := hide hb3w
  have HZ3 := hide (show w.heap.size + 2 ≤ w3.heap.size from by omega)
  clear hb3 hb3w hx1 hx2 hz3 hz2 HRA HB2 HZ2
  go_wp2_with (go_at_call 43; refine halted ?_)
  refine go_on ?_
  refine (day_any day w3).mono ?_
  rintro e w3' ⟨rfl, rfl⟩
  rw [HRT.out.2]
  have k2 : w3.cell? ⟨w.heap.size, 2, none⟩ = some (.slice A ls.length c) := Joins.cell_of_block HX1.out 2
  clear HRT
  go_wp2_with (go_at_call 44; refine halted ?_)
  refine go_on ?_
  refine (HCL.out w3 HB3.out).mono ?_
  rintro e w4 ⟨A', c', rfl, hown, hb4⟩
  obtain ⟨g, rfl, hg1, hg2⟩ := hown.form (by have := H2.out; omega)
  obtain ⟨q, hq⟩ : ∃ q, q = w.heap.size := ⟨_, rfl⟩
  have HQ := hide hq
  have hx1 := (hb4.block _ (by have := HZ3.out; omega)).trans HX1.out
  have hx2 := (hb4.block _ (by have := HZ3.out; omega)).trans HX2.out
  rw [← hq] at hx1 hx2
  have hb4w : Below w.heap.size w w4 := HB3.out.trans (hb4.mono HB3.out.size)
  have f0 : w4.frozen? ⟨q, 0, none⟩ = false := Joins.unfrozen_of_block hx1 0
  have hy1 : (w4.setCell ⟨q, 0, none⟩ (.int .i64 day)).heap[q]? = some (.cells #[.int .i64 day, .string tx, .slice A ls.length c] 25 (0, 0)) := Joins.block_setCell (i := 0) hx1 (.int .i64 day)
  have f2 : (w4.setCell ⟨q, 0, none⟩ (.int .i64 day)).frozen? ⟨q, 2, none⟩ = false := Joins.unfrozen_of_block hy1 2
  have hz1 : ((w4.setCell ⟨q, 0, none⟩ (.int .i64 day)).setCell ⟨q, 2, none⟩ (.slice (some ⟨g, 0, none⟩) ls.length c')).heap[q]? = some (.cells #[.int .i64 day, .string tx, .slice (some ⟨g, 0, none⟩) ls.length c'] 25 (0, 0)) := Joins.block_setCell (i := 2) hy1 _
  have hkw : Kept (fun k => k = q) w4 ((w4.setCell ⟨q, 0, none⟩ (.int .i64 day)).setCell ⟨q, 2, none⟩ (.slice (some ⟨g, 0, none⟩) ls.length c')) := (Kept.set (S := fun k => k = q) w4 rfl 0 _).trans (Kept.set (S := fun k => k = q) _ rfl 2 _)
  have k0 : w4.cell? ⟨q, 0, none⟩ = some (.int .i64 day0) := Joins.cell_of_block hx1 0
  have k2 : w4.cell? ⟨q, 2, none⟩ = some (.slice A ls.length c) := Joins.cell_of_block hx1 2
  have m2 : ((w4.setCell ⟨q, 0, none⟩ (.int .i64 day)).setCell ⟨q, 2, none⟩ (.slice (some ⟨g, 0, none⟩) ls.length c')).cell? ⟨q, 2, none⟩ = some (.slice (some ⟨g, 0, none⟩) ls.length c') := Joins.cell_of_block hz1 2
  have HDF := hide (show g ≠ q ∧ g ≠ q + 1 ∧ w.heap.size ≤ g ∧ q + 2 ≤ w4.heap.size from by
    have h1 := HZ3.out
    have h2 := hb4.size
    omega)
  have hown5 := hkw.own hown (by
    intro k hk e
    unfold InRow at hk
    simp at hk
    have := HDF.out
    omega)
  have hx5 := (hkw.block (q + 1) (by have := HDF.out; omega) (by omega)).trans hx2
  have hb5w : Below w.heap.size w _ := hb4w.trans (hkw.below (fun j hj => by omega) hb4w.size)
  have HOWN := hide hown5
  have HZ1 := hide hz1
  have HX5 := hide hx5
  have HB5 := hide hb5w
  rw [← hq]
  clear hx1 hx2 hy1 hz1 hkw hown hb4 hb4w hown5 hx5 hb5w hg1 hg2 HX1 HX2 HB3 HCL hq
  go_wp2
  clear f0 f2 k0 k2 m2
  generalize (w4.setCell ⟨q, 0, none⟩ (.int .i64 day)).setCell ⟨q, 2, none⟩ (.slice (some ⟨g, 0, none⟩) ls.length c') = w5 at *
  obtain ⟨base, hbase⟩ : ∃ b, b = w3.heap.size := ⟨_, rfl⟩
  rw [← hbase] at HOWN
  clear hbase
  go_loopw [25] (fun i wr => RvRel base g c' ls w5 i wr) (fun i _ => ls.length - (intOf i).toNat)
  case atStart => exact ⟨0, Nat.zero_le _, rfl, HOWN.out, Kept.refl _⟩
  case round =>
    obtain ⟨k, hk, rfl, hown, hkp⟩ := hrel
    have hz := (hkp.block q (Array.getElem?_eq_some_iff.1 HZ1.out).1 (fun e => HDF.out.1 e.symm)).trans HZ1.out
    have b2 : wr.cell? ⟨q, 2, none⟩ = some (.slice (some ⟨g, 0, none⟩) ls.length c') := Joins.cell_of_block hz 2
    by_cases hlt : k < ls.length
    · obtain ⟨x, hx⟩ : ∃ x, ls[k]? = some x := ⟨_, List.getElem?_eq_getElem hlt⟩
      obtain ⟨a, m⟩ := x
      have hma := (amt_iff _).1 (HLA.out _ (List.mem_of_getElem? hx))
      dsimp only at hma
      have hcell : wr.cell? ⟨g, k * 2 + 1, none⟩ = some (.int .i64 m) := by
        rw [World.ownsRow.cellAt hown (k * 2 + 1) (by omega)]
        exact (legCells_at (revTo_at hx)).2
      have hfr : wr.frozen? ⟨g, k * 2 + 1, none⟩ = false := World.ownsRow.frozenAt hown _
      have hmul : IntKind.i64.wrap (m * -1) = -m := by rw [IntKind.wrap_i64]; omega
      have hst := World.ownsRow.stored hown (k * 2 + 1) (.int .i64 (-m))
      rw [revTo_set hx] at hst
      have hrel2 : RvRel base g c' ls w5 (.int .i64 ((k : Int) + 1)) (wr.setCell ⟨g, k * 2 + 1, none⟩ (.int .i64 (-m))) := ⟨k + 1, hlt, by simp, hst.1, hkp.trans (Kept.of_grown hst.2 (fun j hj => by injection hj with hj; exact hj.symm))⟩
      have HR2 := hide hrel2
      clear hown hkp hz hx hst hrel2
      go_wp2
      case roundEnd => exact ⟨HR2.out, by simp [intOf]; omega⟩
    · have hkE : k = ls.length := by omega
      subst hkE
      have hx5 := (hkp.block (q + 1) (Array.getElem?_eq_some_iff.1 HX5.out).1 (fun e => HDF.out.2.1 e.symm)).trans HX5.out
      have hlE : (negL ls).length = ls.length := by unfold negL; simp
      have hrow : ∀ W, Kept (fun k => k = q + 1) wr W → Row W W.heap.size (some ⟨g, 0, none⟩) (legCells (negL ls)) := by
        intro W hW
        have := Row.of_own (hW.own hown (by
          intro k hk e
          unfold InRow at hk
          simp at hk
          have := HDF.out
          omega))
        have e : revTo ls ls.length = negL ls := by unfold revTo; rw [List.take_of_length_le (Nat.le_refl _), List.drop_of_length_le (Nat.le_refl _), List.append_nil]
        rw [e] at this
        exact this
      have hbw : Below w.heap.size w wr := HB5.out.trans (hkp.below (fun j hj => by have := HDF.out; omega) (by exact HB5.out.size))
      have b0 : wr.cell? ⟨q, 0, none⟩ = some (.int .i64 day) := Joins.cell_of_block hz 0
      have b1 : wr.cell? ⟨q, 1, none⟩ = some (.string tx) := Joins.cell_of_block hz 1
      have d0 : wr.cell? ⟨q + 1, 0, none⟩ = some (.int .i64 0) := Joins.cell_of_block hx5 0
      have d1 : wr.cell? ⟨q + 1, 1, none⟩ = some (.string ⟨#[]⟩) := Joins.cell_of_block hx5 1
      have d2 : wr.cell? ⟨q + 1, 2, none⟩ = some (.slice none 0 0) := Joins.cell_of_block hx5 2
      have s0 : wr.frozen? ⟨q + 1, 0, none⟩ = false := Joins.unfrozen_of_block hx5 0
      have hx6 := Joins.block_setCell (i := 0) hx5 (.int .i64 day)
      have s1 : (wr.setCell ⟨q + 1, 0, none⟩ (.int .i64 day)).frozen? ⟨q + 1, 1, none⟩ = false := Joins.unfrozen_of_block hx6 1
      have hx7 := Joins.block_setCell (i := 1) hx6 (.string tx)
      have s2 := Joins.unfrozen_of_block hx7 2
      have hx8 := Joins.block_setCell (i := 2) hx7 (.slice (some ⟨g, 0, none⟩) ls.length c')
      have e0 := Joins.cell_of_block hx8 0
      have e1 := Joins.cell_of_block hx8 1
      have e2 := Joins.cell_of_block hx8 2
      simp at e0 e1 e2 s2
      have hk8 : Kept (fun k => k = q + 1) wr (((wr.setCell ⟨q + 1, 0, none⟩ (.int .i64 day)).setCell ⟨q + 1, 1, none⟩ (.string tx)).setCell ⟨q + 1, 2, none⟩ (.slice (some ⟨g, 0, none⟩) ls.length c')) := ((Kept.set (S := fun k => k = q + 1) wr rfl 0 _).trans (Kept.set (S := fun k => k = q + 1) _ rfl 1 _)).trans (Kept.set (S := fun k => k = q + 1) _ rfl 2 _)
      have hrow8 : Row _ _ (some ⟨g, 0, none⟩) (legCells (negL ls)) := hrow _ hk8
      have hb8 : Below w.heap.size w _ := hbw.trans (hk8.below (fun j hj => by have := HQ.out; omega) hbw.size)
      have HRW := hide hrow8
      have HB8 := hide hb8
      clear hx5 hx6 hx7 hx8 hrow hrow8 hb8 hk8 hown hkp hz hbw hlt hk
      go_wp2
      refine bodyPost_ret (v := .tuple #[.agg #[.int .i64 day, .string tx, .slice (some ⟨g, 0, none⟩) ls.length c'], .int .i64 0]) (by rw [results_cell_tmp rfl]; go_simp) rfl ?_
      exact ⟨_, _, rfl, HRW.out, HB8.out⟩
end Go.Proofs.Ytibanikfalfmcaa
