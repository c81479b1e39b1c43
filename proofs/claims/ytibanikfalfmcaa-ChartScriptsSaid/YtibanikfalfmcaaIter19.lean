/-
  slices.Sorted(maps.Keys(m)) at a chart: Accounts.
-/
import Derived.Shelf.SlIterI.Nil
import Derived.Shelf.SortM.Plain
import Derived.Shelf.SortM.SortNone
import Derived.Ground.GgzProg
import Derived.Ground.SlgmProg
import Derived.Test.YtibanikfalfmcaaPost
namespace Go.Proofs.Ytibanikfalfmcaa
open Go.RowKit Go.Maps Go.Sort Go.Shelf
set_option linter.unusedVariables false

shelf_lay_g SlLaysZI.n7 Ggz 7 at Try 33 as Try.keysA
shelf_lay_g SlLaysZI.n6 Ggz 6 at Try 32 as Try.sortedA
shelf_lay_g SlLaysM.n5 Slgm 5 at Try 70 as Try.sortA

theorem sortsA (m : Nat) : AnyZI.SortsIn Try.prog Try.sortedA_ren Fence.wide m :=
  ⟨fun blk off cap ss W hH hblk hsz => callsIn_wide.2 (AnyM.slices_Sort_int Try.sortA blk off cap ss W hH hblk hsz),
   fun p cap W => callsIn_wide.2 (AnyM.slices_Sort_int_none Try.sortA p cap W)⟩
theorem keysA_in (mb : Option Nat) (W : World) : CallsIn Fence.wide 5 Try.prog 33 #[.map mb] W fun e w' => e = .returned (.func (.func 71) #[] #[.pointer (some ⟨W.heap.size, 0, none⟩)]) ∧ w' = W.alloc (.cells #[.map mb] 69) :=
  AnyZI.keys_in Try.keysA Fence.wide 5 trivial rfl mb W

set_option maxHeartbeats 1000000 in
theorem sortedA_in {H : Type} (b nn : Nat) (D0 : DataW H) (R : Value → Option (DataW H × List MemPlace)) (w : World) (hown : w.ownsMap Try.prog 3 R b nn D0) (hmax : Maps.size D0 ≤ maxLen) (hbytes : Maps.size D0 * 8 ≤ 140737488355328) :
    CallsIn Fence.wide 5 Try.prog 32 #[.func (.func 71) #[] #[.pointer (some ⟨w.heap.size, 0, none⟩)]] (w.alloc (.cells #[.map (some b)] 69)) fun e w' => ∃ (v : Value) (ss : List Int), e = .returned v ∧ ss.Perm (intKeys D0) ∧
      w'.ownsRow (w.alloc (.cells #[.map (some b)] 69)).heap.size 3 1 v ss.length ((ss.mergeSort (fun x y => decide (x ≤ y))).map encZ) ∧ (v = .slice none 0 0 ↔ ss = []) ∧ Below (w.alloc (.cells #[.map (some b)] 69)).heap.size (w.alloc (.cells #[.map (some b)] 69)) w' := by
  have hbl := hown.lt
  have hseq : SeqGives Fence.wide 2 Try.prog 71 #[.pointer (some ⟨w.heap.size, 0, none⟩)] encZ (fun ss => ss.Perm (intKeys D0)) (Maps.size D0) (w.alloc (.cells #[.map (some b)] 69)) :=
    AnyZI.keys_gives (ρ := Try.keysA_ren) { Try.keysA with } Fence.wide _ trivial rfl (by omega) w.heap.size b nn D0 _ (by simp) (by simp) (by
      obtain ⟨es, clock, hb, Ft, hs, hD⟩ := hown
      exact ⟨es, clock, (Below.heap_alloc _ _ b hbl).trans hb, Ft, hs, hD⟩)
  exact AnyZI.sorted_in Try.sortedA Fence.wide 5 trivial trivial trivial trivial rfl (by omega) (sortsA _) (enters_of Try.func70 (by kernel_rfl) rfl) 71 #[.pointer (some ⟨w.heap.size, 0, none⟩)] trivial (enters_of Try.func71 (by kernel_rfl) rfl) _ _ hmax hbytes _ hseq

theorem acs_rises {w : World} {b : Nat} {l : Acs} (h : OwnsAcs w b l) : l.Pairwise fun x y => x.1 < y.1 := by
  obtain ⟨es, clock, _, F, _, hD⟩ := h
  unfold accD at hD
  injection hD with hD
  have K := ikeyed
  have hs := Maps.sorted_sorted K.one _ (fun p hp => fit_keys F p hp) (Maps.fit_apart K F)
  rw [← hD, List.pairwise_map] at hs
  refine hs.imp fun {x y} h => ?_
  have h : Lit.before (.int .i64 x.1) (.int .i64 y.1) = true := h
  rw [int_before] at h
  exact of_decide_eq_true h
theorem nums_sorted {w : World} {b : Nat} {l : Acs} (h : OwnsAcs w b l) {ss : List Int} (hp : ss.Perm (intKeys (accD l))) : ss.mergeSort (fun x y => decide (x ≤ y)) = l.map (·.1) := by
  have e : intKeys (accD l) = l.map (·.1) := by
    unfold intKeys accD
    simp [enA, Go.intOf]
  rw [e] at hp
  refine ((List.mergeSort_perm ss _).trans hp).eq_of_pairwise (le := fun x y => x ≤ y) (fun a b _ _ h1 h2 => Int.le_antisymm h1 h2) ?_ ?_
  · exact (List.pairwise_mergeSort (le := fun x y => decide (x ≤ y)) (fun a b c h1 h2 => by simp at *; omega) (fun a b => by simp; omega) ss).imp fun h => by simpa using h
  · rw [List.pairwise_map]
    exact (acs_rises h).imp fun h => Int.le_of_lt h
def AccR (w : World) (l : Acs) (e : Ending) (w' : World) : Prop := ∃ A c, e = .returned (.slice A l.length c) ∧ w'.ownsRow w.heap.size 3 1 (.slice A l.length c) l.length ((l.map (·.1)).map encZ) ∧ Below w.heap.size w w'

set_option maxRecDepth 100000 in
set_option maxHeartbeats 4000000 in
theorem accounts_any (q b : Nat) (l : Acs) (w : World) (hs : Ch q b l w) (hl : l.length ≤ 1000000000) : Calls Try.prog 14 #[.pointer (some ⟨q, 0, none⟩)] w (AccR w l) := by
  have c0 := Joins.cell_of_block hs.box 0
  simp at c0
  have hown := hs.map
  have hmax : Maps.size (accD l) ≤ maxLen := by rw [accD_size]; unfold maxLen; omega
  have hbytes : Maps.size (accD l) * 8 ≤ 140737488355328 := by rw [accD_size]; omega
  refine (callsIn_wide (n := 6)).1 ?_
  have hfK : Fence.wide.fn 33 := trivial
  have hfS : Fence.wide.fn 32 := trivial
  refine callsIn_of_wp Try.func14 rfl trivial ?_ rfl
  simp only [Try.ntmps14, List.size_toArray, List.length_cons, List.length_nil, Nat.reduceAdd, Nat.reduceSub, Array.replicate_succ, Array.replicate_zero, List.push_toArray, List.append_toArray, List.nil_append, List.cons_append]
  gi_wp2_with (first
    | (gi_at_call 33; refine (keysA_in _ _).mono ?_; rintro e w' ⟨rfl, rfl⟩)
    | (gi_at_call 32; refine (sortedA_in b l.length (accD l) accR w hown hmax hbytes).mono ?_; rintro e w' ⟨v, ss, rfl, hS, hrow, hnil, hb⟩))
  go_ret
  have hns := nums_sorted hs.map hS
  have hlen : ss.length = l.length := by
    have := congrArg List.length hns
    rw [List.length_mergeSort, List.length_map] at this
    exact this
  rw [hns, hlen] at hrow
  obtain ⟨A, c, rfl, _, _⟩ := own_shape hrow
  exact ⟨A, c, rfl, ownsRow_base_a hrow (by simp), ((Below.refl _ w).alloc (Nat.le_refl _) _).trans (hb.mono (by simp))⟩
end Go.Proofs.Ytibanikfalfmcaa
