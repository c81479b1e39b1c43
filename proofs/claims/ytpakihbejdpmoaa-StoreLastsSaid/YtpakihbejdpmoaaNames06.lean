/-
  store's Names.
-/
import Derived.Test.YtpakihbejdpmoaaIter06
import Derived.Test.YtpakihbejdpmoaaSyncDir
namespace Go.Proofs.Ytpakihbejdpmoaa
open Go.RowKit Go.Maps Go.Sort Go.Shelf
set_option linter.unusedVariables false

set_option maxRecDepth 100000 in
set_option maxHeartbeats 4000000 in
theorem names_any (q : Nat) (s : SS) (w : World) (hs : Sm q s w) (hl : s.now.length ≤ 1000000000) :
    Calls Try.prog 37 #[.pointer (some ⟨q, 0, none⟩)] w fun e w' => ∃ (v : Value) (ss : List (List UInt8)), e = .returned v ∧ ss.Perm (strKeys (dirD s.now)) ∧
      w'.ownsRow w.heap.size 9 1 v ss.length ((ss.mergeSort (fun x y => decide (x ≤ y))).map encStr) ∧ (v = .slice none 0 0 ↔ ss = []) ∧ Below w.heap.size w w' := by
  have c1 := hs.box.cell 1
  simp at c1
  have hown := hs.mnow
  have hmax : Maps.size (dirD s.now) ≤ maxLen := by rw [dirD_size]; unfold maxLen; omega
  have hbytes : Maps.size (dirD s.now) * 16 ≤ 140737488355328 := by rw [dirD_size]; omega
  refine (callsIn_wide (n := 6)).1 ?_
  have hfK : Fence.wide.fn 50 := trivial
  have hfS : Fence.wide.fn 49 := trivial
  refine callsIn_of_wp Try.func37 rfl trivial ?_ rfl
  simp only [Try.ntmps37, List.size_toArray, List.length_cons, List.length_nil, Nat.reduceAdd, Nat.reduceSub, Array.replicate_succ, Array.replicate_zero, List.push_toArray, List.append_toArray, List.nil_append, List.cons_append]
  gi_wp2_with (first
    | (gi_at_call 50; refine (keysD_in _ _).mono ?_; rintro e w' ⟨rfl, rfl⟩)
    | (gi_at_call 49; refine (sortedD_in s.bn s.now.length (dirD s.now) ptrR w hown hmax hbytes).mono ?_; rintro e w' ⟨v, ss, rfl, hS, hrow, hnil, hb⟩))
  go_ret
  exact ⟨v, ss, rfl, hS, ownsRow_base_a hrow (by simp), hnil, ((Below.refl _ w).alloc (Nat.le_refl _) _).trans (hb.mono (by simp))⟩
end Go.Proofs.Ytpakihbejdpmoaa
