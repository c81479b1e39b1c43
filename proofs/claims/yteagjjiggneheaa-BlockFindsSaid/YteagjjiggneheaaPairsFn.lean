/-
  block's pairs: a function that tells one pair behind the other.
-/
import Derived.Test.YteagjjiggneheaaSplit
import Derived.Test.YteagjjiggneheaaTakeT
namespace Go.Proofs.Yteagjjiggneheaa
open Go.RowKit
set_option linter.unusedVariables false

theorem pairsFn_any (w : World) (A : Option Addr) (n c : Nat) :
    Calls Try.prog 29 #[.slice A n c] w fun e w' => e = .returned (.func (.func 39) #[] #[.pointer (some ⟨w.heap.size, 0, none⟩), .pointer (some ⟨w.heap.size + 1, 0, none⟩)]) ∧ w' = (w.alloc (.cells #[.slice A n c] 25)).alloc (.cells #[.slice none 0 0] 25) := by
  go_enter Try.func29, Try.ntmps29
  go_wp2
  go_ret
  trace_state
  exact ⟨rfl, rfl⟩
end Go.Proofs.Yteagjjiggneheaa
