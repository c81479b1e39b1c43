/-
  awake; few.
-/
import Derived.Test.YtibanikfalfmcaaIter19
namespace Go.Proofs.Ytibanikfalfmcaa
open Go.RowKit Go.Maps
set_option linter.unusedVariables false

set_option maxRecDepth 100000 in
set_option maxHeartbeats 4000000 in
theorem awake_any (w : World) : Calls Try.prog 9 #[] w fun e w' => e = .returned (.bool true) ∧ Below w.heap.size w w' := by
  go_enter Try.func9, Try.ntmps9
  go_wp2_with (go_at_call 10; refine halted ?_)
  refine go_on ?_
  refine (newC_any w).mono ?_
  rintro e w1 ⟨q, b, rfl, hc, hb1, hq, hb⟩
  have HC := hide hc
  have HB1 := hide hb1
  have HQ := hide (And.intro hq hb)
  clear hc hb1 hq hb
  go_wp2_with (go_at_call 12; refine halted ?_)
  refine go_on ?_
  refine (open_any q b [] w1 HC.out 1 1 (by decide) (by decide)).mono ?_
  rintro e w2 ⟨rfl, hc2, hk2⟩
  have HC2 := hide hc2
  have HK2 := hide hk2
  clear hc2 hk2
  go_wp2_with (go_at_call 12; refine halted ?_)
  refine go_on ?_
  refine (open_any q b _ w2 HC2.out 2 3 (by decide) (by decide)).mono ?_
  rintro e w3 ⟨rfl, hc3, hk3⟩
  have hl3 : openL (openL [] 1 1) 2 3 = [(1, 1, 0), (2, 3, 0)] := by decide
  rw [hl3] at hc3
  have HC3 := hide hc3
  have HK3 := hide (HK2.out.trans hk3)
  clear hc3 hk3 hl3
  go_wp2_with (go_at_call 13; refine halted ?_)
  refine go_on ?_
  have hrn := Row.new w3 #[.int .i64 1, .int .i64 5, .int .i64 2, .int .i64 (-5)] 51 (0, 0)
  have hb4 := below_new w3 (.cells #[.int .i64 1, .int .i64 5, .int .i64 2, .int .i64 (-5)] 51)
  have hz4 : w3.heap.size + 1 ≤ (w3.alloc (.cells #[.int .i64 1, .int .i64 5, .int .i64 2, .int .i64 (-5)] 51)).heap.size := by simp
  generalize w3.alloc (.cells #[.int .i64 1, .int .i64 5, .int .i64 2, .int .i64 (-5)] 51) = w4 at *
  refine (post_any q b _ w4 (HC3.out.call hb4) 0 ⟨#[]⟩ _ (w3.heap.size + 1) 2 2 [(1, 5), (2, -5)] rfl hrn hz4 (by decide) (by decide) (by decide) (by decide)).mono ?_
  rintro e w5 ⟨rfl, hc5, hk5⟩
  have hE : checkE [(1, 1, 0), (2, 3, 0)] 0 (⟨#[]⟩ : ByteArray).size [(1, 5), (2, -5)] = 0 := by decide
  have hl5 : postedL [(1, 1, 0), (2, 3, 0)] 0 (⟨#[]⟩ : ByteArray).size [(1, 5), (2, -5)] = [(1, 1, 5), (2, 3, -5)] := by decide +kernel
  rw [hl5] at hc5
  rw [hE]
  have HC5 := hide hc5
  have HK5 := hide ((HK3.out.call hb4).trans hk5)
  clear hc5 hk5 hE hl5 hrn hb4 hz4
  go_wp2_with (go_at_call 15; refine halted ?_)
  refine go_on ?_
  refine (balance_any q b _ w5 HC5.out 2 (by decide)).mono ?_
  rw [show balE [(1, 1, 5), (2, 3, -5)] 2 = (-5, 0) by decide]
  rintro e w6 ⟨rfl, hb6⟩
  have hbw := HB1.out.trans (((HK5.out.call hb6).below (B := w.heap.size) (fun k hk => by have := HQ.out.2; omega) HB1.out.size))
  have HBW := hide hbw
  clear hb6 hbw
  go_wp2
  go_ret
  exact ⟨rfl, HBW.out⟩

def fewB (tl n : Nat) : Bool := decide (n ≤ 100) && decide (tl ≤ 1000)
set_option maxRecDepth 100000 in
set_option maxHeartbeats 2000000 in
theorem few_any (day : Int) (tx : ByteArray) (A : Option Addr) (n c : Nat) (w : World) : Calls Try.prog 11 #[.agg #[.int .i64 day, .string tx, .slice A n c]] w fun e w' => e = .returned (.bool (fewB tx.size n)) ∧ Below w.heap.size w w' := by
  have hb1 := below_new w (.cells #[.int .i64 day, .string tx, .slice A n c] 25)
  have HB := hide hb1
  clear hb1
  go_enter Try.func11, Try.ntmps11
  by_cases h1 : n ≤ 100
  · have h1' : (n : Int) ≤ 100 := by omega
    by_cases h2 : tx.size ≤ 1000
    · have h2' : (tx.size : Int) ≤ 1000 := by omega
      have hf : fewB tx.size n = true := by simp [fewB, h1, h2]
      rw [hf]
      go_wp2
      go_ret
      exact ⟨rfl, HB.out⟩
    · have h2' : ¬ (tx.size : Int) ≤ 1000 := by omega
      have hf : fewB tx.size n = false := by simp [fewB, h2]
      rw [hf]
      go_wp2
      go_ret
      exact ⟨rfl, HB.out⟩
  · have h1' : ¬ (n : Int) ≤ 100 := by omega
    have hf : fewB tx.size n = false := by simp [fewB, h1]
    rw [hf]
    go_wp2
    go_ret
    exact ⟨rfl, HB.out⟩
end Go.Proofs.Ytibanikfalfmcaa
