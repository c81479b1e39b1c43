/-
  code.TakeInt.
-/
import Derived.Test.YtibanikfalfmcaaIntFn
namespace Go.Proofs.Ytibanikfalfmcaa
open Go.RowKit
set_option linter.unusedVariables false

def TookZ (X : Nat → Prop) (w w' : World) (e : Ending) (r : Int × List UInt8 × Int) : Prop :=
  ∃ A c, e = .returned (.tuple #[.int .i64 r.1, .slice A r.2.1.length c, .int .i64 r.2.2]) ∧ Bytes w' w'.heap.size A r.2.1 ∧ r.2.1.length ≤ c ∧ Below w.heap.size w w' ∧ Away X A r.2.1
def tookZ : Option (Nat × List UInt8) → Int × List UInt8 × Int
  | none => (0, [], 3)
  | some (z, r) => (zag z, r, 0)

set_option maxRecDepth 100000 in
theorem thenInt_any (A : Option Addr) (B c n : Nat) (bs : List UInt8) (w : World) (hn : bs.length = n) (hr : Bytes w B A bs) (hB : B ≤ w.heap.size) (hl : bs.length ≤ 140737488355000) (hc : bs.length ≤ c) {X : Nat → Prop} (haw : Away X A bs) (hX : ∀ k, X k → k < w.heap.size) :
    Calls Try.prog 77 #[.slice A n c, .func (.func 40) #[] #[], .func (.func 78) #[] #[]] w fun e w' => TookZ X w w' e (tookZ (takeN bs)) := by
  subst hn
  have htn := takeNumber_any A B c _ bs w rfl hr hB hl hc haw hX
  cases hT : takeN bs with
  | none =>
    rw [hT] at htn
    have HN := hide htn
    clear htn hT
    go_enter Try.func77, Try.ntmps77
    go_wp2_with (go_at_call 40; refine halted ?_)
    refine go_on ?_
    refine HN.out.mono ?_
    rintro e w1 ⟨A1, c1, rfl, hr1, hc1, hb1, haw1⟩
    dsimp only [tookR] at *
    go_wp2
    refine bodyPost_ret (results_tmp3 rfl _ _ _) rfl ?_
    exact ⟨none, 0, rfl, Bytes.nil, by simp [tookZ], hb1, Away.none⟩
  | some x =>
    obtain ⟨m, r⟩ := x
    rw [hT] at htn
    have HN := hide htn
    have hm := takeN_lt hT
    have hcl : ∀ (w1 : World) (A1 : Option Addr) (c1 : Nat), Calls Try.prog 78 #[.int .u64 (m : Int), .slice A1 r.length c1] w1 fun e w' => e = .returned (.tuple #[.int .i64 (zag m), .slice A1 r.length c1, .int .i64 0]) ∧ w1 = w' := fun w1 A1 c1 => takeInt1_any m A1 r.length c1 w1 hm
    have HCL := hide hcl
    obtain ⟨x, hx⟩ : ∃ x : Int, x = (m : Int) := ⟨_, rfl⟩
    clear htn hT hcl
    have HX := hide hx
    have HM := hide hm
    clear hx hm
    go_enter Try.func77, Try.ntmps77
    go_wp2_with (go_at_call 40; refine halted ?_)
    refine go_on ?_
    refine HN.out.mono ?_
    rintro e w1 ⟨A1, c1, rfl, hr1, hc1, hb1, haw1⟩
    dsimp only [tookR] at *
    have HR1 := hide hr1
    have HC1 := hide hc1
    have HA1 := hide haw1
    clear hr1 hc1 haw1
    go_wp2_with (go_at_call 78; refine halted ?_)
    refine go_on ?_
    refine (HCL.out w1 A1 c1).mono ?_
    rintro e w2 ⟨rfl, rfl⟩
    obtain ⟨z, hz⟩ : ∃ z, z = zag m := ⟨_, rfl⟩
    rw [← hz]
    have HZ := hide hz
    clear hz
    go_wp2
    refine bodyPost_ret (results_tmp3 rfl _ _ _) rfl ?_
    exact ⟨A1, c1, by rw [HZ.out]; rfl, HR1.out, HC1.out, hb1, HA1.out⟩

theorem takeInt_any (A : Option Addr) (B c n : Nat) (bs : List UInt8) (w : World) (hn : bs.length = n) (hr : Bytes w B A bs) (hB : B ≤ w.heap.size) (hl : bs.length ≤ 140737488355000) (hc : bs.length ≤ c) {X : Nat → Prop} (haw : Away X A bs) (hX : ∀ k, X k → k < w.heap.size) :
    Calls Try.prog 42 #[.slice A n c] w fun e w' => TookZ X w w' e (tookZ (takeN bs)) := by
  have HN := hide (thenInt_any A B c n bs w hn hr hB hl hc haw hX)
  go_enter Try.func42, Try.ntmps42
  go_wp2_with (go_at_call 77; refine halted ?_)
  refine go_on ?_
  refine HN.out.mono ?_
  rintro e w1 ⟨A2, c2, rfl, h2, h3, h4, h5⟩
  have HF : Hid (TookZ X w w1 (.returned (.tuple #[.int .i64 (tookZ (takeN bs)).1, .slice A2 (tookZ (takeN bs)).2.1.length c2, .int .i64 (tookZ (takeN bs)).2.2])) (tookZ (takeN bs))) := ⟨A2, c2, rfl, h2, h3, h4, h5⟩
  clear h2 h3 h4 h5
  generalize hR : tookZ (takeN bs) = R at *
  have HRR := hide hR
  clear hR
  go_wp2
  refine bodyPost_ret (results_tmp3 rfl _ _ _) rfl ?_
  rw [HRR.out]
  exact HF.out
end Go.Proofs.Ytibanikfalfmcaa
