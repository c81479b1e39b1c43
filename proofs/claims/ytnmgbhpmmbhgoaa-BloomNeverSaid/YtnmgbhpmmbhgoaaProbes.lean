/-
  bloom.probes: the iterator that it makes.
-/
import Derived.Test.YtnmgbhpmmbhgoaaBloomProbe
import Derived.Test.YtnmgbhpmmbhgoaaRange
namespace Go.Proofs.Ytnmgbhpmmbhgoaa
open Go.RowKit Go.Shelf
set_option linter.unusedVariables false

/-- The iterator, and its three boxes. -/
def ProbesP (f key : List UInt8) (A : Option Addr) (c : Nat) (w w' : World) (e : Ending) : Prop :=
  ∃ s0 s1 s2 : Nat, e = .returned (.func (.func 23) #[] #[.pointer (some ⟨s0, 0, none⟩), .pointer (some ⟨s1, 0, none⟩), .pointer (some ⟨s2, 0, none⟩)]) ∧ w.heap.size ≤ s0 ∧ s0 < s1 ∧ s1 < s2 ∧ s2 < w'.heap.size ∧
    Boxed w' s0 23 (.slice A f.length c) ∧ Boxed w' s1 45 (.int .u64 (hK key : Int)) ∧ Boxed w' s2 45 (.int .u64 (gK key : Int)) ∧ Below w.heap.size w w'

set_option maxRecDepth 100000 in
set_option maxHeartbeats 4000000 in
theorem probes_any (A A2 : Option Addr) (c c2 : Nat) (f key : List UInt8) (w : World) (hr2 : Bytes w w.heap.size A2 key) (hl2 : key.length ≤ 1000000000) :
    Calls Try.prog 15 #[.slice A f.length c, .slice A2 key.length c2] w fun e w' => ProbesP f key A c w w' e := by
  have hb0 : Below w.heap.size w (w.alloc (.cells #[.slice A f.length c] 23)) := (Below.refl _ _).alloc (Nat.le_refl _) _
  have hsz0 : (w.alloc (.cells #[.slice A f.length c] 23)).heap.size = w.heap.size + 1 := World.size_alloc ..
  have hbx0 : Boxed (w.alloc (.cells #[.slice A f.length c] 23)) w.heap.size 23 (.slice A f.length c) := Boxed.new w _ _
  generalize hW0 : w.alloc (.cells #[.slice A f.length c] 23) = W0 at *
  have hcl := clone_any A2 W0.heap.size c2 key.length key W0 rfl ((hr2.below hb0).more hb0.size) (Nat.le_refl _) (by omega)
  have HCL := hide hcl
  have HW0 := hide hW0
  have HB0 := hide hb0
  have HBX0 := hide hbx0
  have HR2 := hide hr2
  clear hcl hW0 hb0 hbx0 hr2
  go_enter Try.func15, Try.ntmps15
  go_wp2_with (go_at_call 18; refine halted ?_)
  refine go_on ?_
  rw [HW0.out]
  refine HCL.out.mono ?_
  rintro e w1 ⟨A3, c3, rfl, hown, hb1⟩
  have hrev := reverse_any W0.heap.size A3 c3 key.length key w1 rfl hown (by omega)
  have HREV := hide hrev
  have hbw1 := HB0.out.trans (hb1.mono HB0.out.size)
  have hge : ∀ k, A3.map (·.block) = some k → w.heap.size + 1 ≤ k := fun k hk => by have := (hown.lt hk).1; omega
  have hbx1 : Boxed w1 w.heap.size 23 (.slice A f.length c) := (hb1.block _ (by omega)).trans HBX0.out
  have HBX1 := hide hbx1
  have hs1 := hb1.size
  clear hown hrev hb1 hbx1
  go_wp2_with (go_at_call 21; refine halted ?_)
  refine go_on ?_
  refine HREV.out.mono ?_
  rintro e w2 ⟨rfl, hown2, hg2⟩
  have hbw2 := hbw1.grown hg2 hbw1.size (fun k hk => by have := hge k hk; omega)
  have hbx2 : Boxed w2 w.heap.size 23 (.slice A f.length c) := HBX1.out.kept hg2 (fun e => by have := hge _ e.symm; omega)
  have hs2 := hg2.size
  have hsA := sum_any A2 w.heap.size c2 key w2 ((HR2.out.below hbw2)) hbw2.size (by omega)
  have HSA := hide hsA
  have HBX2 := hide hbx2
  have HOWN := hide hown2
  clear hsA hbx2 hown2 hg2 HREV
  go_wp2_with (go_at_call_of 22 (Value.slice A2 key.length c2); refine halted ?_)
  refine go_on ?_
  refine HSA.out.mono ?_
  rintro e w3 ⟨rfl, hb3⟩
  have hbw3 := hbw2.trans (hb3.mono hbw2.size)
  have hbx3 : Boxed w3 w.heap.size 23 (.slice A f.length c) := (hb3.block _ (HBX2.out.lt)).trans HBX2.out
  have hsB := sum_any A3 w3.heap.size c3 key.reverse w3 ((HOWN.out.bytes.below hb3).more hb3.size) (Nat.le_refl _) (by rw [List.length_reverse]; omega)
  rw [List.length_reverse] at hsB
  have HSB := hide hsB
  have HBX3 := hide hbx3
  clear hsB hbx3 hb3 HSA HOWN
  go_wp2_with (go_at_call 22; refine halted ?_)
  refine go_on ?_
  refine HSB.out.mono ?_
  rintro e w4 ⟨rfl, hb4⟩
  have hbw4 := hbw3.trans (hb4.mono hbw3.size)
  have hbx4 : Boxed w4 w.heap.size 23 (.slice A f.length c) := (hb4.block _ (HBX3.out.lt)).trans HBX3.out
  have HBX4 := hide hbx4
  have hlt4 : w.heap.size < w4.heap.size := hbx4.lt
  have e1 : Hid ((hK key : Int) = (addS 0 key : Int)) := rfl
  have e2 : Hid ((gK key : Int) = (addS 0 key.reverse : Int) + 1) := by show _ = _; unfold gK; omega
  have k1 : (addS 0 key : Int) < 2147483647 := by have := addS_lt 0 key (by omega); omega
  have k2 : (addS 0 key.reverse : Int) < 2147483647 := by have := addS_lt 0 key.reverse (by omega); omega
  have k3 : 0 ≤ (addS 0 key : Int) := by omega
  have k4 : 0 ≤ (addS 0 key.reverse : Int) := by omega
  generalize hH : (addS 0 key : Int) = H at *
  generalize hG : (addS 0 key.reverse : Int) = G at *
  have HHH := hide hH
  have HGG := hide hG
  clear hbx4 hb4 HSB hH hG
  go_wp2
  go_ret
  have b1 := Boxed.new w4 45 (.int .u64 H)
  have b2 := Boxed.new (w4.alloc (.cells #[.int .u64 H] 45)) 45 (.int .u64 (G + 1))
  rw [World.size_alloc] at b2
  exact ⟨w.heap.size, w4.heap.size, w4.heap.size + 1, rfl, Nat.le_refl _, hlt4, by omega, by simp, (HBX4.out.alloc _).alloc _, by rw [e1.out]; exact b1.alloc _, by rw [e2.out]; exact b2, (hbw4.alloc hbw4.size _).alloc (by simp; have := hbw4.size; omega) _⟩
end Go.Proofs.Ytnmgbhpmmbhgoaa
