/-
  store's Plan.
-/
import Derived.Test.YtpakihbejdpmoaaAwake06
namespace Go.Proofs.Ytpakihbejdpmoaa
open Go.RowKit Go.Maps
set_option linter.unusedVariables false

def PlanR (q : Nat) (s : SS) (w : World) (l : List UInt8) (e : Ending) (w' : World) : Prop := e = .returned (.tuple #[]) ∧ ∃ AP cP, Did q s w { s with AP := AP, cP := cP, plan := l } w'
set_option maxRecDepth 100000 in
set_option maxHeartbeats 4000000 in
theorem plan_any (q : Nat) (s : SS) (w : World) (hs : Sm q s w) (A : Option Addr) (B c n : Nat) (bs : List UInt8) (hn : bs.length = n) (hr : Bytes w B A bs) (hB : B ≤ w.heap.size) (hl : bs.length ≤ 140737488355328) :
    Calls Try.prog 16 #[.pointer (some ⟨q, 0, none⟩), .slice A n c] w (PlanR q s w bs) := by
  have HC := hide (clone_any A B c n bs w hn hr hB hl)
  have HS := hide hs
  clear hs hr
  go_enter Try.func16, Try.ntmps16
  go_wp2_with (go_at_call 42; refine halted ?_)
  refine go_on ?_
  refine HC.out.mono ?_
  clear HC
  rintro e w1 ⟨A', c', rfl, hown, hb⟩
  have hs1 := HS.out.call hb
  have f4 := hs1.box.free 4
  have c4 := hs1.box.cell 4
  simp at c4
  have HS1 := hide hs1
  have HOWN := hide hown
  have HB := hide hb
  clear hs1 hown hb
  go_wp2
  go_end0
  have hcap : bs.length ≤ c' := by
    obtain ⟨A2, c2, h1, h2, _⟩ := own_shape HOWN.out
    injection h1 with _ _ h1
    omega
  have hlow : ∀ k, InRow A' k → w.heap.size ≤ k := fun k hk => HOWN.out.le k hk
  have hk := keptQ w1 q 4 (.slice A' n c')
  have hbx : StB q { s with AP := A', cP := c', plan := bs, off := s.off } (w1.setCell ⟨q, 4, none⟩ (.slice A' n c')) := by
    have := HS1.out.box.set 4 (.slice A' n c')
    rw [← hn] at this ⊢
    exact this
  refine ⟨rfl, A', c', HS1.out.rebox hk hbx HOWN.out.bytes hcap (fun k h => Kb.of_row HOWN.out h) (fun f hf k h1 h2 => ?_), (Kept.of_below HB.out).trans_in hk (fun k _ e => .inl e), fun k h => ?_⟩
  · have := (HS.out.kr hf h2).lt
    have := hlow k h1
    omega
  · rcases h with h | h | h | h | h | h
    · exact .inl (.inl h)
    · exact .inl (.inr (.inl h))
    · exact .inl (.inr (.inr (.inl h)))
    · exact .inl (.inr (.inr (.inr (.inl h))))
    · exact .inr (hlow k h)
    · exact .inl (.inr (.inr (.inr (.inr (.inr h)))))
end Go.Proofs.Ytpakihbejdpmoaa
