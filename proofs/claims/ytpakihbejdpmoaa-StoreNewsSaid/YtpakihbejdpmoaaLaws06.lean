/-
  StoreNews.
-/
import Derived.Test.YtpakihbejdpmoaaAwake06
namespace Go.Proofs.Ytpakihbejdpmoaa
open Go.RowKit Go.Maps
set_option linter.unusedVariables false

set_option maxRecDepth 100000 in
set_option maxHeartbeats 4000000 in
theorem storeNews_any (room : Int) (w : World) : Calls Try.prog 4 #[.int .i64 room] w fun e w' => e = .returned (.bool true) ∧ Below w.heap.size w w' := by
  go_enter Try.func4, Try.ntmps4
  go_wp2_with (go_at_call 9; refine halted ?_)
  refine go_on ?_
  refine (awake_any w).mono ?_
  rintro e w1 ⟨rfl, hb1⟩
  have HB1 := hide hb1
  clear hb1
  by_cases hr : room < 1 ∨ 16777216 < room
  · have HR := hide hr
    clear hr
    go_wp2_with (go_at_call 10; refine halted ?_)
    refine go_on ?_
    refine (new_no w1 room HR.out).mono ?_
    rintro e w2 ⟨rfl, rfl⟩
    go_wp2_with (go_at_call 11; refine halted ?_)
    refine go_on ?_
    refine (rnew_any _ room).mono ?_
    rintro e w3 ⟨p, rfl, hb3⟩
    rw [if_pos HR.out]
    have HB3 := hide (HB1.out.trans (hb3.mono HB1.out.size))
    clear hb3
    go_wp2
    go_ret
    exact ⟨rfl, HB3.out⟩
  · have h1 : ¬ room < 1 := fun h => hr (.inl h)
    have h2 : ¬ 16777216 < room := fun h => hr (.inr h)
    have HR := hide hr
    have H1 := hide h1
    have H2 := hide h2
    clear hr h1 h2
    go_wp2_with (go_at_call 10; refine halted ?_)
    refine go_on ?_
    refine (new_ok w1 room (by have := H1.out; omega) (by have := H2.out; omega)).mono ?_
    rintro e w2 ⟨q, bn, bd, rfl, hs, hb, ho⟩
    have HB2 := hide (HB1.out.trans (hb.mono HB1.out.size))
    clear hs hb ho
    go_wp2_with (go_at_call 11; refine halted ?_)
    refine go_on ?_
    refine (rnew_any _ room).mono ?_
    rintro e w3 ⟨p, rfl, hb3⟩
    rw [if_neg HR.out]
    have HB3 := hide (HB2.out.trans (hb3.mono HB2.out.size))
    clear hb3
    go_wp2
    go_ret
    exact ⟨rfl, HB3.out⟩
end Go.Proofs.Ytpakihbejdpmoaa
