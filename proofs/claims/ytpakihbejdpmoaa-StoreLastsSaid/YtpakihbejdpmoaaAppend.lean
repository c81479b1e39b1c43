/-
  store's Append; New; Off; awake.
-/
import Derived.Test.YtpakihbejdpmoaaWith1
namespace Go.Proofs.Ytpakihbejdpmoaa
open Go.RowKit Go.Maps
set_option linter.unusedVariables false

theorem AppR.after {q : Nat} {s : SS} {w w1 w2 : World} {nm : ByteArray} {bs : List UInt8} {m : Int × List UInt8 × Bool} {E : Int} {e : Ending} (hs : Sm q s w) (hb : Below w.heap.size w w1) (h : AppR q s w1 nm bs m E e w2) : AppR q s w nm bs m E e w2 := by
  obtain ⟨h1, s', h2, h3⟩ := h
  exact ⟨h1, s', (Did.call hs hb).trans h2, h3⟩

set_option maxRecDepth 100000 in
set_option maxHeartbeats 4000000 in
theorem append_any (q : Nat) (s : SS) (w : World) (hs : Sm q s w) (nm : ByteArray) (hnm : nm.size ≤ maxLen) (hpl : s.plan.length ≤ 1000000000) (room : Nat) (hroom : s.room = (room : Int)) (hrm : room ≤ 16777216) (hsz : sizeS s ≤ 1000000000000) (hfl : ∀ f ∈ s.files, f.bs.length ≤ 1000000000000)
    (A : Option Addr) (n c : Nat) (bs : List UInt8) (hn : bs.length = n) (hr : Bytes w w.heap.size A bs) (hbl : n ≤ 1000000000) (haw : Away (s.own q) A bs) :
    Calls Try.prog 18 #[.pointer (some ⟨q, 0, none⟩), .string nm, .slice A n c] w fun e w' =>
      AppR q s w nm bs (meetE (isNm nm) s.off s.plan) (appendE (meetE (isNm nm) s.off s.plan) (dFind s.now nm.data.toList) room (sizeS s) n) e w' := by
  go_enter Try.func18, Try.ntmps18
  have HS := hide hs
  clear hs
  go_wp2_with (go_at_call 43; refine halted ?_)
  refine go_on ?_
  have hA : Below w.heap.size w ((w.alloc (.cells #[.pointer (some ⟨q, 0, none⟩)] 24)).alloc (.cells #[.slice A n c] 33)) := ((Below.refl _ _).alloc (Nat.le_refl _) _).alloc (by simp) _
  have hB : BxB (w.heap.size + 1) A n c ((w.alloc (.cells #[.pointer (some ⟨q, 0, none⟩)] 24)).alloc (.cells #[.slice A n c] 33)) := by
    have h := heap_alloc_new (w.alloc (.cells #[.pointer (some ⟨q, 0, none⟩)] 24)) (.cells #[.slice A n c] 33)
    rw [World.size_alloc] at h
    exact h
  have hQ : BxQ w.heap.size q ((w.alloc (.cells #[.pointer (some ⟨q, 0, none⟩)] 24)).alloc (.cells #[.slice A n c] 33)) := by
    have h := heap_alloc_new w (.cells #[.pointer (some ⟨q, 0, none⟩)] 24)
    exact (((Below.refl (w.alloc (.cells #[.pointer (some ⟨q, 0, none⟩)] 24)).heap.size _).alloc (Nat.le_refl _) (.cells #[.slice A n c] 33)).block _ (by simp)).trans h
  generalize (w.alloc (.cells #[.pointer (some ⟨q, 0, none⟩)] 24)).alloc (.cells #[.slice A n c] 33) = u at *
  have hn1 : ¬ s.own q (w.heap.size + 1) := fun h => by have := HS.out.lt h; omega
  have hn2 : ¬ s.own q w.heap.size := fun h => by have := HS.out.lt h; omega
  refine (withA_any q s u (HS.out.call hA) nm hnm hpl room hroom hrm hsz hfl (w.heap.size + 1) w.heap.size A n c bs hn ((hr.below hA).more hA.size) hbl haw hB hQ hn1 hn2).mono ?_
  rintro e w1 h
  have HA := hide (h.after HS.out hA)
  have he : e = _ := h.1
  subst he
  clear h hA hB hQ hn1 hn2 hr
  go_wp2
  go_ret
  exact HA.out
end Go.Proofs.Ytpakihbejdpmoaa
