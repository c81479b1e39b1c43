/-
  store's Rename.
-/
import Derived.Test.YtpakihbejdpmoaaWithR
namespace Go.Proofs.Ytpakihbejdpmoaa
open Go.RowKit Go.Maps
set_option linter.unusedVariables false

set_option maxRecDepth 100000 in
set_option maxHeartbeats 4000000 in
theorem rename_any (q : Nat) (s : SS) (w : World) (hs : Sm q s w) (fr to : ByteArray) (hnm : fr.size ≤ maxLen) (hnt : to.size ≤ maxLen) (hpl : s.plan.length ≤ 1000000000) (hl : s.now.length ≤ 1000000000) (hkl : s.kept.length ≤ 1000000000) :
    Calls Try.prog 20 #[.pointer (some ⟨q, 0, none⟩), .string fr, .string to] w fun e w' =>
      RenR q s w fr to (meetE (isNm to && isNm fr) s.off s.plan) (renE (meetE (isNm to && isNm fr) s.off s.plan) (dFind s.now fr.data.toList)) e w' := by
  go_enter Try.func20, Try.ntmps20
  have HS := hide hs
  clear hs
  go_wp2_with (go_at_call 43; refine halted ?_)
  refine go_on ?_
  obtain ⟨u1, hu1⟩ : ∃ u, u = w.alloc (.cells #[.pointer (some ⟨q, 0, none⟩)] 24) := ⟨_, rfl⟩
  have z1 : u1.heap.size = w.heap.size + 1 := by rw [hu1]; simp
  have x1 : u1.heap[w.heap.size]? = some (.cells #[.pointer (some ⟨q, 0, none⟩)] 24) := by rw [hu1]; exact heap_alloc_new w _
  have b1 : Below w.heap.size w u1 := by rw [hu1]; exact (Below.refl _ _).alloc (Nat.le_refl _) _
  rw [← hu1]
  obtain ⟨u2, hu2⟩ : ∃ u, u = u1.alloc (.cells #[.string fr] 9) := ⟨_, rfl⟩
  have z2 : u2.heap.size = u1.heap.size + 1 := by rw [hu2]; simp
  have x2 : u2.heap[u1.heap.size]? = some (.cells #[.string fr] 9) := by rw [hu2]; exact heap_alloc_new u1 _
  have b2 : Below u1.heap.size u1 u2 := by rw [hu2]; exact (Below.refl _ _).alloc (Nat.le_refl _) _
  rw [← hu2]
  obtain ⟨u3, hu3⟩ : ∃ u, u = u2.alloc (.cells #[.string to] 9) := ⟨_, rfl⟩
  have z3 : u3.heap.size = u2.heap.size + 1 := by rw [hu3]; simp
  have x3 : u3.heap[u2.heap.size]? = some (.cells #[.string to] 9) := by rw [hu3]; exact heap_alloc_new u2 _
  have b3 : Below u2.heap.size u2 u3 := by rw [hu3]; exact (Below.refl _ _).alloc (Nat.le_refl _) _
  rw [← hu3]
  obtain ⟨u4, hu4⟩ : ∃ u, u = u3.alloc (.cells #[.string to] 9) := ⟨_, rfl⟩
  have b4 : Below u3.heap.size u3 u4 := by rw [hu4]; exact (Below.refl _ _).alloc (Nat.le_refl _) _
  have hrow : u4.ownsRow w.heap.size 9 1 (.slice (some ⟨u3.heap.size, 0, none⟩) 1 1) 1 [.string to] := by
    rw [hu4]
    exact World.ownsRow_lit (base := w.heap.size) (e := 9) (size := 1) u3 #[.string to] 1 (by omega) (by unfold maxLen; omega) (by simp)
  rw [← hu4]
  clear hu1 hu2 hu3 hu4
  rw [show w.heap.size + 1 + 1 + 1 = u3.heap.size by omega, show w.heap.size + 1 + 1 = u2.heap.size by omega, show w.heap.size + 1 = u1.heap.size by omega]
  have hb : Below w.heap.size w u4 := ((b1.trans (b2.mono (by omega))).trans (b3.mono (by omega))).trans (b4.mono (by omega))
  have g1 : BxQ w.heap.size q u4 := (b4.block _ (by omega)).trans ((b3.block _ (by omega)).trans ((b2.block _ (by omega)).trans x1))
  have g2 : BxS u1.heap.size fr u4 := (b4.block _ (by omega)).trans ((b3.block _ (by omega)).trans x2)
  have g3 : BxS u2.heap.size to u4 := (b4.block _ (by omega)).trans x3
  have HW := hide (withR_any q s w u4 HS.out hb fr to hnm hnt hpl hl hkl u1.heap.size u2.heap.size w.heap.size u3.heap.size 1 g2 g3 g1 (by omega) (by omega) (by omega) hrow (by omega) (by omega) (by omega) (by omega))
  clear g1 g2 g3 hb hrow b1 b2 b3 b4 x1 x2 x3
  refine HW.out.mono ?_
  rintro e w1 h
  have he : e = _ := h.1
  subst he
  have HA := hide h
  clear h HW
  go_wp2
  go_ret
  exact HA.out
end Go.Proofs.Ytpakihbejdpmoaa
