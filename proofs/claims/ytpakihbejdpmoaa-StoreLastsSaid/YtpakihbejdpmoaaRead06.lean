/-
  store's Read.
-/
import Derived.Test.YtpakihbejdpmoaaAwake06
namespace Go.Proofs.Ytpakihbejdpmoaa
open Go.RowKit Go.Maps
set_option linter.unusedVariables false

/-- What a reading answers. -/
def readE (off ok : Bool) (found : Option Nat) : Int := if off = true then 8 else if ok = false then 1 else match found with
  | none => 4
  | some _ => 0
def ReadR (s : SS) (w : World) (nm : ByteArray) (E : Int) (e : Ending) (w' : World) : Prop :=
  ∃ A c bs, e = .returned (.tuple #[.slice A bs.length c, .int .i64 E]) ∧ OwnB w' w.heap.size 5 A c bs ∧ Below w.heap.size w w' ∧ (E = 0 → ∃ f ∈ s.files, dFind s.now nm.data.toList = some f.q ∧ bs = f.bs) ∧ (E ≠ 0 → bs = [])

set_option maxRecDepth 100000 in
set_option maxHeartbeats 4000000 in
theorem read_any (q : Nat) (s : SS) (w : World) (hs : Sm q s w) (nm : ByteArray) (hnm : nm.size ≤ maxLen) (hfl : ∀ f ∈ s.files, f.bs.length ≤ 1000000000000) :
    Calls Try.prog 21 #[.pointer (some ⟨q, 0, none⟩), .string nm] w (ReadR s w nm (readE s.off (isNm nm) (dFind s.now nm.data.toList))) := by
  obtain ⟨E, HEE⟩ : ∃ E, Hid (E = readE s.off (isNm nm) (dFind s.now nm.data.toList)) := ⟨_, rfl⟩
  rw [← HEE.out]
  have c5 := hs.box.cell 5
  simp at c5
  have HS := hide hs
  clear hs
  go_enter Try.func21, Try.ntmps21
  cases hoff : s.off with
  | true =>
    rw [hoff] at c5
    have HE : Hid (E = 8) := by show _ = _; rw [HEE.out, hoff]; rfl
    clear hoff
    go_wp2
    go_ret2
    exact ⟨none, 0, [], by rw [HE.out]; rfl, OwnB.nil _ _ _, Below.refl _ _, fun h => absurd (HE.out.symm.trans h) (by decide), fun _ => rfl⟩
  | false =>
    rw [hoff] at c5
    have HO := hide hoff
    clear hoff
    go_wp2_with (go_at_call 47; refine halted ?_)
    refine go_on ?_
    have hA : Below w.heap.size w (w.alloc (.cells #[.string nm] 9)) := (Below.refl _ _).alloc (Nat.le_refl _) _
    have hrw := Row.new w #[.string nm] 9 (0, 0)
    have hz : w.heap.size + 1 ≤ (w.alloc (.cells #[.string nm] 9)).heap.size := by simp
    generalize w.alloc (.cells #[.string nm] 9) = u at *
    refine (named_any (some ⟨w.heap.size, 0, none⟩) (w.heap.size + 1) 1 1 [nm] u rfl hrw hz (by omega)).mono ?_
    rw [show [nm].all isNm = isNm nm by simp]
    rintro e w1 ⟨rfl, hb1⟩
    have hB := hA.trans (hb1.mono hA.size)
    have hs1 := HS.out.call hB
    have c1 := hs1.box.cell 1
    simp at c1
    have hlook := look_dir hs1.mnow hnm
    have HB := hide hB
    have HS1 := hide hs1
    clear hA hrw hz hb1 hB hs1 c5
    cases hnb : isNm nm with
    | false =>
      have HE : Hid (E = 1) := by show _ = _; rw [HEE.out, HO.out, hnb]; rfl
      clear hnb
      go_wp2
      go_ret2
      exact ⟨none, 0, [], by rw [HE.out]; rfl, OwnB.nil _ _ _, HB.out, fun h => absurd (HE.out.symm.trans h) (by decide), fun _ => rfl⟩
    | true =>
      cases hfd : dFind s.now nm.data.toList with
      | none =>
        have HE : Hid (E = 4) := by show _ = _; rw [HEE.out, HO.out, hnb, hfd]; rfl
        rw [hfd] at hlook
        dsimp only [Option.isSome, ptrOf, Option.map] at hlook
        clear hnb hfd
        go_wp2
        go_ret2
        exact ⟨none, 0, [], by rw [HE.out]; rfl, OwnB.nil _ _ _, HB.out, fun h => absurd (HE.out.symm.trans h) (by decide), fun _ => rfl⟩
      | some qf =>
        obtain ⟨f, hf, hfq⟩ := HS.out.nnow _ (dFind_mem hfd)
        have hfq : f.q = qf := hfq
        subst hfq
        have HE : Hid (E = 0) := by show _ = _; rw [HEE.out, HO.out, hnb, hfd]; rfl
        rw [hfd] at hlook
        dsimp only [Option.isSome, ptrOf, Option.map] at hlook
        have d0 := Joins.cell_of_block (HS1.out.fbox f hf) 0
        simp at d0
        have HCL := hide (clone_any f.A w1.heap.size f.c f.bs.length f.bs w1 rfl (HS1.out.frow f hf).bytes (Nat.le_refl _) (by have := hfl f hf; omega))
        have HF := hide hf
        have HFD := hide hfd
        clear hnb hfd hf
        go_wp2_with (go_at_call 42; refine halted ?_)
        refine go_on ?_
        refine HCL.out.mono ?_
        clear HCL
        rintro e w2 ⟨A', c', rfl, hown, hb2⟩
        have HR := hide (And.intro (hown.more HB.out.size) (HB.out.trans (hb2.mono HB.out.size)))
        clear hown hb2 hlook c1 d0
        go_wp2
        go_ret2
        exact ⟨A', c', f.bs, by rw [HE.out]; rfl, HR.out.1, HR.out.2, fun _ => ⟨f, HF.out, HFD.out, rfl⟩, fun h => absurd HE.out h⟩
end Go.Proofs.Ytpakihbejdpmoaa
