/-
  slices.Clone at bytes: what it does.
-/
import Derived.Test.YtpakihbejdpmoaaOwn
import Derived.BigRegion
import Derived.WalkSpells

namespace Go.Proofs.Ytpakihbejdpmoaa
open Go.RowKit
set_option linter.unusedVariables false

theorem OwnB.stored_grown {w : World} {base : Nat} {e : TypeId} {g : Nat} {c : Nat} {bs : List UInt8} (h : OwnB w base e (some ⟨g, 0, none⟩) c bs) (j : Nat) (b : UInt8) : w.grownBy (w.setCell ⟨g, j, none⟩ (.int .u8 (b.toNat : Int))) (some g) :=
  (World.ownsRow.stored h j (.int .u8 (b.toNat : Int))).2
theorem grown_drew {a w : World} {row : Option Nat} (h : a.grownBy w row) : a.grownBy w.drew row := ⟨h.os, h.tape, h.output, h.size, h.block⟩
theorem grown_drewN {a w : World} {row : Option Nat} (h : a.grownBy w row) (n : Nat) : a.grownBy (w.drewN n) row := ⟨h.os, h.tape, h.output, h.size, h.block⟩
theorem OwnB.drew {w : World} {base : Nat} {e : TypeId} {A : Option Addr} {c : Nat} {bs : List UInt8} (h : OwnB w base e A c bs) : OwnB w.drew base e A c bs := h

theorem clone_any (A : Option Addr) (B c n : Nat) (bs : List UInt8) (w : World) (hn : bs.length = n) (hr : Bytes w B A bs) (hB : B ≤ w.heap.size) (hl : bs.length ≤ 140737488355328) :
    Calls Try.prog 42 #[.slice A n c] w fun e w' => ∃ A' c', e = .returned (.slice A' n c') ∧ OwnB w' w.heap.size 5 A' c' bs ∧ Below w.heap.size w w' := by
  cases A with
  | none =>
    have hb : bs = [] := by
      have := Row.eq_nil_of_none hr
      simpa using this
    subst hb
    subst hn
    have hq : ∀ w : World, (binOp .eql 33 (.slice none 0 c) (.slice none 0 0)).run Try.prog w = .ok (.bool true) w := fun w => Lib.run_eql_slice_nil w 33 5 none 0 c 0 0 Try.underlying33
    go_enter Try.func42, Try.ntmps42
    go_wp2
    go_ret
    exact ⟨none, 0, rfl, OwnB.nil _ _ _, Below.refl _ _⟩
  | some ad =>
    have hq : ∀ w : World, (binOp .eql 33 (.slice (some ad) n c) (.slice none 0 0)).run Try.prog w = .ok (.bool false) w := fun w => Lib.run_eql_slice_nil w 33 5 (some ad) n c 0 0 Try.underlying33
    go_enter Try.func42, Try.ntmps42
    go_wp2_with (at_builtin; refine halted ?_)
    refine go_on ?_
    refine wpList_append_bytes _ rfl (.tmp 5) (.tmp 6) 33 rfl w.heap.size 5 Try.underlying33 info_u8 _ _ _ [] rfl rfl (OwnB.lit w _ [] (Nat.le_refl _) (by simp)) _ (some ad) _ c bs rfl hn.symm (hr.alloc hB _) (by simpa using hl) (by simp) ?_
    intro d A' c' w' hd hdl hown hg _
    have hb : Below w.heap.size w w' := ((Below.refl w.heap.size w).alloc (Nat.le_refl _) _).grown hg (by simp) (by intro k hk; simp at hk; omega)
    have hde : d = bs := by rw [hd.out]; rfl
    subst hde
    clear hd hg
    go_wp2
    go_ret
    exact ⟨A', c', by rw [← hn]; rfl, hown, hb⟩

end Go.Proofs.Ytpakihbejdpmoaa
