/-
  code.Text and the reference's: what they do.
-/
import Derived.Test.YtibanikfalfmcaaNum
namespace Go.Proofs.Ytibanikfalfmcaa
open Go.RowKit
set_option linter.unusedVariables false

theorem text_any (A : Option Addr) (B c n : Nat) (bs : List UInt8) (w : World) (hn : bs.length = n) (hr : Bytes w B A bs) (hB : B ≤ w.heap.size) (hl : bs.length ≤ 140737488355000) :
    Calls Try.prog 37 #[.slice A n c] w fun e w' => NewB w w' e (textB bs) := by
  subst hn
  have HN := hide (number_any bs.length w (by omega))
  have hlen := hide (numB_len bs.length)
  go_enter Try.func37, Try.ntmps37
  go_wp2_with (go_at_call 36; refine halted ?_)
  refine go_on ?_
  refine HN.out.mono ?_
  rintro e w1 ⟨A1, c1, rfl, hown, hb⟩
  go_wp2_with (at_builtin; refine halted ?_)
  refine go_on ?_
  refine wpList_append_bytes _ rfl (.tmp 6) (.tmp 7) 40 rfl w.heap.size 5 Try.underlying40 info_u8 _ _ _ (numB bs.length) rfl rfl hown _ A _ c bs rfl rfl (hr.belowLe hb hB) (by have := hlen.out; omega) hb.size ?_
  intro ds A' c' w' hds hdl hown' hg _
  have hb' := hown.below_grown hb hg (Nat.le_refl _) hb.size
  have hde : ds = textB bs := by rw [hds.out]; rfl
  subst hde
  clear hown hb hg hds
  go_wp2
  go_ret
  exact ⟨A', c', rfl, hown', hb'⟩


theorem rtext_any (A : Option Addr) (B c n : Nat) (bs : List UInt8) (w : World) (hn : bs.length = n) (hr : Bytes w B A bs) (hB : B ≤ w.heap.size) (hl : bs.length ≤ 140737488355000) :
    Calls Try.prog 47 #[.slice A n c] w fun e w' => NewB w w' e (textB bs) := by
  subst hn
  have HN := hide (rnumber_any bs.length w (by omega))
  have hlen := hide (numB_len bs.length)
  go_enter Try.func47, Try.ntmps47
  go_wp2_with (go_at_call 46; refine halted ?_)
  refine go_on ?_
  refine HN.out.mono ?_
  rintro e w1 ⟨A1, c1, rfl, hown, hb⟩
  go_wp2_with (at_builtin; refine halted ?_)
  refine go_on ?_
  refine wpList_append_bytes _ rfl (.tmp 6) (.tmp 7) 40 rfl w.heap.size 5 Try.underlying40 info_u8 _ _ _ (numB bs.length) rfl rfl hown _ A _ c bs rfl rfl (hr.belowLe hb hB) (by have := hlen.out; omega) hb.size ?_
  intro ds A' c' w' hds hdl hown' hg _
  have hb' := hown.below_grown hb hg (Nat.le_refl _) hb.size
  have hde : ds = textB bs := by rw [hds.out]; rfl
  subst hde
  clear hown hb hg hds
  go_wp2
  go_ret
  exact ⟨A', c', rfl, hown', hb'⟩
end Go.Proofs.Ytibanikfalfmcaa
