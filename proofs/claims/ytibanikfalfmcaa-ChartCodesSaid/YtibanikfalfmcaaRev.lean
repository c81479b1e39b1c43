/-
  slices.Clone and slices.Reverse at bytes: what they do.
-/
import Derived.Test.YtibanikfalfmcaaOwn
import Derived.BigRegion
import Derived.WalkSpells

namespace Go.Proofs.Ytibanikfalfmcaa
open Go.RowKit
set_option linter.unusedVariables false

theorem OwnB.stored_grown {w : World} {base : Nat} {e : TypeId} {g : Nat} {c : Nat} {bs : List UInt8} (h : OwnB w base e (some ⟨g, 0, none⟩) c bs) (j : Nat) (b : UInt8) : w.grownBy (w.setCell ⟨g, j, none⟩ (.int .u8 (b.toNat : Int))) (some g) :=
  (World.ownsRow.stored h j (.int .u8 (b.toNat : Int))).2
theorem grown_drew {a w : World} {row : Option Nat} (h : a.grownBy w row) : a.grownBy w.drew row := ⟨h.os, h.tape, h.output, h.size, h.block⟩
theorem grown_drewN {a w : World} {row : Option Nat} (h : a.grownBy w row) (n : Nat) : a.grownBy (w.drewN n) row := ⟨h.os, h.tape, h.output, h.size, h.block⟩
theorem OwnB.drew {w : World} {base : Nat} {e : TypeId} {A : Option Addr} {c : Nat} {bs : List UInt8} (h : OwnB w base e A c bs) : OwnB w.drew base e A c bs := h

theorem clone_any (A : Option Addr) (B c n : Nat) (bs : List UInt8) (w : World) (hn : bs.length = n) (hr : Bytes w B A bs) (hB : B ≤ w.heap.size) (hl : bs.length ≤ 140737488355328) :
    Calls Try.prog 74 #[.slice A n c] w fun e w' => ∃ A' c', e = .returned (.slice A' n c') ∧ OwnB w' w.heap.size 5 A' c' bs ∧ Below w.heap.size w w' := by
  cases A with
  | none =>
    have hb : bs = [] := by
      have := Row.eq_nil_of_none hr
      simpa using this
    subst hb
    subst hn
    have hq : ∀ w : World, (binOp .eql 40 (.slice none 0 c) (.slice none 0 0)).run Try.prog w = .ok (.bool true) w := fun w => Lib.run_eql_slice_nil w 40 5 none 0 c 0 0 Try.underlying40
    go_enter Try.func74, Try.ntmps74
    go_wp2
    go_ret
    exact ⟨none, 0, rfl, OwnB.nil _ _ _, Below.refl _ _⟩
  | some ad =>
    have hq : ∀ w : World, (binOp .eql 40 (.slice (some ad) n c) (.slice none 0 0)).run Try.prog w = .ok (.bool false) w := fun w => Lib.run_eql_slice_nil w 40 5 (some ad) n c 0 0 Try.underlying40
    go_enter Try.func74, Try.ntmps74
    go_wp2_with (at_builtin; refine halted ?_)
    refine go_on ?_
    refine wpList_append_bytes _ rfl (.tmp 5) (.tmp 6) 40 rfl w.heap.size 5 Try.underlying40 info_u8 _ _ _ [] rfl rfl (OwnB.lit w _ [] (Nat.le_refl _) (by simp)) _ (some ad) _ c bs rfl hn.symm (hr.alloc hB _) (by simpa using hl) (by simp) ?_
    intro d A' c' w' hd hdl hown hg _
    have hb : Below w.heap.size w w' := ((Below.refl w.heap.size w).alloc (Nat.le_refl _) _).grown hg (by simp) (by intro k hk; simp at hk; omega)
    have hde : d = bs := by rw [hd.out]; rfl
    subst hde
    clear hd hg
    go_wp2
    go_ret
    exact ⟨A', c', by rw [← hn]; rfl, hown, hb⟩

/-- A list whose ends are turned, as far as k. -/
def Turned (bs cur : List UInt8) (k m : Nat) : Prop := ∀ x, x < bs.length → cur[x]? = if x < k ∨ m < x then bs[bs.length - 1 - x]? else bs[x]?

theorem reverse_any (base : Nat) (A : Option Addr) (c n : Nat) (bs : List UInt8) (w : World) (hn : bs.length = n) (hown : OwnB w base 5 A c bs) (hl : bs.length ≤ 140737488355328) :
    Calls Try.prog 73 #[.slice A n c] w fun e w' => e = .returned (.tuple #[]) ∧ OwnB w' base 5 A c bs.reverse ∧ w.grownBy w' (A.map (·.block)) := by
  subst hn
  by_cases h0 : bs.length = 0
  · have hb : bs = [] := List.eq_nil_of_length_eq_zero h0
    subst hb
    go_enter Try.func73, Try.ntmps73
    go_wp2
    go_loop [2, 3] (fun i j => i = .int .i64 0 ∧ j = .int .i64 (-1)) (fun _ _ => 0)
    case atStart => exact ⟨rfl, rfl⟩
    case round =>
      obtain ⟨rfl, rfl⟩ := hrel
      go_wp2
      go_end0
      exact ⟨rfl, hown, World.grownBy.refl w _⟩
  · obtain ⟨g, rfl, hbg, hgl⟩ := hown.form (by omega)
    have hlI : (bs.length : Int) ≤ 140737488355328 := by omega
    go_enter Try.func73, Try.ntmps73
    go_wp2
    go_loopw [2, 3] (fun i j wr => ∃ (k m : Nat) (cur : List UInt8), i = .int .i64 (k : Int) ∧ j = .int .i64 (m : Int) ∧ Hid (k + m + 1 = bs.length) ∧ k ≤ m + 1 ∧ Hid (cur.length = bs.length) ∧
      Hid (Turned bs cur k m) ∧ OwnB wr base 5 (some ⟨g, 0, none⟩) c cur ∧ w.grownBy wr (some g)) (fun _ j _ => (intOf j + 1).toNat)
    case atStart =>
      refine ⟨0, bs.length - 1, bs, rfl, ?_, by show _ = _; omega, by omega, rfl, ?_, hown, World.grownBy.refl w _⟩
      · congr 1; omega
      · intro x hx
        rw [if_neg (by omega)]
    case round =>
      obtain ⟨k, m, cur, rfl, rfl, HKM, hkm2, HCL, HT, hown', hg⟩ := hrel
      by_cases hlt : k < m
      · have hml : m < cur.length := by have := HKM.out; have := HCL.out; omega
        obtain ⟨x, hx⟩ : ∃ x, Hid (cur[k]? = some x) := ⟨_, List.getElem?_eq_getElem (by omega)⟩
        obtain ⟨y, hy⟩ : ∃ y, Hid (cur[m]? = some y) := ⟨_, List.getElem?_eq_getElem (by omega)⟩
        have hcx := hown'.cellAt hx.out
        have hcy := hown'.cellAt hy.out
        have hfx := hown'.frozenAt k
        have hfy := hown'.frozenAt m
        have b1 : (k : Int) < (bs.length : Int) := by have := HCL.out; omega
        have b2 : (m : Int) < (bs.length : Int) := by have := HCL.out; omega
        have hs1 := hown'.stored k y
        have hs2 := hs1.stored m x
        have hg1 := hown'.stored_grown k y
        have hg2 := hs1.stored_grown m x
        have HS := hide hs2
        have HG := hide ((hg.trans hg1).trans hg2)
        clear hown hown' hs1 hs2 hg1 hg2 hg
        go_wp2
        go_region
        go_wp2
        go_roundw
        case rel =>
          have e1 := HKM.out
          have e2 := HCL.out
          refine ⟨k + 1, m - 1, _, by go_num, by go_num, by show _ = _; omega, by omega, ?_, ?_, HS.out, grown_drew HG.out⟩
          · show _ = _
            rw [List.length_set, List.length_set]; exact e2
          · intro z hz
            have ht := HT.out z hz
            have hxk := HT.out k (by omega)
            have hxm := HT.out m (by omega)
            rw [if_neg (by omega)] at hxk hxm
            rw [hx.out] at hxk
            rw [hy.out] at hxm
            rw [List.getElem?_set, List.length_set]
            by_cases hzm : m = z
            · subst hzm
              rw [if_pos rfl, if_pos (by omega), if_pos (by omega), show bs.length - 1 - m = k by omega]
              exact hxk
            · rw [if_neg hzm, List.getElem?_set]
              by_cases hzk : k = z
              · subst hzk
                rw [if_pos rfl, if_pos (by omega), if_pos (by omega), show bs.length - 1 - k = m by omega]
                exact hxm
              · rw [if_neg hzk, ht]
                by_cases hc : z < k ∨ m < z
                · rw [if_pos hc, if_pos (by omega)]
                · rw [if_neg hc, if_neg (by omega)]
        case measure => simp [intOf]; try omega
      · have hrev : cur = bs.reverse := by
          have e1 := HKM.out
          have e2 := HCL.out
          apply List.ext_getElem?
          intro z
          by_cases hz : z < bs.length
          · rw [HT.out z hz, List.getElem?_reverse hz]
            by_cases hc : z < k ∨ m < z
            · rw [if_pos hc]
            · rw [if_neg hc, show bs.length - 1 - z = z by omega]
          · rw [List.getElem?_eq_none (by omega), List.getElem?_eq_none (by rw [List.length_reverse]; omega)]
        have HR := hide hrev
        clear hrev hown
        go_wp2
        go_end0
        exact ⟨rfl, by rw [← HR.out]; exact hown', hg⟩
end Go.Proofs.Ytibanikfalfmcaa
