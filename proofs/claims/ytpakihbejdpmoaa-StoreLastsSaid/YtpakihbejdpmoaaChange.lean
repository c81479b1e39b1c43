/-
  The functions that store keeps: what each does to a directory.
-/
import Derived.Test.YtpakihbejdpmoaaMeet
import Derived.Maps.RangeWalk
namespace Go.Proofs.Ytpakihbejdpmoaa
open Go.RowKit Go.Maps
set_option linter.unusedVariables false

/-- A directory with a change made. -/
def Chg.app (c : Chg) (l : Dir) : Dir := match c with
  | .put nm q => dPut l nm.data.toList q
  | .ren a b q => dPut (dDel l a.data.toList) b.data.toList q
  | .del nm => dDel l nm.data.toList
theorem zero_ptr (w : World) : (zeroValue 68).run Try.prog w = .ok (.pointer none) w := by kernel_rfl
theorem key_str {s : ByteArray} (hs : s.size ≤ maxLen) : keyOf Try.prog 9 (.string s) = some (.string s.data.toList) := WideMaps.keyOf_string_mk Try.underlying9 hs

set_option maxRecDepth 100000 in
set_option maxHeartbeats 2000000 in
theorem create1_any (w : World) (b b1 b2 q : Nat) (nm : ByteArray) (l : Dir) (hd : OwnsDir w b l) (h1 : BxP b1 q w) (h2 : BxS b2 nm w) (hl : l.length ≤ 1000000000) (hnm : nm.size ≤ maxLen) :
    Calls Try.prog 41 #[.map (some b), .pointer (some ⟨b1, 0, none⟩), .pointer (some ⟨b2, 0, none⟩)] w fun e w' => e = .returned (.tuple #[]) ∧ OwnsDir w' b (dPut l nm.data.toList q) ∧ w.grownBy w' (some b) := by
  have c1 := Joins.cell_of_block h1 0
  have c2 := Joins.cell_of_block h2 0
  simp at c1 c2
  clear h1 h2
  go_enter Try.func41, Try.ntmps41
  go_wp2_with (at_mapUpdate; refine halted ?_)
  refine go_on ?_
  refine wpList_mapUpdate_own _ rfl (.tmp 4) (.tmp 5) (.tmp 6) 55 rfl 9 68 (string_keyed Try.underlying9) Try.underlying55 ptrR b l.length (dirD l) rfl hd (by unfold maxLen; omega) _ _ (.string nm.data.toList) rfl rfl (key_str hnm) (.lit (.int .i64 (q : Int))) [] rfl ?_
  intro w1 hown1 hg1
  have hd1 : OwnsDir w1 b (dPut l nm.data.toList q) := OwnsDir.of (by rw [dirD_put]; exact hown1)
  clear hown1 hd c1 c2
  go_wp2
  go_end0
  exact ⟨rfl, hd1, hg1⟩

set_option maxRecDepth 100000 in
set_option maxHeartbeats 2000000 in
theorem rename1_any (w : World) (b b1 b2 b3 q : Nat) (fr to : ByteArray) (l : Dir) (hd : OwnsDir w b l) (h1 : BxS b1 fr w) (h2 : BxP b2 q w) (h3 : BxS b3 to w) (hne1 : b1 ≠ b) (hne2 : b2 ≠ b) (hne3 : b3 ≠ b) (hl : l.length ≤ 1000000000) (hf : fr.size ≤ maxLen) (ht : to.size ≤ maxLen) :
    Calls Try.prog 46 #[.map (some b), .pointer (some ⟨b1, 0, none⟩), .pointer (some ⟨b2, 0, none⟩), .pointer (some ⟨b3, 0, none⟩)] w fun e w' => e = .returned (.tuple #[]) ∧ OwnsDir w' b (dPut (dDel l fr.data.toList) to.data.toList q) ∧ w.grownBy w' (some b) := by
  have c1 := Joins.cell_of_block h1 0
  simp at c1
  have H2 := hide h2
  have H3 := hide h3
  clear h1 h2 h3
  go_enter Try.func46, Try.ntmps46
  go_wp2_with (at_delete; refine halted ?_)
  refine go_on ?_
  refine wpList_delete_own _ rfl (.tmp 5) (.tmp 6) 55 9 rfl 68 (string_keyed Try.underlying9) Try.underlying55 ptrR b l.length (dirD l) rfl hd _ (.string fr.data.toList) rfl (key_str hf) ?_
  intro w1 hown1 ht1
  have hg1 := ht1.grown
  have hd1 : OwnsDir w1 b (dDel l fr.data.toList) := OwnsDir.of (by rw [dirD_del]; exact hown1)
  have hlen : (dDel l fr.data.toList).length ≤ l.length := List.length_filter_le _ _
  have hk1 : Kept (fun k => k = b) w w1 := Kept.of_grown hg1 (fun k hk => by injection hk with hk; exact hk.symm)
  have c2 := Joins.cell_of_block (H2.out.kept hk1 hne2) 0
  have c3 := Joins.cell_of_block (H3.out.kept hk1 hne3) 0
  simp at c2 c3
  clear hown1 ht1 hd c1
  go_wp2_with (at_mapUpdate; refine halted ?_)
  refine go_on ?_
  refine wpList_mapUpdate_own _ rfl (.tmp 7) (.tmp 8) (.tmp 9) 55 rfl 9 68 (string_keyed Try.underlying9) Try.underlying55 ptrR b (dDel l fr.data.toList).length (dirD (dDel l fr.data.toList)) rfl hd1 (by unfold maxLen; omega) _ _ (.string to.data.toList) rfl rfl (key_str ht) (.lit (.int .i64 (q : Int))) [] rfl ?_
  intro w2 hown2 hg2
  have hd2 : OwnsDir w2 b (dPut (dDel l fr.data.toList) to.data.toList q) := OwnsDir.of (by rw [dirD_put]; exact hown2)
  have hg3 : w.grownBy w2 (some b) := hg1.andThen hg2 (fun j e => .inr e)
  clear hown2 hd1 c2 c3 hg1 hg2
  go_wp2
  go_end0
  exact ⟨rfl, hd2, hg3⟩

set_option maxRecDepth 100000 in
set_option maxHeartbeats 2000000 in
theorem remove1_any (w : World) (b b1 : Nat) (nm : ByteArray) (l : Dir) (hd : OwnsDir w b l) (h1 : BxS b1 nm w) (hf : nm.size ≤ maxLen) :
    Calls Try.prog 56 #[.map (some b), .pointer (some ⟨b1, 0, none⟩)] w fun e w' => e = .returned (.tuple #[]) ∧ OwnsDir w' b (dDel l nm.data.toList) ∧ w.grownBy w' (some b) := by
  have c1 := Joins.cell_of_block h1 0
  simp at c1
  clear h1
  go_enter Try.func56, Try.ntmps56
  go_wp2_with (at_delete; refine halted ?_)
  refine go_on ?_
  refine wpList_delete_own _ rfl (.tmp 3) (.tmp 4) 55 9 rfl 68 (string_keyed Try.underlying9) Try.underlying55 ptrR b l.length (dirD l) rfl hd _ (.string nm.data.toList) rfl (key_str hf) ?_
  intro w1 hown1 ht1
  have hg1 := ht1.grown
  have hd1 : OwnsDir w1 b (dDel l nm.data.toList) := OwnsDir.of (by rw [dirD_del]; exact hown1)
  clear hown1 ht1 hd c1
  go_wp2
  go_end0
  exact ⟨rfl, hd1, hg1⟩
end Go.Proofs.Ytpakihbejdpmoaa
