/-
  block's split: bytes taken apart.
-/
import Derived.Test.YteagjjiggneheaaNumber4
import Derived.Test.YteagjjiggneheaaCut
import Derived.Test.YteagjjiggneheaaStepRow
import Derived.Test.YteagjjiggneheaaStep
import Derived.RangeFuncSeq
import Derived.RangeFuncBox
import Derived.IntWalk
import Derived.Deep.DeepMust
import Derived.Test.YteagjjiggneheaaRTake
import Derived.Lib.SmallJoins
namespace Go.Proofs.Yteagjjiggneheaa
open Go.RowKit
set_option linter.unusedVariables false

def intv (x : Nat) : Value := .int .i64 (x : Int)
/-- What a splitting answers. -/
def SplitR (w w' : World) (e : Ending) (bs : List UInt8) (B : Nat) : Option (List UInt8 × List Nat × Nat) → Prop
  | none => e = .returned (.tuple #[.agg #[.slice none 0 0, .slice none 0 0, .int .i64 0], .bool false]) ∧ Below w.heap.size w w'
  | some (body, heads, every) => ∃ A1 c1 A2 c2, e = .returned (.tuple #[.agg #[.slice A1 body.length c1, .slice A2 heads.length c2, .int .i64 (every : Int)], .bool true]) ∧
      Bytes w' B A1 body ∧ body.length ≤ c1 ∧ w'.ownsRow w.heap.size 3 1 (.slice A2 heads.length c2) heads.length (heads.map intv) ∧ Below w.heap.size w w'

/-- A box of three cells. -/
def Box3 (q : Nat) (v0 v1 v2 : Value) (W : World) : Prop := W.heap[q]? = some (.cells #[v0, v1, v2] 49 (0, 0))
theorem own_more {w : World} {base base' size n : Nat} {e : TypeId} {v : Value} {xs : List Value} (h : w.ownsRow base e size v n xs) (hb : base' ≤ base) : w.ownsRow base' e size v n xs := by
  refine ⟨h.1, ?_⟩
  rcases h.2 with h' | ⟨g, cap, cur, h1, h2, h3⟩
  · exact .inl h'
  · exact .inr ⟨g, cap, cur, h1, Nat.le_trans hb h2, h3⟩
theorem own_drewN {w : World} {base size n : Nat} {e : TypeId} {v : Value} {xs : List Value} (h : w.ownsRow base e size v n xs) (k : Nat) : (w.drewN k).ownsRow base e size v n xs := h
theorem own_capV {w : World} {base size : Nat} {e : TypeId} {A : Option Addr} {n m c : Nat} {xs : List Value} (h : w.ownsRow base e size (.slice A n c) m xs) : m ≤ c := by
  obtain ⟨_, c2, e2, h1, _⟩ := own_shape h
  injection e2 with _ _ e3
  subst e3
  exact h1
theorem info_int : (Try.prog.info? 3).map (fun i => (i.zero, i.size, i.bytes)) = some (some (.int .i64 0), 1, 8) := by kernel_rfl
theorem box3_set1 {q : Nat} {v0 v1 v2 : Value} {W : World} (h : Box3 q v0 v1 v2 W) (u : Value) : Box3 q v0 u v2 (W.setCell ⟨q, 1, none⟩ u) := by
  obtain ⟨hlt1, hk1⟩ := Array.getElem?_eq_some_iff.1 h
  show (W.heap.modify q _)[q]? = _
  rw [Array.getElem?_eq_getElem (by rw [Array.size_modify]; exact hlt1), Array.getElem_modify_self, hk1]
  rfl
theorem box3_set0 {q : Nat} {v0 v1 v2 : Value} {W : World} (h : Box3 q v0 v1 v2 W) (u : Value) : Box3 q u v1 v2 (W.setCell ⟨q, 0, none⟩ u) := by
  obtain ⟨hlt1, hk1⟩ := Array.getElem?_eq_some_iff.1 h
  show (W.heap.modify q _)[q]? = _
  rw [Array.getElem?_eq_getElem (by rw [Array.size_modify]; exact hlt1), Array.getElem_modify_self, hk1]
  rfl
theorem box3_other {q p i : Nat} {v0 v1 v2 : Value} {W : World} (h : Box3 q v0 v1 v2 W) (hne : q ≠ p) (u : Value) : Box3 q v0 v1 v2 (W.setCell ⟨p, i, none⟩ u) :=
  (Below.heap_setCell W ⟨p, i, none⟩ u q hne).trans h

theorem grownBy_set (W : World) (b i : Nat) (v : Value) : W.grownBy (W.setCell ⟨b, i, none⟩ v) (some b) :=
  ⟨rfl, rfl, rfl, (KeepsWalks.setCell W _ v).size, fun k _ hk => Below.heap_setCell W ⟨b, i, none⟩ v k (fun e => hk (by rw [e]))⟩
theorem own_set1 {w : World} {q size n m : Nat} {e : TypeId} {A : Option Addr} {c : Nat} {xs : List Value} (h : w.ownsRow (q + 1) e size (.slice A n c) m xs) (i : Nat) (u : Value) : (w.setCell ⟨q, i, none⟩ u).ownsRow (q + 1) e size (.slice A n c) m xs := by
  refine h.kept (grownBy_set w q i u) ?_
  rw [ownBlock_slice]
  cases hA : A with
  | none => exact .inl rfl
  | some a =>
    refine .inr fun e => ?_
    have := (World.ownsRow.lt h q (by rw [hA, ownBlock_slice]; exact e)).1
    omega
theorem own_set2 {w : World} {q size n m : Nat} {e : TypeId} {A : Option Addr} {c : Nat} {xs : List Value} (h : w.ownsRow (q + 2) e size (.slice A n c) m xs) (i : Nat) (u : Value) : (w.setCell ⟨q, i, none⟩ u).ownsRow (q + 2) e size (.slice A n c) m xs := by
  refine h.kept (grownBy_set w q i u) ?_
  rw [ownBlock_slice]
  cases hA : A with
  | none => exact .inl rfl
  | some a =>
    refine .inr fun e => ?_
    have := (World.ownsRow.lt h q (by rw [hA, ownBlock_slice]; exact e)).1
    omega
theorem set_below {B q : Nat} {a w : World} (h : Below B a w) (hq : B ≤ q) (i : Nat) (u : Value) : Below B a (w.setCell ⟨q, i, none⟩ u) := h.setCell (p := ⟨q, i, none⟩) hq u

/-- The heads told so far. -/
def headsTo (bs : List UInt8) (n M k : Nat) : List Nat := (List.range k).map fun i => num4 (bs.drop (n - 5 - 4 * (M - i)))
theorem headsTo_succ (bs : List UInt8) (n M k : Nat) : headsTo bs n M (k + 1) = headsTo bs n M k ++ [num4 (bs.drop (n - 5 - 4 * (M - k)))] := by unfold headsTo; rw [List.range_succ, List.map_append]; rfl
theorem headsTo_len (bs : List UInt8) (n M k : Nat) : (headsTo bs n M k).length = k := by unfold headsTo; simp

set_option maxRecDepth 100000 in
set_option maxHeartbeats 2000000 in
theorem split_any {w : World} {B : Nat} {A : Option Addr} {n c : Nat} {bs : List UInt8} (hr : Bytes w B A bs) (hB : B ≤ w.heap.size) (hn : bs.length = n) (hc : n ≤ c) (hl : n ≤ 1000000000) :
    Calls Try.prog 28 #[.slice A n c] w fun e w' => SplitR w w' e bs B (splitB bs) := by
  by_cases h5 : n < 5
  · have hs : splitB bs = none := by unfold splitB; rw [if_pos (by omega)]
    rw [hs]
    clear hr hs hn
    go_enter Try.func28, Try.ntmps28
    go_wp2
    exact bodyPost_ret (v := .tuple #[.agg #[.slice none 0 0, .slice none 0 0, .int .i64 0], .bool false]) (by simp [results, Try.results28, go_sem]) rfl ⟨rfl, (Below.refl _ _).alloc (Nat.le_refl _) _⟩
  obtain ⟨ad, x, hA, hadb, hx, hcx⟩ := hr.at_ (k := n - 1) (by omega)
  have hx1 := x.toNat_lt
  have hE : tailE bs = x.toNat := by
    unfold tailE
    rw [List.getD_eq_getElem?_getD, hn, hx.out]; rfl
  obtain ⟨A5, hcut5, hr5⟩ := cut_from (P := Try.prog) (t := 25) elem_bytes size_byte hr hn hc ((n : Int) - 5) (n - 5) (by omega) (by omega) .i64
  have hM : tailM bs = num4 (bs.drop (n - 5)) := by unfold tailM; rw [hn]
  have hm0 := num4_lt (bs.drop (n - 5))
  have hN5 := hide fun W (hb : Below w.heap.size w W) => bnumber_any (w := W) (B := B) (c := c - (n - 5)) (hr5.belowLe hb hB) (n := n - (n - 5)) (by rw [List.length_drop, hn]) (by omega) (by omega)
  have HE := hide hE
  have HM := hide hM
  have h5' : ¬ (n : Int) < 5 := by omega
  subst hA
  have hcx' : ∀ o, (w.alloc o).cell? (ad.add (n - 1)) = some (.int .u8 (x.toNat : Int)) := fun o => (((Below.refl w.heap.size w).alloc (Nat.le_refl _) o).cell (p := ad.add (n - 1)) (by rw [add_block]; omega)).trans hcx
  clear hE hM hx hcx
  go_enter Try.func28, Try.ntmps28
  have hq1 : ∀ o, ((w.alloc o).alloc (.cells #[.slice none 0 0, .slice none 0 0, .int .i64 (x.toNat : Int)] 49)).heap[w.heap.size + 1]? = some (.cells #[.slice none 0 0, .slice none 0 0, .int .i64 (x.toNat : Int)] 49 (0, 0)) := fun o => by
    have := heap_alloc_new (w.alloc o) (.cells #[.slice none 0 0, .slice none 0 0, .int .i64 (x.toNat : Int)] 49)
    rw [World.size_alloc] at this
    exact this
  have hq0 : (w.alloc (.cells #[.slice none 0 0, .slice none 0 0, .int .i64 0] 49)).heap[w.heap.size]? = some (.cells #[.slice none 0 0, .slice none 0 0, .int .i64 0] 49 (0, 0)) := heap_alloc_new w _
  have HQ1 := hide hq1
  have HQ0 := hide hq0
  clear hq1 hq0
  go_wp2_with (go_at_call 38; refine halted ?_)
  have hb0 : Below w.heap.size w (w.alloc (.cells #[.slice none 0 0, .slice none 0 0, .int .i64 0] 49)) := (Below.refl _ _).alloc (Nat.le_refl _) _
  have hb1 := hb0.alloc hb0.size (.cells #[.slice none 0 0, .slice none 0 0, .int .i64 (x.toNat : Int)] 49)
  refine go_on ?_
  refine (hN5.out _ hb1).mono ?_
  rintro e w1 ⟨rfl, kd, rfl⟩
  have HM2 := HM
  generalize num4 (bs.drop (n - 5)) = M at *
  by_cases hbad : n - 5 < 4 * M ∨ x.toNat < 1 ∨ 64 < x.toNat
  case pos =>
    have hsp : splitB bs = none := by
      unfold splitB
      rw [hn, HM2.out, HE.out, if_neg h5, if_pos (by omega)]
    have HSP := hide hsp
    generalize hWW : ((w.alloc (.cells #[.slice none 0 0, .slice none 0 0, .int .i64 0] 49)).alloc (.cells #[.slice none 0 0, .slice none 0 0, .int .i64 (x.toNat : Int)] 49)).drewN kd = W at *
    have hbW : Below w.heap.size w W := by rw [← hWW]; exact below_drewN' hb1 kd
    have hq0W : Box3 w.heap.size (.slice none 0 0) (.slice none 0 0) (.int .i64 0) W := by
      rw [← hWW]
      show ((w.alloc _).alloc _).heap[w.heap.size]? = _
      rw [((Below.refl (w.alloc (.cells #[.slice none 0 0, .slice none 0 0, .int .i64 0] 49)).heap.size _).alloc (Nat.le_refl _) _).block _ (by simp)]
      exact HQ0.out
    have hq1W : Box3 (w.heap.size + 1) (.slice none 0 0) (.slice none 0 0) (.int .i64 (x.toNat : Int)) W := by
      rw [← hWW]
      exact HQ1.out _
    clear hWW hb0 hb1 HQ0 HQ1 hcx' hcut5 hr5 hN5 hsp hr
    have y0 := Joins.cell_of_block hq0W 0
    have y1 := Joins.cell_of_block hq0W 1
    have y2 := Joins.cell_of_block hq0W 2
    have g0 := Joins.unfrozen_of_block hq0W 0
    have g1 := Joins.unfrozen_of_block hq0W 1
    have g2 := Joins.unfrozen_of_block hq0W 2
    have z0 := Joins.cell_of_block hq1W 0
    have z1 := Joins.cell_of_block hq1W 1
    have z2 := Joins.cell_of_block hq1W 2
    simp at y0 y1 y2 z0 z1 z2
    have HBW := hide hbW
    clear hbW hq0W hq1W
    have hways : ((n : Int) - 5) / 4 < (M : Int) ∨ ((M : Int) ≤ ((n : Int) - 5) / 4 ∧ (x.toNat : Int) < 1) ∨ ((M : Int) ≤ ((n : Int) - 5) / 4 ∧ 1 ≤ (x.toNat : Int) ∧ 64 < (x.toNat : Int)) := by omega
    clear hbad
    rcases hways with v1 | ⟨v1, v2⟩ | ⟨v1, v2, v3⟩
    all_goals
      go_wp2
      refine bodyPost_ret (v := .tuple #[.agg #[.slice none 0 0, .slice none 0 0, .int .i64 0], .bool false]) (by simp [results, Try.results28, go_sem, y0, y1, y2]) rfl ?_
      show SplitR w _ _ bs B (splitB bs)
      rw [HSP.out]
      exact ⟨rfl, set_below (set_below (set_below HBW.out (Nat.le_refl _) 0 _) (Nat.le_refl _) 1 _) (Nat.le_refl _) 2 _⟩
  have hm1 : (M : Int) * 4 ≤ (n : Int) - 5 := by omega
  have hm2 : (M : Int) ≤ ((n : Int) - 5) / 4 := by omega
  have hx2 : 1 ≤ (x.toNat : Int) := by omega
  have hx3 : (x.toNat : Int) ≤ 64 := by omega
  have hcutE := cut_to (P := Try.prog) (t := 25) (A := some ad) (n := n) (c := c) (k := n - 5 - 4 * M) (h := (n : Int) - 5 - (4 * (M : Int))) elem_bytes size_byte (by omega) (by omega) .i64
  generalize hWW : ((w.alloc (.cells #[.slice none 0 0, .slice none 0 0, .int .i64 0] 49)).alloc (.cells #[.slice none 0 0, .slice none 0 0, .int .i64 (x.toNat : Int)] 49)).drewN kd = W at *
  have hbW : Below w.heap.size w W := by rw [← hWW]; exact below_drewN' hb1 kd
  have hq0W : W.heap[w.heap.size]? = some (.cells #[.slice none 0 0, .slice none 0 0, .int .i64 0] 49 (0, 0)) := by
    rw [← hWW]
    show ((w.alloc _).alloc _).heap[w.heap.size]? = _
    rw [((Below.refl (w.alloc (.cells #[.slice none 0 0, .slice none 0 0, .int .i64 0] 49)).heap.size _).alloc (Nat.le_refl _) _).block _ (by simp)]
    exact HQ0.out
  have hq1W : W.heap[w.heap.size + 1]? = some (.cells #[.slice none 0 0, .slice none 0 0, .int .i64 (x.toNat : Int)] 49 (0, 0)) := by
    rw [← hWW]
    exact HQ1.out _
  clear hWW hb0 hb1 HQ0 HQ1 hcx' hcut5 hr5 hN5
  have hz1 : w.heap.size + 1 < W.heap.size := by
    rcases Nat.lt_or_ge (w.heap.size + 1) W.heap.size with h | h
    · exact h
    · rw [Array.getElem?_eq_none h] at hq1W; cases hq1W
  have z0 := Joins.cell_of_block hq1W 0
  have z1 := Joins.cell_of_block hq1W 1
  have z2 := Joins.cell_of_block hq1W 2
  have f0 := Joins.unfrozen_of_block hq1W 0
  have f1 := Joins.unfrozen_of_block hq1W 1
  simp at z0 z1 z2
  have hb2 : Below w.heap.size w (W.setCell ⟨w.heap.size + 1, 0, none⟩ (.slice (some ad) (n - 5 - 4 * M) c)) := hbW.setCell (p := ⟨w.heap.size + 1, 0, none⟩) (Nat.le_succ _) _
  have hx1W : Box3 (w.heap.size + 1) (.slice (some ad) (n - 5 - 4 * M) c) (.slice none 0 0) (.int .i64 (x.toNat : Int)) (W.setCell ⟨w.heap.size + 1, 0, none⟩ (.slice (some ad) (n - 5 - 4 * M) c)) := box3_set0 hq1W _
  have hx0W : Box3 w.heap.size (.slice none 0 0) (.slice none 0 0) (.int .i64 0) (W.setCell ⟨w.heap.size + 1, 0, none⟩ (.slice (some ad) (n - 5 - 4 * M) c)) := box3_other hq0W (by omega) _
  have hzz : w.heap.size + 2 ≤ (W.setCell ⟨w.heap.size + 1, 0, none⟩ (.slice (some ad) (n - 5 - 4 * M) c)).heap.size := Nat.le_trans (by omega) (KeepsWalks.setCell W _ _).size
  have HX1 := hide hx1W
  have HX0 := hide hx0W
  have HB2 := hide hb2
  have HZZ := hide hzz
  clear hx1W hx0W hb2 hzz
  go_wp2
  clear z0 z1 z2 f0 f1 hq0W hq1W hbW hz1
  generalize W.setCell ⟨w.heap.size + 1, 0, none⟩ (.slice (some ad) (n - 5 - 4 * M) c) = W2 at *
  obtain ⟨i0, hi, hz0, hz1, hz2⟩ := info_parts info_int
  go_loopw [7, 52] (fun _ i wr => ∃ (k : Nat) (AH : Option Addr) (cH : Nat), k ≤ M ∧ i = .int .i64 (k : Int) ∧ Box3 w.heap.size (.slice none 0 0) (.slice none 0 0) (.int .i64 0) wr ∧ Box3 (w.heap.size + 1) (.slice (some ad) (n - 5 - 4 * M) c) (.slice AH k cH) (.int .i64 (x.toNat : Int)) wr ∧
      wr.ownsRow (w.heap.size + 2) 3 1 (.slice AH k cH) k ((headsTo bs n M k).map intv) ∧ Hid (w.heap.size + 2 ≤ wr.heap.size) ∧ Below w.heap.size w wr) (fun _ i _ => M - (intOf i).toNat)
  case atStart => exact ⟨0, none, 0, Nat.zero_le _, rfl, HX0.out, HX1.out, World.ownsRow_nil _ _ _ _, HZZ.out, HB2.out⟩
  case round =>
    obtain ⟨k, AH, cH, hk, rfl, hx0, hx1', hown, hzr, hb⟩ := hrel
    by_cases hlt : k < M
    · obtain ⟨AK, hcutK, hrK⟩ := cut_from (P := Try.prog) (t := 25) elem_bytes size_byte (hr.belowLe hb hB) hn hc ((n : Int) - 5 - 4 * ((M : Int) - (k : Int))) (n - 5 - 4 * (M - k)) (by omega) (by omega) .i64
      have hNK := hide fun W (hb' : Below wr.heap.size wr W) => bnumber_any (w := W) (B := B) (c := c - (n - 5 - 4 * (M - k))) (hrK.belowLe hb' (Nat.le_trans hB hb.size)) (n := n - (n - 5 - 4 * (M - k))) (by rw [List.length_drop, hn]) (by omega) (by omega)
      have HS := hide (headsTo_succ bs n M k)
      generalize num4 (bs.drop (n - 5 - 4 * (M - k))) = y at *
      generalize n - (n - 5 - 4 * (M - k)) = L at *
      generalize c - (n - 5 - 4 * (M - k)) = CL at *
      have hsb : wr.cell? ⟨w.heap.size + 1, 1, none⟩ = some (.slice AH k cH) := by
        have := Joins.cell_of_block hx1' 1
        simpa using this
      have hq3 : w.heap.size + 1 < wr.heap.size := by have := hzr.out; omega
      have hsb2 : ∀ j o, ((wr.drewN j).alloc o).cell? ⟨w.heap.size + 1, 1, none⟩ = some (.slice AH k cH) := fun j o => (((below_drewN' (Below.refl wr.heap.size wr) j).alloc (Nat.le_refl _) o).cell (p := ⟨w.heap.size + 1, 1, none⟩) hq3).trans hsb
      have HOWN := hide hown
      have HX0 := hide hx0
      have HX1 := hide hx1'
      have HB := hide hb
      have s1 : IntKind.i64.wrap ((M : Int) - (k : Int)) = (M : Int) - (k : Int) := IntWalk.i64_in _ (by omega)
      have s2 : IntKind.i64.wrap (4 * ((M : Int) - (k : Int))) = 4 * ((M : Int) - (k : Int)) := IntWalk.i64_in _ (by omega)
      have s3 : IntKind.i64.wrap ((n : Int) - 5 - 4 * ((M : Int) - (k : Int))) = (n : Int) - 5 - 4 * ((M : Int) - (k : Int)) := IntWalk.i64_in _ (by omega)
      clear hown hx0 hx1' hb hrK
      go_wp2
      go_region_law
        (first
          | (go_simp; go_at_call 38; go_must (refine (hNK.out _ (below_drewN' (Below.refl wr.heap.size wr) 1)).mono ?_; rintro e w4 ⟨rfl, kd, rfl⟩; dsimp only))
          | (refine step_append_own _ rfl (.tmp 56) (.tmp 66) 47 rfl (w.heap.size + 2) 3 i0 _ 1 8 Try.underlying47 hi hz0 hz1 hz2 rfl (by decide) AH k cH ((headsTo bs n M k).map intv) rfl (World.ownsRow.alloc (own_drewN HOWN.out _) _) _ _ 1 _ [.int .i64 (y : Int)] rfl rfl (Row.new (wr.drewN (1 + kd)) #[.int .i64 (y : Int)] 3 (0, 0)) (by intro u hu; simp at hu; subst hu; rfl) (by unfold maxLen; omega) (by omega) (by have := hzr.out; simp; omega) ?_
             intro n' xs' A5 c5 w5 hn' hxs' hnc _ hown5 hg5 hat5
             have hlow : ∀ q, AH.map (·.block) = some q → w.heap.size + 2 ≤ q := fun q hq => (World.ownsRow.lt HOWN.out q (by rw [ownBlock_slice]; exact hq)).1
             have hge : wr.heap.size ≤ ((wr.drewN (1 + kd)).alloc (.cells #[.int .i64 (y : Int)] 3)).heap.size := by simp
             have hb5 : Below w.heap.size w w5 := (((below_drewN' HB.out (1 + kd)).alloc HB.out.size _)).grown hg5 (Nat.le_trans HB.out.size hge) (fun q hq => by have := hlow q hq; omega)
             have hbr : Below (w.heap.size + 2) wr w5 := (((below_drewN' (Below.refl _ _) (1 + kd)).alloc hzr.out _)).grown hg5 (Nat.le_trans hzr.out hge) hlow
             have hx05 : Box3 w.heap.size (.slice none 0 0) (.slice none 0 0) (.int .i64 0) w5 := (hbr.block _ (by omega)).trans HX0.out
             have hx15 : Box3 (w.heap.size + 1) (.slice (some ad) (n - 5 - 4 * M) c) (.slice AH k cH) (.int .i64 (x.toNat : Int)) w5 := (hbr.block _ (by omega)).trans HX1.out
             have hz5 : w.heap.size + 2 ≤ w5.heap.size := Nat.le_trans hzr.out hbr.size
             have hc5 : w5.cell? ⟨w.heap.size + 1, 1, none⟩ = some (.slice AH k cH) := by
               have := Joins.cell_of_block hx15 1
               simpa using this
             have hf5 : w5.frozen? ⟨w.heap.size + 1, 1, none⟩ = false := Joins.unfrozen_of_block hx15 1))
      all_goals
        have en : n' = k + 1 := hn'.out
        have ex : xs' = (headsTo bs n M (k + 1)).map intv := by rw [hxs'.out, HS.out, List.map_append]; rfl
        rw [ex] at hown5
        subst en
        have hown6 := own_set1 (q := w.heap.size + 1) hown5 1 (.slice A5 (k + 1) c5)
        have hx16 := box3_set1 hx15 (.slice A5 (k + 1) c5)
        have hx06 := box3_other (p := w.heap.size + 1) (i := 1) hx05 (by omega) (.slice A5 (k + 1) c5)
        have hb6 := set_below hb5 (Nat.le_succ _) 1 (.slice A5 (k + 1) c5)
        have hz6 : w.heap.size + 2 ≤ (w5.setCell ⟨w.heap.size + 1, 1, none⟩ (.slice A5 (k + 1) c5)).heap.size := Nat.le_trans hz5 (KeepsWalks.setCell w5 _ _).size
        clear ex hn' hxs' hg5 hat5 hown5 hb5 hbr hx05 hx15 hz5 hc5 hf5 hlow hge
        go_wp2
        go_roundw
        case rel => exact ⟨k + 1, A5, c5, by omega, by go_num, hx06, hx16, hown6, hz6, hb6⟩
        case measure => simp [intOf]; omega
    · obtain rfl : k = M := by omega
      have hsp : splitB bs = some (bs.take (n - 5 - 4 * k), headsTo bs n k k, x.toNat) := by
        unfold splitB headsTo
        rw [hn, HM2.out, HE.out, if_neg h5, if_neg (by omega)]
      have HSP := hide hsp
      have hlb : (bs.take (n - 5 - 4 * k)).length = n - 5 - 4 * k := by rw [List.length_take]; omega
      have HLB := hide hlb
      have HOWN := hide hown
      have HB := hide hb
      have y0 := Joins.cell_of_block hx0 0
      have y1 := Joins.cell_of_block hx0 1
      have y2 := Joins.cell_of_block hx0 2
      have g0 := Joins.unfrozen_of_block hx0 0
      have g1 := Joins.unfrozen_of_block hx0 1
      have g2 := Joins.unfrozen_of_block hx0 2
      have z0 := Joins.cell_of_block hx1' 0
      have z1 := Joins.cell_of_block hx1' 1
      have z2 := Joins.cell_of_block hx1' 2
      simp at y0 y1 y2 z0 z1 z2
      clear hsp hlb hown hb hx0 hx1'
      go_wp2
      have hbE := set_below (set_below (set_below HB.out (Nat.le_refl _) 0 (.slice (some ad) (n - 5 - 4 * k) c)) (Nat.le_refl _) 1 (.slice AH k cH)) (Nat.le_refl _) 2 (.int .i64 (x.toNat : Int))
      have hoE := own_set2 (own_set2 (own_set2 HOWN.out 0 (.slice (some ad) (n - 5 - 4 * k) c)) 1 (.slice AH k cH)) 2 (.int .i64 (x.toNat : Int))
      refine bodyPost_ret (v := .tuple #[.agg #[.slice (some ad) (n - 5 - 4 * k) c, .slice AH k cH, .int .i64 (x.toNat : Int)], .bool true]) (by simp [results, Try.results28, go_sem, y0, y1, y2]) rfl ?_
      show SplitR w _ _ bs B (splitB bs)
      rw [HSP.out]
      refine ⟨some ad, c, AH, cH, by rw [HLB.out, headsTo_len], (hr.belowLe hbE hB).take _, by rw [HLB.out]; omega, ?_, hbE⟩
      rw [headsTo_len]
      exact own_more hoE (by omega)
end Go.Proofs.Yteagjjiggneheaa
