/-
  The reference's chart: Trial.
-/
import Derived.Test.YtibanikfalfmcaaRCh3
import Derived.Test.YtibanikfalfmcaaTrial
namespace Go.Proofs.Ytibanikfalfmcaa
open Go.RowKit Go.Maps Go.Shelf
set_option linter.unusedVariables false

theorem gotK_cons (e : Int × Int × Int) (r : Acs) (left : Lit → Bool) (i : Int) : gotK (e :: r) left i = if left (.int .i64 e.1) = false ∧ e.2.1 = i then e.2.2 :: gotK r left i else gotK r left i := rfl
theorem gotK_append (a b : Acs) (left : Lit → Bool) (i : Int) : gotK (a ++ b) left i = gotK a left i ++ gotK b left i := by
  induction a with
  | nil => rfl
  | cons y r ih =>
    rw [List.cons_append, gotK_cons, gotK_cons, ih]
    split
    · rfl
    · rfl
theorem kindsR_take {l : Acs} {k : Nat} {e : Int × Int × Int} (h : l[k]? = some e) (i : Int) : kinds (l.take (k + 1)) i = kinds (l.take k) i ++ (if e.2.1 = i then [e.2.2] else []) := by
  have hk : k < l.length := (List.getElem?_eq_some_iff.1 h).1
  have hx : l[k] = e := (List.getElem?_eq_some_iff.1 h).2
  unfold kinds
  rw [List.take_succ_eq_append_getElem hk, hx, gotK_append]
  congr 1
  unfold gotK
  simp only [true_and]
  rfl
theorem kindsR_mem {l : Acs} {i x : Int} (h : x ∈ kinds l i) : ∃ e ∈ l, e.2.2 = x := by
  unfold kinds at h
  induction l with
  | nil => cases h
  | cons y r ih =>
    unfold gotK at h
    split at h
    · rcases List.mem_cons.1 h with rfl | h
      · exact ⟨y, List.mem_cons_self .., rfl⟩
      · obtain ⟨e, he, hx⟩ := ih h
        exact ⟨e, List.mem_cons_of_mem _ he, hx⟩
    · obtain ⟨e, he, hx⟩ := ih h
      exact ⟨e, List.mem_cons_of_mem _ he, hx⟩
theorem kindsR_len (l : Acs) (i : Int) : (kinds l i).length ≤ l.length := by
  unfold kinds
  induction l with
  | nil => exact Nat.le_refl _
  | cons y r ih =>
    unfold gotK
    split
    · simp only [List.length_cons]; omega
    · simp only [List.length_cons]; omega
/-- The sum, or the limit that it is beyond. -/
def trW (z : Int) : Int := if amt z = true then z else if z < 0 then -4611686018427387904 else 4611686018427387904
theorem units_parts (xs : List Int) : xs.sum = 4294967296 * unitsE xs + partsE xs := by
  unfold unitsE partsE
  induction xs with
  | nil => rfl
  | cons x r ih =>
    simp only [List.map_cons, List.sum_cons]
    have := Int.mul_tdiv_add_tmod x 4294967296
    omega
theorem trOne_sum {xs : List Int} (h : xs.all amt = true) : trOne xs = trW xs.sum := by
  unfold trOne sumE
  rw [if_pos h]
  unfold toldE trW
  by_cases ha : amt xs.sum = true
  · rw [if_pos ha, if_pos ha]
    rfl
  · rw [if_neg ha, if_neg ha]
    rw [if_neg (by simp)]
    have hn := (amt_no xs.sum).1 (by simpa using ha)
    have h1 := units_parts xs
    have h2 := Int.mul_tdiv_add_tmod (partsE xs) 4294967296
    have h3 := tmod_b (partsE xs)
    unfold heldE
    by_cases hz : xs.sum < 0
    · rw [if_pos hz, if_pos (by omega)]
    · rw [if_neg hz, if_neg (by omega)]
theorem neg_of_sw {n : Bool} {x0 x1 x2 x3 z : Int} (h : SW (.agg #[.bool n, .int .u64 x0, .int .u64 x1, .int .u64 x2, .int .u64 x3]) z) (hz : z ≠ 0) : n = decide (z < 0) := by
  obtain ⟨m, x, hv, hx, he⟩ := h
  unfold wideV at hv
  injection hv with hv
  have hv := congrArg (fun a => a[0]?) hv
  simp at hv
  subst hv
  cases n <;> simp at he ⊢ <;> omega

/-- The cells of what is told, ahead of the j-th kind. -/
def tc (l : Acs) (j : Nat) (i : Nat) : Value := .int .i64 (if i < j then trialE l i else 0)
def tv (l : Acs) (j : Nat) : Array Value := #[.int .i64 0, tc l j 1, tc l j 2, tc l j 3, tc l j 4]
theorem tv_one (l : Acs) : tv l 1 = #[.int .i64 0, .int .i64 0, .int .i64 0, .int .i64 0, .int .i64 0] := by simp [tv, tc]
theorem tv_set (l : Acs) {j : Nat} (h1 : 1 ≤ j) (h4 : j ≤ 4) : (tv l j).setIfInBounds j (.int .i64 (trialE l j)) = tv l (j + 1) := by
  have : j = 1 ∨ j = 2 ∨ j = 3 ∨ j = 4 := by omega
  rcases this with rfl | rfl | rfl | rfl <;> simp [tv, tc]
theorem tv_cell (l : Acs) {j : Nat} (h1 : 1 ≤ j) (h4 : j ≤ 4) : (tv l j)[j]? = some (.int .i64 0) := by
  have : j = 1 ∨ j = 2 ∨ j = 3 ∨ j = 4 := by omega
  rcases this with rfl | rfl | rfl | rfl <;> simp [tv, tc]

def RtrRel (q3 : Nat) (l : Acs) (w : World) (i : Value) (wr : World) : Prop :=
  ∃ j : Nat, 1 ≤ j ∧ j ≤ 5 ∧ i = .int .i64 (j : Int) ∧ Hid (wr.heap[q3]? = some (.cells (tv l j) 61 (0, 0))) ∧ wr.heap[w.heap.size]? = some (.cells #[.int .i64 0, .int .i64 0, .int .i64 0, .int .i64 0, .int .i64 0] 61 (0, 0)) ∧ Below w.heap.size w wr
def Rtr2Rel (q5 : Nat) (l : Acs) (j : Int) (w5 : World) (i : Value) (wq : World) : Prop :=
  ∃ k : Nat, k ≤ l.length ∧ i = .int .i64 (k : Int) ∧ WB q5 (kinds (l.take k) j).sum wq ∧ Kept (fun i => i = q5) w5 wq

set_option maxRecDepth 100000 in
set_option maxHeartbeats 4000000 in
theorem rtrial_any (r base : Nat) (A : Option Addr) (c : Nat) (l : Acs) (w : World) (hs : Rc r base A c l w) (hg : ∀ e ∈ l, amt e.2.2 = true) (hl : l.length ≤ 1000000) :
    Calls Try.prog 65 #[.pointer (some ⟨r, 0, none⟩)] w fun e w' => e = .returned (.agg #[.int .i64 0, .int .i64 (trialE l 1), .int .i64 (trialE l 2), .int .i64 (trialE l 3), .int .i64 (trialE l 4)]) ∧ Below w.heap.size w w' := by
  obtain ⟨w1, hw1⟩ : ∃ w1, w1 = (w.alloc (.cells #[.int .i64 0, .int .i64 0, .int .i64 0, .int .i64 0, .int .i64 0] 61)).alloc (.cells #[.int .i64 0, .int .i64 0, .int .i64 0, .int .i64 0, .int .i64 0] 61) := ⟨_, rfl⟩
  have hb1 : Below w.heap.size w w1 := by rw [hw1]; exact (below_new w _).alloc (by simp) _
  have hx2 : w1.heap[w.heap.size]? = some (.cells #[.int .i64 0, .int .i64 0, .int .i64 0, .int .i64 0, .int .i64 0] 61 (0, 0)) := by
    rw [hw1]
    exact ((below_new (w.alloc (.cells #[.int .i64 0, .int .i64 0, .int .i64 0, .int .i64 0, .int .i64 0] 61)) _).block _ (by simp)).trans (heap_alloc_new w _)
  have hx3 : w1.heap[w.heap.size + 1]? = some (.cells (tv l 1) 61 (0, 0)) := by
    rw [hw1, tv_one]
    have := heap_alloc_new (w.alloc (.cells #[.int .i64 0, .int .i64 0, .int .i64 0, .int .i64 0, .int .i64 0] 61)) (.cells #[.int .i64 0, .int .i64 0, .int .i64 0, .int .i64 0, .int .i64 0] 61)
    simpa using this
  have HS := hide hs
  have HST := hide (show RtrRel (w.heap.size + 1) l w (.int .i64 1) w1 from ⟨1, Nat.le_refl _, by omega, rfl, hx3, hx2, hb1⟩)
  have HA := hide hg
  obtain ⟨q3, hq3⟩ : ∃ q3, q3 = w.heap.size + 1 := ⟨_, rfl⟩
  have HQ3 := hide hq3
  rw [← hq3] at HST
  clear hs hb1 hx2 hx3 hg
  go_enter Try.func65, Try.ntmps65
  go_wp2
  rw [← hw1, ← hq3]
  clear hw1 hq3
  go_loopw [4] (fun i wr => RtrRel q3 l w i wr) (fun i _ => 5 - (intOf i).toNat)
  case atStart => exact HST.out
  case round =>
    obtain ⟨j, hj1, hj5, rfl, hx3, hx2, hb⟩ := hrel
    generalize wr = wv at *
    by_cases hj4 : j ≤ 4
    · have hj4' : (j : Int) ≤ 4 := by omega
      obtain ⟨w5, hw5⟩ : ∃ w5, w5 = wv.alloc (.cells #[.bool false, .int .u64 0, .int .u64 0, .int .u64 0, .int .u64 0] 55) := ⟨_, rfl⟩
      have hb5 : Below wv.heap.size wv w5 := by rw [hw5]; exact below_new _ _
      have hwb5 : WB wv.heap.size 0 w5 := by rw [hw5]; exact WB.new wv
      obtain ⟨q5, hq5⟩ : ∃ q5, q5 = wv.heap.size := ⟨_, rfl⟩
      rw [← hq5] at hwb5
      have HWB := hide hwb5
      have HQ5 := hide hq5
      have HBR := hide hb
      have HB5 := hide hb5
      have HX2 := hide hx2
      have HX3 := hide hx3.out
      have HSL := hide (show w.heap.size < wv.heap.size ∧ q3 < wv.heap.size from ⟨(Array.getElem?_eq_some_iff.1 hx2).1, (Array.getElem?_eq_some_iff.1 hx3.out).1⟩)
      have HJ := hide (And.intro hj1 hj4)
      clear hx3 hx2 hb hwb5 hb5 hj5 hj1 hj4
      go_wp2
      rw [← hw5, ← hq5]
      clear hw5 hq5
      go_loopw [6] (fun i wq => Rtr2Rel q5 l (j : Int) w5 i wq) (fun i _ => l.length - (intOf i).toNat)
      case atStart => exact ⟨0, Nat.zero_le _, rfl, HWB.out, Kept.refl _⟩
      case round =>
        obtain ⟨k, hk, rfl, hwb, hkp⟩ := hrel
        have hbq : Below wv.heap.size wv wr := HB5.out.trans (hkp.below (fun i hi => by have := HQ5.out; omega) HB5.out.size)
        have hbw : Below w.heap.size w wr := HBR.out.trans (hbq.mono HBR.out.size)
        have hsq := HS.out.call hbw
        have c0 := hsq.cell
        have hall : (kinds (l.take k) (j : Int)).all amt = true := by
          rw [List.all_eq_true]
          intro x hx
          obtain ⟨e, he, rfl⟩ := kindsR_mem hx
          exact HA.out e (List.mem_of_mem_take he)
        have hsm := sum_le hall
        have hkl := kindsR_len (l.take k) (j : Int)
        rw [List.length_take] at hkl
        obtain ⟨n8, x0, x1, x2, x3, hxv, hsw⟩ := hwb
        by_cases hlt : k < l.length
        · obtain ⟨e, he⟩ : ∃ e, l[k]? = some e := ⟨_, List.getElem?_eq_getElem hlt⟩
          have hkt := kindsR_take he (j : Int)
          have hae := HA.out e (List.mem_of_getElem? he)
          obtain ⟨ad, rfl, hadb, -, hkd, hbl⟩ := hsq.row.acc he
          obtain ⟨en, ekd, ebl⟩ := e
          dsimp only at hkt hae hkd hbl
          have hm := (amt_iff ebl).1 hae
          have hlt' : (k : Int) < (l.length : Int) := by omega
          obtain ⟨z, hz⟩ : ∃ z, z = (kinds (l.take k) (j : Int)).sum := ⟨_, rfl⟩
          rw [← hz] at hsm hsw
          by_cases hkj : ekd = (j : Int)
          · rw [if_pos hkj] at hkt
            have hz1 : -1000000000000000000000000000000 ≤ z ∧ z ≤ 1000000000000000000000000000000 := by omega
            have HOF := hide (fun W => of_any ebl (by omega) (by omega) W)
            have HAD := hide (fun (W : World) (vo : Value) (hso : SW vo ebl) => wadd_any hsw hso hz1 (by omega) W)
            have HXB := hide (show ∀ W, Below wr.heap.size wr W → W.heap[q5]? = some (.cells #[.bool n8, .int .u64 x0, .int .u64 x1, .int .u64 x2, .int .u64 x3] 55 (0, 0)) from fun W hW => (hW.block q5 (Array.getElem?_eq_some_iff.1 hxv).1).trans hxv)
            have HXC := hide (show ∀ W, Below wr.heap.size wr W → W.cell? ⟨q5, 0, none⟩ = some (.bool n8) ∧ W.cell? ⟨q5, 1, none⟩ = some (.int .u64 x0) ∧ W.cell? ⟨q5, 2, none⟩ = some (.int .u64 x1) ∧ W.cell? ⟨q5, 3, none⟩ = some (.int .u64 x2) ∧ W.cell? ⟨q5, 4, none⟩ = some (.int .u64 x3) from fun W hW =>
              ⟨Joins.cell_of_block (HXB.out W hW) 0, Joins.cell_of_block (HXB.out W hW) 1, Joins.cell_of_block (HXB.out W hW) 2, Joins.cell_of_block (HXB.out W hW) 3, Joins.cell_of_block (HXB.out W hW) 4⟩)
            have hsum : (kinds (l.take (k + 1)) (j : Int)).sum = z + ebl := by rw [hkt, List.sum_append, ← hz]; simp
            have HNX := hide (show ∀ (w16 : World) (n9 : Bool) (y0 y1 y2 y3 : Int), Below wr.heap.size wr w16 → SW (.agg #[.bool n9, .int .u64 y0, .int .u64 y1, .int .u64 y2, .int .u64 y3]) (z + ebl) → Rtr2Rel q5 l (j : Int) w5 (.int .i64 ((k : Int) + 1)) (((((w16.setCell ⟨q5, 0, none⟩ (.bool n9)).setCell ⟨q5, 1, none⟩ (.int .u64 y0)).setCell ⟨q5, 2, none⟩ (.int .u64 y1)).setCell ⟨q5, 3, none⟩ (.int .u64 y2)).setCell ⟨q5, 4, none⟩ (.int .u64 y3)) from fun w16 n9 y0 y1 y2 y3 hW hss => by
              have hx16 := HXB.out w16 hW
              exact ⟨k + 1, hlt, by simp, ⟨n9, y0, y1, y2, y3, Joins.block_setCell (i := 4) (Joins.block_setCell (i := 3) (Joins.block_setCell (i := 2) (Joins.block_setCell (i := 1) (Joins.block_setCell (i := 0) (hx16) (.bool n9)) (.int .u64 y0)) (.int .u64 y1)) (.int .u64 y2)) (.int .u64 y3), by rw [hsum]; exact hss⟩, (hkp.call hW).trans (((((Kept.set (S := fun i => i = q5) w16 rfl 0 _).trans (Kept.set (S := fun i => i = q5) _ rfl 1 _)).trans (Kept.set (S := fun i => i = q5) _ rfl 2 _)).trans (Kept.set (S := fun i => i = q5) _ rfl 3 _)).trans (Kept.set (S := fun i => i = q5) _ rfl 4 _))⟩)
            obtain ⟨a0, a1, a2, a3, a4⟩ := HXC.out wr (Below.refl _ _)
            have hBd : Below wr.heap.size wr wr.drew := (Below.refl _ _).drew
            obtain ⟨d0, d1, d2, d3, d4⟩ := HXC.out _ hBd
            have hcd : wr.drew.cell? ⟨r, 0, none⟩ = some (.slice (some ad) l.length c) := c0
            have hcb : wr.drew.cell? ⟨(ad.add (k * 3)).block, (ad.add (k * 3)).off + 2, none⟩ = some (.int .i64 ebl) := hbl
            have hz0 : 0 < l.length := by omega
            subst hkj
            clear hxv hsw hkp he hbw hsm hz hz1 hsum hm hkt hae hall hkl hsq hbq
            go_wp2
            go_region_law
              (first
                | (go_simp; go_at_call 24; (with_reducible refine (HOF.out _).mono ?_); rintro e6 w15 ⟨⟨vo, rfl, hso, -⟩, hb15⟩; have hB15 : Below wr.heap.size wr w15 := hBd.trans (hb15.mono hBd.size); obtain ⟨m0, m1, m2, m3, m4⟩ := HXC.out w15 hB15; dsimp only)
                | (go_simp; go_at_call 23; (with_reducible refine (HAD.out _ _ hso).mono ?_); rintro e7 w16 ⟨⟨vs, rfl, hss, n9, y0, y1, y2, y3, rfl⟩, hb16⟩; have hB16 : Below wr.heap.size wr w16 := hB15.trans (hb16.mono hB15.size); obtain ⟨o0, o1, o2, o3, o4⟩ := HXC.out w16 hB16; have hx16 := HXB.out w16 hB16; have u0 := Joins.unfrozen_of_block hx16 0; have u1 := Joins.unfrozen_of_block hx16 1; have u2 := Joins.unfrozen_of_block hx16 2; have u3 := Joins.unfrozen_of_block hx16 3; have u4 := Joins.unfrozen_of_block hx16 4; dsimp only))
            all_goals
              have HR3 := hide (HNX.out w16 n9 y0 y1 y2 y3 hB16 hss)
              clear hss hb16 hB16 hx16 u0 u1 u2 u3 u4 o0 o1 o2 o3 o4 m0 m1 m2 m3 m4 a0 a1 a2 a3 a4 d0 d1 d2 d3 d4 hso hb15 hB15 hBd HNX HAD HOF hcd hcb
              go_wp2
              case roundEnd => exact ⟨HR3.out, by simp [intOf]; omega⟩
          · rw [if_neg hkj, List.append_nil] at hkt
            have hrel2 : Rtr2Rel q5 l (j : Int) w5 (.int .i64 ((k : Int) + 1)) wr := ⟨k + 1, hlt, by simp, ⟨n8, x0, x1, x2, x3, hxv, by rw [hkt, ← hz]; exact hsw⟩, hkp⟩
            have HR3 := hide hrel2
            have hkj' : (ekd == (j : Int)) = false := by simpa using hkj
            clear hxv hsw hkp he hbw hsm hz hm hkt hae hall hkl hsq hbq hrel2 hkj
            go_wp2
            case roundEnd => exact ⟨HR3.out, by simp [intOf]; omega⟩
        · have hkE : k = l.length := by omega
          subst hkE
          rw [List.take_of_length_le (Nat.le_refl _)] at hsw hsm hall hkl
          have htr : trialE l (j : Int) = trW (kinds l (j : Int)).sum := trOne_sum hall
          obtain ⟨z, hz⟩ : ∃ z, z = (kinds l (j : Int)).sum := ⟨_, rfl⟩
          rw [← hz] at hsm hsw htr
          have HTD := hide (stold2_any hsw (by omega) wr)
          have HNG := hide (fun h0 => neg_of_sw hsw h0)
          have HX5 := hide (show ∀ W, Below wr.heap.size wr W → W.heap[q5]? = some (.cells #[.bool n8, .int .u64 x0, .int .u64 x1, .int .u64 x2, .int .u64 x3] 55 (0, 0)) from fun W hW => (hW.block q5 (Array.getElem?_eq_some_iff.1 hxv).1).trans hxv)
          have a0 : wr.cell? ⟨q5, 0, none⟩ = some (.bool n8) := Joins.cell_of_block hxv 0
          have a1 : wr.cell? ⟨q5, 1, none⟩ = some (.int .u64 x0) := Joins.cell_of_block hxv 1
          have a2 : wr.cell? ⟨q5, 2, none⟩ = some (.int .u64 x1) := Joins.cell_of_block hxv 2
          have a3 : wr.cell? ⟨q5, 3, none⟩ = some (.int .u64 x2) := Joins.cell_of_block hxv 3
          have a4 : wr.cell? ⟨q5, 4, none⟩ = some (.int .u64 x3) := Joins.cell_of_block hxv 4
          have HBQ := hide hbq
          have HTR := hide htr
          clear hxv hsw hkp hbw hsm hlt hk hall hkl hsq hz htr hbq
          go_wp2_with (go_at_call 25; refine halted ?_)
          refine go_on ?_
          refine HTD.out.mono ?_
          rintro e w6 ⟨rfl, hb6⟩
          have hb6r : Below wv.heap.size wv w6 := HBQ.out.trans (hb6.mono HBQ.out.size)
          have hx36 := (hb6r.block q3 HSL.out.2).trans HX3.out
          have hx26 := (hb6r.block w.heap.size HSL.out.1).trans HX2.out
          have k3 : w6.cell? ⟨q3, j, none⟩ = some (.int .i64 0) := (Joins.cell_of_block hx36 j).trans (tv_cell l HJ.out.1 HJ.out.2)
          have f3 : w6.frozen? ⟨q3, j, none⟩ = false := Joins.unfrozen_of_block hx36 j
          have k5 : w6.cell? ⟨q5, 0, none⟩ = some (.bool n8) := Joins.cell_of_block (HX5.out w6 hb6) 0
          have hfin : RtrRel q3 l w (.int .i64 ((j : Int) + 1)) (w6.setCell ⟨q3, j, none⟩ (.int .i64 (trialE l (j : Int)))) := by
            have hks : Kept (fun i => i = q3) w6 (w6.setCell ⟨q3, j, none⟩ (.int .i64 (trialE l (j : Int)))) := Kept.set (S := fun i => i = q3) w6 rfl j _
            have hbs := HBR.out.trans (hb6r.mono HBR.out.size)
            refine ⟨j + 1, by omega, by have := HJ.out.2; omega, by simp, ?_, ?_, hbs.trans (hks.below (fun i hi => by have := HQ3.out; omega) hbs.size)⟩
            · show _ = _
              rw [Joins.block_setCell (i := j) hx36 (.int .i64 (trialE l (j : Int))), tv_set l HJ.out.1 HJ.out.2]
            · exact (hks.block w.heap.size (by have := HSL.out; have := hb6r.size; omega) (by have := HQ3.out; omega)).trans hx26
          have HFI := hide hfin
          have hjb : (j : Int) < 5 := by omega
          have hj0 : (0 : Int) ≤ (j : Int) := by omega
          have hjn : j < 5 := by omega
          rw [HTR.out] at HFI
          clear hb6 hb6r hx36 hx26 hfin a0 a1 a2 a3 a4 HTD c0
          cases hza : amt z with
          | true =>
            have h1 : toldE z = (z, 0) := by unfold toldE; rw [if_pos hza]
            have h2 : trW z = z := by unfold trW; rw [if_pos hza]
            rw [h2] at HFI
            rw [h1]
            clear h1 h2 hza k5
            dsimp only
            go_wp2
            case roundEnd => exact ⟨HFI.out, by simp [intOf]; omega⟩
          | false =>
            have h1 : toldE z = (0, 2) := by unfold toldE; rw [if_neg (by rw [hza]; simp)]
            have h3 := HNG.out (by rintro rfl; simp [amt] at hza)
            rw [h1]
            dsimp only
            by_cases hneg : z < 0
            · have h2 : trW z = -4611686018427387904 := by unfold trW; rw [if_neg (by rw [hza]; simp), if_pos hneg]
              rw [h2] at HFI
              rw [decide_eq_true hneg] at h3
              subst h3
              clear h1 h2 hza hneg
              go_wp2
              case roundEnd => exact ⟨HFI.out, by simp [intOf]; omega⟩
            · have h2 : trW z = 4611686018427387904 := by unfold trW; rw [if_neg (by rw [hza]; simp), if_neg hneg]
              rw [h2] at HFI
              rw [decide_eq_false hneg] at h3
              subst h3
              clear h1 h2 hza hneg
              go_wp2
              case roundEnd => exact ⟨HFI.out, by simp [intOf]; omega⟩
    · have hjE : j = 5 := by omega
      subst hjE
      have hx3' := hx3.out
      have e5 : tv l 5 = #[.int .i64 0, .int .i64 (trialE l 1), .int .i64 (trialE l 2), .int .i64 (trialE l 3), .int .i64 (trialE l 4)] := by simp [tv, tc]
      rw [e5] at hx3'
      obtain ⟨t1, ht1⟩ : ∃ t, t = trialE l 1 := ⟨_, rfl⟩
      rw [← ht1] at hx3'
      have HT1 := hide ht1
      obtain ⟨t2, ht2⟩ : ∃ t, t = trialE l 2 := ⟨_, rfl⟩
      rw [← ht2] at hx3'
      have HT2 := hide ht2
      obtain ⟨t3, ht3⟩ : ∃ t, t = trialE l 3 := ⟨_, rfl⟩
      rw [← ht3] at hx3'
      have HT3 := hide ht3
      obtain ⟨t4, ht4⟩ : ∃ t, t = trialE l 4 := ⟨_, rfl⟩
      rw [← ht4] at hx3'
      have HT4 := hide ht4
      have b0 : wv.cell? ⟨q3, 0, none⟩ = some (.int .i64 0) := Joins.cell_of_block hx3' 0
      have b1 : wv.cell? ⟨q3, 1, none⟩ = some (.int .i64 t1) := Joins.cell_of_block hx3' 1
      have b2 : wv.cell? ⟨q3, 2, none⟩ = some (.int .i64 t2) := Joins.cell_of_block hx3' 2
      have b3 : wv.cell? ⟨q3, 3, none⟩ = some (.int .i64 t3) := Joins.cell_of_block hx3' 3
      have b4 : wv.cell? ⟨q3, 4, none⟩ = some (.int .i64 t4) := Joins.cell_of_block hx3' 4
      obtain ⟨q2, hq2⟩ : ∃ q2, q2 = w.heap.size := ⟨_, rfl⟩
      rw [← hq2] at hx2 ⊢
      have d0 : wv.cell? ⟨q2, 0, none⟩ = some (.int .i64 0) := Joins.cell_of_block hx2 0
      have d1 : wv.cell? ⟨q2, 1, none⟩ = some (.int .i64 0) := Joins.cell_of_block hx2 1
      have d2 : wv.cell? ⟨q2, 2, none⟩ = some (.int .i64 0) := Joins.cell_of_block hx2 2
      have d3 : wv.cell? ⟨q2, 3, none⟩ = some (.int .i64 0) := Joins.cell_of_block hx2 3
      have d4 : wv.cell? ⟨q2, 4, none⟩ = some (.int .i64 0) := Joins.cell_of_block hx2 4
      have s0 := Joins.unfrozen_of_block hx2 0
      have y1 := Joins.block_setCell (i := 0) hx2 (.int .i64 0)
      have s1 := Joins.unfrozen_of_block y1 1
      have y2 := Joins.block_setCell (i := 1) y1 (.int .i64 t1)
      have s2 := Joins.unfrozen_of_block y2 2
      have y3 := Joins.block_setCell (i := 2) y2 (.int .i64 t2)
      have s3 := Joins.unfrozen_of_block y3 3
      have y4 := Joins.block_setCell (i := 3) y3 (.int .i64 t3)
      have s4 := Joins.unfrozen_of_block y4 4
      have y5 := Joins.block_setCell (i := 4) y4 (.int .i64 t4)
      have e0 := Joins.cell_of_block y5 0
      have e1 := Joins.cell_of_block y5 1
      have e2 := Joins.cell_of_block y5 2
      have e3 := Joins.cell_of_block y5 3
      have e4 := Joins.cell_of_block y5 4
      simp at e0 e1 e2 e3 e4
      have hkz := ((((Kept.set (S := fun i => i = q2) wv rfl 0 (.int .i64 0)).trans (Kept.set (S := fun i => i = q2) _ rfl 1 (.int .i64 t1))).trans (Kept.set (S := fun i => i = q2) _ rfl 2 (.int .i64 t2))).trans (Kept.set (S := fun i => i = q2) _ rfl 3 (.int .i64 t3))).trans (Kept.set (S := fun i => i = q2) _ rfl 4 (.int .i64 t4))
      have HBZ := hide (hb.trans (hkz.below (fun i hi => by omega) hb.size))
      clear ht1 ht2 ht3 ht4 hx3 hx3' hx2 y1 y2 y3 y4 y5 hkz hb e5 hq2
      go_wp2
      refine bodyPost_ret (v := .agg #[.int .i64 0, .int .i64 t1, .int .i64 t2, .int .i64 t3, .int .i64 t4]) (by simp [results, Try.results65, go_sem, e0, e1, e2, e3, e4]) rfl ?_
      exact ⟨by rw [HT1.out, HT2.out, HT3.out, HT4.out], HBZ.out⟩
end Go.Proofs.Ytibanikfalfmcaa
