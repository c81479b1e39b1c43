/-
  The reference's Sum, Add; its chart's Check.
-/
import Derived.Test.YtibanikfalfmcaaRCh2
import Derived.Test.YtibanikfalfmcaaWMap19
import Derived.Test.YtibanikfalfmcaaStepRow
import Derived.Test.YtibanikfalfmcaaUndoneLaw
import Derived.Deep.RegionHeld3
namespace Go.Proofs.Ytibanikfalfmcaa
open Go.RowKit Go.Maps Go.Shelf
set_option linter.unusedVariables false

theorem stold2_any {v : Value} {z : Int} (h : SW v z) (b1 : -1000000000000000000000000000000 ≤ z ∧ z ≤ 1000000000000000000000000000000) (w : World) : Calls Try.prog 25 #[v] w (NumR w (toldE z)) := by
  obtain ⟨n, x, rfl, hx, e1⟩ := h
  refine (wtold_any n x ⟨hx, by cases n <;> simp at e1 <;> omega⟩ w).mono ?_
  rintro e w' ⟨rfl, hb⟩
  refine ⟨?_, hb⟩
  by_cases h : 4611686018427387904 < x
  · have hz : amt z = false := (amt_no z).2 (by cases n <;> simp at e1 <;> omega)
    rw [toldR_great h]
    unfold toldE
    rw [if_neg (by rw [hz]; simp)]
  · have hz : amt z = true := (amt_iff z).2 (by cases n <;> simp at e1 <;> omega)
    unfold toldE
    rw [if_pos hz]
    cases n with
    | true => rw [toldR_neg h]; simp at e1; rw [e1]
    | false => rw [toldR_pos h]; simp at e1; rw [e1]

/-- A wide number in a box. -/
def WB (q : Nat) (z : Int) (W : World) : Prop :=
  ∃ (n : Bool) (y0 y1 y2 y3 : Int), W.heap[q]? = some (.cells #[.bool n, .int .u64 y0, .int .u64 y1, .int .u64 y2, .int .u64 y3] 55 (0, 0)) ∧ SW (.agg #[.bool n, .int .u64 y0, .int .u64 y1, .int .u64 y2, .int .u64 y3]) z
theorem WB.new (w : World) : WB w.heap.size 0 (w.alloc (.cells #[.bool false, .int .u64 0, .int .u64 0, .int .u64 0, .int .u64 0] 55)) := ⟨false, 0, 0, 0, 0, heap_alloc_new _ _, SW.zero⟩
theorem WB.lt {q : Nat} {z : Int} {W : World} (h : WB q z W) : q < W.heap.size := by
  obtain ⟨n, y0, y1, y2, y3, hx, _⟩ := h
  exact (Array.getElem?_eq_some_iff.1 hx).1
theorem sum_le {l : List Int} (h : l.all amt = true) : -(4611686018427387904 * (l.length : Int)) ≤ l.sum ∧ l.sum ≤ 4611686018427387904 * (l.length : Int) := by
  induction l with
  | nil => simp
  | cons x r ih =>
    rw [List.all_cons, Bool.and_eq_true] at h
    have h1 := (amt_iff x).1 h.1
    have h2 := ih h.2
    rw [List.sum_cons, List.length_cons]
    omega
theorem int_take {l : List Int} {k : Nat} {x : Int} (h : l[k]? = some x) : l.take (k + 1) = l.take k ++ [x] := by
  have hk : k < l.length := (List.getElem?_eq_some_iff.1 h).1
  have hx : l[k] = x := (List.getElem?_eq_some_iff.1 h).2
  rw [List.take_succ_eq_append_getElem hk, hx]

def RsmRel (l : List Int) (q : Nat) (w1 : World) (i : Value) (wr : World) : Prop :=
  ∃ k : Nat, k ≤ l.length ∧ i = .int .i64 (k : Int) ∧ Hid ((l.take k).all amt = true) ∧ WB q (l.take k).sum wr ∧ Kept (fun j => j = q) w1 wr

set_option maxRecDepth 100000 in
set_option maxHeartbeats 4000000 in
theorem rsum_any (A : Option Addr) (B n c : Nat) (l : List Int) (w : World) (hn : l.length = n) (hr : Row w B A (l.map i64v)) (hB : B ≤ w.heap.size) (hl : n ≤ 1000000) : Calls Try.prog 61 #[.slice A n c] w (NumR w (sumE l)) := by
  subst hn
  obtain ⟨E, HE⟩ : ∃ E, Hid (E = sumE l) := ⟨_, rfl⟩
  rw [← HE.out]
  obtain ⟨w1, hw1⟩ : ∃ w1, w1 = w.alloc (.cells #[.bool false, .int .u64 0, .int .u64 0, .int .u64 0, .int .u64 0] 55) := ⟨_, rfl⟩
  have hb1 : Below w.heap.size w w1 := by rw [hw1]; exact below_new w _
  have hwb : WB w.heap.size 0 w1 := by rw [hw1]; exact WB.new w
  have HR := hide hr
  have HB1 := hide hb1
  have HWB := hide hwb
  clear hr hb1 hwb
  obtain ⟨q, hq⟩ : ∃ q, q = w.heap.size := ⟨_, rfl⟩
  rw [← hq] at HWB
  go_enter Try.func61, Try.ntmps61
  go_wp2
  rw [← hw1, ← hq]
  have HQ := hide hq
  clear hw1 hq
  go_loopw [5] (fun i wr => RsmRel l q w1 i wr) (fun i _ => l.length - (intOf i).toNat)
  case atStart => exact ⟨0, Nat.zero_le _, rfl, rfl, HWB.out, Kept.refl _⟩
  case round =>
    obtain ⟨k, hk, rfl, HA, hwb, hkp⟩ := hrel
    have hbw : Below w.heap.size w wr := HB1.out.trans (hkp.below (fun j hj => by have := HQ.out; omega) HB1.out.size)
    have hs := sum_le HA.out
    rw [List.length_take] at hs
    obtain ⟨n8, x0, x1, x2, x3, hxv, hsw⟩ := hwb
    by_cases hlt : k < l.length
    · obtain ⟨x, hx⟩ : ∃ x, l[k]? = some x := ⟨_, List.getElem?_eq_getElem hlt⟩
      obtain ⟨ad, rfl, hadb, hc⟩ := (HR.out.belowLe hbw hB) k (.int .i64 x) (by rw [List.getElem?_map, hx]; rfl)
      have hlt' : (k : Int) < (l.length : Int) := by omega
      have HX := hide hx
      cases hax : amt x with
      | false =>
        have HF := hide (show E = (0, 1) from by
          rw [HE.out]
          unfold sumE
          rw [if_neg]
          intro h
          have := List.all_eq_true.1 h x (List.mem_of_getElem? hx)
          rw [hax] at this
          cases this)
        have HBW := hide hbw
        clear hxv hsw hkp hx hbw hs
        go_wp2_with (go_at_call 79; refine halted ?_)
        refine go_on ?_
        refine (isAmt_any x wr).mono ?_
        rintro e wr' ⟨rfl, rfl⟩
        rw [hax]
        go_wp2
        go_ret2
        exact ⟨by rw [HF.out]; rfl, HBW.out⟩
      | true =>
        have hm := (amt_iff x).1 hax
        obtain ⟨z, hz⟩ : ∃ z, z = (l.take k).sum := ⟨_, rfl⟩
        rw [← hz] at hs hsw
        have hz1 : -1000000000000000000000000000000 ≤ z ∧ z ≤ 1000000000000000000000000000000 := by omega
        have HOF := hide (fun W => of_any x (by omega) (by omega) W)
        have HAD := hide (fun (W : World) (vo : Value) (hso : SW vo x) => wadd_any hsw hso hz1 (by omega) W)
        have HXB := hide (show ∀ W, Below wr.heap.size wr W → W.heap[q]? = some (.cells #[.bool n8, .int .u64 x0, .int .u64 x1, .int .u64 x2, .int .u64 x3] 55 (0, 0)) from fun W hW => (hW.block q (Array.getElem?_eq_some_iff.1 hxv).1).trans hxv)
        have HXC := hide (show ∀ W, Below wr.heap.size wr W → W.cell? ⟨q, 0, none⟩ = some (.bool n8) ∧ W.cell? ⟨q, 1, none⟩ = some (.int .u64 x0) ∧ W.cell? ⟨q, 2, none⟩ = some (.int .u64 x1) ∧ W.cell? ⟨q, 3, none⟩ = some (.int .u64 x2) ∧ W.cell? ⟨q, 4, none⟩ = some (.int .u64 x3) from fun W hW =>
          ⟨Joins.cell_of_block (HXB.out W hW) 0, Joins.cell_of_block (HXB.out W hW) 1, Joins.cell_of_block (HXB.out W hW) 2, Joins.cell_of_block (HXB.out W hW) 3, Joins.cell_of_block (HXB.out W hW) 4⟩)
        have hall : (l.take (k + 1)).all amt = true := by rw [int_take hx, List.all_append, HA.out]; simp [hax]
        have hsum : (l.take (k + 1)).sum = z + x := by rw [int_take hx, List.sum_append, ← hz]; simp
        have HNX := hide (show ∀ (w16 : World) (n9 : Bool) (y0 y1 y2 y3 : Int), Below wr.heap.size wr w16 → SW (.agg #[.bool n9, .int .u64 y0, .int .u64 y1, .int .u64 y2, .int .u64 y3]) (z + x) → RsmRel l q w1 (.int .i64 ((k : Int) + 1)) (((((w16.setCell ⟨q, 0, none⟩ (.bool n9)).setCell ⟨q, 1, none⟩ (.int .u64 y0)).setCell ⟨q, 2, none⟩ (.int .u64 y1)).setCell ⟨q, 3, none⟩ (.int .u64 y2)).setCell ⟨q, 4, none⟩ (.int .u64 y3)) from fun w16 n9 y0 y1 y2 y3 hW hss => by
          have hx16 := HXB.out w16 hW
          exact ⟨k + 1, hlt, by simp, hall, ⟨n9, y0, y1, y2, y3, Joins.block_setCell (i := 4) (Joins.block_setCell (i := 3) (Joins.block_setCell (i := 2) (Joins.block_setCell (i := 1) (Joins.block_setCell (i := 0) (hx16) (.bool n9)) (.int .u64 y0)) (.int .u64 y1)) (.int .u64 y2)) (.int .u64 y3), by rw [hsum]; exact hss⟩, (hkp.call hW).trans (((((Kept.set (S := fun j => j = q) w16 rfl 0 _).trans (Kept.set (S := fun j => j = q) _ rfl 1 _)).trans (Kept.set (S := fun j => j = q) _ rfl 2 _)).trans (Kept.set (S := fun j => j = q) _ rfl 3 _)).trans (Kept.set (S := fun j => j = q) _ rfl 4 _))⟩)
        obtain ⟨a0, a1, a2, a3, a4⟩ := HXC.out wr (Below.refl _ _)
        have hBd : Below wr.heap.size wr wr.drew := (Below.refl _ _).drew
        obtain ⟨d0, d1, d2, d3, d4⟩ := HXC.out _ hBd
        have hcd : wr.drew.cell? (ad.add k) = some (.int .i64 x) := hc
        have hz0 : 0 < l.length := by omega
        clear hxv hsw hkp hx hbw hs hz hz1 hall hsum hm HE
        go_wp2_with (go_at_call 79; refine halted ?_)
        refine go_on ?_
        refine (isAmt_any x wr).mono ?_
        rintro e wr' ⟨rfl, rfl⟩
        rw [hax]
        go_wp2
        go_region_law
          (first
            | (go_simp; go_at_call 24; (with_reducible refine (HOF.out _).mono ?_); rintro e6 w15 ⟨⟨vo, rfl, hso, -⟩, hb15⟩; have hB15 : Below wr.heap.size wr w15 := hBd.trans (hb15.mono hBd.size); obtain ⟨m0, m1, m2, m3, m4⟩ := HXC.out w15 hB15; dsimp only)
            | (go_simp; go_at_call 23; (with_reducible refine (HAD.out _ _ hso).mono ?_); rintro e7 w16 ⟨⟨vs, rfl, hss, n9, y0, y1, y2, y3, rfl⟩, hb16⟩; have hB16 : Below wr.heap.size wr w16 := hB15.trans (hb16.mono hB15.size); obtain ⟨o0, o1, o2, o3, o4⟩ := HXC.out w16 hB16; have hx16 := HXB.out w16 hB16; have u0 := Joins.unfrozen_of_block hx16 0; have u1 := Joins.unfrozen_of_block hx16 1; have u2 := Joins.unfrozen_of_block hx16 2; have u3 := Joins.unfrozen_of_block hx16 3; have u4 := Joins.unfrozen_of_block hx16 4; dsimp only))
        all_goals
          have HR3 := hide (HNX.out w16 n9 y0 y1 y2 y3 hB16 hss)
          clear hss hb16 hB16 hx16 u0 u1 u2 u3 u4 o0 o1 o2 o3 o4 m0 m1 m2 m3 m4 a0 a1 a2 a3 a4 d0 d1 d2 d3 d4 hso hb15 hB15 hBd HNX HAD HOF hc hcd
          go_wp2
          case roundEnd => exact ⟨HR3.out, by simp [intOf]; omega⟩
    · have hkE : k = l.length := by omega
      subst hkE
      rw [List.take_of_length_le (Nat.le_refl _)] at hsw hs HA
      have HF := hide (show E = toldE l.sum from by rw [HE.out]; unfold sumE; rw [if_pos HA.out])
      have HTD := hide (stold2_any hsw (by omega) wr)
      have a0 : wr.cell? ⟨q, 0, none⟩ = some (.bool n8) := Joins.cell_of_block hxv 0
      have a1 : wr.cell? ⟨q, 1, none⟩ = some (.int .u64 x0) := Joins.cell_of_block hxv 1
      have a2 : wr.cell? ⟨q, 2, none⟩ = some (.int .u64 x1) := Joins.cell_of_block hxv 2
      have a3 : wr.cell? ⟨q, 3, none⟩ = some (.int .u64 x2) := Joins.cell_of_block hxv 3
      have a4 : wr.cell? ⟨q, 4, none⟩ = some (.int .u64 x3) := Joins.cell_of_block hxv 4
      have HBW := hide hbw
      clear hxv hsw hkp hbw hs hlt hk
      go_wp2_with (go_at_call 25; refine halted ?_)
      refine go_on ?_
      refine HTD.out.mono ?_
      rintro e w6 ⟨rfl, hb6⟩
      have HB6 := hide (HBW.out.trans (hb6.mono HBW.out.size))
      clear hb6 HTD
      generalize toldE l.sum = te at *
      go_wp2
      go_ret2
      exact ⟨by rw [HF.out]; rfl, HB6.out⟩

set_option maxRecDepth 100000 in
set_option maxHeartbeats 2000000 in
theorem both_any (a b : Int) (w : World) : Calls Try.prog 83 #[.int .i64 a, .int .i64 b] w fun e w' => e = .returned (.bool (amt a && amt b)) ∧ w = w' := by
  go_enter Try.func83, Try.ntmps83
  go_wp2_with (go_at_call 79; refine halted ?_)
  refine go_on ?_
  refine (isAmt_any a w).mono ?_
  rintro e w' ⟨rfl, rfl⟩
  cases ha : amt a with
  | false =>
    go_wp2
    go_ret
    exact ⟨by rw [ha]; rfl, rfl⟩
  | true =>
    go_wp2_with (go_at_call 79; refine halted ?_)
    refine go_on ?_
    refine (isAmt_any b w).mono ?_
    rintro e w' ⟨rfl, rfl⟩
    go_wp2
    go_ret
    exact ⟨by rw [ha, Bool.true_and]; rfl, rfl⟩

set_option maxRecDepth 100000 in
set_option maxHeartbeats 2000000 in
theorem radd_any (a b : Int) (w : World) : Calls Try.prog 62 #[.int .i64 a, .int .i64 b] w (NumR w (addE a b)) := by
  have HBO := hide (both_any a b w)
  obtain ⟨E, HE⟩ : ∃ E, Hid (E = addE a b) := ⟨_, rfl⟩
  rw [← HE.out]
  cases hab : (amt a && amt b) with
  | false =>
    have HE0 := hide (show E = (0, 1) from by
      rw [HE.out]
      unfold addE
      rw [if_neg]
      rintro ⟨h1, h2⟩
      rw [h1, h2] at hab
      cases hab)
    rw [hab] at HBO
    clear hab
    go_enter Try.func62, Try.ntmps62
    go_wp2_with (go_at_call 83; refine halted ?_)
    refine go_on ?_
    refine HBO.out.mono ?_
    rintro e w' ⟨rfl, rfl⟩
    go_wp2
    go_ret2
    exact ⟨by rw [HE0.out]; rfl, Below.refl _ _⟩
  | true =>
    rw [Bool.and_eq_true] at hab
    obtain ⟨h1, h2⟩ := hab
    have HE0 := hide (show E = toldE (a + b) from by
      rw [HE.out]
      unfold addE toldE
      rw [if_pos ⟨h1, h2⟩])
    rw [h1, h2] at HBO
    have ha := (amt_iff a).1 h1
    have hb := (amt_iff b).1 h2
    have HO1 := hide (fun W => of_any a (by omega) (by omega) W)
    have HO2 := hide (fun W => of_any b (by omega) (by omega) W)
    have HAD := hide (fun (W : World) (v1 v2 : Value) (s1 : SW v1 a) (s2 : SW v2 b) => wadd_any s1 s2 (by omega) (by omega) W)
    have HTD := hide (fun (W : World) (v : Value) (s : SW v (a + b)) => stold2_any s (by omega) W)
    clear h1 h2 ha hb
    go_enter Try.func62, Try.ntmps62
    go_wp2_with (go_at_call 83; refine halted ?_)
    refine go_on ?_
    refine HBO.out.mono ?_
    rintro e w' ⟨rfl, rfl⟩
    dsimp only [Bool.and_true]
    go_wp2_with (go_at_call 24; refine halted ?_)
    refine go_on ?_
    refine (HO1.out w).mono ?_
    rintro e w1 ⟨⟨v1, rfl, s1, n1, x0, x1, x2, x3, rfl⟩, hb1⟩
    have HB1 := hide hb1
    have S1 := hide s1
    clear hb1 s1
    go_wp2_with (go_at_call 24; refine halted ?_)
    refine go_on ?_
    refine (HO2.out w1).mono ?_
    rintro e w2 ⟨⟨v2, rfl, s2, n2, y0, y1, y2, y3, rfl⟩, hb2⟩
    have HB2 := hide (HB1.out.trans (hb2.mono HB1.out.size))
    have S2 := hide s2
    clear hb2 s2
    go_wp2_with (go_at_call 23; refine halted ?_)
    refine go_on ?_
    refine (HAD.out w2 _ _ S1.out S2.out).mono ?_
    rintro e w3 ⟨⟨v3, rfl, s3, n3, z0, z1, z2, z3, rfl⟩, hb3⟩
    have HB3 := hide (HB2.out.trans (hb3.mono HB2.out.size))
    have S3 := hide s3
    clear hb3 s3
    go_wp2_with (go_at_call 25; refine halted ?_)
    refine go_on ?_
    refine (HTD.out w3 _ S3.out).mono ?_
    rintro e w4 ⟨rfl, hb4⟩
    have HB4 := hide (HB3.out.trans (hb4.mono HB3.out.size))
    clear hb4
    generalize toldE (a + b) = te at *
    go_wp2
    go_ret2
    exact ⟨by rw [HE0.out]; rfl, HB4.out⟩

theorem legsE_none {l : Acs} : ∀ {over : Bool} {ls : List (Int × Int)} {x : Int × Int}, x ∈ ls → aFind l x.1 = none → legsE l over ls = 4
  | over, [], x, h, _ => by cases h
  | over, y :: r, x, h, hn => by
    unfold legsE
    cases hy : aFind l y.1 with
    | none => rfl
    | some a =>
      dsimp only
      rcases List.mem_cons.1 h with rfl | h
      · rw [hn] at hy; cases hy
      · exact legsE_none h hn
theorem legsE_all {l : Acs} : ∀ {ls : List (Int × Int)}, (∀ x ∈ ls, ∃ a, aFind l x.1 = some a) → legsE l true ls = 2
  | [], _ => rfl
  | y :: r, h => by
    obtain ⟨a, ha⟩ := h y (List.mem_cons_self ..)
    unfold legsE
    rw [ha]
    dsimp only
    rw [Bool.true_or]
    exact legsE_all fun x hx => h x (List.mem_cons_of_mem _ hx)
theorem legsE_two {l : Acs} : ∀ {over : Bool} {ls : List (Int × Int)} {x : Int × Int} {a : Int × Int}, (∀ x ∈ ls, ∃ a, aFind l x.1 = some a) → x ∈ ls → aFind l x.1 = some a → (addE a.2 x.2).2 ≠ 0 → legsE l over ls = 2
  | over, [], x, a, _, h, _, _ => by cases h
  | over, y :: r, x, a, hall, h, ha, hne => by
    obtain ⟨b, hb⟩ := hall y (List.mem_cons_self ..)
    have hall2 : ∀ x ∈ r, ∃ a, aFind l x.1 = some a := fun x hx => hall x (List.mem_cons_of_mem _ hx)
    unfold legsE
    rw [hb]
    dsimp only
    rcases List.mem_cons.1 h with rfl | h
    · rw [ha] at hb
      injection hb with hb
      subst hb
      rw [decide_eq_false hne]
      simp only [Bool.not_false, Bool.or_true]
      exact legsE_all hall2
    · exact legsE_two hall2 h ha hne

/-- Check's loops: the amounts that are gathered; the accounts that are looked up; the sums. -/
def Rc1Rel (ls : List (Int × Int)) (w2 : World) (v i : Value) (wr : World) : Prop :=
  ∃ (k : Nat) (A' : Option Addr) (c' : Nat), k ≤ ls.length ∧ i = .int .i64 (k : Int) ∧ v = .slice A' k c' ∧ wr.ownsRow w2.heap.size 2 1 (.slice A' k c') k (((ls.take k).map (·.2)).map i64v) ∧ Below w2.heap.size w2 wr
def Rc2Rel (l : Acs) (ls : List (Int × Int)) (i : Value) : Prop := ∃ k : Nat, k ≤ ls.length ∧ i = .int .i64 (k : Int) ∧ Hid (∀ x ∈ ls.take k, ∃ a, aFind l x.1 = some a)
def Rc3Rel (l : Acs) (ls : List (Int × Int)) (w4 : World) (i : Value) (wr : World) : Prop := ∃ k : Nat, k ≤ ls.length ∧ i = .int .i64 (k : Int) ∧ Hid (∀ x ∈ ls.take k, ∃ a, aFind l x.1 = some a ∧ (addE a.2 x.2).2 = 0) ∧ Below w4.heap.size w4 wr
theorem info_i64R : (Try.prog.info? 2).map (fun i => (i.zero, i.size, i.bytes)) = some (some (.int .i64 0), 1, 8) := by kernel_rfl

set_option maxRecDepth 100000 in
set_option maxHeartbeats 4000000 in
theorem rcheck_any (r base : Nat) (AC : Option Addr) (cc : Nat) (l : Acs) (w : World) (hs : Rc r base AC cc l w) (day : Int) (tx : ByteArray) (A : Option Addr) (B n c : Nat) (ls : List (Int × Int)) (hn : ls.length = n) (hr : Row w B A (legCells ls)) (hB : B ≤ w.heap.size) (hl : n ≤ 1000) (htx : tx.size ≤ maxLen) (hll : l.length ≤ 1000000) :
    Calls Try.prog 30 #[.pointer (some ⟨r, 0, none⟩), .agg #[.int .i64 day, .string tx, .slice A n c]] w fun e w' => e = .returned (.int .i64 (checkE l day tx.size ls)) ∧ Below w.heap.size w w' := by
  subst hn
  obtain ⟨w1, hw1⟩ : ∃ w1, w1 = w.alloc (.cells #[.int .i64 day, .string tx, .slice A ls.length c] 25) := ⟨_, rfl⟩
  have hb1 : Below w.heap.size w w1 := by rw [hw1]; exact below_new w _
  have hx1 : w1.heap[w.heap.size]? = some (.cells #[.int .i64 day, .string tx, .slice A ls.length c] 25 (0, 0)) := by rw [hw1]; exact heap_alloc_new w _
  have hz1 : w.heap.size < w1.heap.size := by rw [hw1]; simp
  have HRT := hide (rright_any day tx A B ls.length c ls w1 rfl (hr.belowLe hb1 hB) (Nat.le_trans hB hb1.size) (by omega) htx)
  have HR := hide (hr.belowLe hb1 hB)
  have HB1 := hide hb1
  obtain ⟨q1, hq1⟩ : ∃ q1, q1 = w.heap.size := ⟨_, rfl⟩
  have HBX := hide (show ∀ W, Below w1.heap.size w1 W → W.cell? ⟨q1, 0, none⟩ = some (.int .i64 day) ∧ W.cell? ⟨q1, 1, none⟩ = some (.string tx) ∧ W.cell? ⟨q1, 2, none⟩ = some (.slice A ls.length c) from fun W hW => by
    have h := (hW.block w.heap.size hz1).trans hx1
    rw [← hq1] at h
    exact ⟨Joins.cell_of_block h 0, Joins.cell_of_block h 1, Joins.cell_of_block h 2⟩)
  have HS := hide (hs.call hb1)
  have hB1 : B ≤ w1.heap.size := Nat.le_trans hB hb1.size
  clear hr hs hx1 hz1
  obtain ⟨E, HE⟩ : ∃ E, Hid (E = checkE l day tx.size ls) := ⟨_, rfl⟩
  rw [← HE.out]
  obtain ⟨i0, hi, hz0, hz1, hz2⟩ := info_parts info_i64R
  go_enter Try.func30, Try.ntmps30
  go_wp2_with (go_at_call 45; refine halted ?_)
  refine go_on ?_
  rw [← hw1, ← hq1]
  clear hw1 hq1 hb1
  refine HRT.out.mono ?_
  rintro e w2 ⟨rfl, hb2⟩
  have HB2 := hide hb2
  have HBW2 := hide (HB1.out.trans (hb2.mono HB1.out.size))
  clear HRT hb2
  cases hrt : rightE day tx.size ls with
  | false =>
    have HE1 := hide (show E = 1 from by rw [HE.out]; unfold checkE; rw [if_pos hrt])
    clear hrt
    go_wp2
    go_ret
    exact ⟨by rw [HE1.out]; rfl, HBW2.out⟩
  | true =>
    have HLA := hide (legsOk_amt (right_legs hrt))
    have HRT := hide hrt
    clear hrt
    go_wp2
    go_loopw [6, 7] (fun v i wr => Rc1Rel ls w2 v i wr) (fun _ i _ => ls.length - (intOf i).toNat)
    case atStart => exact ⟨0, none, 0, Nat.zero_le _, rfl, rfl, World.ownsRow_nil _ _ _ _, Below.refl _ _⟩
    case round =>
      obtain ⟨k, A', c', hk, rfl, rfl, hown, hb⟩ := hrel
      have hb1r := HB2.out.trans (hb.mono HB2.out.size)
      obtain ⟨x0, x1, x2⟩ := HBX.out wr hb1r
      have HB1R := hide hb1r
      clear hb1r
      by_cases hlt : k < ls.length
      · obtain ⟨ad, a, m, rfl, hadb, hx, ha, hm⟩ := (HR.out.belowLe HB1R.out hB1).leg hlt
        have HOWN := hide hown
        have HB := hide hb
        have HTK := hide (take_next hx.out)
        have hlt' : (k : Int) < (ls.length : Int) := by omega
        clear hown hb hx
        go_wp2_with (at_builtin; refine halted ?_)
        refine go_on ?_
        refine wpList_append_own _ rfl (.tmp 25) (.tmp 32) 37 rfl w2.heap.size 2 i0 _ 1 8 Try.underlying37 hi hz0 hz1 hz2 rfl (by decide) A' k c' _ rfl (World.ownsRow.alloc HOWN.out _) _ _ 1 _ [.int .i64 m] rfl rfl (Row.new wr #[.int .i64 m] 2 (0, 0)) (by intro u hu; simp at hu; subst hu; rfl) (by unfold maxLen; omega) (by omega) (by have := HB.out.size; simp; exact Nat.le_succ_of_le this) ?_
        intro n' xs' A5 c5 w5 hn' hxs' hnc _ hown5 hg5 hat5
        obtain rfl : n' = k + 1 := hn'.out
        have hb5 : Below w2.heap.size w2 w5 := (HB.out.alloc HB.out.size _).grown hg5 (by have := HB.out.size; simp; exact Nat.le_succ_of_le this) (fun q hq => (World.ownsRow.lt HOWN.out q (by rw [ownBlock_slice]; exact hq)).1)
        have ex : xs' = ((ls.take (k + 1)).map (·.2)).map i64v := by
          rw [hxs'.out, HTK.out, List.map_append, List.map_append]
          rfl
        rw [ex] at hown5
        have hrel2 : Rc1Rel ls w2 (.slice A5 (k + 1) c5) (.int .i64 ((k : Int) + 1)) w5 := ⟨k + 1, A5, c5, hlt, by simp, rfl, hown5, hb5⟩
        have HR2 := hide hrel2
        clear hn' hxs' hown5 hg5 hat5 hb5 ex hrel2 ha hm hadb x0 x1 x2
        go_wp2
        case roundEnd => exact ⟨HR2.out, by simp [intOf]; omega⟩
      · have hkE : k = ls.length := by omega
        subst hkE
        rw [List.take_of_length_le (Nat.le_refl _)] at hown
        have HSU := hide (rsum_any A' wr.heap.size ls.length c' (ls.map (·.2)) wr (by simp) (Row.of_own hown) (Nat.le_refl _) (by omega))
        clear hown hb x0 x1 hlt hk
        go_wp2_with (go_at_call 61; refine halted ?_)
        refine go_on ?_
        refine HSU.out.mono ?_
        rintro e w4 ⟨rfl, hb4⟩
        have HB4 := hide (HB1R.out.trans (hb4.mono HB1R.out.size))
        have HBW4 := hide (HB1.out.trans (HB4.out.mono HB1.out.size))
        clear hb4 HSU
        have hbal : balB ls = (decide ((sumE (ls.map (·.2))).2 = 0) && decide ((sumE (ls.map (·.2))).1 = 0)) := rfl
        generalize sumE (ls.map (·.2)) = se at *
        obtain ⟨s1, s2⟩ := se
        dsimp only at hbal
        dsimp only
        by_cases h2 : s2 = 0
        case neg =>
          have HE1 := hide (show E = 10 from by rw [HE.out]; unfold checkE; rw [if_neg (by rw [HRT.out]; simp), if_pos (by rw [hbal, decide_eq_false h2]; rfl)])
          have h2' : (s2 != 0) = true := by rw [bne_iff_ne]; exact h2
          clear h2 hbal
          go_wp2
          go_ret
          exact ⟨by rw [HE1.out]; rfl, HBW4.out⟩
        by_cases h1 : s1 = 0
        case neg =>
          have HE1 := hide (show E = 10 from by rw [HE.out]; unfold checkE; rw [if_neg (by rw [HRT.out]; simp), if_pos (by rw [hbal, decide_eq_false h1, Bool.and_false])])
          have h1' : (s1 != 0) = true := by rw [bne_iff_ne]; exact h1
          clear h1 hbal
          subst h2
          go_wp2
          go_ret
          exact ⟨by rw [HE1.out]; rfl, HBW4.out⟩
        have HE1 := hide (show E = legsE l false ls from by rw [HE.out]; unfold checkE; rw [if_neg (by rw [HRT.out]; simp), if_neg (by rw [hbal, h1, h2]; simp)])
        subst h1
        subst h2
        clear hbal HE
        have HS4 := hide (HS.out.call HB4.out)
        have HR4 := hide (HR.out.belowLe HB4.out hB1)
        have HBX4 := hide (HBX.out w4 HB4.out)
        go_wp2
        go_loop [10] (fun i => Rc2Rel l ls i) (fun i => ls.length - (intOf i).toNat)
        case atStart => exact ⟨0, Nat.zero_le _, rfl, by show ∀ _, _; simp⟩
        case round =>
          obtain ⟨k, hk, rfl, HFD⟩ := hrel
          obtain ⟨x0, x1, x2⟩ := HBX4.out
          by_cases hlt : k < ls.length
          · obtain ⟨ad, a, m, rfl, hadb, hx, ha, hm⟩ := HR4.out.leg hlt
            have hlt' : (k : Int) < (ls.length : Int) := by omega
            have HPL := hide (place_any r base AC cc l w4 HS4.out a (by omega))
            cases hf : aFind l a with
            | none =>
              have HE2 := hide (show E = 4 from by rw [HE1.out]; exact legsE_none (List.mem_of_getElem? hx.out) hf)
              rw [placeE_none hf] at HPL
              clear hf hx HFD hm
              go_wp2_with (go_at_call 58; refine halted ?_)
              refine go_on ?_
              refine HPL.out.mono ?_
              rintro e w' ⟨rfl, rfl⟩
              go_wp2
              go_ret
              exact ⟨by rw [HE2.out]; rfl, HBW4.out⟩
            | some x =>
              obtain ⟨j, hj, -, -⟩ := placeE_some hf
              rw [hj] at HPL
              have hj0 : (0 : Int) ≤ (j : Int) := by omega
              have hrel2 : Rc2Rel l ls (.int .i64 ((k : Int) + 1)) := ⟨k + 1, hlt, by simp, by
                show ∀ _, _
                intro y hy
                rw [take_next hx.out] at hy
                rcases List.mem_append.1 hy with hy | hy
                · exact HFD.out y hy
                · simp at hy
                  subst hy
                  exact ⟨x, hf⟩⟩
              have HR2 := hide hrel2
              clear hf hx HFD hm hj hrel2
              go_wp2_with (go_at_call 58; refine halted ?_)
              refine go_on ?_
              refine HPL.out.mono ?_
              rintro e w' ⟨rfl, rfl⟩
              go_wp2
              case roundEnd => exact ⟨HR2.out, by simp [intOf]; omega⟩
          · have hkE : k = ls.length := by omega
            subst hkE
            rw [List.take_of_length_le (Nat.le_refl _)] at HFD
            clear hlt hk
            go_wp2
            go_loopw [11] (fun i wr => Rc3Rel l ls w4 i wr) (fun i _ => ls.length - (intOf i).toNat)
            case atStart => exact ⟨0, Nat.zero_le _, rfl, by show ∀ _, _; simp, Below.refl _ _⟩
            case round =>
              obtain ⟨k, hk, rfl, HFG, hbr⟩ := hrel
              have HBR := hide (HB4.out.trans (hbr.mono HB4.out.size))
              obtain ⟨x0, x1, x2⟩ := HBX.out wr HBR.out
              by_cases hlt : k < ls.length
              · obtain ⟨ad, a, m, rfl, hadb, hx, ha, hm⟩ := (HR.out.belowLe HBR.out hB1).leg hlt
                have hlt' : (k : Int) < (ls.length : Int) := by omega
                obtain ⟨x, hf⟩ := HFD.out _ (List.mem_of_getElem? hx.out)
                dsimp only at hf
                have hsr := HS.out.call HBR.out
                obtain ⟨j, hj, hjl, hjlt⟩ := placeE_some hf
                obtain ⟨ad2, rfl, had2, -, -, hbl⟩ := hsr.row.acc hjl
                dsimp only at hbl
                have HPL := hide (place_any r base (some ad2) cc l wr.drew (hsr.call ((Below.refl _ _).drew)) a (by omega))
                rw [hj] at HPL
                have HAD := hide (radd_any x.2 m wr.drew)
                have hcl := hsr.cell
                have hjlt' : (j : Int) < (l.length : Int) := by omega
                have hj0 : (0 : Int) ≤ (j : Int) := by omega
                have hSS : ∀ W, Below wr.heap.size wr W → (W.cell? ⟨r, 0, none⟩ = some (.slice (some ad2) l.length cc) ∧ W.cell? ⟨q1, 2, none⟩ = some (.slice (some ad) ls.length c) ∧ W.cell? (ad.add (k * 2)) = some (.int .i64 a) ∧ W.cell? ⟨(ad.add (k * 2)).block, (ad.add (k * 2)).off + 1, none⟩ = some (.int .i64 m) ∧ W.cell? ⟨(ad2.add (j * 3)).block, (ad2.add (j * 3)).off + 2, none⟩ = some (.int .i64 x.2)) := fun W hW =>
                  ⟨(hW.cell (p := ⟨r, 0, none⟩) (lt_of_cell hcl)).trans hcl, (hW.cell (p := ⟨q1, 2, none⟩) (lt_of_cell x2)).trans x2, (hW.cell (lt_of_cell ha)).trans ha, (hW.cell (p := ⟨(ad.add (k * 2)).block, (ad.add (k * 2)).off + 1, none⟩) (lt_of_cell hm)).trans hm, (hW.cell (p := ⟨(ad2.add (j * 3)).block, (ad2.add (j * 3)).off + 2, none⟩) (lt_of_cell hbl)).trans hbl⟩
                have HX := hide hx.out
                have HFX := hide hf
                have HBr := hide hbr
                obtain ⟨bal, hbal⟩ : ∃ bal, bal = x.2 := ⟨_, rfl⟩
                rw [← hbal] at HAD hSS hbl
                have HSS := hide hSS
                have S0 := HSS.out wr (Below.refl _ _)
                have S1 := HSS.out wr.drew (Below.refl _ _).drew
                have HBAL := hide hbal
                clear hx hf hsr hj hjl hbr hbal hSS
                go_wp2
                go_region_held3 (fun W => W.cell? ⟨r, 0, none⟩ = some (.slice (some ad2) l.length cc) ∧ W.cell? ⟨q1, 2, none⟩ = some (.slice (some ad) ls.length c) ∧ W.cell? (ad.add (k * 2)) = some (.int .i64 a) ∧ W.cell? ⟨(ad.add (k * 2)).block, (ad.add (k * 2)).off + 1, none⟩ = some (.int .i64 m) ∧ W.cell? ⟨(ad2.add (j * 3)).block, (ad2.add (j * 3)).off + 2, none⟩ = some (.int .i64 bal))
                  (with_reducible assumption)
                  (first
                    | (go_at_call 58; (with_reducible refine HPL.out.mono ?_); rintro e5 w5 ⟨rfl, rfl⟩)
                    | (go_at_call 62; (with_reducible refine HAD.out.mono ?_); rintro e6 w6 ⟨rfl, hb6⟩; have S6 := HSS.out w6 (((Below.refl wr.heap.size wr).drew).trans hb6)))
                all_goals
                  have hb6' : Below w4.heap.size w4 w6 := HBr.out.trans ((((Below.refl _ _).drew).trans hb6).mono HBr.out.size)
                  have HB6 := hide hb6'
                  have HBW6 := hide (HBW4.out.trans (hb6'.mono HBW4.out.size))
                  have hae : ∀ v : Int × Int, v = addE bal m → v.2 = 0 ∨ v.2 ≠ 0 := fun v _ => by omega
                  clear hb6 hb6' S0 S1 S6 ha hm hbl hcl x0 x1 x2
                  by_cases h0 : (addE bal m).2 = 0
                  · have hrel2 : Rc3Rel l ls w4 (.int .i64 ((k : Int) + 1)) w6 := ⟨k + 1, hlt, by simp, by
                      show ∀ _, _
                      intro y hy
                      rw [take_next HX.out] at hy
                      rcases List.mem_append.1 hy with hy | hy
                      · exact HFG.out y hy
                      · simp at hy
                        subst hy
                        exact ⟨x, HFX.out, by dsimp only; rw [← HBAL.out]; exact h0⟩, HB6.out⟩
                    have HR2 := hide hrel2
                    rw [h0]
                    clear hrel2 h0 hae
                    generalize addE bal m = v at *
                    go_wp2
                    case roundEnd => exact ⟨HR2.out, by simp [intOf]; omega⟩
                  · have HE2 := hide (show E = 2 from by
                      rw [HE1.out]
                      exact legsE_two HFD.out (List.mem_of_getElem? HX.out) HFX.out (by dsimp only; rw [← HBAL.out]; exact h0))
                    have h0' : ((addE bal m).2 != 0) = true := by rw [bne_iff_ne]; exact h0
                    clear h0 hae
                    generalize addE bal m = v at *
                    go_wp2
                    go_ret
                    exact ⟨by rw [HE2.out]; rfl, HBW6.out⟩
              · have hkE : k = ls.length := by omega
                subst hkE
                rw [List.take_of_length_le (Nat.le_refl _)] at HFG
                have HE2 := hide (show E = 0 from by rw [HE1.out]; exact legsE_of HFG.out)
                have HBW6 := hide (HBW4.out.trans (hbr.mono HBW4.out.size))
                clear hbr HFG hlt hk
                go_wp2
                go_ret
                exact ⟨by rw [HE2.out]; rfl, HBW6.out⟩
end Go.Proofs.Ytibanikfalfmcaa
