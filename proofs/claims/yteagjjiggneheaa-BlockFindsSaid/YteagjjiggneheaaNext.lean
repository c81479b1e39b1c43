/-
  The function that block's pairs makes: one pair behind the other.
-/
import Derived.Test.YteagjjiggneheaaPairsFn
import Derived.Test.YteagjjiggneheaaConcat
import Derived.Test.YteagjjiggneheaaKept
namespace Go.Proofs.Yteagjjiggneheaa
open Go.RowKit
set_option linter.unusedVariables false

/-- A box of one slice. -/
def BoxS (q : Nat) (v : Value) (W : World) : Prop := W.heap[q]? = some (.cells #[v] 25 (0, 0))
theorem BoxS.lt {q : Nat} {v : Value} {W : World} (h : BoxS q v W) : q < W.heap.size := (Array.getElem?_eq_some_iff.1 h).1
theorem BoxS.below {q : Nat} {v : Value} {W W' : World} {B : Nat} (h : BoxS q v W) (hb : Below B W W') (hq : q < B) : BoxS q v W' := (hb.block q hq).trans h
theorem BoxS.cell {q : Nat} {v : Value} {W : World} (h : BoxS q v W) : W.cell? ⟨q, 0, none⟩ = some v := by
  have := Joins.cell_of_block h 0
  simpa using this
theorem BoxS.free {q : Nat} {v : Value} {W : World} (h : BoxS q v W) : W.frozen? ⟨q, 0, none⟩ = false := Joins.unfrozen_of_block h 0
theorem BoxS.set {q : Nat} {v : Value} {W : World} (h : BoxS q v W) (u : Value) : BoxS q u (W.setCell ⟨q, 0, none⟩ u) := by
  obtain ⟨hlt1, hk1⟩ := Array.getElem?_eq_some_iff.1 h
  show (W.heap.modify q _)[q]? = _
  rw [Array.getElem?_eq_getElem (by rw [Array.size_modify]; exact hlt1), Array.getElem_modify_self, hk1]
  rfl
theorem BoxS.other {q p i : Nat} {v : Value} {W : World} (h : BoxS q v W) (hne : q ≠ p) (u : Value) : BoxS q v (W.setCell ⟨p, i, none⟩ u) :=
  (Below.heap_setCell W ⟨p, i, none⟩ u q hne).trans h

/-- What the code asks of an entry that is a head, or none. -/
def okH (head : Bool) (last : List UInt8) (n : Nat) (whole : List UInt8) : Prop := (head = true → n = 0) ∧ (head = false → Op.bytesLess last whole = true ∧ comm whole last = n)
/-- What is told behind the last key. -/
def nextP (head : Bool) (last b : List UInt8) (r : Option (KV × List UInt8)) : Prop :=
  match takeE last b with
  | none => r = none
  | some (n, p, t) => (okH head last n p.1 ∧ r = some (p, t)) ∨ (¬ okH head last n p.1 ∧ r = none)

theorem nextP_none {head : Bool} {last b : List UInt8} {r : Option (KV × List UInt8)} (h : takeE last b = none) (hR : nextP head last b r) : r = none := by
  unfold nextP at hR
  rw [h] at hR
  exact hR
theorem nextP_yes {head : Bool} {last b t : List UInt8} {n : Nat} {p : KV} {r : Option (KV × List UInt8)} (h : takeE last b = some (n, p, t)) (hok : okH head last n p.1) (hR : nextP head last b r) : r = some (p, t) := by
  unfold nextP at hR
  rw [h] at hR
  rcases hR with ⟨_, h1⟩ | ⟨h1, _⟩
  · exact h1
  · exact absurd hok h1
theorem nextP_no {head : Bool} {last b t : List UInt8} {n : Nat} {p : KV} {r : Option (KV × List UInt8)} (h : takeE last b = some (n, p, t)) (hok : ¬ okH head last n p.1) (hR : nextP head last b r) : r = none := by
  unfold nextP at hR
  rw [h] at hR
  rcases hR with ⟨h1, _⟩ | ⟨_, h1⟩
  · exact absurd h1 hok
  · exact h1
theorem set2_away {X : Nat → Prop} {A : Option Addr} {bs : List UInt8} {w : World} {B' p q i j : Nat} (h : Away X A bs) (hr : Bytes w B' A bs) (hp : X p) (hq : X q) (u v : Value) : Bytes ((w.setCell ⟨p, i, none⟩ u).setCell ⟨q, j, none⟩ v) B' A bs :=
  h.setCell (h.setCell hr (p := ⟨p, i, none⟩) hp u) (p := ⟨q, j, none⟩) hq v
/-- The result's box. -/
def Res2 (q : Nat) (W : World) : Prop := W.heap[q]? = some (.cells #[.slice none 0 0, .slice none 0 0] 34 (0, 0))
theorem Res2.below {q : Nat} {W W' : World} {B : Nat} (h : Res2 q W) (hb : Below B W W') (hq : q < B) : Res2 q W' := (hb.block q hq).trans h
theorem Res2.other {q p i : Nat} {W : World} (h : Res2 q W) (hne : q ≠ p) (u : Value) : Res2 q (W.setCell ⟨p, i, none⟩ u) := (Below.heap_setCell W ⟨p, i, none⟩ u q hne).trans h
theorem Res2.cell0 {q : Nat} {W : World} (h : Res2 q W) : W.cell? ⟨q, 0, none⟩ = some (.slice none 0 0) := by
  have := Joins.cell_of_block h 0
  simpa using this
theorem Res2.cell1 {q : Nat} {W : World} (h : Res2 q W) : W.cell? ⟨q, 1, none⟩ = some (.slice none 0 0) := by
  have := Joins.cell_of_block h 1
  simpa using this
theorem Res2.free {q : Nat} {W : World} (h : Res2 q W) (i : Nat) : W.frozen? ⟨q, i, none⟩ = false := Joins.unfrozen_of_block h i

def NextR (qb ql : Nat) (X : Nat → Prop) (w w' : World) (e : Ending) : Option (KV × List UInt8) → Prop
  | none => e = .returned (.tuple #[.agg #[.slice none 0 0, .slice none 0 0], .slice none 0 0, .int .i64 3]) ∧ Below w.heap.size w w'
  | some (p, r) => ∃ A1 c1 A2 c2 A3 c3 A4 c4, e = .returned (.tuple #[.agg #[.slice A1 p.1.length c1, .slice A2 p.2.length c2], .slice A3 r.length c3, .int .i64 0]) ∧
      Bytes w' w'.heap.size A1 p.1 ∧ p.1.length ≤ c1 ∧ Bytes w' w'.heap.size A2 p.2 ∧ p.2.length ≤ c2 ∧ Bytes w' w'.heap.size A3 r ∧ r.length ≤ c3 ∧ Bytes w' w'.heap.size A4 p.1 ∧ p.1.length ≤ c4 ∧
      Away X A1 p.1 ∧ Away X A2 p.2 ∧ Away X A3 r ∧ Away X A4 p.1 ∧ Kept (fun k => k = qb ∨ k = ql) w w' ∧ BoxS ql (.slice A4 p.1.length c4) w' ∧ BoxS qb (.slice A3 r.length c3) w'

set_option maxRecDepth 100000 in
set_option maxHeartbeats 4000000 in
theorem next_any (head : Bool) (qb ql : Nat) (A AL : Option Addr) (B c cL : Nat) (b last : List UInt8) (w : World) (X : Nat → Prop) (hbb : BoxS qb (.slice A b.length c) w) (hbl : BoxS ql (.slice AL last.length cL) w) (hne : qb ≠ ql)
    (hr : Bytes w w.heap.size A b) (hc : b.length ≤ c) (hrl : Bytes w w.heap.size AL last) (hcl : last.length ≤ cL) (hl : b.length ≤ 1000000000) (hll : last.length ≤ 1000000000)
    (hX : ∀ k, X k → k < w.heap.size) (hXb : X qb) (hXl : X ql) (ha : Away X A b) (hal : Away X AL last) (r : Option (KV × List UInt8)) (hR : nextP head last b r) :
    Calls Try.prog 39 #[.bool head, .pointer (some ⟨qb, 0, none⟩), .pointer (some ⟨ql, 0, none⟩)] w fun e w' => NextR qb ql X w w' e r := by
  have HR := hide hR
  clear hR
  obtain ⟨Y, hYX, hYr, hYle, hYa⟩ : ∃ Y : Nat → Prop, (∀ k, X k → Y k) ∧ Y w.heap.size ∧ (∀ k, Y k → k ≤ w.heap.size) ∧ Away Y A b :=
    ⟨fun k => X k ∨ k = w.heap.size, fun k h => .inl h, .inr rfl, fun k h => h.elim (fun h => Nat.le_of_lt (hX k h)) (fun h => Nat.le_of_eq h), ha.or (Away.of_bytes hr fun k hk => Nat.le_of_eq hk.symm)⟩
  have HT := hide fun W (hb : Below w.heap.size w W) (hz : w.heap.size < W.heap.size) => takeNumber_any A W.heap.size c _ b W rfl ((hr.below hb).more hb.size) (Nat.le_refl _) (by omega) hc (X := Y) hYa (fun k hk => Nat.lt_of_le_of_lt (hYle k hk) hz)
  have k0 := hbb.cell
  have k1 := hbl.cell
  have hqb := hbb.lt
  have hql := hbl.lt
  go_enter Try.func39, Try.ntmps39
  have hb0 : Below w.heap.size w (w.alloc (.cells #[.slice none 0 0, .slice none 0 0] 34)) := (Below.refl _ _).alloc (Nat.le_refl _) _
  have hres0 : Res2 w.heap.size (w.alloc (.cells #[.slice none 0 0, .slice none 0 0] 34)) := heap_alloc_new w _
  have hneL : w.heap.size ≠ ql := by omega
  have hneB : w.heap.size ≠ qb := by omega
  have hz0 : w.heap.size < (w.alloc (.cells #[.slice none 0 0, .slice none 0 0] 34)).heap.size := by simp
  go_wp2_with (go_at_call 40; refine halted ?_)
  refine go_on ?_
  have hXY : ∀ k, Y k → k < (w.alloc (.cells #[.slice none 0 0, .slice none 0 0] 34)).heap.size := fun k hk => Nat.lt_of_le_of_lt (hYle k hk) hz0
  generalize w.alloc (.cells #[.slice none 0 0, .slice none 0 0] 34) = W at *
  refine (HT.out _ hb0 hz0).mono ?_
  clear HT
  cases hn : takeN b with
  | none =>
    have HNO := hide (nextP_none (takeE_n hn) HR.out)
    rintro e w1 ⟨A1, c1, rfl, -, -, hb1, -⟩
    dsimp only [tookR] at *
    have hbA := hb0.trans (hb1.mono hb0.size)
    have hres := hres0.below hb1 hz0
    clear hb1 hb0 hres0 hr hrl ha hal hbb hbl k0 k1 hn HR
    have HBK := hide hbA
    have z0 := hres.cell0
    have z1 := hres.cell1
    have f0 := hres.free 0
    have f1 := hres.free 1
    clear hres
    go_wp2
    refine bodyPost_ret (v := .tuple #[.agg #[.slice none 0 0, .slice none 0 0], .slice none 0 0, .int .i64 3]) (by simp [results, Try.results39, go_sem, z0, z1]) rfl ?_
    rw [HNO.out]
    exact ⟨rfl, set_below (set_below HBK.out (Nat.le_refl _) 0 _) (Nat.le_refl _) 1 _⟩
  | some q =>
    obtain ⟨n, t1⟩ := q
    have hnl := takeN_lt hn
    obtain ⟨s1, hs1, -⟩ := takeN_suffix hn
    have ht1 : t1.length ≤ b.length := by rw [hs1, List.length_append]; omega
    rintro e w1 ⟨A1, c1, rfl, hr1, hc1, hb1, ha1⟩
    dsimp only [tookR] at *
    have hbA := hb0.trans (hb1.mono hb0.size)
    have hres := hres0.below hb1 hz0
    have k1 := (hbl.below hbA hql).cell
    have HN := hide hn
    have hb1z := hb1.size
    clear hb1 hb0 hres0 k0 hn hs1 s1
    by_cases hgt : last.length < n
    · have HNO := hide (nextP_none (takeE_big HN.out (by omega)) HR.out)
      have hgt' : (last.length : Int) < (n : Int) := by omega
      clear hr hrl ha hal hbb hbl HR hgt hr1 ha1 HN
      have HBK := hide hbA
      have z0 := hres.cell0
      have z1 := hres.cell1
      have f0 := hres.free 0
      have f1 := hres.free 1
      clear hres
      go_wp2
      refine bodyPost_ret (v := .tuple #[.agg #[.slice none 0 0, .slice none 0 0], .slice none 0 0, .int .i64 3]) (by simp [results, Try.results39, go_sem, z0, z1]) rfl ?_
      rw [HNO.out]
      exact ⟨rfl, set_below (set_below HBK.out (Nat.le_refl _) 0 _) (Nat.le_refl _) 1 _⟩
    have hle : (n : Int) ≤ (last.length : Int) := by omega
    have hbz := hb1z
    by_cases hhd : head = true ∧ 0 < n
    · have HNO : Hid (r = none) := by
        have h1 := HR.out
        unfold nextP at h1
        cases hE : takeE last b with
        | none => rw [hE] at h1; exact h1
        | some q =>
          obtain ⟨n', p, u⟩ := q
          rw [hE] at h1
          dsimp only at h1
          obtain ⟨r1, kk, r2, vv, e1, -⟩ := takeE_of hE
          rw [HN.out] at e1
          injection e1 with e1
          simp only [Prod.mk.injEq] at e1
          obtain ⟨rfl, -⟩ := e1
          rcases h1 with ⟨h1, -⟩ | ⟨-, h1⟩
          · have := h1.1 hhd.1; omega
          · exact h1
      obtain ⟨rfl, hn0⟩ := hhd
      have hn0' : 0 < (n : Int) := by omega
      clear hr hrl ha hal hbb hbl HR hr1 ha1 HN hn0
      have HBK := hide hbA
      have z0 := hres.cell0
      have z1 := hres.cell1
      have f0 := hres.free 0
      have f1 := hres.free 1
      clear hres
      go_wp2
      refine bodyPost_ret (v := .tuple #[.agg #[.slice none 0 0, .slice none 0 0], .slice none 0 0, .int .i64 3]) (by simp [results, Try.results39, go_sem, z0, z1]) rfl ?_
      rw [HNO.out]
      exact ⟨rfl, set_below (set_below HBK.out (Nat.le_refl _) 0 _) (Nat.le_refl _) 1 _⟩
    have hw : (head = true ∧ (n : Int) ≤ 0) ∨ head = false := by
      cases head with
      | false => exact .inr rfl
      | true => exact .inl ⟨rfl, by rcases Nat.eq_zero_or_pos n with h | h; omega; exact absurd ⟨rfl, h⟩ hhd⟩
    clear hhd
    rcases hw with ⟨rfl, hn0⟩ | rfl
    · have HT1 := hide (takeText_any A1 w1.heap.size c1 _ t1 w1 rfl hr1 (Nat.le_refl _) (by omega) hc1 ha1 (fun k hk => Nat.lt_of_lt_of_le (hXY k hk) hbz))
      go_wp2_with (go_at_call 41; refine halted ?_)
      refine go_on ?_
      refine HT1.out.mono ?_
      clear HT1
      cases hk : takeT t1 with
      | none =>
        have HNO := hide (nextP_none (takeE_k HN.out hk) HR.out)
        rintro e w2 ⟨A2, c2, A3, c3, rfl, -, -, -, -, hb2, -, -⟩
        dsimp only [tookT] at *
        have hbB := hbA.trans (hb2.mono hbA.size)
        have hres := hres.below hb2 (Nat.lt_of_lt_of_le hz0 hbz)
        clear hb2 hbA hr hrl ha hal hbb hbl k1 hk HR hr1 ha1 HN
        have HBK := hide hbB
        have z0 := hres.cell0
        have z1 := hres.cell1
        have f0 := hres.free 0
        have f1 := hres.free 1
        clear hres
        go_wp2
        refine bodyPost_ret (v := .tuple #[.agg #[.slice none 0 0, .slice none 0 0], .slice none 0 0, .int .i64 3]) (by simp [results, Try.results39, go_sem, z0, z1]) rfl ?_
        rw [HNO.out]
        exact ⟨rfl, set_below (set_below HBK.out (Nat.le_refl _) 0 _) (Nat.le_refl _) 1 _⟩
      | some q =>
        obtain ⟨kk, t2⟩ := q
        have hkput := takeT_put hk
        have hkl : kk.length + t2.length ≤ t1.length := by rw [hkput, List.length_append]; unfold textB; rw [List.length_append]; omega
        rintro e w2 ⟨A2, c2, A3, c3, rfl, hr2, hc2, hr3, hc3, hb2, ha2, ha3⟩
        dsimp only [tookT] at *
        have hbB := hbA.trans (hb2.mono hbA.size)
        have hres := hres.below hb2 (Nat.lt_of_lt_of_le hz0 hbz)
        have hbz2 := Nat.le_trans hbz hb2.size
        have HK := hide hk
        have HT2 := hide (takeText_any A3 w2.heap.size c3 _ t2 w2 rfl hr3 (Nat.le_refl _) (by omega) hc3 ha3 (fun k hk => Nat.lt_of_lt_of_le (hXY k hk) hbz2))
        clear hb2 hbA k1 hk hkput hr1 ha1 hr3 ha3
        go_wp2_with (go_at_call 41; refine halted ?_)
        refine go_on ?_
        refine HT2.out.mono ?_
        clear HT2
        cases hv : takeT t2 with
        | none =>
          have HNO := hide (nextP_none (takeE_v HN.out HK.out hv) HR.out)
          rintro e w3 ⟨A4, c4, A5, c5, rfl, -, -, -, -, hb3, -, -⟩
          dsimp only [tookT] at *
          have hbC := hbB.trans (hb3.mono hbB.size)
          have hres := hres.below hb3 (Nat.lt_of_lt_of_le hz0 hbz2)
          clear hb3 hbB hr hrl ha hal hbb hbl hv HR HN HK hr2 ha2
          have HBK := hide hbC
          have z0 := hres.cell0
          have z1 := hres.cell1
          have f0 := hres.free 0
          have f1 := hres.free 1
          clear hres
          go_wp2
          refine bodyPost_ret (v := .tuple #[.agg #[.slice none 0 0, .slice none 0 0], .slice none 0 0, .int .i64 3]) (by simp [results, Try.results39, go_sem, z0, z1]) rfl ?_
          rw [HNO.out]
          exact ⟨rfl, set_below (set_below HBK.out (Nat.le_refl _) 0 _) (Nat.le_refl _) 1 _⟩
        | some q =>
          obtain ⟨vv, t3⟩ := q
          have hvput := takeT_put hv
          have hvl : vv.length + t3.length ≤ t2.length := by rw [hvput, List.length_append]; unfold textB; rw [List.length_append]; omega
          rintro e w3 ⟨A4, c4, A5, c5, rfl, hr4, hc4, hr5, hc5, hb3, ha4, ha5⟩
          dsimp only [tookT] at *
          have hbC := hbB.trans (hb3.mono hbB.size)
          have hres := hres.below hb3 (Nat.lt_of_lt_of_le hz0 hbz2)
          have hbz3 := Nat.le_trans hbz2 hb3.size
          have HV := hide hv
          have hr2 := (hr2.below hb3).more hb3.size
          have HE := hide (takeE_yes HN.out (by omega : n ≤ last.length) HK.out HV.out)
          have k1 := (hbl.below hbC hql).cell
          have hrl3 := (hrl.below hbC).more hbC.size
          have hcut := cut_to (P := Try.prog) (t := 25) (A := AL) (n := last.length) (c := cL) (k := n) (h := (n : Int)) elem_bytes size_byte rfl (by omega) .u64
          clear hb3 hbB hv hvput HN HK HV
          have hN2 := Row.new w3 #[.slice AL n cL, .slice A2 kk.length c2] 25 (0, 0)
          have htn : (last.take n).length = n := by rw [List.length_take]; omega
          have hpt : PtRow (w3.alloc (.cells #[.slice AL n cL, .slice A2 kk.length c2] 25)) (w3.alloc (.cells #[.slice AL n cL, .slice A2 kk.length c2] 25)).heap.size (some ⟨w3.heap.size, 0, none⟩) [⟨AL, cL, last.take n⟩, ⟨A2, c2, kk⟩] := by
            refine ⟨?_, ?_⟩
            · have : ([⟨AL, cL, last.take n⟩, ⟨A2, c2, kk⟩] : List Pt).map Pt.v = [.slice AL n cL, .slice A2 kk.length c2] := by simp [Pt.v, htn]
              rw [this]
              exact hN2.more (by simp)
            · intro p hp
              simp at hp
              rcases hp with rfl | rfl
              · exact ((hrl3.take n).alloc (Nat.le_refl _) _).more (by simp)
              · exact (hr2.alloc (Nat.le_refl _) _).more (by simp)
          obtain ⟨whole, hwh⟩ : ∃ whole, Hid (whole = last.take n ++ kk) := ⟨_, rfl⟩
          have hwl : whole.length ≤ 2000000000 := by rw [hwh.out, List.length_append]; omega
          have hbt : bytesTo [⟨AL, cL, last.take n⟩, ⟨A2, c2, kk⟩] 2 = whole := by rw [hwh.out]; simp [bytesTo]
          have HBT := hide hbt
          have hct := concat_any (some ⟨w3.heap.size, 0, none⟩) 2 2 _ _ rfl hpt (by simp) (by show (bytesTo _ 2).length ≤ _; rw [hbt]; omega)
          have HCT := hide hct
          have hbD := hbC.alloc hbC.size (.cells #[.slice AL n cL, .slice A2 kk.length c2] 25)
          have hAl : Below w3.heap.size w3 (w3.alloc (.cells #[.slice AL n cL, .slice A2 kk.length c2] 25)) := (Below.refl w3.heap.size w3).alloc (Nat.le_refl _) _
          have hres := hres.below hAl (Nat.lt_of_lt_of_le hz0 hbz3)
          have hr4 := (hr4.below hAl).more hAl.size
          have hr5 := (hr5.below hAl).more hAl.size
          have hbz4 := Nat.le_trans hbz3 hAl.size
          rw [← hwh.out] at HE
          clear hbt hct hpt hN2 htn hbC hrl3 hr2 hAl
          go_wp2_with (go_at_call 23; refine halted ?_)
          refine go_on ?_
          generalize w3.alloc (.cells #[.slice AL n cL, .slice A2 kk.length c2] 25) = w4 at *
          clear k1
          refine HCT.out.mono ?_
          rintro e w5 ⟨A6, c6, rfl, hown6, hb5⟩
          rw [show bytesTo _ (List.length _) = whole from HBT.out] at hown6
          rw [show bytesTo _ (List.length _) = whole from HBT.out]
          have hbE := hbD.trans (hb5.mono hbD.size)
          have hres := hres.below hb5 (Nat.lt_of_lt_of_le hz0 hbz4)
          have hbz5 := Nat.le_trans hbz4 hb5.size
          have hr4 := (hr4.below hb5).more hb5.size
          have hr5 := (hr5.below hb5).more hb5.size
          have hr6 := hown6.bytes
          have ha6 : Away Y A6 whole := Away.of_own hown6 (fun k hk => Nat.lt_of_lt_of_le (hXY k hk) hbz4)
          have hc6 := own_capV hown6
          have k0 := (hbb.below hbE hqb).cell
          have k1 := (hbl.below hbE hql).cell
          have g0 := (hbb.below hbE hqb).free
          have g1 := (hbl.below hbE hql).free
          clear hbD hb5 HCT HBT hown6 hcut
          have HOK := hide (show okH true last n whole from ⟨fun _ => by omega, fun h => by cases h⟩)
          have hR := nextP_yes HE.out HOK.out HR.out
          obtain ⟨u1, hu1⟩ : ∃ u1, Hid (u1 = (w5.setCell ⟨ql, 0, none⟩ (.slice A6 whole.length c6)).setCell ⟨qb, 0, none⟩ (.slice A5 t3.length c5)) := ⟨_, rfl⟩
          have hS := hide (fun k (hk : k ≠ ql) (hk2 : k ≠ qb) => show u1.heap[k]? = w5.heap[k]? by
            rw [hu1.out]
            exact (Below.heap_setCell _ ⟨qb, 0, none⟩ _ k hk2).trans (Below.heap_setCell _ ⟨ql, 0, none⟩ _ k hk))
          have hsz : u1.heap.size = w5.heap.size := by rw [hu1.out]; simp
          have hr4u := set2_away ha4 hr4 (hYX _ hXl) (hYX _ hXb) (i := 0) (j := 0) (.slice A6 whole.length c6) (.slice A5 t3.length c5)
          have hr5u := set2_away ha5 hr5 (hYX _ hXl) (hYX _ hXb) (i := 0) (j := 0) (.slice A6 whole.length c6) (.slice A5 t3.length c5)
          have hr6u := set2_away ha6 hr6 (hYX _ hXl) (hYX _ hXb) (i := 0) (j := 0) (.slice A6 whole.length c6) (.slice A5 t3.length c5)
          have hbl5 := ((hbl.below hbE hql).set (.slice A6 whole.length c6)).other (Ne.symm hne) (i := 0) (.slice A5 t3.length c5)
          have hbb5 := ((hbb.below hbE hqb).other hne (i := 0) (.slice A6 whole.length c6)).set (.slice A5 t3.length c5)
          have hresu := (hres.other hneL (i := 0) (.slice A6 whole.length c6)).other hneB (i := 0) (.slice A5 t3.length c5)
          rw [← hu1.out] at hr4u hr5u hr6u hbl5 hbb5 hresu
          have hr4v : Bytes u1 u1.heap.size A4 vv := by rw [hsz]; exact hr4u
          have hr5v : Bytes u1 u1.heap.size A5 t3 := by rw [hsz]; exact hr5u
          have hr6v : Bytes u1 u1.heap.size A6 whole := by rw [hsz]; exact hr6u
          have hK1 : Kept (fun k => k = qb ∨ k = ql) w u1 := by rw [hu1.out]; exact ((Kept.of_below hbE).put (.inr (.inr rfl)) 0 _).put (.inr (.inl rfl)) 0 _
          clear hr4 hr5 hr6 hres
          go_wp2_with (go_at_call 42; refine halted ?_)
          refine go_on ?_
          rw [← hu1.out]
          refine (clone_any A6 u1.heap.size c6 whole.length whole u1 rfl hr6v (Nat.le_refl _) (by omega)).mono ?_
          rintro e w8 ⟨A7, c7, rfl, hown7, hb8⟩
          have hres8 := hresu.below hb8 (by rw [hsz]; exact Nat.lt_of_lt_of_le hz0 hbz5)
          have hK8 := hK1.call hb8
          have hbl8 := hbl5.below hb8 hbl5.lt
          have hbb8 := hbb5.below hb8 hbb5.lt
          have hr4w := (hr4v.below hb8).more hb8.size
          have hr5w := (hr5v.below hb8).more hb8.size
          have hr6w := (hr6v.below hb8).more hb8.size
          have hr7w := hown7.bytes
          have hc7 := own_capV hown7
          have ha7 : Away Y A7 whole := Away.of_own hown7 (fun k hk => by rw [hsz]; exact Nat.lt_of_lt_of_le (hXY k hk) hbz5)
          have z0 := hres8.cell0
          have z1 := hres8.cell1
          have f0 := hres8.free 0
          have f1 := hres8.free 1
          have HRR := hide hR
          clear hu1 hS hsz hr4u hr5u hr6u hbl5 hbb5 hresu hres8 hb8 hown7 hR hK1 hr4v hr5v hr6v HR HE
          go_wp2
          have e4 := set2_away ha4 hr4w (p := w.heap.size) (q := w.heap.size) (i := 0) (j := 1) hYr hYr (.slice A7 whole.length c7) (.slice A4 vv.length c4)
          have e5 := set2_away ha5 hr5w (p := w.heap.size) (q := w.heap.size) (i := 0) (j := 1) hYr hYr (.slice A7 whole.length c7) (.slice A4 vv.length c4)
          have e6 := set2_away ha6 hr6w (p := w.heap.size) (q := w.heap.size) (i := 0) (j := 1) hYr hYr (.slice A7 whole.length c7) (.slice A4 vv.length c4)
          have e7 := set2_away ha7 hr7w (p := w.heap.size) (q := w.heap.size) (i := 0) (j := 1) hYr hYr (.slice A7 whole.length c7) (.slice A4 vv.length c4)
          have hsE : ((w8.setCell ⟨w.heap.size, 0, none⟩ (.slice A7 whole.length c7)).setCell ⟨w.heap.size, 1, none⟩ (.slice A4 vv.length c4)).heap.size = w8.heap.size := by simp
          rw [← hsE] at e4 e5 e6 e7
          refine bodyPost_ret (v := .tuple #[.agg #[.slice A7 whole.length c7, .slice A4 vv.length c4], .slice A5 t3.length c5, .int .i64 0]) (by simp [results, Try.results39, go_sem, z0, z1]) rfl ?_
          rw [HRR.out]
          exact ⟨A7, c7, A4, c4, A5, c5, A6, c6, rfl, e7, hc7, e4, hc4, e5, hc5, e6, hc6, ha7.less hYX, ha4.less hYX, ha5.less hYX, ha6.less hYX, (hK8.put (.inl (Nat.le_refl _)) 0 _).put (.inl (Nat.le_refl _)) 1 _, (hbl8.other (Ne.symm hneL) _).other (Ne.symm hneL) _, (hbb8.other (Ne.symm hneB) _).other (Ne.symm hneB) _⟩
    · have HT1 := hide (takeText_any A1 w1.heap.size c1 _ t1 w1 rfl hr1 (Nat.le_refl _) (by omega) hc1 ha1 (fun k hk => Nat.lt_of_lt_of_le (hXY k hk) hbz))
      go_wp2_with (go_at_call 41; refine halted ?_)
      refine go_on ?_
      refine HT1.out.mono ?_
      clear HT1
      cases hk : takeT t1 with
      | none =>
        have HNO := hide (nextP_none (takeE_k HN.out hk) HR.out)
        rintro e w2 ⟨A2, c2, A3, c3, rfl, -, -, -, -, hb2, -, -⟩
        dsimp only [tookT] at *
        have hbB := hbA.trans (hb2.mono hbA.size)
        have hres := hres.below hb2 (Nat.lt_of_lt_of_le hz0 hbz)
        clear hb2 hbA hr hrl ha hal hbb hbl k1 hk HR hr1 ha1 HN
        have HBK := hide hbB
        have z0 := hres.cell0
        have z1 := hres.cell1
        have f0 := hres.free 0
        have f1 := hres.free 1
        clear hres
        go_wp2
        refine bodyPost_ret (v := .tuple #[.agg #[.slice none 0 0, .slice none 0 0], .slice none 0 0, .int .i64 3]) (by simp [results, Try.results39, go_sem, z0, z1]) rfl ?_
        rw [HNO.out]
        exact ⟨rfl, set_below (set_below HBK.out (Nat.le_refl _) 0 _) (Nat.le_refl _) 1 _⟩
      | some q =>
        obtain ⟨kk, t2⟩ := q
        have hkput := takeT_put hk
        have hkl : kk.length + t2.length ≤ t1.length := by rw [hkput, List.length_append]; unfold textB; rw [List.length_append]; omega
        rintro e w2 ⟨A2, c2, A3, c3, rfl, hr2, hc2, hr3, hc3, hb2, ha2, ha3⟩
        dsimp only [tookT] at *
        have hbB := hbA.trans (hb2.mono hbA.size)
        have hres := hres.below hb2 (Nat.lt_of_lt_of_le hz0 hbz)
        have hbz2 := Nat.le_trans hbz hb2.size
        have HK := hide hk
        have HT2 := hide (takeText_any A3 w2.heap.size c3 _ t2 w2 rfl hr3 (Nat.le_refl _) (by omega) hc3 ha3 (fun k hk => Nat.lt_of_lt_of_le (hXY k hk) hbz2))
        clear hb2 hbA k1 hk hkput hr1 ha1 hr3 ha3
        go_wp2_with (go_at_call 41; refine halted ?_)
        refine go_on ?_
        refine HT2.out.mono ?_
        clear HT2
        cases hv : takeT t2 with
        | none =>
          have HNO := hide (nextP_none (takeE_v HN.out HK.out hv) HR.out)
          rintro e w3 ⟨A4, c4, A5, c5, rfl, -, -, -, -, hb3, -, -⟩
          dsimp only [tookT] at *
          have hbC := hbB.trans (hb3.mono hbB.size)
          have hres := hres.below hb3 (Nat.lt_of_lt_of_le hz0 hbz2)
          clear hb3 hbB hr hrl ha hal hbb hbl hv HR HN HK hr2 ha2
          have HBK := hide hbC
          have z0 := hres.cell0
          have z1 := hres.cell1
          have f0 := hres.free 0
          have f1 := hres.free 1
          clear hres
          go_wp2
          refine bodyPost_ret (v := .tuple #[.agg #[.slice none 0 0, .slice none 0 0], .slice none 0 0, .int .i64 3]) (by simp [results, Try.results39, go_sem, z0, z1]) rfl ?_
          rw [HNO.out]
          exact ⟨rfl, set_below (set_below HBK.out (Nat.le_refl _) 0 _) (Nat.le_refl _) 1 _⟩
        | some q =>
          obtain ⟨vv, t3⟩ := q
          have hvput := takeT_put hv
          have hvl : vv.length + t3.length ≤ t2.length := by rw [hvput, List.length_append]; unfold textB; rw [List.length_append]; omega
          rintro e w3 ⟨A4, c4, A5, c5, rfl, hr4, hc4, hr5, hc5, hb3, ha4, ha5⟩
          dsimp only [tookT] at *
          have hbC := hbB.trans (hb3.mono hbB.size)
          have hres := hres.below hb3 (Nat.lt_of_lt_of_le hz0 hbz2)
          have hbz3 := Nat.le_trans hbz2 hb3.size
          have HV := hide hv
          have hr2 := (hr2.below hb3).more hb3.size
          have HE := hide (takeE_yes HN.out (by omega : n ≤ last.length) HK.out HV.out)
          have k1 := (hbl.below hbC hql).cell
          have hrl3 := (hrl.below hbC).more hbC.size
          have hcut := cut_to (P := Try.prog) (t := 25) (A := AL) (n := last.length) (c := cL) (k := n) (h := (n : Int)) elem_bytes size_byte rfl (by omega) .u64
          clear hb3 hbB hv hvput HN HK HV
          have hN2 := Row.new w3 #[.slice AL n cL, .slice A2 kk.length c2] 25 (0, 0)
          have htn : (last.take n).length = n := by rw [List.length_take]; omega
          have hpt : PtRow (w3.alloc (.cells #[.slice AL n cL, .slice A2 kk.length c2] 25)) (w3.alloc (.cells #[.slice AL n cL, .slice A2 kk.length c2] 25)).heap.size (some ⟨w3.heap.size, 0, none⟩) [⟨AL, cL, last.take n⟩, ⟨A2, c2, kk⟩] := by
            refine ⟨?_, ?_⟩
            · have : ([⟨AL, cL, last.take n⟩, ⟨A2, c2, kk⟩] : List Pt).map Pt.v = [.slice AL n cL, .slice A2 kk.length c2] := by simp [Pt.v, htn]
              rw [this]
              exact hN2.more (by simp)
            · intro p hp
              simp at hp
              rcases hp with rfl | rfl
              · exact ((hrl3.take n).alloc (Nat.le_refl _) _).more (by simp)
              · exact (hr2.alloc (Nat.le_refl _) _).more (by simp)
          obtain ⟨whole, hwh⟩ : ∃ whole, Hid (whole = last.take n ++ kk) := ⟨_, rfl⟩
          have hwl : whole.length ≤ 2000000000 := by rw [hwh.out, List.length_append]; omega
          have hbt : bytesTo [⟨AL, cL, last.take n⟩, ⟨A2, c2, kk⟩] 2 = whole := by rw [hwh.out]; simp [bytesTo]
          have HBT := hide hbt
          have hct := concat_any (some ⟨w3.heap.size, 0, none⟩) 2 2 _ _ rfl hpt (by simp) (by show (bytesTo _ 2).length ≤ _; rw [hbt]; omega)
          have HCT := hide hct
          have hbD := hbC.alloc hbC.size (.cells #[.slice AL n cL, .slice A2 kk.length c2] 25)
          have hAl : Below w3.heap.size w3 (w3.alloc (.cells #[.slice AL n cL, .slice A2 kk.length c2] 25)) := (Below.refl w3.heap.size w3).alloc (Nat.le_refl _) _
          have hres := hres.below hAl (Nat.lt_of_lt_of_le hz0 hbz3)
          have hr4 := (hr4.below hAl).more hAl.size
          have hr5 := (hr5.below hAl).more hAl.size
          have hbz4 := Nat.le_trans hbz3 hAl.size
          rw [← hwh.out] at HE
          clear hbt hct hpt hN2 htn hbC hrl3 hr2 hAl
          go_wp2_with (go_at_call 23; refine halted ?_)
          refine go_on ?_
          generalize w3.alloc (.cells #[.slice AL n cL, .slice A2 kk.length c2] 25) = w4 at *
          clear k1
          refine HCT.out.mono ?_
          rintro e w5 ⟨A6, c6, rfl, hown6, hb5⟩
          rw [show bytesTo _ (List.length _) = whole from HBT.out] at hown6
          rw [show bytesTo _ (List.length _) = whole from HBT.out]
          have hbE := hbD.trans (hb5.mono hbD.size)
          have hres := hres.below hb5 (Nat.lt_of_lt_of_le hz0 hbz4)
          have hbz5 := Nat.le_trans hbz4 hb5.size
          have hr4 := (hr4.below hb5).more hb5.size
          have hr5 := (hr5.below hb5).more hb5.size
          have hr6 := hown6.bytes
          have ha6 : Away Y A6 whole := Away.of_own hown6 (fun k hk => Nat.lt_of_lt_of_le (hXY k hk) hbz4)
          have hc6 := own_capV hown6
          have k0 := (hbb.below hbE hqb).cell
          have k1 := (hbl.below hbE hql).cell
          have g0 := (hbb.below hbE hqb).free
          have g1 := (hbl.below hbE hql).free
          clear hbD hb5 HCT HBT hown6 hcut
          by_cases hcmp : Lib.compareBytes whole last ≤ 0
          · have HNO := hide (nextP_no HE.out (show ¬ okH false last n whole from fun h => by have := (h.2 rfl).1; rw [compare_le.1 hcmp] at this; cases this) HR.out)
            go_wp2_with (go_at_call 18; refine halted ?_)
            refine go_on ?_
            refine (compare_any hr6 rfl ((hrl.below hbE).more hbE.size) rfl).mono ?_
            rintro e w6 ⟨rfl, rfl⟩
            clear hr hrl ha hal hbb hbl k0 k1 g0 g1 HE HR hr4 hr5 hr6 ha4 ha5 ha6
            have HBK := hide hbE
            have z0 := hres.cell0
            have z1 := hres.cell1
            have f0 := hres.free 0
            have f1 := hres.free 1
            clear hres
            go_wp2
            refine bodyPost_ret (v := .tuple #[.agg #[.slice none 0 0, .slice none 0 0], .slice none 0 0, .int .i64 3]) (by simp [results, Try.results39, go_sem, z0, z1]) rfl ?_
            rw [HNO.out]
            exact ⟨rfl, set_below (set_below HBK.out (Nat.le_refl _) 0 _) (Nat.le_refl _) 1 _⟩
          have hless : Op.bytesLess last whole = true := by
            cases hb : Op.bytesLess last whole
            · exact absurd (compare_le.2 hb) hcmp
            · rfl
          have HLESS := hide hless
          have hcmp' : 0 < Lib.compareBytes whole last := by omega
          go_wp2_with (go_at_call 18; refine halted ?_)
          refine go_on ?_
          refine (compare_any hr6 rfl ((hrl.below hbE).more hbE.size) rfl).mono ?_
          rintro e w6 ⟨rfl, rfl⟩
          have HCM := hide (common_any (c1 := c6) (c2 := cL) hr6 rfl ((hrl.below hbE).more hbE.size) rfl (Nat.le_refl _) (Nat.le_refl _) (by omega) (by omega))
          by_cases hcn : comm whole last = n
          · have HOK := hide (show okH false last n whole from ⟨fun h => (by cases h), fun _ => ⟨HLESS.out, hcn⟩⟩)
            rw [hcn] at HCM
            clear hless hcn hcmp
            go_wp2_with (go_at_call 20; refine halted ?_)
            refine go_on ?_
            refine HCM.out.mono ?_
            clear HCM
            rintro e w7 ⟨rfl, hb7⟩
            have hbF := hbE.trans (hb7.mono hbE.size)
            have hres := hres.below hb7 (Nat.lt_of_lt_of_le hz0 hbz5)
            have hbz7 := Nat.le_trans hbz5 hb7.size
            have hr4 := (hr4.below hb7).more hb7.size
            have hr5 := (hr5.below hb7).more hb7.size
            have hr6 := (hr6.below hb7).more hb7.size
            have k0 := (hbb.below hbF hqb).cell
            have k1 := (hbl.below hbF hql).cell
            have g0 := (hbb.below hbF hqb).free
            have g1 := (hbl.below hbF hql).free
            clear hb7
            have hR := nextP_yes HE.out HOK.out HR.out
            obtain ⟨u1, hu1⟩ : ∃ u1, Hid (u1 = (w7.setCell ⟨ql, 0, none⟩ (.slice A6 whole.length c6)).setCell ⟨qb, 0, none⟩ (.slice A5 t3.length c5)) := ⟨_, rfl⟩
            have hS := hide (fun k (hk : k ≠ ql) (hk2 : k ≠ qb) => show u1.heap[k]? = w7.heap[k]? by
              rw [hu1.out]
              exact (Below.heap_setCell _ ⟨qb, 0, none⟩ _ k hk2).trans (Below.heap_setCell _ ⟨ql, 0, none⟩ _ k hk))
            have hsz : u1.heap.size = w7.heap.size := by rw [hu1.out]; simp
            have hr4u := set2_away ha4 hr4 (hYX _ hXl) (hYX _ hXb) (i := 0) (j := 0) (.slice A6 whole.length c6) (.slice A5 t3.length c5)
            have hr5u := set2_away ha5 hr5 (hYX _ hXl) (hYX _ hXb) (i := 0) (j := 0) (.slice A6 whole.length c6) (.slice A5 t3.length c5)
            have hr6u := set2_away ha6 hr6 (hYX _ hXl) (hYX _ hXb) (i := 0) (j := 0) (.slice A6 whole.length c6) (.slice A5 t3.length c5)
            have hbl5 := ((hbl.below hbF hql).set (.slice A6 whole.length c6)).other (Ne.symm hne) (i := 0) (.slice A5 t3.length c5)
            have hbb5 := ((hbb.below hbF hqb).other hne (i := 0) (.slice A6 whole.length c6)).set (.slice A5 t3.length c5)
            have hresu := (hres.other hneL (i := 0) (.slice A6 whole.length c6)).other hneB (i := 0) (.slice A5 t3.length c5)
            rw [← hu1.out] at hr4u hr5u hr6u hbl5 hbb5 hresu
            have hr4v : Bytes u1 u1.heap.size A4 vv := by rw [hsz]; exact hr4u
            have hr5v : Bytes u1 u1.heap.size A5 t3 := by rw [hsz]; exact hr5u
            have hr6v : Bytes u1 u1.heap.size A6 whole := by rw [hsz]; exact hr6u
            have hK1 : Kept (fun k => k = qb ∨ k = ql) w u1 := by rw [hu1.out]; exact ((Kept.of_below hbF).put (.inr (.inr rfl)) 0 _).put (.inr (.inl rfl)) 0 _
            clear hr4 hr5 hr6 hres
            go_wp2_with (go_at_call 42; refine halted ?_)
            refine go_on ?_
            rw [← hu1.out]
            refine (clone_any A6 u1.heap.size c6 whole.length whole u1 rfl hr6v (Nat.le_refl _) (by omega)).mono ?_
            rintro e w8 ⟨A7, c7, rfl, hown7, hb8⟩
            have hres8 := hresu.below hb8 (by rw [hsz]; exact Nat.lt_of_lt_of_le hz0 hbz7)
            have hK8 := hK1.call hb8
            have hbl8 := hbl5.below hb8 hbl5.lt
            have hbb8 := hbb5.below hb8 hbb5.lt
            have hr4w := (hr4v.below hb8).more hb8.size
            have hr5w := (hr5v.below hb8).more hb8.size
            have hr6w := (hr6v.below hb8).more hb8.size
            have hr7w := hown7.bytes
            have hc7 := own_capV hown7
            have ha7 : Away Y A7 whole := Away.of_own hown7 (fun k hk => by rw [hsz]; exact Nat.lt_of_lt_of_le (hXY k hk) hbz7)
            have z0 := hres8.cell0
            have z1 := hres8.cell1
            have f0 := hres8.free 0
            have f1 := hres8.free 1
            have HRR := hide hR
            clear hu1 hS hsz hr4u hr5u hr6u hbl5 hbb5 hresu hres8 hb8 hown7 hR hK1 hr4v hr5v hr6v HR HE
            go_wp2
            have e4 := set2_away ha4 hr4w (p := w.heap.size) (q := w.heap.size) (i := 0) (j := 1) hYr hYr (.slice A7 whole.length c7) (.slice A4 vv.length c4)
            have e5 := set2_away ha5 hr5w (p := w.heap.size) (q := w.heap.size) (i := 0) (j := 1) hYr hYr (.slice A7 whole.length c7) (.slice A4 vv.length c4)
            have e6 := set2_away ha6 hr6w (p := w.heap.size) (q := w.heap.size) (i := 0) (j := 1) hYr hYr (.slice A7 whole.length c7) (.slice A4 vv.length c4)
            have e7 := set2_away ha7 hr7w (p := w.heap.size) (q := w.heap.size) (i := 0) (j := 1) hYr hYr (.slice A7 whole.length c7) (.slice A4 vv.length c4)
            have hsE : ((w8.setCell ⟨w.heap.size, 0, none⟩ (.slice A7 whole.length c7)).setCell ⟨w.heap.size, 1, none⟩ (.slice A4 vv.length c4)).heap.size = w8.heap.size := by simp
            rw [← hsE] at e4 e5 e6 e7
            refine bodyPost_ret (v := .tuple #[.agg #[.slice A7 whole.length c7, .slice A4 vv.length c4], .slice A5 t3.length c5, .int .i64 0]) (by simp [results, Try.results39, go_sem, z0, z1]) rfl ?_
            rw [HRR.out]
            exact ⟨A7, c7, A4, c4, A5, c5, A6, c6, rfl, e7, hc7, e4, hc4, e5, hc5, e6, hc6, ha7.less hYX, ha4.less hYX, ha5.less hYX, ha6.less hYX, (hK8.put (.inl (Nat.le_refl _)) 0 _).put (.inl (Nat.le_refl _)) 1 _, (hbl8.other (Ne.symm hneL) _).other (Ne.symm hneL) _, (hbb8.other (Ne.symm hneB) _).other (Ne.symm hneB) _⟩
          · have HNO := hide (nextP_no HE.out (show ¬ okH false last n whole from fun h => hcn (h.2 rfl).2) HR.out)
            have hcn1 : ((comm whole last : Int) != (n : Int)) = true := by rw [bne_iff_ne]; omega
            clear hless hcn hcmp
            go_wp2_with (go_at_call 20; refine halted ?_)
            refine go_on ?_
            refine HCM.out.mono ?_
            clear HCM
            rintro e w7 ⟨rfl, hb7⟩
            have hbF := hbE.trans (hb7.mono hbE.size)
            have hres := hres.below hb7 (Nat.lt_of_lt_of_le hz0 hbz5)
            clear hr hrl ha hal hbb hbl k0 k1 g0 g1 HE HR hr4 hr5 hr6 ha4 ha5 ha6 hb7
            have HBK := hide hbF
            have z0 := hres.cell0
            have z1 := hres.cell1
            have f0 := hres.free 0
            have f1 := hres.free 1
            clear hres
            go_wp2
            refine bodyPost_ret (v := .tuple #[.agg #[.slice none 0 0, .slice none 0 0], .slice none 0 0, .int .i64 3]) (by simp [results, Try.results39, go_sem, z0, z1]) rfl ?_
            rw [HNO.out]
            exact ⟨rfl, set_below (set_below HBK.out (Nat.le_refl _) 0 _) (Nat.le_refl _) 1 _⟩
end Go.Proofs.Yteagjjiggneheaa
