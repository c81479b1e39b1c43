/-
  The reference's Same and SameAll.
-/
import Derived.Test.YteagjjiggneheaaParseSt
import Derived.Test.YteagjjiggneheaaStr
import Derived.Deep.RegionHeld3
namespace Go.Proofs.Yteagjjiggneheaa
open Go.RowKit
set_option linter.unusedVariables false

/-- A pair's slices. -/
structure PrOk (w : World) (p : Pr) : Prop where
  k : Bytes w w.heap.size p.A p.k
  kc : p.k.length ≤ p.c
  v : Bytes w w.heap.size p.A2 p.v
  vc : p.v.length ≤ p.c2
theorem PrOk.below {w w' : World} {p : Pr} (h : PrOk w p) (hb : Below w.heap.size w w') : PrOk w' p := ⟨(h.k.below hb).more hb.size, h.kc, (h.v.below hb).more hb.size, h.vc⟩
theorem PrRow.ok {w : World} {A : Option Addr} {l : List Pr} (h : PrRow w w.heap.size A l) {p : Pr} (hp : p ∈ l) : PrOk w p := ⟨(h.2 p hp).1, (h.2 p hp).2.1, (h.2 p hp).2.2.1, (h.2 p hp).2.2.2⟩

theorem strB_beq (a b : List UInt8) : ((strB a).toList == (strB b).toList) = decide (a = b) := by
  rw [Bool.eq_iff_iff, strB_toList, strB_toList]
  simp

set_option maxRecDepth 100000 in
set_option maxHeartbeats 1000000 in
theorem rsame_any (p q : Pr) (w : World) (hp : PrOk w p) (hq : PrOk w q) :
    Calls Try.prog 17 #[.agg #[.slice p.A p.k.length p.c, .slice p.A2 p.v.length p.c2], .agg #[.slice q.A q.k.length q.c, .slice q.A2 q.v.length q.c2]] w fun e w' => e = .returned (.bool (decide (p.pair = q.pair))) ∧ Below w.heap.size w w' := by
  have hal1 : Below w.heap.size w (w.alloc (.cells #[.slice p.A p.k.length p.c, .slice p.A2 p.v.length p.c2] 34)) := (Below.refl _ _).alloc (Nat.le_refl _) _
  have hal2 := hal1.alloc hal1.size (.cells #[.slice q.A q.k.length q.c, .slice q.A2 q.v.length q.c2] 34)
  have k1 := run_str (P := Try.prog) (dst := 9) (c := p.c) Try.underlying25 Try.underlying5 Try.underlying9 (hp.below hal2).k rfl
  have k2 := run_str (P := Try.prog) (dst := 9) (c := p.c2) Try.underlying25 Try.underlying5 Try.underlying9 (hp.below hal2).v rfl
  have k3 := run_str (P := Try.prog) (dst := 9) (c := q.c) Try.underlying25 Try.underlying5 Try.underlying9 (hq.below hal2).k rfl
  have k4 := run_str (P := Try.prog) (dst := 9) (c := q.c2) Try.underlying25 Try.underlying5 Try.underlying9 (hq.below hal2).v rfl
  have HB := hide hal2
  have hd : decide (p.pair = q.pair) = (decide (p.k = q.k) && decide (p.v = q.v)) := by
    rw [Bool.eq_iff_iff]; simp [Pr.pair]
  rw [hd]
  have e1 := strB_beq p.k q.k
  have e2 := strB_beq p.v q.v
  clear hal1 hal2 hp hq hd
  go_enter Try.func17, Try.ntmps17
  cases h1 : decide (p.k = q.k) <;> cases h2 : decide (p.v = q.v)
  all_goals
    rw [h1] at e1
    rw [h2] at e2
    clear h1 h2
    go_wp2
    go_ret
    exact ⟨rfl, HB.out⟩

theorem PrRow.get {w : World} {A : Option Addr} {l : List Pr} (h : PrRow w w.heap.size A l) {k : Nat} (hk : k < l.length) : ∃ ad p, A = some ad ∧ ad.block < w.heap.size ∧ Hid (l[k]? = some p) ∧ w.cell? (ad.add (k * 2)) = some (.slice p.A p.k.length p.c) ∧
    w.cell? ⟨(ad.add (k * 2)).block, (ad.add (k * 2)).off + 1, none⟩ = some (.slice p.A2 p.v.length p.c2) ∧ PrOk w p := by
  obtain ⟨ad, p, h1, h2, h3, h4, h5, h6, h7, h8, h9⟩ := h.at_ hk
  exact ⟨ad, p, h1, h2, h3, h4, h5, ⟨h6, h7, h8, h9⟩⟩
def AllTo (a b : List Pr) (k : Nat) : Prop := ∀ j, j < k → a[j]?.map Pr.pair = b[j]?.map Pr.pair

set_option maxRecDepth 100000 in
set_option maxHeartbeats 1000000 in
theorem rsameAll_any (A1 A2 : Option Addr) (c1 c2 n1 n2 : Nat) (a b : List Pr) (w : World) (h1 : PrRow w w.heap.size A1 a) (h2 : PrRow w w.heap.size A2 b) (hn1 : a.length = n1) (hn2 : b.length = n2) (hl1 : n1 ≤ 1000000000) (hl2 : n2 ≤ 1000000000) :
    Calls Try.prog 16 #[.slice A1 n1 c1, .slice A2 n2 c2] w fun e w' => e = .returned (.bool (decide (a.map Pr.pair = b.map Pr.pair))) ∧ Below w.heap.size w w' := by
  subst hn1 hn2
  go_enter Try.func16, Try.ntmps16
  by_cases hlen : a.length = b.length
  case neg =>
    have hne : ((a.length : Int) != (b.length : Int)) = true := by rw [bne_iff_ne]; omega
    have hab : decide (a.map Pr.pair = b.map Pr.pair) = false := by
      simp
      intro e
      have := congrArg List.length e
      simp at this
      exact hlen this
    rw [hab]
    clear hlen h1 h2 hab
    go_wp2
    go_ret
    exact ⟨rfl, Below.refl _ _⟩
  have hne : ((a.length : Int) != (b.length : Int)) = false := by rw [bne_eq_false_iff_eq]; omega
  have HL := hide hlen
  clear hlen
  go_wp2
  go_loopw [5] (fun i wr => ∃ k : Nat, k ≤ a.length ∧ i = .int .i64 (k : Int) ∧ Hid (AllTo a b k) ∧ Below w.heap.size w wr) (fun i _ => a.length - (intOf i).toNat)
  case atStart => exact ⟨0, by omega, rfl, (by show AllTo a b 0; intro j hj; omega), Below.refl _ _⟩
  case round =>
    obtain ⟨k, hk, rfl, HS, hb⟩ := hrel
    by_cases hlt : k < a.length
    · have hlt2 : k < b.length := by have := HL.out; omega
      obtain ⟨ad1, p, rfl, hbk1, hp, hc1, hd1, hpo⟩ := (h1.below hb).get hlt
      obtain ⟨ad2, q, rfl, hbk2, hq, hc2, hd2, hqo⟩ := (h2.below hb).get hlt2
      have HSM := hide fun W (hb' : Below wr.heap.size wr W) => rsame_any p q W (hpo.below hb') (hqo.below hb')
      have HK := hide fun W (hb' : Below wr.heap.size wr W) => show W.cell? (ad1.add (k * 2)) = some (.slice p.A p.k.length p.c) ∧ W.cell? ⟨(ad1.add (k * 2)).block, (ad1.add (k * 2)).off + 1, none⟩ = some (.slice p.A2 p.v.length p.c2) ∧ W.cell? (ad2.add (k * 2)) = some (.slice q.A q.k.length q.c) ∧ W.cell? ⟨(ad2.add (k * 2)).block, (ad2.add (k * 2)).off + 1, none⟩ = some (.slice q.A2 q.v.length q.c2) from
        ⟨(hb'.cell (p := ad1.add (k * 2)) (by rw [add_block]; exact hbk1)).trans hc1, (hb'.cell (p := ⟨(ad1.add (k * 2)).block, (ad1.add (k * 2)).off + 1, none⟩) (by show (ad1.add (k * 2)).block < _; rw [add_block]; exact hbk1)).trans hd1,
         (hb'.cell (p := ad2.add (k * 2)) (by rw [add_block]; exact hbk2)).trans hc2, (hb'.cell (p := ⟨(ad2.add (k * 2)).block, (ad2.add (k * 2)).off + 1, none⟩) (by show (ad2.add (k * 2)).block < _; rw [add_block]; exact hbk2)).trans hd2⟩
      have hBd := below_drewN' (Below.refl wr.heap.size wr) 1
      have hSd : wr.drew.cell? (ad1.add (k * 2)) = some (.slice p.A p.k.length p.c) ∧ wr.drew.cell? ⟨(ad1.add (k * 2)).block, (ad1.add (k * 2)).off + 1, none⟩ = some (.slice p.A2 p.v.length p.c2) ∧ wr.drew.cell? (ad2.add (k * 2)) = some (.slice q.A q.k.length q.c) ∧ wr.drew.cell? ⟨(ad2.add (k * 2)).block, (ad2.add (k * 2)).off + 1, none⟩ = some (.slice q.A2 q.v.length q.c2) := HK.out _ hBd
      clear h1 h2 hpo hqo hc1 hd1 hc2 hd2
      go_wp2
      go_region_held3 (fun W => W.cell? (ad1.add (k * 2)) = some (.slice p.A p.k.length p.c) ∧ W.cell? ⟨(ad1.add (k * 2)).block, (ad1.add (k * 2)).off + 1, none⟩ = some (.slice p.A2 p.v.length p.c2) ∧ W.cell? (ad2.add (k * 2)) = some (.slice q.A q.k.length q.c) ∧ W.cell? ⟨(ad2.add (k * 2)).block, (ad2.add (k * 2)).off + 1, none⟩ = some (.slice q.A2 q.v.length q.c2))
        (with_reducible assumption)
        ((go_at_call 17; (refine (HSM.out _ hBd).mono ?_); rintro e w2 ⟨rfl, hb2⟩; have hb3 := hBd.trans (hb2.mono hBd.size); have hS3 := HK.out _ hb3))
      have hb3 := hb.trans (hb3.mono hb.size)
      by_cases hpq : p.pair = q.pair
      · rw [decide_eq_true hpq]
        have HN : Hid (AllTo a b (k + 1)) := by
          show AllTo _ _ _
          intro j hj
          by_cases hjk : j < k
          · exact HS.out j hjk
          · obtain rfl : j = k := by omega
            rw [hp.out, hq.out]
            simp [hpq]
        clear HS hpq hb2 HK hSd hS3 hBd
        go_wp2
        go_roundw
        case rel => exact ⟨k + 1, by omega, by go_num, HN.out, hb3⟩
        case measure => simp [intOf]; omega
      · rw [decide_eq_false hpq]
        have HC : Hid (decide (a.map Pr.pair = b.map Pr.pair) = false) := by
          show _ = _
          simp
          intro e
          have h3 := congrArg (fun l => l[k]?) e
          simp only [List.getElem?_map, hp.out, hq.out, Option.map_some] at h3
          injection h3 with h3
          exact hpq h3
        clear HS hpq hb2 HK hSd hS3 hBd
        go_wp2
        go_ret
        exact ⟨by rw [HC.out]; rfl, hb3⟩
    · have HC : Hid (decide (a.map Pr.pair = b.map Pr.pair) = true) := by
        show _ = _
        simp
        apply List.ext_getElem?
        intro j
        rw [List.getElem?_map, List.getElem?_map]
        by_cases hj : j < k
        · exact HS.out j hj
        · rw [List.getElem?_eq_none (by omega), List.getElem?_eq_none (by have := HL.out; omega)]
      clear HS h1 h2
      go_wp2
      go_ret
      exact ⟨by rw [HC.out]; rfl, hb⟩
end Go.Proofs.Yteagjjiggneheaa
