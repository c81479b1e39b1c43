/-
  The reference's Right.
-/
import Derived.Test.YtibanikfalfmcaaRRightC
namespace Go.Proofs.Ytibanikfalfmcaa
open Go.RowKit
set_option linter.unusedVariables false

def RrRel (ls : List (Int × Int)) (w1 : World) (i : Value) (wr : World) : Prop :=
  ∃ k : Nat, k ≤ ls.length ∧ i = .int .i64 (k : Int) ∧ legsOk [] ls = legsOk ((ls.take k).map (·.1)) (ls.drop k) ∧ Below w1.heap.size w1 wr
def RsRel (ls : List (Int × Int)) (a : Int) (k : Nat) (w2 : World) (i : Value) (wr : World) : Prop :=
  ∃ j : Nat, j ≤ k ∧ i = .int .i64 (j : Int) ∧ a ∉ (ls.take j).map (·.1) ∧ Below w2.heap.size w2 wr

set_option maxRecDepth 100000 in
set_option maxHeartbeats 4000000 in
theorem rright_any (day : Int) (tx : ByteArray) (A : Option Addr) (B n c : Nat) (ls : List (Int × Int)) (w : World) (hn : ls.length = n) (hr : Row w B A (legCells ls)) (hB : B ≤ w.heap.size) (hl : n ≤ 1000000000) (htx : tx.size ≤ maxLen) :
    Calls Try.prog 45 #[.agg #[.int .i64 day, .string tx, .slice A n c]] w fun e w' => e = .returned (.bool (rightE day tx.size ls)) ∧ Below w.heap.size w w' := by
  subst hn
  obtain ⟨w1, hw1⟩ : ∃ w1, w1 = w.alloc (.cells #[.int .i64 day, .string tx, .slice A ls.length c] 25) := ⟨_, rfl⟩
  have hb1 : Below w.heap.size w w1 := by rw [hw1]; exact below_new w _
  have hx1 : w1.heap[w.heap.size]? = some (.cells #[.int .i64 day, .string tx, .slice A ls.length c] 25 (0, 0)) := by rw [hw1]; exact heap_alloc_new w _
  have hz1 : w1.heap.size = w.heap.size + 1 := by rw [hw1]; simp
  have a0 : w1.cell? ⟨w.heap.size, 0, none⟩ = some (.int .i64 day) := Joins.cell_of_block hx1 0
  have a1 : w1.cell? ⟨w.heap.size, 1, none⟩ = some (.string tx) := Joins.cell_of_block hx1 1
  have a2 : w1.cell? ⟨w.heap.size, 2, none⟩ = some (.slice A ls.length c) := Joins.cell_of_block hx1 2
  have HK := hide (show ∀ W, Below w1.heap.size w1 W → W.cell? ⟨w.heap.size, 2, none⟩ = some (.slice A ls.length c) from fun W hW =>
    Joins.cell_of_block ((hW.block _ (by omega)).trans hx1) 2)
  have HR := hide (hr.belowLe hb1 hB)
  have HB1 := hide hb1
  have hBz := hb1.size
  clear hr hb1 hx1 hz1
  go_enter Try.func45, Try.ntmps45
  go_wp2_with (go_at_call 52; refine halted ?_)
  refine go_on ?_
  rw [← hw1]
  clear hw1
  refine (isDay_any day w1).mono ?_
  rintro e w1' ⟨rfl, rfl⟩
  cases hd : dayOk day with
  | false =>
    have HF := hide (show rightE day tx.size ls = false from by unfold rightE; rw [hd]; simp)
    go_wp2
    go_ret
    exact ⟨by rw [HF.out]; rfl, HB1.out⟩
  | true =>
    by_cases h1 : 200 < tx.size
    · have HF := hide (show rightE day tx.size ls = false from by unfold rightE; rw [show decide (tx.size ≤ 200) = false from by simpa using h1]; simp)
      have h1' : 200 < (tx.size : Int) := by omega
      go_wp2
      go_ret
      exact ⟨by rw [HF.out]; rfl, HB1.out⟩
    have h1' : (tx.size : Int) ≤ 200 := by omega
    by_cases h2 : ls.length < 2
    · have HF := hide (show rightE day tx.size ls = false from by unfold rightE; rw [show decide (2 ≤ ls.length) = false from by simpa using h2]; simp)
      have h2' : (ls.length : Int) < 2 := by omega
      go_wp2
      go_ret
      exact ⟨by rw [HF.out]; rfl, HB1.out⟩
    have h2' : (2 : Int) ≤ (ls.length : Int) := by omega
    by_cases h3 : 20 < ls.length
    · have HF := hide (show rightE day tx.size ls = false from by unfold rightE; rw [show decide (ls.length ≤ 20) = false from by simpa using h3]; simp)
      have h3' : 20 < (ls.length : Int) := by omega
      go_wp2
      go_ret
      exact ⟨by rw [HF.out]; rfl, HB1.out⟩
    have h3' : (ls.length : Int) ≤ 20 := by omega
    have HRE := hide (show rightE day tx.size ls = legsOk [] ls from by
      unfold rightE
      rw [hd, decide_eq_true (show tx.size ≤ 200 by omega), decide_eq_true (show 2 ≤ ls.length by omega), decide_eq_true (show ls.length ≤ 20 by omega)]
      simp)
    go_wp2
    clear a0 a1 a2
    go_loopw [4] (fun i wr => RrRel ls w1 i wr) (fun i _ => ls.length - (intOf i).toNat)
    case atStart => exact ⟨0, Nat.zero_le _, rfl, rfl, Below.refl _ _⟩
    case round =>
      obtain ⟨k, hk, rfl, hok, hb⟩ := hrel
      have k2 := HK.out wr hb
      have HBW := hide (HB1.out.trans (hb.mono hBz))
      by_cases hlt : k < ls.length
      · obtain ⟨ad, a, m, rfl, hadb, hx, ha, hm⟩ := (HR.out.belowLe hb (Nat.le_trans hB hBz)).leg hlt
        have HOK := hide (hok.trans (legsOk_at hx.out ((ls.take k).map (·.1))))
        have HNO := hide (show legOk ((ls.take k).map (·.1)) (a, m) = false → rightE day tx.size ls = false from fun h => by
          rw [HRE.out, HOK.out, h]; rfl)
        obtain ⟨w2, hw2⟩ : ∃ w2, w2 = wr.alloc (.cells #[.int .i64 a, .int .i64 m] 51) := ⟨_, rfl⟩
        have hb2 : Below wr.heap.size wr w2 := by rw [hw2]; exact below_new _ _
        have hx2 : w2.heap[wr.heap.size]? = some (.cells #[.int .i64 a, .int .i64 m] 51 (0, 0)) := by rw [hw2]; exact heap_alloc_new _ _
        have HK2 := hide (show ∀ W, Below w2.heap.size w2 W → W.cell? ⟨wr.heap.size, 0, none⟩ = some (.int .i64 a) ∧ W.cell? ⟨wr.heap.size, 1, none⟩ = some (.int .i64 m) ∧ W.cell? ⟨w.heap.size, 2, none⟩ = some (.slice (some ad) ls.length c) from fun W hW => by
          have h := (hW.block _ (Array.getElem?_eq_some_iff.1 hx2).1).trans hx2
          exact ⟨Joins.cell_of_block h 0, Joins.cell_of_block h 1, HK.out W (hb.trans ((hb2.trans (hW.mono hb2.size)).mono hb.size))⟩)
        have HB2 := hide (hb.trans (hb2.mono hb.size))
        have HBW2 := hide (HBW.out.trans (hb2.mono HBW.out.size))
        obtain ⟨c0, c1, c2⟩ := HK2.out w2 (Below.refl _ _)
        have hlt' : (k : Int) < (ls.length : Int) := by omega
        clear hok hb hb2 hx2 hadb
        go_wp2_with (go_at_call 79; refine halted ?_)
        refine go_on ?_
        rw [← hw2]
        clear hw2
        refine (isAmt_any m w2).mono ?_
        rintro e w2' ⟨rfl, rfl⟩
        by_cases h4 : a < 1
        · have HF := hide (HNO.out (by simp [legOk]; omega))
          go_wp2
          go_ret
          exact ⟨by rw [HF.out]; rfl, HBW2.out⟩
        by_cases h5 : 99999 < a
        · have HF := hide (HNO.out (by simp [legOk]; omega))
          go_wp2
          go_ret
          exact ⟨by rw [HF.out]; rfl, HBW2.out⟩
        cases ham : amt m with
        | false =>
          have HF := hide (HNO.out (by unfold legOk; rw [ham]; simp))
          go_wp2
          go_ret
          exact ⟨by rw [HF.out]; rfl, HBW2.out⟩
        | true =>
          by_cases h6 : m = 0
          · have HF := hide (HNO.out (by simp [legOk, h6]))
            subst h6
            go_wp2
            go_ret
            exact ⟨by rw [HF.out]; rfl, HBW2.out⟩
          have h6' : (m == 0) = false := by simpa using h6
          go_wp2
          clear c0 c1 c2 k2
          go_loopw [7] (fun i wq => RsRel ls a k w2 i wq) (fun i _ => k - (intOf i).toNat)
          case atStart => exact ⟨0, Nat.zero_le _, rfl, by simp, Below.refl _ _⟩
          case round =>
            obtain ⟨j, hj, rfl, hnot, hbq⟩ := hrel
            obtain ⟨c0, c1, c2⟩ := HK2.out _ hbq
            have HBQ := hide (HBW2.out.trans (hbq.mono HBW2.out.size))
            have HBQ1 := hide (HB2.out.trans (hbq.mono HB2.out.size))
            by_cases hjl : j < k
            · obtain ⟨ad', a', m', hAd, _, hx', ha', hm'⟩ := (HR.out.belowLe HBQ1.out (Nat.le_trans hB hBz)).leg (k := j) (by omega)
              injection hAd with hAd
              subst hAd
              have hj3 : (j : Int) < (k : Int) := by omega
              have hj4 : (j : Int) < (ls.length : Int) := by omega
              have HN := hide hnot
              have HBq := hide hbq
              clear hnot hbq
              by_cases he : a' = a
              · have HF := hide (HNO.out (by
                  have : a ∈ (ls.take k).map (·.1) := by
                    refine List.mem_map.2 ⟨(a', m'), List.mem_of_getElem? (i := j) (by rw [List.getElem?_take, if_pos hjl]; exact hx'.out), he⟩
                  have hb : decide (a ∈ (ls.take k).map (·.1)) = true := decide_eq_true this
                  unfold legOk
                  dsimp only
                  rw [hb]
                  simp))
                subst he
                go_wp2
                go_region
                go_wp2
                go_ret
                exact ⟨by rw [HF.out]; rfl, HBQ.out.drew⟩
              · have he' : (a' == a) = false := by simpa using he
                go_wp2
                go_region
                go_wp2
                case roundEnd => exact ⟨⟨j + 1, hjl, by simp, by rw [take_next hx'.out, List.map_append]; simp only [List.mem_append, not_or]; exact ⟨HN.out, by simpa using fun h => he h.symm⟩, HBq.out.drew⟩, by simp [intOf]; omega⟩
            · have hjE : j = k := by omega
              subst hjE
              have hyes : legOk ((ls.take j).map (·.1)) (a, m) = true := by
                unfold legOk
                rw [ham, decide_eq_false hnot]
                simp
                omega
              have hrel2 : RrRel ls w1 (.int .i64 ((j : Int) + 1)) _ := ⟨j + 1, hlt, by simp, by
                rw [HOK.out, hyes, take_next hx.out, List.map_append]; rfl, HBQ1.out⟩
              have HR2 := hide hrel2
              clear hrel2 hyes hnot hbq
              go_wp2
              case roundEnd => exact ⟨HR2.out, by simp [intOf]; omega⟩
      · have hkE : k = ls.length := by omega
        subst hkE
        have HF := hide (show rightE day tx.size ls = true from by rw [HRE.out, hok, List.drop_length]; rfl)
        clear hok hb
        go_wp2
        go_ret
        exact ⟨by rw [HF.out]; rfl, HBW.out⟩
end Go.Proofs.Ytibanikfalfmcaa
