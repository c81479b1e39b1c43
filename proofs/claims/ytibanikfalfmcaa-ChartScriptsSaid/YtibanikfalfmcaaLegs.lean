/-
  chart's postings: right, balanced.
-/
import Derived.Test.YtibanikfalfmcaaChart1
import Derived.Maps.Views
import Derived.Test.YtibanikfalfmcaaStepRow
namespace Go.Proofs.Ytibanikfalfmcaa
open Go.RowKit Go.Maps
set_option linter.unusedVariables false

/-- Legs as the model's cells: an account, an amount. -/
def legCells (ls : List (Int × Int)) : List Value := ls.flatMap fun b => [.int .i64 b.1, .int .i64 b.2]
theorem legCells_at {ls : List (Int × Int)} {k : Nat} {b : Int × Int} (h : ls[k]? = some b) : (legCells ls)[k * 2]? = some (.int .i64 b.1) ∧ (legCells ls)[k * 2 + 1]? = some (.int .i64 b.2) := by
  induction ls generalizing k with
  | nil => simp at h
  | cons a r ih =>
    cases k with
    | zero =>
      simp only [List.getElem?_cons_zero, Option.some.injEq] at h
      subst h
      exact ⟨rfl, rfl⟩
    | succ k =>
      simp only [List.getElem?_cons_succ] at h
      have := ih h
      have e1 : (k + 1) * 2 = k * 2 + 2 := by omega
      rw [e1]
      exact this
theorem Row.leg {w : World} {B : Nat} {A : Option Addr} {ls : List (Int × Int)} (h : Row w B A (legCells ls)) {k : Nat} (hk : k < ls.length) :
    ∃ ad f p, A = some ad ∧ ad.block < B ∧ Hid (ls[k]? = some (f, p)) ∧ w.cell? (ad.add (k * 2)) = some (.int .i64 f) ∧ w.cell? ⟨(ad.add (k * 2)).block, (ad.add (k * 2)).off + 1, none⟩ = some (.int .i64 p) := by
  have hb := List.getElem?_eq_getElem hk
  obtain ⟨h1, h2⟩ := legCells_at hb
  obtain ⟨ad, hA, hlt, hc⟩ := h _ _ h1
  obtain ⟨ad', hA', _, hc'⟩ := h _ _ h2
  rw [hA] at hA'
  injection hA' with hA'
  subst hA'
  exact ⟨ad, ls[k].1, ls[k].2, hA, hlt, hb, hc, by rw [← add_add'] at hc'; exact hc'⟩

/-- The numbers that were seen, as a map. -/
def boolR : Value → Option (DataW Unit × List MemPlace)
  | .bool x => some (.lit (.bool x), [])
  | _ => none
theorem boolR_some {v : Value} {x : Bool} {ps : List MemPlace} (h : boolR v = some (.lit (.bool x), ps)) : v = .bool x := by
  unfold boolR at h
  split at h
  · injection h with h
    injection h with h _
    injection h with h
    injection h with h
    rw [h]
  · cases h
def Seen (w : World) (b : Nat) (l : List Int) : Prop := ∃ D : DataW Unit, w.ownsMap Try.prog 3 boolR b l.length D ∧ IsMap D ∧ ∀ x : Int, D.atKey (.int .i64 x) (.lit (.bool false)) = .lit (.bool (decide (x ∈ l)))
theorem Seen.lt {w : World} {b : Nat} {l : List Int} (h : Seen w b l) : b < w.heap.size := by
  obtain ⟨D, ⟨es, c, hb, _⟩, _⟩ := h
  exact (Array.getElem?_eq_some_iff.1 hb).1
theorem Seen.kept {S : Nat → Prop} {w w' : World} {b : Nat} {l : List Int} (h : Seen w b l) (hk : Kept S w w') (hs : ¬ S b) : Seen w' b l := by
  have hlt := h.lt
  obtain ⟨D, ⟨es, c, hb, hr⟩, h2⟩ := h
  exact ⟨D, ⟨es, c, (hk.block b hlt hs).trans hb, hr⟩, h2⟩
theorem zero_bool (w : World) : (zeroValue 4).run Try.prog w = .ok (.bool false) w := by kernel_rfl
theorem look_seen {w : World} {b : Nat} {l : List Int} (h : Seen w b l) {n : Int} (hn : (Lit.int .i64 n).wf = true) :
    (Instr.lookup 104 (.map (some b)) (.int .i64 n) false).run Try.prog w = .ok (.bool (decide (n ∈ l))) w := by
  obtain ⟨D, hown, _, hat⟩ := h
  obtain ⟨v, ps, hrun, hv⟩ := World.ownsMap.lookup (zp := []) hown ikeyed Try.underlying104 (zero_bool w) (show boolR (.bool false) = some (.lit (.bool false), []) from rfl) (keyOf_int_mk Try.underlying3 hn)
  rw [hrun]
  rw [hat n] at hv
  rw [boolR_some hv]
theorem keyLit (n : Int) : WideAt.IsKeyLit (.int .i64 n) := trivial

def legOk (seen : List Int) (x : Int × Int) : Bool := decide (1 ≤ x.1) && decide (x.1 ≤ 99999) && !decide (x.1 ∈ seen) && !decide (x.2 = 0) && amt x.2
def legsOk : List Int → List (Int × Int) → Bool
  | _, [] => true
  | seen, x :: r => legOk seen x && legsOk (seen ++ [x.1]) r
def dayOk (day : Int) : Bool := decide (0 ≤ day) && decide (day ≤ 3652058)
def rightE (day : Int) (tl : Nat) (ls : List (Int × Int)) : Bool := legsOk [] ls && dayOk day && decide (tl ≤ 200) && decide (2 ≤ ls.length) && decide (ls.length ≤ 20)
theorem legsOk_at {ls : List (Int × Int)} {k : Nat} {x : Int × Int} (h : ls[k]? = some x) (seen : List Int) : legsOk seen (ls.drop k) = (legOk seen x && legsOk (seen ++ [x.1]) (ls.drop (k + 1))) := by
  have hk : k < ls.length := (List.getElem?_eq_some_iff.1 h).1
  have hx : ls[k] = x := (List.getElem?_eq_some_iff.1 h).2
  rw [List.drop_eq_getElem_cons hk, hx]
  rfl
def postV (day : Int) (tx : ByteArray) (A : Option Addr) (n c : Nat) : Value := .agg #[.int .i64 day, .string tx, .slice A n c]

set_option maxRecDepth 100000 in
set_option maxHeartbeats 2000000 in
theorem day_any (n : Int) (w : World) : Calls Try.prog 43 #[.int .i64 n] w fun e w' => e = .returned (.bool (dayOk n)) ∧ w = w' := by
  go_enter Try.func43, Try.ntmps43
  by_cases h1 : 0 ≤ n
  · by_cases h2 : n ≤ 3652058
    · have hd : dayOk n = true := by simp [dayOk, h1, h2]
      rw [hd]
      go_wp2
      go_ret
      exact ⟨rfl, rfl⟩
    · have hd : dayOk n = false := by simp [dayOk, h2]
      rw [hd]
      go_wp2
      go_ret
      exact ⟨rfl, rfl⟩
  · have hd : dayOk n = false := by simp [dayOk, h1]
    rw [hd]
    go_wp2
    go_ret
    exact ⟨rfl, rfl⟩

/-- The state of 'right' ahead of the k-th leg. -/
def RtRel (ls : List (Int × Int)) (w2 : World) (b : Nat) (i : Value) (wr : World) : Prop :=
  ∃ k : Nat, k ≤ ls.length ∧ i = .int .i64 (k : Int) ∧ legsOk [] ls = legsOk ((ls.take k).map (·.1)) (ls.drop k) ∧ Seen wr b ((ls.take k).map (·.1)) ∧ Kept (fun k => k = b) w2 wr

set_option maxRecDepth 100000 in
set_option maxHeartbeats 4000000 in
theorem right_any (day : Int) (tx : ByteArray) (A : Option Addr) (B n c : Nat) (ls : List (Int × Int)) (w : World) (hn : ls.length = n) (hr : Row w B A (legCells ls)) (hB : B ≤ w.heap.size) (hl : n ≤ 1000000000) (hwf : ∀ x ∈ ls, (Lit.int .i64 x.1).wf = true) (htx : tx.size ≤ maxLen) :
    Calls Try.prog 34 #[.agg #[.int .i64 day, .string tx, .slice A n c]] w fun e w' => e = .returned (.bool (rightE day tx.size ls)) ∧ Below w.heap.size w w' := by
  subst hn
  have hmm := @run_makeMap Try.prog
  obtain ⟨w1, hw1⟩ : ∃ w1, w1 = w.alloc (.cells #[.int .i64 day, .string tx, .slice A ls.length c] 79) := ⟨_, rfl⟩
  have hb1 : Below w.heap.size w w1 := by rw [hw1]; exact below_new w _
  have hbx1 : w1.heap[w.heap.size]? = some (.cells #[.int .i64 day, .string tx, .slice A ls.length c] 79 (0, 0)) := by rw [hw1]; exact heap_alloc_new w _
  have hz1 : w1.heap.size = w.heap.size + 1 := by rw [hw1]; simp
  go_enter Try.func34, Try.ntmps34
  go_wp2
  rw [← hw1]
  have hk2 : Kept (fun _ => False) w1 (w1.alloc (.map #[] 0)) := (Kept.refl w1).alloc _
  have hsn : Seen (w1.alloc (.map #[] 0)) w1.heap.size [] := ⟨.map [], World.ownsMap_made w1 _ _ _, ⟨[], rfl⟩, fun x => rfl⟩
  rw [hz1] at hsn
  have hb2 : Below w.heap.size w (w1.alloc (.map #[] 0)) := hb1.trans (Below.alloc (Below.refl _ _) hb1.size _)
  have hbx2 := (hk2.block _ (by omega) (fun e => e)).trans hbx1
  have hz2 : w.heap.size + 2 ≤ (w1.alloc (.map #[] 0)).heap.size := by rw [World.size_alloc]; omega
  have HR := hide (hr.belowLe hb2 hB)
  clear hr hk2 hbx1 hb1 hw1 hmm
  generalize w1.alloc (.map #[] 0) = w2 at *
  have HBX := hide hbx2
  have HB2 := hide hb2
  have HSN := hide hsn
  have HZ := hide hz2
  have HWF := hide hwf
  obtain ⟨b, hb⟩ : ∃ b, b = w.heap.size + 1 := ⟨_, rfl⟩
  have HQ := hide hb
  obtain ⟨q1, hq1⟩ : ∃ q1, q1 = w.heap.size := ⟨_, rfl⟩
  have HQ1 := hide hq1
  clear hbx2 hb2 hsn hz2 hwf hz1
  rw [← hb, ← hq1]
  clear hb hq1
  go_loopw [10] (fun i wr => RtRel ls w2 b i wr) (fun i _ => ls.length - (intOf i).toNat)
  case atStart => exact ⟨0, Nat.zero_le _, rfl, rfl, by rw [HQ.out]; exact HSN.out, Kept.refl _⟩
  case round =>
    obtain ⟨k, hk, rfl, hok, hsn, hkp⟩ := hrel
    by_cases hlt : k < ls.length
    · have hrow : Row wr B A (legCells ls) := by
        refine HR.out.keep fun p hp => ?_
        refine World.cell?_of_block (hkp.block p.block ?_ ?_)
        · have := HZ.out; omega
        · intro e; have := HQ.out; omega
      obtain ⟨ad, a, m, rfl, hadb, hx, ha, hm⟩ := hrow.leg hlt
      have hwa := HWF.out _ (List.mem_of_getElem? hx.out)
      dsimp only at hwa
      have hb3 := below_new wr (.cells #[.int .i64 a, .int .i64 m] 51)
      have hat := legsOk_at hx.out ((ls.take k).map (·.1))
      have hsn3 : Seen (wr.alloc (.cells #[.int .i64 a, .int .i64 m] 51)) b ((ls.take k).map (·.1)) := hsn.kept ((Kept.refl (S := fun _ => False) wr).alloc _) (fun e => e)
      have hlook := look_seen hsn3 hwa
      obtain ⟨x, hxx⟩ : ∃ x, x = decide (a ∈ (ls.take k).map (·.1)) := ⟨_, rfl⟩
      rw [← hxx] at hlook
      have HX := hide hxx
      have HOK := hide (hok.trans hat)
      have HSN3 := hide hsn3
      have HKP := hide hkp
      have HB3 := hide hb3
      have hno : legOk ((ls.take k).map (·.1)) (a, m) = false → rightE day tx.size ls = false := by
        intro h
        unfold rightE
        rw [HOK.out, h]
        rfl
      have HNO := hide hno
      have hend : ∀ W, Below wr.heap.size wr W → Below w.heap.size w W := fun W hW => by
        have h1 : Below w.heap.size w wr := HB2.out.trans (HKP.out.below (fun j hj => by have := HQ.out; omega) HB2.out.size)
        exact h1.trans (hW.mono h1.size)
      have HEND := hide hend
      clear hok hat hsn hsn3 hkp hrow hb3 hno hxx hend
      by_cases h1 : a < 1
      · have HFF := hide (HNO.out (by simp [legOk]; omega))
        go_wp2
        go_ret
        exact ⟨by rw [HFF.out]; rfl, HEND.out _ HB3.out⟩
      by_cases h2 : 99999 < a
      · have HFF := hide (HNO.out (by simp [legOk]; omega))
        go_wp2
        go_ret
        exact ⟨by rw [HFF.out]; rfl, HEND.out _ HB3.out⟩
      cases x with
      | true =>
        have HFF := hide (HNO.out (by unfold legOk; rw [← HX.out]; simp))
        go_wp2
        go_ret
        exact ⟨by rw [HFF.out]; rfl, HEND.out _ HB3.out⟩
      | false =>
        by_cases h3 : m = 0
        · have HFF := hide (HNO.out (by simp [legOk, h3]))
          subst h3
          go_wp2
          go_ret
          exact ⟨by rw [HFF.out]; rfl, HEND.out _ HB3.out⟩
        by_cases h4 : m < -4611686018427387904
        · have HFF := hide (HNO.out (by unfold legOk; rw [(amt_no _).2 (.inl h4)]; simp))
          have h3' : (m == 0) = false := by simpa using h3
          go_wp2
          go_ret
          exact ⟨by rw [HFF.out]; rfl, HEND.out _ HB3.out⟩
        by_cases h5 : 4611686018427387904 < m
        · have HFF := hide (HNO.out (by unfold legOk; rw [(amt_no _).2 (.inr h5)]; simp))
          have h3' : (m == 0) = false := by simpa using h3
          go_wp2
          go_ret
          exact ⟨by rw [HFF.out]; rfl, HEND.out _ HB3.out⟩
        have hyes : legOk ((ls.take k).map (·.1)) (a, m) = true := by
          unfold legOk
          rw [← HX.out, (amt_iff m).2 ⟨by omega, by omega⟩]
          simp
          omega
        have h3' : (m == 0) = false := by simpa using h3
        have hnext : ∀ W, Seen W b ((ls.take k).map (·.1) ++ [a]) → Kept (fun k => k = b) wr W → RtRel ls w2 b (.int .i64 ((k : Int) + 1)) W := by
          intro W hs hkk
          have e : (ls.take (k + 1)).map (·.1) = (ls.take k).map (·.1) ++ [a] := by rw [take_next hx.out, List.map_append]; rfl
          refine ⟨k + 1, hlt, by simp, ?_, by rw [e]; exact hs, HKP.out.trans hkk⟩
          rw [e, HOK.out, hyes]
          rfl
        have HNX := hide hnext
        obtain ⟨D, hown, hD, hat⟩ := HSN3.out
        have hlen : ((ls.take k).map (·.1)).length ≤ 1000000000 := by rw [List.length_map, List.length_take]; omega
        clear hnext hyes h3
        go_wp2_with (at_mapUpdate; refine halted ?_)
        refine go_on ?_
        refine wpList_mapUpdate_own _ rfl (.tmp 43) (.tmp 45) (.const (.bool true)) 104 rfl 3 4 ikeyed Try.underlying104 boolR b _ D rfl hown (by unfold maxLen; omega) _ _ (.int .i64 a) rfl rfl (keyOf_int_mk Try.underlying3 hwa) (.lit (.bool true)) [] rfl ?_
        intro w4 hown4 hg4
        have hs4 : Seen w4 b ((ls.take k).map (·.1) ++ [a]) := by
          refine ⟨D.put (.int .i64 a) (.lit (.bool true)), by rw [List.length_append]; exact hown4, hD.put _ _, fun y => ?_⟩
          by_cases e : y = a
          · subst e
            rw [atKey_put_same hD (keyLit y)]
            simp
          · rw [atKey_put_other (fun h => e (by injection h)), hat y]
            simp [e]
        have hk4 : Kept (fun k => k = b) wr w4 := (Kept.of_below HB3.out).trans (Kept.of_grown hg4 (fun j hj => by injection hj with hj; exact hj.symm))
        have HN4 := hide (HNX.out w4 hs4 hk4)
        clear hown hown4 hg4 hs4 hk4 hD hat hlook
        go_wp2
        case roundEnd => exact ⟨HN4.out, by simp [intOf]; omega⟩
    · have hk' : k = ls.length := by omega
      subst hk'
      have hok2 : rightE day tx.size ls = (dayOk day && decide (tx.size ≤ 200) && decide (2 ≤ ls.length) && decide (ls.length ≤ 20)) := by
        unfold rightE
        rw [hok, List.drop_length]
        rfl
      have HOK := hide hok2
      have hbx : wr.heap[q1]? = some (.cells #[.int .i64 day, .string tx, .slice A ls.length c] 79 (0, 0)) := by
        have h := HBX.out
        have hz := HZ.out
        have h1 := HQ1.out
        have h2 := HQ.out
        rw [h1]
        exact (hkp.block _ (by omega) (by omega)).trans h
      have c0 := Joins.cell_of_block hbx 0
      have c1 := Joins.cell_of_block hbx 1
      have c2 := Joins.cell_of_block hbx 2
      simp at c0 c1 c2
      have hbw : Below w.heap.size w wr := HB2.out.trans (hkp.below (fun j hj => by have := HQ.out; omega) HB2.out.size)
      have HBW := hide hbw
      clear hok hok2 hsn hkp hbx hbw hk hlt
      go_wp2_with (go_at_call 43; refine halted ?_)
      refine go_on ?_
      refine (day_any day wr).mono ?_
      rintro e w3 ⟨rfl, rfl⟩
      cases hd : dayOk day with
      | false =>
        rw [hd, Bool.false_and, Bool.false_and, Bool.false_and] at HOK
        go_wp2
        go_ret
        exact ⟨by rw [HOK.out]; rfl, HBW.out⟩
      | true =>
        rw [hd, Bool.true_and] at HOK
        by_cases h1 : tx.size ≤ 200
        · have h1' : (tx.size : Int) ≤ 200 := by omega
          rw [decide_eq_true h1, Bool.true_and] at HOK
          by_cases h2 : 2 ≤ ls.length
          · have h2' : (2 : Int) ≤ (ls.length : Int) := by omega
            rw [decide_eq_true h2, Bool.true_and] at HOK
            by_cases h3 : ls.length ≤ 20
            · have h3' : (ls.length : Int) ≤ 20 := by omega
              rw [decide_eq_true h3] at HOK
              go_wp2
              go_ret
              exact ⟨by rw [HOK.out]; rfl, HBW.out⟩
            · have h3' : ¬ (ls.length : Int) ≤ 20 := by omega
              rw [decide_eq_false h3] at HOK
              go_wp2
              go_ret
              exact ⟨by rw [HOK.out]; exact congrArg (fun x => Ending.returned (.bool x)) (decide_eq_false (by omega)), HBW.out⟩
          · have h2' : ¬ (2 : Int) ≤ (ls.length : Int) := by omega
            rw [decide_eq_false h2, Bool.false_and] at HOK
            go_wp2
            go_ret
            exact ⟨by rw [HOK.out]; rfl, HBW.out⟩
        · have h1' : ¬ (tx.size : Int) ≤ 200 := by omega
          rw [decide_eq_false h1, Bool.false_and, Bool.false_and] at HOK
          go_wp2
          go_ret
          exact ⟨by rw [HOK.out]; rfl, HBW.out⟩
end Go.Proofs.Ytibanikfalfmcaa
