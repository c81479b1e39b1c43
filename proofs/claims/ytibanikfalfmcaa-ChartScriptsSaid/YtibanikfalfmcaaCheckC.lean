/-
  chart: Check, Post.
-/
import Derived.Test.YtibanikfalfmcaaBal
import Derived.Deep.RegionHeldLaw
import Derived.Test.YtibanikfalfmcaaStep
namespace Go.Proofs.Ytibanikfalfmcaa
open Go.RowKit Go.Maps
set_option linter.unusedVariables false

theorem below_dN {B : Nat} {a w : World} (h : Below B a w) (n : Nat) : Below B a (w.drewN n) := ⟨h.os, h.tape, h.output, h.size, h.block⟩
/-- What a chart says of legs whose accounts are looked up: none, over, or none of both. -/
def legsE (l : Acs) (over : Bool) : List (Int × Int) → Int
  | [] => if over then 2 else 0
  | x :: r => match aFind l x.1 with
    | none => 4
    | some a => legsE l (over || !decide ((addE a.2 x.2).2 = 0)) r
def checkE (l : Acs) (day : Int) (tl : Nat) (ls : List (Int × Int)) : Int := if rightE day tl ls = false then 1 else if balB ls = false then 10 else legsE l false ls
theorem legsE_at {l : Acs} {over : Bool} {ls : List (Int × Int)} {k : Nat} {x : Int × Int} (h : ls[k]? = some x) : legsE l over (ls.drop k) = match aFind l x.1 with
    | none => 4
    | some a => legsE l (over || !decide ((addE a.2 x.2).2 = 0)) (ls.drop (k + 1)) := by
  have hk : k < ls.length := (List.getElem?_eq_some_iff.1 h).1
  have hx : ls[k] = x := (List.getElem?_eq_some_iff.1 h).2
  rw [List.drop_eq_getElem_cons hk, hx]
  rfl
/-- The state of 'Check' ahead of the k-th leg. -/
def CkRel (l : Acs) (ls : List (Int × Int)) (w1 : World) (i o : Value) (wr : World) : Prop :=
  ∃ (k : Nat) (over : Bool), k ≤ ls.length ∧ i = .int .i64 (k : Int) ∧ o = .bool over ∧ legsE l false ls = legsE l over (ls.drop k) ∧ Below w1.heap.size w1 wr

set_option maxRecDepth 100000 in
set_option maxHeartbeats 4000000 in
theorem check_any (q b : Nat) (l : Acs) (w : World) (hs : Ch q b l w) (day : Int) (tx : ByteArray) (A : Option Addr) (B n c : Nat) (ls : List (Int × Int)) (hn : ls.length = n) (hr : Row w B A (legCells ls)) (hB : B ≤ w.heap.size) (hl : n ≤ 1000) (hwf : ∀ x ∈ ls, (Lit.int .i64 x.1).wf = true) (htx : tx.size ≤ maxLen) :
    Calls Try.prog 29 #[.pointer (some ⟨q, 0, none⟩), .agg #[.int .i64 day, .string tx, .slice A n c]] w fun e w' => e = .returned (.int .i64 (checkE l day tx.size ls)) ∧ Below w.heap.size w w' := by
  subst hn
  obtain ⟨w1, hw1⟩ : ∃ w1, w1 = w.alloc (.cells #[.int .i64 day, .string tx, .slice A ls.length c] 25) := ⟨_, rfl⟩
  have hb1 : Below w.heap.size w w1 := by rw [hw1]; exact below_new w _
  have hbx1 : w1.heap[w.heap.size]? = some (.cells #[.int .i64 day, .string tx, .slice A ls.length c] 25 (0, 0)) := by rw [hw1]; exact heap_alloc_new w _
  have hz1 : w.heap.size < w1.heap.size := by rw [hw1]; simp
  have HRT := hide (right_any day tx A B ls.length c ls w1 rfl (hr.belowLe hb1 hB) (Nat.le_trans hB hb1.size) (by omega) hwf htx)
  have HR := hide (hr.belowLe hb1 hB)
  have HB1 := hide hb1
  have HBX := hide hbx1
  have HZ := hide hz1
  have HS := hide hs
  have HWF := hide hwf
  clear hr hs hwf
  obtain ⟨E, HE⟩ : ∃ E, Hid (E = checkE l day tx.size ls) := ⟨_, rfl⟩
  rw [← HE.out]
  go_enter Try.func29, Try.ntmps29
  go_wp2_with (go_at_call 34; refine halted ?_)
  refine go_on ?_
  rw [← hw1]
  refine HRT.out.mono ?_
  rintro e w2 ⟨rfl, hb2⟩
  have HB2 := hide hb2
  clear HRT hb2 hb1 hbx1 hz1
  cases hrt : rightE day tx.size ls with
  | false =>
    have hE : E = 1 := by rw [HE.out]; unfold checkE; rw [if_pos hrt]
    have HE1 := hide hE
    have HBW := hide (HB1.out.trans (HB2.out.mono HB1.out.size))
    clear hE hrt hw1
    go_wp2
    go_ret
    exact ⟨by rw [HE1.out]; rfl, HBW.out⟩
  | true =>
    have hbx2 := (HB2.out.block _ HZ.out).trans HBX.out
    have HBX2 := hide hbx2
    have c0 := Joins.cell_of_block hbx2 0
    have c1 := Joins.cell_of_block hbx2 1
    have c2 := Joins.cell_of_block hbx2 2
    simp at c0 c1 c2
    have HRT := hide hrt
    have HBL := hide (balanced_any day tx A B ls.length c ls w2 rfl (HR.out.belowLe HB2.out (Nat.le_trans hB HB1.out.size)) (Nat.le_trans (Nat.le_trans hB HB1.out.size) HB2.out.size) (by omega))
    clear hbx2 hrt hw1
    go_wp2_with (go_at_call 59; refine halted ?_)
    refine go_on ?_
    refine HBL.out.mono ?_
    rintro e w3 ⟨rfl, hb3⟩
    have hb03 := HB2.out.trans (hb3.mono HB2.out.size)
    have HB3 := hide hb03
    clear HBL hb3 c0 c1 c2 HBX2
    cases hbl : balB ls with
    | false =>
      have hE : E = 10 := by rw [HE.out]; unfold checkE; rw [if_neg (by rw [HRT.out]; simp), if_pos hbl]
      have HE1 := hide hE
      have HBW := hide (HB1.out.trans (HB3.out.mono HB1.out.size))
      clear hE hbl hb03
      go_wp2
      go_ret
      exact ⟨by rw [HE1.out]; rfl, HBW.out⟩
    | true =>
      have hE : E = legsE l false ls := by rw [HE.out]; unfold checkE; rw [if_neg (by rw [HRT.out]; simp), if_neg (by rw [hbl]; simp)]
      have HE1 := hide hE
      have hbx3 := (hb03.block _ HZ.out).trans HBX.out
      have c2 := Joins.cell_of_block hbx3 2
      simp at c2
      clear hE hbl hb03 hbx3 HE
      go_wp2
      obtain ⟨q1, hq1⟩ : ∃ q1, q1 = w.heap.size := ⟨_, rfl⟩
      rw [← hq1]
      clear hq1
      go_loopw [23, 5] (fun i o wr => CkRel l ls w1 i o wr) (fun i _ _ => ls.length - (intOf i).toNat)
      case atStart => exact ⟨0, false, Nat.zero_le _, rfl, rfl, rfl, HB3.out⟩
      case round =>
        obtain ⟨k, over, hk, rfl, rfl, hle, hb⟩ := hrel
        by_cases hlt : k < ls.length
        · have hrow : Row wr B A (legCells ls) := HR.out.belowLe hb (Nat.le_trans hB HB1.out.size)
          obtain ⟨ad, a, m, rfl, hadb, hx, ha, hm⟩ := hrow.leg hlt
          have hwa := HWF.out _ (List.mem_of_getElem? hx.out)
          dsimp only at hwa
          have hat := legsE_at (l := l) (over := over) hx.out
          dsimp only at hat
          have HAT := hide (hle.trans hat)
          have HB := hide hb
          have hwr : Below w.heap.size w wr := HB1.out.trans (hb.mono HB1.out.size)
          have HWR := hide hwr
          obtain ⟨wl, hwl⟩ : ∃ wl, wl = wr.alloc (.cells #[.int .i64 a, .int .i64 m] 51) := ⟨_, rfl⟩
          have hbl : Below wr.heap.size wr wl := by rw [hwl]; exact below_new _ _
          have hsl : Ch q b l wl := HS.out.call (hwr.trans (hbl.mono hwr.size))
          have hbxl : wl.heap[wr.heap.size]? = some (.cells #[.int .i64 a, .int .i64 m] 51 (0, 0)) := by rw [hwl]; exact heap_alloc_new _ _
          have k0 : wl.cell? ⟨wr.heap.size, 0, none⟩ = some (.int .i64 a) := Joins.cell_of_block hbxl 0
          have k1 : wl.cell? ⟨q, 0, none⟩ = some (.map (some b)) := Joins.cell_of_block hsl.box 0
          have d0 : wl.drew.cell? ⟨wr.heap.size, 0, none⟩ = some (.int .i64 a) := k0
          have d1 : wl.drew.cell? ⟨q, 0, none⟩ = some (.map (some b)) := k1
          obtain ⟨x, hx0⟩ : ∃ x, x = lookA l a := ⟨_, rfl⟩
          obtain ⟨fd, hfd⟩ : ∃ fd, (aFind l a).isSome = fd := ⟨_, rfl⟩
          have hlook : ∀ W, Below wl.heap.size wl W → (Instr.lookup 69 (.map (some b)) (.int .i64 a) true).run Try.prog W = .ok (.tuple #[.agg #[.int .i64 x.1, .int .i64 x.2], .bool fd]) W := fun W hW => by
            rw [hx0, ← hfd]
            exact look_acs (hsl.call hW).map hwa
          have HX := hide hx0
          have HFD := hide hfd
          have HSL := hide hsl
          have HBL := hide hbl
          have HBXL := hide hbxl
          obtain ⟨x1, x2⟩ := x
          dsimp only at hlook
          have hBd : Below wl.heap.size wl wl.drew := below_dN (Below.refl _ _) 1
          have hl1 := hlook _ hBd
          have hl2 := hlook (wl.alloc (.cells #[.int .i64 0, .int .i64 0] 73)).drew (below_dN (below_new wl _) 1)
          have hal := below_new wl (.cells #[.int .i64 0, .int .i64 0] 73)
          have e0 : (wl.alloc (.cells #[.int .i64 0, .int .i64 0] 73)).cell? ⟨wr.heap.size, 0, none⟩ = some (.int .i64 a) := (hal.cell (p := ⟨wr.heap.size, 0, none⟩) (lt_of_cell k0)).trans k0
          have e1 : (wl.alloc (.cells #[.int .i64 0, .int .i64 0] 73)).cell? ⟨q, 0, none⟩ = some (.map (some b)) := (hal.cell (p := ⟨q, 0, none⟩) (lt_of_cell k1)).trans k1
          clear hrow hle hat hb hwr hsl hal hbl hx0 hfd hbxl
          go_wp2
          rw [← hwl]
          clear hwl
          go_region_law (fail)
          all_goals
            have hb8 : Below wl.heap.size wl (wl.alloc (.cells #[.int .i64 x1, .int .i64 x2] 73)).drew := below_dN (below_new wl _) 1
            have hbx8 : (wl.alloc (.cells #[.int .i64 x1, .int .i64 x2] 73)).drew.heap[wl.heap.size]? = some (.cells #[.int .i64 x1, .int .i64 x2] 73 (0, 0)) := heap_alloc_new wl _
            clear e0 e1 d0 d1 k0 k1 hl1 hl2 hlook hBd
            generalize (wl.alloc (.cells #[.int .i64 x1, .int .i64 x2] 73)).drew = w8 at *
            have hbx9 := (hb8.block _ (Array.getElem?_eq_some_iff.1 HBXL.out).1).trans HBXL.out
            have k1 : w8.cell? ⟨wr.heap.size, 1, none⟩ = some (.int .i64 m) := Joins.cell_of_block hbx9 1
            have k2 : w8.cell? ⟨wl.heap.size, 1, none⟩ = some (.int .i64 x2) := Joins.cell_of_block hbx8 1
            have hb1r : Below wr.heap.size wr w8 := HBL.out.trans (hb8.mono HBL.out.size)
            have HB1R := hide hb1r
            clear hbx8 hbx9 hb8 hb1r
            cases fd with
            | false =>
              have hE : E = 4 := by
                rw [HE1.out, HAT.out]
                cases hf : aFind l a with
                | none => rfl
                | some y => have := HFD.out; rw [hf] at this; cases this
              have HE4 := hide hE
              have HBW := hide (HWR.out.trans (HB1R.out.mono HWR.out.size))
              clear hE
              go_wp2
              go_ret
              exact ⟨by rw [HE4.out]; rfl, HBW.out⟩
            | true =>
              have hle2 : legsE l false ls = legsE l (over || !decide ((addE x2 m).2 = 0)) (ls.drop (k + 1)) := by
                rw [HAT.out]
                cases hf : aFind l a with
                | none => have := HFD.out; rw [hf] at this; cases this
                | some y =>
                  have h := HX.out
                  unfold lookA at h
                  rw [hf] at h
                  have h : (x1, x2) = y := h
                  rw [← h]
              have HA := hide (add_any x2 m w8)
              obtain ⟨sv, hsv⟩ : ∃ sv, sv = addE x2 m := ⟨_, rfl⟩
              rw [← hsv] at hle2 HA
              obtain ⟨s1, s2⟩ := sv
              dsimp only at hle2
              have HLE := hide hle2
              clear hle2 hsv
              go_wp2_with (go_at_call 60; refine halted ?_)
              refine go_on ?_
              refine HA.out.mono ?_
              rintro e w9 ⟨rfl, hb9⟩
              dsimp only
              have hbw9 := HB1R.out.trans (hb9.mono HB1R.out.size)
              have hrel2 : ∀ o : Bool, o = (over || !decide (s2 = 0)) → CkRel l ls w1 (.int .i64 ((k : Int) + 1)) (.bool o) w9 := fun o ho => by
                subst ho
                exact ⟨k + 1, _, hlt, by simp, rfl, HLE.out, HB.out.trans (hbw9.mono HB.out.size)⟩
              have HRL := hide hrel2
              clear HA hb9 hbw9 hrel2
              cases over with
              | true =>
                have HR2 := hide (HRL.out true rfl)
                go_wp2
                case roundEnd => exact ⟨HR2.out, by simp [intOf]; omega⟩
              | false =>
                by_cases h2 : s2 = 0
                · have HR2 := hide (HRL.out false (by simp [h2]))
                  subst h2
                  go_wp2
                  case roundEnd => exact ⟨HR2.out, by simp [intOf]; omega⟩
                · have HR2 := hide (HRL.out true (by simp [h2]))
                  have h2' : (s2 != 0) = true := by rw [bne_iff_ne]; exact h2
                  clear h2
                  go_wp2
                  case roundEnd => exact ⟨HR2.out, by simp [intOf]; omega⟩
        · have hk' : k = ls.length := by omega
          subst hk'
          rw [List.drop_length] at hle
          have hBW := HB1.out.trans (hb.mono HB1.out.size)
          have HBW := hide hBW
          cases over with
          | true =>
            have HEE := hide (HE1.out.trans hle)
            clear hle hb hBW hlt hk
            go_wp2
            go_ret
            exact ⟨by rw [HEE.out]; rfl, HBW.out⟩
          | false =>
            have HEE := hide (HE1.out.trans hle)
            clear hle hb hBW hlt hk
            go_wp2
            go_ret
            exact ⟨by rw [HEE.out]; rfl, HBW.out⟩
end Go.Proofs.Ytibanikfalfmcaa
