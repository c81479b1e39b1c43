/-
  ChartCodes, walked.
-/
import Derived.Test.YtibanikfalfmcaaRDecQ
import Derived.Test.YtibanikfalfmcaaRRevC
import Derived.Test.YtibanikfalfmcaaREncC
import Derived.Test.YtibanikfalfmcaaSameC
import Derived.Test.YtibanikfalfmcaaEncC
import Derived.Test.YtibanikfalfmcaaAwake19
import Derived.Test.YtibanikfalfmcaaOpen19
import Derived.Test.YtibanikfalfmcaaRdBytes
namespace Go.Proofs.Ytibanikfalfmcaa
open Go.RowKit
set_option linter.unusedVariables false

theorem few_n {tl n : Nat} (h : fewB tl n = true) : n ≤ 100 := by
  unfold fewB at h
  rw [Bool.and_eq_true, decide_eq_true_eq] at h
  exact h.1
theorem below_chain {a b c : World} (h : Below a.heap.size a b) (g : Below b.heap.size b c) : Below a.heap.size a c := h.trans (g.mono h.size)
/-- Bytes and an error, handed back. -/
def BOut (w : World) (r : List UInt8 × Int) (e : Ending) (w' : World) : Prop :=
  ∃ A c, e = .returned (.tuple #[.slice A r.1.length c, .int .i64 r.2]) ∧ Bytes w' w'.heap.size A r.1 ∧ Below w.heap.size w w'
/-- A posting and an error, handed back. -/
structure PR where
  d : Int
  tx : ByteArray
  ls : List (Int × Int)
  e : Int
def POut (w : World) (r : PR) (e : Ending) (w' : World) : Prop :=
  ∃ A c, e = .returned (.tuple #[.agg #[.int .i64 r.d, .string r.tx, .slice A r.ls.length c], .int .i64 r.e]) ∧ Row w' w'.heap.size A (legCells r.ls) ∧ Below w.heap.size w w'
def encE (p : Pg) : List UInt8 × Int := if rightE p.day p.tx.size p.ls = true then (headB p.day p.tx.data.toList p.ls.length ++ legsB p.ls, 0) else ([], 1)
def revE (p : Pg) (day : Int) : PR := if rightE p.day p.tx.size p.ls = true ∧ dayOk day = true then ⟨day, p.tx, negL p.ls, 0⟩ else ⟨0, ⟨#[]⟩, [], 1⟩
def decE (bs : List UInt8) : PR := match decQ 3652058 bs with
  | none => ⟨0, ⟨#[]⟩, [], 3⟩
  | some (d, t, ls) => ⟨d, strB t, ls, 0⟩
theorem negL_len' (ls : List (Int × Int)) : (negL ls).length = ls.length := by unfold negL; simp
theorem POut.of_dec {w w' : World} {e : Ending} {bs : List UInt8} (h : DecP w w' e (decQ 3652058 bs)) : POut w (decE bs) e w' := by
  unfold decE
  cases hd : decQ 3652058 bs with
  | none =>
    rw [hd] at h
    obtain ⟨rfl, hb⟩ := h
    exact ⟨none, 0, rfl, Row.nil, hb⟩
  | some x =>
    obtain ⟨d, t, ls⟩ := x
    rw [hd] at h
    obtain ⟨A, c, rfl, hr, hb, _⟩ := h
    exact ⟨A, c, rfl, hr, hb⟩
theorem decQ_right {most : Int} {bs t : List UInt8} {d : Int} {ls : List (Int × Int)} (h : decQ most bs = some (d, t, ls)) : rightE d t.length ls = true := by
  unfold decQ at h
  split at h
  · cases h
  · split at h
    · cases h
    · split at h
      · cases h
      · split at h
        · cases h
        · split at h
          · rename_i h2
            injection h with h
            injection h with h3 h4
            injection h4 with h4 h5
            subst h3
            subst h4
            subst h5
            exact h2.2
          · cases h
theorem rightE_few {day : Int} {n : Nat} {ls : List (Int × Int)} (h : rightE day n ls = true) : n ≤ 200 ∧ ls.length ≤ 20 := by
  unfold rightE at h
  simp only [Bool.and_eq_true, decide_eq_true_eq] at h
  omega
theorem decE_few (bs : List UInt8) : (decE bs).ls.length ≤ 20 ∧ (decE bs).tx.size ≤ 200 := by
  unfold decE
  cases hd : decQ 3652058 bs with
  | none => exact ⟨by simp, by simp [ByteArray.size]⟩
  | some x =>
    obtain ⟨d, t, ls⟩ := x
    have := rightE_few (decQ_right hd)
    exact ⟨this.2, by show (strB t).size ≤ 200; rw [strB_size]; exact this.1⟩
theorem revE_few (p : Pg) (day : Int) : (revE p day).ls.length ≤ 20 ∧ (revE p day).tx.size ≤ 200 := by
  unfold revE
  split
  · rename_i h
    have := rightE_few h.1
    exact ⟨by show (negL p.ls).length ≤ 20; rw [negL_len']; exact this.2, this.1⟩
  · exact ⟨by simp, by simp [ByteArray.size]⟩

theorem encP_any (p : Pg) (w : World) (B : Nat) (hp : p.Ok w B) (hB : B ≤ w.heap.size) (hf : p.ls.length ≤ 100) : Calls Try.prog 16 #[.agg #[.int .i64 p.day, .string p.tx, .slice p.A p.ls.length p.c]] w (BOut w (encE p)) := by
  cases hr : rightE p.day p.tx.size p.ls with
  | true =>
    refine (encodeC_any p.day p.tx p.A p.ls.length p.c p.ls w rfl (hp.row.more hB) (by omega) hp.wf hp.tx hr).mono ?_
    rintro e w' ⟨A', c', rfl, hb, _, hbl⟩
    unfold encE
    rw [if_pos hr]
    exact ⟨A', c', rfl, hb, hbl⟩
  | false =>
    refine (encodeC_no p.day p.tx p.A p.ls.length p.c p.ls w rfl (hp.row.more hB) (by omega) hp.wf hp.tx hr).mono ?_
    rintro e w' ⟨rfl, hbl⟩
    unfold encE
    rw [if_neg (by rw [hr]; simp)]
    exact ⟨none, 0, rfl, Bytes.nil, hbl⟩
theorem rencP_any (p : Pg) (w : World) (B : Nat) (hp : p.Ok w B) (hB : B ≤ w.heap.size) (hf : p.ls.length ≤ 100) : Calls Try.prog 20 #[.agg #[.int .i64 p.day, .string p.tx, .slice p.A p.ls.length p.c]] w (BOut w (encE p)) := by
  cases hr : rightE p.day p.tx.size p.ls with
  | true =>
    refine (rencodeC_any p.day p.tx p.A p.ls.length p.c p.ls w rfl (hp.row.more hB) (by omega) hp.tx hr).mono ?_
    rintro e w' ⟨A', c', rfl, hb, hbl⟩
    unfold encE
    rw [if_pos hr]
    exact ⟨A', c', rfl, hb, hbl⟩
  | false =>
    refine (rencodeC_no p.day p.tx p.A p.ls.length p.c p.ls w rfl (hp.row.more hB) (by omega) hp.tx hr).mono ?_
    rintro e w' ⟨rfl, hbl⟩
    unfold encE
    rw [if_neg (by rw [hr]; simp)]
    exact ⟨none, 0, rfl, Bytes.nil, hbl⟩
theorem revP_any (p : Pg) (day : Int) (w : World) (B : Nat) (hp : p.Ok w B) (hB : B ≤ w.heap.size) (hf : p.ls.length ≤ 100) : Calls Try.prog 19 #[.agg #[.int .i64 p.day, .string p.tx, .slice p.A p.ls.length p.c], .int .i64 day] w (POut w (revE p day)) := by
  by_cases h : rightE p.day p.tx.size p.ls = true ∧ dayOk day = true
  · refine (reverseC_any p.day p.tx p.A p.ls.length p.c p.ls day w rfl (hp.row.more hB) (by omega) hp.wf hp.tx h.1 h.2).mono ?_
    rintro e w' ⟨A', c', rfl, hr, hbl⟩
    unfold revE
    rw [if_pos h]
    exact ⟨A', c', by show _ = Ending.returned (.tuple #[.agg #[.int .i64 day, .string p.tx, .slice A' (negL p.ls).length c'], .int .i64 0]); rw [negL_len'], hr, hbl⟩
  · refine (reverseC_no p.day p.tx p.A p.ls.length p.c p.ls day w rfl (hp.row.more hB) (by omega) hp.wf hp.tx (by
      cases h1 : rightE p.day p.tx.size p.ls
      · exact .inl rfl
      · cases h2 : dayOk day
        · exact .inr rfl
        · exact (h ⟨h1, h2⟩).elim)).mono ?_
    rintro e w' ⟨rfl, hbl⟩
    unfold revE
    rw [if_neg h]
    exact ⟨none, 0, rfl, Row.nil, hbl⟩
theorem rrevP_any (p : Pg) (day : Int) (w : World) (B : Nat) (hp : p.Ok w B) (hB : B ≤ w.heap.size) (hf : p.ls.length ≤ 100) : Calls Try.prog 22 #[.agg #[.int .i64 p.day, .string p.tx, .slice p.A p.ls.length p.c], .int .i64 day] w (POut w (revE p day)) := by
  by_cases h : rightE p.day p.tx.size p.ls = true ∧ dayOk day = true
  · refine (rreverse_any p.day p.tx p.A p.ls.length p.c p.ls day w rfl (hp.row.more hB) (by omega) hp.tx h.1 h.2).mono ?_
    rintro e w' ⟨A', c', rfl, hr, hbl⟩
    unfold revE
    rw [if_pos h]
    exact ⟨A', c', by show _ = Ending.returned (.tuple #[.agg #[.int .i64 day, .string p.tx, .slice A' (negL p.ls).length c'], .int .i64 0]); rw [negL_len'], hr, hbl⟩
  · refine (rreverse_no p.day p.tx p.A p.ls.length p.c p.ls day w rfl (hp.row.more hB) (by omega) hp.tx (by
      cases h1 : rightE p.day p.tx.size p.ls
      · exact .inl rfl
      · cases h2 : dayOk day
        · exact .inr rfl
        · exact (h ⟨h1, h2⟩).elim)).mono ?_
    rintro e w' ⟨rfl, hbl⟩
    unfold revE
    rw [if_neg h]
    exact ⟨none, 0, rfl, Row.nil, hbl⟩
theorem decP_any (A : Option Addr) (c : Nat) (bs : List UInt8) (w : World) (B : Nat) (hr : Bytes w B A bs) (hB : B ≤ w.heap.size) (hc : bs.length ≤ c) (hl : bs.length ≤ 20000) : Calls Try.prog 17 #[.slice A bs.length c] w (POut w (decE bs)) :=
  (decodeQ_any A bs.length c bs w rfl (hr.more hB) hc hl).mono fun e w' h => POut.of_dec h
theorem rdecP_any (A : Option Addr) (c : Nat) (bs : List UInt8) (w : World) (B : Nat) (hr : Bytes w B A bs) (hB : B ≤ w.heap.size) (hc : bs.length ≤ c) (hl : bs.length ≤ 20000) : Calls Try.prog 21 #[.slice A bs.length c] w (POut w (decE bs)) :=
  (rdecodeQ_any A bs.length c bs w rfl (hr.more hB) hc hl).mono fun e w' h => POut.of_dec (by rw [← decQ_wide]; exact h)

/-- The cells of a posting's box. -/
def PB (q : Nat) (d : Int) (tx : ByteArray) (A : Option Addr) (n c : Nat) (W : World) : Prop := W.cell? ⟨q, 0, none⟩ = some (.int .i64 d) ∧ W.cell? ⟨q, 1, none⟩ = some (.string tx) ∧ W.cell? ⟨q, 2, none⟩ = some (.slice A n c)
theorem PB.new (w : World) (d : Int) (tx : ByteArray) (A : Option Addr) (n c : Nat) : ∀ W, Below (w.alloc (.cells #[.int .i64 d, .string tx, .slice A n c] 25)).heap.size (w.alloc (.cells #[.int .i64 d, .string tx, .slice A n c] 25)) W → PB w.heap.size d tx A n c W := fun W hW => by
  have hx := heap_alloc_new w (.cells #[.int .i64 d, .string tx, .slice A n c] 25)
  have h := (hW.block w.heap.size (by simp)).trans hx
  exact ⟨Joins.cell_of_block h 0, Joins.cell_of_block h 1, Joins.cell_of_block h 2⟩

set_option maxRecDepth 100000 in
set_option maxHeartbeats 4000000 in
theorem chartCodes_any (p : Pg) (day : Int) (A2 : Option Addr) (bs : List UInt8) (c2 : Nat) (w : World) (hp : p.Ok w w.heap.size) (hr2 : Bytes w w.heap.size A2 bs) (hbl : bs.length ≤ c2) :
    Calls Try.prog 4 #[p.v, .int .i64 day, .slice A2 bs.length c2] w fun e w' => e = .returned (.bool true) ∧ Below w.heap.size w w' := by
  obtain ⟨w0, hw0⟩ : ∃ w0, w0 = w.alloc (.cells #[.int .i64 p.day, .string p.tx, .slice p.A p.ls.length p.c] 25) := ⟨_, rfl⟩
  have hb0 : Below w.heap.size w w0 := by rw [hw0]; exact below_new w _
  have HP0 := hide (show ∀ W, Below w0.heap.size w0 W → PB w.heap.size p.day p.tx p.A p.ls.length p.c W from by rw [hw0]; exact PB.new w _ _ _ _ _)
  have HB0 := hide hb0
  have HPK := hide hp
  have HBS := hide hr2
  obtain ⟨k, hk⟩ : ∃ k, k = bs.length := ⟨_, rfl⟩
  rw [← hk]
  rw [← hk] at hbl
  have HK := hide hk
  clear hb0 hp hr2 hk
  show Calls _ _ #[.agg #[.int .i64 p.day, .string p.tx, .slice p.A p.ls.length p.c], .int .i64 day, .slice A2 k c2] w _
  go_enter Try.func4, Try.ntmps4
  go_wp2_with (go_at_call 9; refine halted ?_)
  refine go_on ?_
  rw [← hw0]
  clear hw0
  refine (awake_any w0).mono ?_
  rintro e w1 ⟨rfl, hb1⟩
  obtain ⟨x0, x1, x2⟩ := HP0.out w1 hb1
  have HB1 := hide hb1
  clear hb1
  go_wp2_with (go_at_call 11; refine halted ?_)
  refine go_on ?_
  refine (few_any p.day p.tx p.A p.ls.length p.c w1).mono ?_
  rintro e w2 ⟨rfl, hb2⟩
  have HB2 := hide (below_chain HB1.out hb2)
  clear hb2 HB1 x0 x1 x2
  cases hfp : fewB p.tx.size p.ls.length with
  | false =>
    have HBW := hide (HB0.out.trans (HB2.out.mono HB0.out.size))
    go_wp2
    go_ret
    exact ⟨rfl, HBW.out⟩
  | true =>
    have HFP := hide (few_n hfp)
    clear hfp
    by_cases hbig : 20000 < k
    · have hbig' : 20000 < (k : Int) := by omega
      have HBW := hide (HB0.out.trans (HB2.out.mono HB0.out.size))
      clear hbig
      go_wp2
      go_ret
      exact ⟨rfl, HBW.out⟩
    have hsm : (k : Int) ≤ 20000 := by omega
    have HSM := hide (show bs.length ≤ 20000 from by have := HK.out; omega)
    have HCC := hide (show bs.length ≤ c2 from by have := HK.out; omega)
    obtain ⟨x0, x1, x2⟩ := HP0.out w2 HB2.out
    clear hbig hbl
    -- Encode
    have E1 := hide (encP_any p w2 w.heap.size (HPK.out.below (HB0.out.trans (HB2.out.mono HB0.out.size))) (Nat.le_trans HB0.out.size HB2.out.size) HFP.out)
    go_wp2_with (go_at_call 16; refine halted ?_)
    refine go_on ?_
    refine E1.out.mono ?_
    rintro e w3 ⟨A3, c3, rfl, o3, hb3⟩
    have HO3 := hide (show ∀ W, Below w3.heap.size w3 W → Bytes W W.heap.size A3 (encE p).1 from fun W hW => (o3.below hW).more hW.size)
    have HB3 := hide (below_chain HB2.out hb3)
    clear E1 HB2 hb3 o3 x0 x1 x2
    obtain ⟨x0, x1, x2⟩ := HP0.out w3 HB3.out
    -- its reference
    have E2 := hide (rencP_any p w3 w.heap.size (HPK.out.below (HB0.out.trans (HB3.out.mono HB0.out.size))) (Nat.le_trans HB0.out.size HB3.out.size) HFP.out)
    generalize encE p = er at *
    obtain ⟨us, e0⟩ := er
    dsimp only at HO3
    dsimp only
    go_wp2_with (go_at_call 20; refine halted ?_)
    refine go_on ?_
    refine E2.out.mono ?_
    rintro e w4 ⟨A4, c4, rfl, o4, hb4⟩
    dsimp only at o4
    dsimp only
    have HO4 := hide (show ∀ W, Below w4.heap.size w4 W → Bytes W W.heap.size A4 us from fun W hW => (o4.below hW).more hW.size)
    have H34 := hide hb4
    have HB4 := hide (below_chain HB3.out hb4)
    clear E2 HB3 hb4 o4 x0 x1 x2
    -- Decode
    have E3 := hide (decP_any A2 c2 bs w4 w.heap.size (HBS.out.below (HB0.out.trans (HB4.out.mono HB0.out.size))) (Nat.le_trans HB0.out.size HB4.out.size) HCC.out HSM.out)
    rw [← HK.out] at E3
    go_wp2_with (go_at_call 17; refine halted ?_)
    refine go_on ?_
    refine E3.out.mono ?_
    rintro e w5 ⟨A5, c5, rfl, o5, hb5⟩
    have HFW := hide (decE_few bs)
    obtain ⟨w5', hw5⟩ : ∃ w5', w5' = w5.alloc (.cells #[.int .i64 (decE bs).d, .string (decE bs).tx, .slice A5 (decE bs).ls.length c5] 25) := ⟨_, rfl⟩
    have hbq5 : Below w5.heap.size w5 w5' := by rw [hw5]; exact below_new _ _
    have HP5 := hide (show ∀ W, Below w5'.heap.size w5' W → PB w5.heap.size (decE bs).d (decE bs).tx A5 (decE bs).ls.length c5 W ∧ Row W W.heap.size A5 (legCells (decE bs).ls) from fun W hW => by
      refine ⟨?_, ?_⟩
      · rw [hw5] at hW; exact PB.new w5 _ _ _ _ _ W hW
      · have h := below_chain hbq5 hW; exact (o5.below h).more h.size)
    have H45 := hide (below_chain hb5 hbq5)
    have HB5 := hide (below_chain HB4.out H45.out)
    have E4 := hide (rdecP_any A2 c2 bs w5' w.heap.size (HBS.out.below (HB0.out.trans (HB5.out.mono HB0.out.size))) (Nat.le_trans HB0.out.size HB5.out.size) HCC.out HSM.out)
    rw [← HK.out] at E4
    clear E3 HB4 hb5 hbq5 o5
    generalize decE bs = dr at *
    obtain ⟨dd, dtx, dls, de⟩ := dr
    dsimp only at HP5 HFW hw5
    dsimp only
    go_wp2_with (go_at_call 21; refine halted ?_)
    refine go_on ?_
    rw [← hw5]
    obtain ⟨q5, hq5⟩ : ∃ q5, q5 = w5.heap.size := ⟨_, rfl⟩
    rw [← hq5] at HP5 ⊢
    clear hw5 hq5
    refine E4.out.mono ?_
    rintro e w6 ⟨A6, c6, rfl, o6, hb6⟩
    dsimp only at o6
    dsimp only
    obtain ⟨w6', hw6⟩ : ∃ w6', w6' = w6.alloc (.cells #[.int .i64 dd, .string dtx, .slice A6 dls.length c6] 25) := ⟨_, rfl⟩
    have hbq6 : Below w6.heap.size w6 w6' := by rw [hw6]; exact below_new _ _
    have HP6 := hide (show ∀ W, Below w6'.heap.size w6' W → PB w6.heap.size dd dtx A6 dls.length c6 W ∧ Row W W.heap.size A6 (legCells dls) from fun W hW => by
      refine ⟨?_, ?_⟩
      · rw [hw6] at hW; exact PB.new w6 _ _ _ _ _ W hW
      · have h := below_chain hbq6 hW; exact (o6.below h).more h.size)
    have H56 := hide (below_chain hb6 hbq6)
    have HB6 := hide (below_chain HB5.out H56.out)
    obtain ⟨x0, x1, x2⟩ := HP0.out w6' HB6.out
    -- Reverse
    have E5 := hide (revP_any p day w6' w.heap.size (HPK.out.below (HB0.out.trans (HB6.out.mono HB0.out.size))) (Nat.le_trans HB0.out.size HB6.out.size) HFP.out)
    clear E4 HB5 hb6 hbq6 o6
    rw [hw6] at x0 x1 x2
    go_wp2_with (go_at_call 19; refine halted ?_)
    refine go_on ?_
    rw [← hw6]
    obtain ⟨q6, hq6⟩ : ∃ q6, q6 = w6.heap.size := ⟨_, rfl⟩
    rw [← hq6] at HP6 ⊢
    clear hw6 hq6 x0 x1 x2
    refine E5.out.mono ?_
    rintro e w7 ⟨A7, c7, rfl, o7, hb7⟩
    have HFV := hide (revE_few p day)
    obtain ⟨w7', hw7⟩ : ∃ w7', w7' = w7.alloc (.cells #[.int .i64 (revE p day).d, .string (revE p day).tx, .slice A7 (revE p day).ls.length c7] 25) := ⟨_, rfl⟩
    have hbq7 : Below w7.heap.size w7 w7' := by rw [hw7]; exact below_new _ _
    have HP7 := hide (show ∀ W, Below w7'.heap.size w7' W → PB w7.heap.size (revE p day).d (revE p day).tx A7 (revE p day).ls.length c7 W ∧ Row W W.heap.size A7 (legCells (revE p day).ls) from fun W hW => by
      refine ⟨?_, ?_⟩
      · rw [hw7] at hW; exact PB.new w7 _ _ _ _ _ W hW
      · have h := below_chain hbq7 hW; exact (o7.below h).more h.size)
    have H67 := hide (below_chain hb7 hbq7)
    have HB7 := hide (below_chain HB6.out H67.out)
    have E6 := hide (rrevP_any p day w7' w.heap.size (HPK.out.below (HB0.out.trans (HB7.out.mono HB0.out.size))) (Nat.le_trans HB0.out.size HB7.out.size) HFP.out)
    obtain ⟨x0, x1, x2⟩ := HP0.out w7' HB7.out
    clear E5 HB6 hb7 hbq7 o7
    generalize revE p day = vr at *
    obtain ⟨vd, vtx, vls, ve⟩ := vr
    dsimp only at HP7 HFV hw7
    dsimp only
    rw [hw7] at x0 x1 x2
    go_wp2_with (go_at_call 22; refine halted ?_)
    refine go_on ?_
    rw [← hw7]
    obtain ⟨q7, hq7⟩ : ∃ q7, q7 = w7.heap.size := ⟨_, rfl⟩
    rw [← hq7] at HP7 ⊢
    clear hw7 hq7 x0 x1 x2
    refine E6.out.mono ?_
    rintro e w8 ⟨A8, c8, rfl, o8, hb8⟩
    dsimp only at o8
    dsimp only
    obtain ⟨w8', hw8⟩ : ∃ w8', w8' = w8.alloc (.cells #[.int .i64 vd, .string vtx, .slice A8 vls.length c8] 25) := ⟨_, rfl⟩
    have hbq8 : Below w8.heap.size w8 w8' := by rw [hw8]; exact below_new _ _
    have HP8 := hide (show ∀ W, Below w8'.heap.size w8' W → PB w8.heap.size vd vtx A8 vls.length c8 W ∧ Row W W.heap.size A8 (legCells vls) from fun W hW => by
      refine ⟨?_, ?_⟩
      · rw [hw8] at hW; exact PB.new w8 _ _ _ _ _ W hW
      · have h := below_chain hbq8 hW; exact (o8.below h).more h.size)
    have H78 := hide (below_chain hb8 hbq8)
    have HB8 := hide (below_chain HB7.out H78.out)
    have H68 := hide (below_chain H67.out H78.out)
    have H58 := hide (below_chain H56.out H68.out)
    have H48 := hide (below_chain H45.out H58.out)
    have H38 := hide (below_chain H34.out H48.out)
    obtain ⟨⟨y0, y1, y2⟩, ry⟩ := HP5.out w8' H58.out
    obtain ⟨⟨a0, a1, a2⟩, ra⟩ := HP6.out w8' H68.out
    have E7 := hide (sameP_any dd dtx A5 A6 w8'.heap.size c5 c6 dls w8' ry ra (Nat.le_refl _) (by have := HFW.out; omega) (by have := HFW.out; unfold maxLen; omega))
    clear E6 HB7 hb8 hbq8 o8 ry ra
    rw [hw8] at y0 y1 y2 a0 a1 a2
    go_wp2_with (go_at_call 18; refine halted ?_)
    refine go_on ?_
    rw [← hw8]
    obtain ⟨q8, hq8⟩ : ∃ q8, q8 = w8.heap.size := ⟨_, rfl⟩
    rw [← hq8] at HP8 ⊢
    clear hw8 hq8 y0 y1 y2 a0 a1 a2
    refine E7.out.mono ?_
    rintro e w9 ⟨rfl, hb9⟩
    obtain ⟨⟨y0, y1, y2⟩, ry⟩ := HP7.out w9 (below_chain H78.out hb9)
    obtain ⟨⟨a0, a1, a2⟩, ra⟩ := HP8.out w9 hb9
    have E8 := hide (sameP_any vd vtx A7 A8 w9.heap.size c7 c8 vls w9 ry ra (Nat.le_refl _) (by have := HFV.out; omega) (by have := HFV.out; unfold maxLen; omega))
    have H9 := hide hb9
    clear E7 hb9 ry ra
    go_wp2_with (go_at_call 18; refine halted ?_)
    refine go_on ?_
    clear y0 y1 y2 a0 a1 a2
    refine E8.out.mono ?_
    rintro e w10 ⟨rfl, hb10⟩
    have H810 := below_chain H9.out hb10
    have HBW := hide (HB0.out.trans ((below_chain HB8.out H810).mono HB0.out.size))
    have k3 := run_str (P := Try.prog) (dst := 9) (c := c3) Try.underlying40 Try.underlying5 Try.underlying9 (HO3.out w10 (below_chain H38.out H810)) rfl
    have k4 := run_str (P := Try.prog) (dst := 9) (c := c4) Try.underlying40 Try.underlying5 Try.underlying9 (HO4.out w10 (below_chain H48.out H810)) rfl
    clear E8 hb10 H810
    go_wp2
    go_ret
    exact ⟨by simp, HBW.out⟩
end Go.Proofs.Ytibanikfalfmcaa
