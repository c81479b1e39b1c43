/-
  The reference's Decode of any bytes.
-/
import Derived.Test.YtibanikfalfmcaaDecQ2
import Derived.Test.YtibanikfalfmcaaRIntFn
import Derived.Test.YtibanikfalfmcaaRRightD
namespace Go.Proofs.Ytibanikfalfmcaa
open Go.RowKit
set_option linter.unusedVariables false

/-- What a decoding of the reference keeps away from. -/
def Ys (q6 : Nat) (A : Option Addr) (k : Nat) : Prop := k = q6 ∨ InRow A k
/-- Its state ahead of the k-th leg. -/
def RDqRel (w : World) (q6 : Nat) (day : Int) (tx : ByteArray) (n : Nat) (r0 : List UInt8) (b i : Value) (wr : World) : Prop :=
  ∃ (k : Nat) (ls : List (Int × Int)) (r : List UInt8) (A B : Option Addr) (c d : Nat), k ≤ n ∧ i = .int .u64 (k : Int) ∧ b = .slice B r.length d ∧ Hid (ls.length = k ∧ legsQ n [] r0 = legsQ (n - k) ls r ∧ r.length ≤ 20000) ∧
    Bytes wr wr.heap.size B r ∧ r.length ≤ d ∧ Away (Ys q6 A) B r ∧ wr.heap[q6]? = some (.cells #[.int .i64 day, .string tx, .slice A k c] 25 (0, 0)) ∧
    wr.ownsRow (q6 + 1) 51 2 (.slice A k c) k (legCells ls) ∧ wr.heap[w.heap.size]? = some (.cells #[.int .i64 0, .string ⟨#[]⟩, .slice none 0 0] 25 (0, 0)) ∧ Below w.heap.size w wr

set_option maxRecDepth 100000 in
set_option maxHeartbeats 4000000 in
theorem rdecodeQ_any (A : Option Addr) (n c : Nat) (bs : List UInt8) (w : World) (hn : bs.length = n) (hr : Bytes w w.heap.size A bs) (hc : n ≤ c) (hl : n ≤ 20000) :
    Calls Try.prog 21 #[.slice A n c] w fun e w' => DecP w w' e (decQ 9999999 bs) := by
  obtain ⟨O, HO⟩ : ∃ O, Hid (O = decQ 9999999 bs) := ⟨_, rfl⟩
  rw [← HO.out]
  subst hn
  obtain ⟨w3, hw3⟩ : ∃ w3, w3 = w.alloc (.cells #[.int .i64 0, .string ⟨#[]⟩, .slice none 0 0] 25) := ⟨_, rfl⟩
  have hb3 : Below w.heap.size w w3 := by rw [hw3]; exact below_new w _
  have hz3 : w3.heap.size = w.heap.size + 1 := by rw [hw3]; simp
  have hx2 : w3.heap[w.heap.size]? = some (.cells #[.int .i64 0, .string ⟨#[]⟩, .slice none 0 0] 25 (0, 0)) := by rw [hw3]; exact heap_alloc_new _ _
  have htn := rtakeNumber_any A w3.heap.size c _ bs w3 rfl ((hr.below hb3).more hb3.size) (Nat.le_refl _) (by omega) hc (X := fun _ => False) (fun _ _ _ h => h) (fun k hk => hk.elim)
  have HX2 := hide hx2
  have HB3 := hide hb3
  have HZ3 := hide hz3
  have HBN := hide hl
  cases hT1 : takeN bs with
  | none =>
    rw [hT1] at htn
    have HT := hide htn
    have HON := hide (HO.out.trans (decQ_no1 (numQ_none hT1)))
    clear hb3 hz3 hx2 htn hr hT1 hl
    go_enter Try.func21, Try.ntmps21
    go_wp2_with (go_at_call 49; refine halted ?_)
    refine go_on ?_
    rw [← hw3]
    refine HT.out.mono ?_
    rintro e w4 ⟨A1, c1, rfl, hr1, hc1, hb1, haw1⟩
    dsimp only [tookR] at *
    have hx := (hb1.block (w.heap.size) (by have := HZ3.out; omega)).trans HX2.out
    have HB4 := hide (HB3.out.trans (hb1.mono HB3.out.size))
    obtain ⟨d0, d1, d2, s0, s1, s2, e0, e1, e2, hk8⟩ := zeroEnd hx
    clear hx hr1 hc1 hb1 haw1 HT hw3
    go_wp2
    refine bodyPost_ret (v := .tuple #[.agg #[.int .i64 0, .string ⟨#[]⟩, .slice none 0 0], .int .i64 3]) (by rw [results_cell_tmp rfl]; go_simp) rfl ?_
    exact dec_failed HON.out (Nat.le_refl _) HB4.out hk8
  | some x1 =>
    obtain ⟨dn, r⟩ := x1
    rw [hT1] at htn
    have HT := hide htn
    have hlt := takeN_lt hT1
    obtain ⟨day, hday⟩ : ∃ day : Int, day = (dn : Int) := ⟨_, rfl⟩
    have hd0 : 0 ≤ day ∧ day < 18446744073709551616 := by omega
    have HDAY := hide hday
    have HRL := hide (takeN_len hT1)
    have HQT := hide hT1
    clear hb3 hz3 hx2 htn hr hT1 hlt hl hday
    go_enter Try.func21, Try.ntmps21
    go_wp2_with (go_at_call 49; refine halted ?_)
    refine go_on ?_
    rw [← hw3]
    refine HT.out.mono ?_
    rintro e w4 ⟨A1, c1, rfl, hr1, hc1, hb1, haw1⟩
    dsimp only [tookR] at *
    have hx := (hb1.block (w.heap.size) (by have := HZ3.out; omega)).trans HX2.out
    have hz4 : w.heap.size + 1 ≤ w4.heap.size := by have := HZ3.out; have := hb1.size; omega
    have HB4 := hide (HB3.out.trans (hb1.mono HB3.out.size))
    rw [← HDAY.out]
    by_cases hbig : 9999999 < day
    · have HON := hide (HO.out.trans (decQ_no1 (numQ_no HQT.out (by have := HDAY.out; omega))))
      obtain ⟨d0, d1, d2, s0, s1, s2, e0, e1, e2, hk8⟩ := zeroEnd hx
      clear hx hr1 hc1 hb1 haw1 HT hw3
      go_wp2
      refine bodyPost_ret (v := .tuple #[.agg #[.int .i64 0, .string ⟨#[]⟩, .slice none 0 0], .int .i64 3]) (by rw [results_cell_tmp rfl]; go_simp) rfl ?_
      exact dec_failed HON.out (Nat.le_refl _) HB4.out hk8
    have hsm : day ≤ 9999999 := by omega
    have HQ1 := hide (numQ_yes (most := 9999999) HQT.out (by have := HDAY.out; omega))
    have hrl := HRL.out
    have hbn := HBN.out
    have htt := rtakeText_any A1 w4.heap.size c1 _ r w4 rfl hr1 (Nat.le_refl _) (by omega) hc1 (X := fun _ => False) (fun _ _ _ h => h) (fun k hk => hk.elim)
    have HX4 := hide hx
    have HZ4 := hide hz4
    clear hbig hr1 hc1 hb1 haw1 HT hw3 hx hz4
    cases hq2 : takeT r with
    | none =>
      rw [hq2] at htt
      have HTT := hide htt
      have HON := hide (HO.out.trans (decQ_no2 HQ1.out hq2))
      clear htt hq2 hrl hbn
      go_wp2_with (go_at_call 50; refine halted ?_)
      refine go_on ?_
      refine HTT.out.mono ?_
      rintro e w6 ⟨A2, c2, A3, c3, rfl, ht, htc, hr6, hrc, hb6, hat, har⟩
      dsimp only [tookT] at *
      have hx := (hb6.block _ (by have := HZ4.out; omega)).trans HX4.out
      have HB6 := hide (HB4.out.trans (hb6.mono HB4.out.size))
      obtain ⟨d0, d1, d2, s0, s1, s2, e0, e1, e2, hk8⟩ := zeroEnd hx
      clear hx ht htc hr6 hrc hb6 hat har HTT
      go_wp2
      refine bodyPost_ret (v := .tuple #[.agg #[.int .i64 0, .string ⟨#[]⟩, .slice none 0 0], .int .i64 3]) (by rw [results_cell_tmp rfl]; go_simp) rfl ?_
      exact dec_failed HON.out (Nat.le_refl _) HB6.out hk8
    | some x2 =>
      obtain ⟨t, r2⟩ := x2
      rw [hq2] at htt
      have HTT := hide htt
      have HQ2 := hide hq2
      have htl := takeT_len hq2
      have HTL := hide (show r2.length ≤ 20000 ∧ t.length ≤ 20000 from by omega)
      obtain ⟨tx, htx⟩ : ∃ tx, tx = strB t := ⟨_, rfl⟩
      have HTX := hide htx
      clear htt hq2 hrl hbn htl
      go_wp2_with (go_at_call 50; refine halted ?_)
      refine go_on ?_
      refine HTT.out.mono ?_
      rintro e w6 ⟨A2, c2, A3, c3, rfl, ht, htc, hr6, hrc, hb6, hat, har⟩
      dsimp only [tookT] at *
      have hx := (hb6.block _ (by have := HZ4.out; omega)).trans HX4.out
      have hz6 : w.heap.size + 1 ≤ w6.heap.size := Nat.le_trans HZ4.out hb6.size
      have HB6 := hide (HB4.out.trans (hb6.mono HB4.out.size))
      have htl := HTL.out
      have htn := rtakeNumber_any A3 w6.heap.size c3 _ r2 w6 rfl hr6 (Nat.le_refl _) (by omega) hrc (X := fun _ => False) (fun _ _ _ h => h) (fun k hk => hk.elim)
      have HT2 := hide ht
      have HX6 := hide hx
      have HZ6 := hide hz6
      clear ht htc hr6 hrc hb6 hat har HTT hx hz6 htx htl
      generalize htl2 : t.length = tl at *
      have HTLE := hide htl2
      clear htl2
      cases hT3 : takeN r2 with
      | none =>
        rw [hT3] at htn
        have HT := hide htn
        have HON := hide (HO.out.trans (decQ_no3 HQ1.out HQ2.out (numQ_none hT3)))
        clear htn hT3
        go_wp2_with (go_at_call 49; refine halted ?_)
        refine go_on ?_
        refine HT.out.mono ?_
        rintro e w7 ⟨A5, c5, rfl, hr5, hc5, hb7, haw5⟩
        dsimp only [tookR] at *
        have hx := (hb7.block _ (by have := HZ6.out; omega)).trans HX6.out
        have HB7 := hide (HB6.out.trans (hb7.mono HB6.out.size))
        obtain ⟨d0, d1, d2, s0, s1, s2, e0, e1, e2, hk8⟩ := zeroEnd hx
        clear hx hr5 hc5 hb7 haw5 HT
        go_wp2
        refine bodyPost_ret (v := .tuple #[.agg #[.int .i64 0, .string ⟨#[]⟩, .slice none 0 0], .int .i64 3]) (by rw [results_cell_tmp rfl]; go_simp) rfl ?_
        exact dec_failed HON.out (Nat.le_refl _) HB7.out hk8
      | some x3 =>
        obtain ⟨m, r3⟩ := x3
        rw [hT3] at htn
        have HT := hide htn
        have hlt := takeN_lt hT3
        obtain ⟨mi, hmi⟩ : ∃ mi : Int, mi = (m : Int) := ⟨_, rfl⟩
        have hm0 : 0 ≤ mi ∧ mi < 18446744073709551616 := by omega
        have HMI := hide hmi
        have HR3 := hide (takeN_len hT3)
        have HQT3 := hide hT3
        clear htn hT3 hlt hmi
        go_wp2_with (go_at_call 49; refine halted ?_)
        refine go_on ?_
        refine HT.out.mono ?_
        rintro e w7 ⟨A5, c5, rfl, hr5, hc5, hb7, haw5⟩
        dsimp only [tookR] at *
        have hx := (hb7.block _ (by have := HZ6.out; omega)).trans HX6.out
        have HB7 := hide (HB6.out.trans (hb7.mono HB6.out.size))
        have hz7 : w.heap.size + 1 ≤ w7.heap.size := Nat.le_trans HZ6.out hb7.size
        rw [← HMI.out]
        by_cases hbig : 20 < mi
        · have HON := hide (HO.out.trans (decQ_no3 HQ1.out HQ2.out (numQ_no HQT3.out (by have := HMI.out; omega))))
          obtain ⟨d0, d1, d2, s0, s1, s2, e0, e1, e2, hk8⟩ := zeroEnd hx
          clear hx hr5 hc5 hb7 haw5 HT hz7
          go_wp2
          refine bodyPost_ret (v := .tuple #[.agg #[.int .i64 0, .string ⟨#[]⟩, .slice none 0 0], .int .i64 3]) (by rw [results_cell_tmp rfl]; go_simp) rfl ?_
          exact dec_failed HON.out (Nat.le_refl _) HB7.out hk8
        have hms : mi ≤ 20 := by omega
        have HQ3 := hide (numQ_yes (most := 20) HQT3.out (by have := HMI.out; omega))
        have HM20 := hide (show m ≤ 20 from by have := HMI.out; omega)
        have hwd : IntKind.i64.wrap day = day := by rw [IntKind.wrap_i64]; omega
        have ht7 : Bytes w7 w6.heap.size A2 t := HT2.out.below hb7
        have hstr := run_str (P := Try.prog) (w := w7) (dst := 9) (c := c2) Try.underlying40 Try.underlying5 Try.underlying9 ht7 HTLE.out
        rw [← HTX.out] at hstr
        obtain ⟨w8, hw8⟩ : ∃ w8, w8 = w7.alloc (.cells #[.int .i64 day, .string tx, .slice none 0 0] 25) := ⟨_, rfl⟩
        have hb8 : Below w7.heap.size w7 w8 := by rw [hw8]; exact below_new _ _
        have hx8 : w8.heap[w7.heap.size]? = some (.cells #[.int .i64 day, .string tx, .slice none 0 0] 25 (0, 0)) := by rw [hw8]; exact heap_alloc_new _ _
        obtain ⟨q6, hq6⟩ : ∃ q6, q6 = w7.heap.size := ⟨_, rfl⟩
        have HQ6 := hide (show w.heap.size + 1 ≤ q6 from by omega)
        have hrow8 : Bytes w8 w8.heap.size A5 r3 := (hr5.below hb8).more hb8.size
        have haw8 : Away (Ys q6 none) A5 r3 := by
          intro hne a ha hx
          rcases hx with h | h
          · exact Away.of_bytes (X := fun k => k = q6) hr5 (fun k hk => by omega) hne a ha h
          · unfold InRow at h; simp at h
        have hx28 := (hb8.block w.heap.size (by omega)).trans hx
        have hb8w : Below w.heap.size w w8 := HB7.out.trans (hb8.mono HB7.out.size)
        rw [← hq6] at hx8
        have hr3l := HR3.out
        have htl0 := HTL.out
        have HST := hide (show RDqRel w q6 day tx m r3 (.slice A5 r3.length c5) (.int .u64 0) w8 from ⟨0, [], r3, none, A5, 0, c5, Nat.zero_le _, rfl, rfl, ⟨rfl, rfl, by omega⟩, hrow8, hc5, haw8, hx8, World.ownsRow_nil _ _ _ _, hx28, hb8w⟩)
        have HTXL := hide (show tx.size ≤ 20000 from by rw [HTX.out, strB_size, HTLE.out]; omega)
        clear hx hr5 hc5 hb7 haw5 HT hz7 hb8 hx8 hrow8 haw8 hx28 hb8w hbig ht7 hr3l htl0
        obtain ⟨i1, hj, hw0, hw1, hw2⟩ := info_parts info_leg
        generalize hrl3 : r3.length = rl3 at *
        have HRL3 := hide hrl3
        clear hrl3
        go_wp2
        rw [← hw8, ← hq6]
        clear hw8 hq6 hstr hwd
        go_loopw [5, 10] (fun b i wr => RDqRel w q6 day tx m r3 b i wr) (fun _ i _ => m - (intOf i).toNat)
        case atStart => exact HST.out
        case round =>
          obtain ⟨k, ls, rk, A6, B, c6, d, hk, rfl, rfl, HL, hrk, hrkc, haw, hx6, hown, hx2, hb⟩ := hrel
          have hq6 := HQ6.out
          have hlow : ∀ j, InRow A6 j → q6 + 1 ≤ j ∧ j < wr.heap.size := fun j hj => World.ownsRow.lt hown j (by rw [ownBlock_slice]; exact hj)
          have hl6 := (Array.getElem?_eq_some_iff.1 hx6).1
          have hrkl := HL.out.2.2
          have hX : ∀ j, Ys q6 A6 j → j < wr.heap.size := fun j hj => by
            rcases hj with h | h
            · omega
            · exact (hlow j h).2
          by_cases hlt : k < m
          · have hlt' : (k : Int) < mi := by have := HMI.out; omega
            have hk20 : (k : Int) < 20 := by omega
            have HNX := hide (show legsQ m [] r3 = legsQ ((m - (k + 1)) + 1) ls rk from by rw [HL.out.2.1, show m - (k + 1) + 1 = m - k from by omega])
            have HOWN := hide hown
            have HX6 := hide hx6
            have HX2 := hide hx2
            have HB := hide hb
            have HLOW := hide hlow
            have HLT := hide (show q6 < wr.heap.size ∧ w.heap.size + 1 ≤ q6 from ⟨hl6, hq6⟩)
            have htn := rtakeNumber_any B wr.heap.size d _ rk wr rfl hrk (Nat.le_refl _) (by omega) hrkc haw hX
            cases hTa : takeN rk with
            | none =>
              rw [hTa] at htn
              have HT := hide htn
              have HON := hide (HO.out.trans (decQ_no4 HQ1.out HQ2.out HQ3.out (HNX.out.trans (legsQ_no1 (numQ_none hTa)))))
              clear htn hTa hrk hrkc haw hx6 hown hx2 hb hlow hl6 hq6 hrkl hX hk
              generalize rk.length = rkl at *
              go_wp2_with (go_at_call 49; refine halted ?_)
              refine go_on ?_
              refine HT.out.mono ?_
              rintro e wa ⟨Aa, ca, rfl, hra, hca, hba, hawa⟩
              dsimp only [tookR] at *
              have hx := (hba.block _ (by have := HLT.out; omega)).trans HX2.out
              have HBA := hide (HB.out.trans (hba.mono HB.out.size))
              obtain ⟨d0, d1, d2, s0, s1, s2, e0, e1, e2, hk8⟩ := zeroEnd hx
              clear hx hra hca hba hawa HT
              go_wp2
              refine bodyPost_ret (v := .tuple #[.agg #[.int .i64 0, .string ⟨#[]⟩, .slice none 0 0], .int .i64 3]) (by rw [results_cell_tmp rfl]; go_simp) rfl ?_
              exact dec_failed HON.out (Nat.le_refl _) HBA.out hk8
            | some xa =>
              obtain ⟨an, ra⟩ := xa
              rw [hTa] at htn
              have HT := hide htn
              have hltA := takeN_lt hTa
              obtain ⟨a, ea⟩ : ∃ a : Int, a = (an : Int) := ⟨_, rfl⟩
              have ha0 : 0 ≤ a ∧ a < 18446744073709551616 := by omega
              have HEA := hide ea
              have HRA := hide (show ra.length ≤ 20000 from by have := takeN_len hTa; omega)
              have HQA0 := hide hTa
              clear htn hTa hltA ea hrk hrkc haw hx6 hown hx2 hb hlow hl6 hq6 hrkl hX hk
              generalize rk.length = rkl at *
              go_wp2_with (go_at_call 49; refine halted ?_)
              refine go_on ?_
              refine HT.out.mono ?_
              rintro e wa ⟨Aa, ca, rfl, hra, hca, hba, hawa⟩
              dsimp only [tookR] at *
              have hx := (hba.block _ (by have := HLT.out; omega)).trans HX2.out
              have HBA := hide (HB.out.trans (hba.mono HB.out.size))
              rw [← HEA.out]
              by_cases hbiga : 99999 < a
              · have HON := hide (HO.out.trans (decQ_no4 HQ1.out HQ2.out HQ3.out (HNX.out.trans (legsQ_no1 (numQ_no HQA0.out (by have := HEA.out; omega))))))
                obtain ⟨d0, d1, d2, s0, s1, s2, e0, e1, e2, hk8⟩ := zeroEnd hx
                clear hx hra hca hba hawa HT
                go_wp2
                refine bodyPost_ret (v := .tuple #[.agg #[.int .i64 0, .string ⟨#[]⟩, .slice none 0 0], .int .i64 3]) (by rw [results_cell_tmp rfl]; go_simp) rfl ?_
                exact dec_failed HON.out (Nat.le_refl _) HBA.out hk8
              have has : a ≤ 99999 := by omega
              have HQA := hide (numQ_yes (most := 99999) HQA0.out (by have := HEA.out; omega))
              have hral := HRA.out
              have hxa6 := (hba.block q6 (by have := HLT.out; omega)).trans HX6.out
              have hta := rtakeInt_any Aa wa.heap.size ca _ ra wa rfl hra (Nat.le_refl _) (by omega) hca hawa (fun j hj => by
                have := hba.size
                rcases hj with h | h
                · have := HLT.out; omega
                · have := HLOW.out j h; omega)
              have HBAr := hide hba
              have HXA := hide hx
              clear hbiga hra hca hba hawa HT hx hral hxa6
              cases hqz : takeN ra with
              | none =>
                rw [hqz] at hta
                have HTI := hide hta
                have HON := hide (HO.out.trans (decQ_no4 HQ1.out HQ2.out HQ3.out (HNX.out.trans (legsQ_no2 HQA.out hqz))))
                clear hta hqz
                generalize ra.length = ral at *
                go_wp2_with (go_at_call 51; refine halted ?_)
                refine go_on ?_
                refine HTI.out.mono ?_
                rintro e wc ⟨Bc, dc, rfl, hrc, hcc, hbc, hac⟩
                dsimp only [tookZ] at *
                have hx := (hbc.block _ (by have := HLT.out; have := HBAr.out.size; omega)).trans HXA.out
                have HBC := hide (HBA.out.trans (hbc.mono HBA.out.size))
                obtain ⟨d0, d1, d2, s0, s1, s2, e0, e1, e2, hk8⟩ := zeroEnd hx
                clear hx hrc hcc hbc hac HTI
                go_wp2
                refine bodyPost_ret (v := .tuple #[.agg #[.int .i64 0, .string ⟨#[]⟩, .slice none 0 0], .int .i64 3]) (by rw [results_cell_tmp rfl]; go_simp) rfl ?_
                exact dec_failed HON.out (Nat.le_refl _) HBC.out hk8
              | some xz =>
                obtain ⟨z, rz⟩ := xz
                rw [hqz] at hta
                have HTI := hide hta
                have hrz := takeN_len hqz
                have HNY := hide (HNX.out.trans (legsQ_yes HQA.out hqz))
                have HRZ := hide (show rz.length ≤ 20000 from by have := HRA.out; omega)
                obtain ⟨mz, emz⟩ : ∃ mz, mz = zag z := ⟨_, rfl⟩
                have HMZ := hide emz
                have hwa : IntKind.i64.wrap a = a := by rw [IntKind.wrap_i64]; omega
                clear hta hqz hrz
                generalize ra.length = ral at *
                go_wp2_with (go_at_call 51; refine halted ?_)
                refine go_on ?_
                refine HTI.out.mono ?_
                rintro e wd ⟨Bc, dc, rfl, hrc, hcc, hbc, hac⟩
                dsimp only [tookZ] at *
                rw [← emz]
                clear emz
                have hbad : Below wr.heap.size wr wd := HBAr.out.trans (hbc.mono HBAr.out.size)
                obtain ⟨hl6, hq6⟩ := HLT.out
                have hx6d := (hbad.block q6 hl6).trans HX6.out
                have hx2d := (hbad.block w.heap.size (by omega)).trans HX2.out
                have hownd := (Kept.of_below (S := fun _ => False) hbad).own HOWN.out (fun _ _ h => h)
                have k6 : wd.cell? ⟨q6, 2, none⟩ = some (.slice A6 k c6) := Joins.cell_of_block hx6d 2
                have HX6D := hide hx6d
                have HX2D := hide hx2d
                have HOWND := hide hownd
                have HBD := hide (HB.out.trans (hbad.mono HB.out.size))
                have HZD := hide hbad.size
                have HRC := hide hrc
                have HCC := hide hcc
                have HAC := hide hac
                clear hrc hcc hbc hac hbad hx6d hx2d hownd HTI hl6 hq6 HX6 HX2 HOWN HB
                generalize hrl2 : rz.length = rl2 at *
                have HRL2 := hide hrl2
                clear hrl2
                go_wp2_with (at_builtin; refine halted ?_)
                refine go_on ?_
                obtain ⟨hl6, hq6⟩ := HLT.out
                have hzd := HZD.out
                have hm20 := HM20.out
                refine wpList_append_own _ rfl (.tmp 85) (.tmp 90) 23 rfl (q6 + 1) 51 i1 _ 2 16 Try.underlying23 hj hw0 hw1 hw2 rfl (by decide) A6 k c6 (legCells ls) rfl (World.ownsRow.alloc HOWND.out _) _ _ 1 _ [.int .i64 a, .int .i64 mz] rfl rfl (Row.new wd #[.int .i64 a, .int .i64 mz] 51 (0, 0)) (by intro u hu; simp at hu; rcases hu with rfl | rfl <;> rfl) (by unfold maxLen; omega) (by omega) (by simp; omega) ?_
                intro n' xs' A7 c7 wf hn' hxs' _ _ hownf hgf hatf
                obtain rfl : n' = k + 1 := hn'.out
                have hxe : xs' = legCells (ls ++ [(a, mz)]) := by rw [hxs'.out, legCells_append]; rfl
                rw [hxe] at hownf
                rw [World.size_alloc] at hatf
                have hlowf : ∀ j, InRow A7 j → q6 + 1 ≤ j ∧ j < wf.heap.size := fun j hj => World.ownsRow.lt hownf j (by rw [ownBlock_slice]; exact hj)
                have hkf : Kept (fun j => InRow A6 j) wd wf := ((Kept.refl wd).alloc _).trans (Kept.of_grown hgf (fun j e => e))
                have hlowd : ∀ j, InRow A6 j → q6 + 1 ≤ j := fun j hj => (HLOW.out j hj).1
                have hx6f := (hkf.block q6 (by omega) (fun h => by have := hlowd _ h; omega)).trans HX6D.out
                have k6' : wf.cell? ⟨q6, 2, none⟩ = some (.slice A6 k c6) := Joins.cell_of_block hx6f 2
                have f6 : wf.frozen? ⟨q6, 2, none⟩ = false := Joins.unfrozen_of_block hx6f 2
                have hx6g := Joins.block_setCell (i := 2) hx6f (.slice A7 (k + 1) c7)
                simp at hx6g
                have hkg : Kept (fun j => InRow A6 j ∨ j = q6) wd (wf.setCell ⟨q6, 2, none⟩ (.slice A7 (k + 1) c7)) := (hkf.wider fun j _ e => .inl e).trans (Kept.set (S := fun j => InRow A6 j ∨ j = q6) wf (.inr rfl) 2 _)
                have hkg2 : Kept (fun j => j = q6) wf (wf.setCell ⟨q6, 2, none⟩ (.slice A7 (k + 1) c7)) := Kept.set (S := fun j => j = q6) wf rfl 2 _
                have hrg : Bytes _ _ Bc rz := (hkg.bytes HRC.out (Nat.le_refl _) (HAC.out.less fun j hj => by
                  rcases hj with h | h
                  · exact .inr h
                  · exact .inl h)).more hkg.size
                have haw : Away (Ys q6 A7) Bc rz := by
                  intro hne ad had hx
                  rcases hx with h | h
                  · exact HAC.out hne ad had (.inl h)
                  · rcases hatf with e | e
                    · exact HAC.out hne ad had (.inr (by unfold InRow at h ⊢; rw [← e]; exact h))
                    · refine Away.of_bytes (X := fun j => j = wd.heap.size + 1) HRC.out (fun j hj => by omega) hne ad had ?_
                      unfold InRow at h
                      rw [e] at h
                      injection h with h
                      exact h.symm
                have hrel2 : RDqRel w q6 day tx m r3 (.slice Bc rl2 dc) (.int .u64 ((k : Int) + 1)) (wf.setCell ⟨q6, 2, none⟩ (.slice A7 (k + 1) c7)) :=
                  ⟨k + 1, ls ++ [(a, mz)], rz, A7, Bc, c7, dc, hlt, by simp, by rw [HRL2.out], ⟨by rw [List.length_append, HL.out.1]; rfl, by rw [HNY.out, HEA.out, HMZ.out], by rw [HRL2.out]; exact HRZ.out⟩, hrg, by rw [HRL2.out]; exact HCC.out, haw, hx6g, hkg2.own hownf (fun j hj hs => by have := hlowf j hj; omega),
                    (hkg.block w.heap.size (by omega) (fun h => by
                      rcases h with h | h
                      · have := hlowd _ h; omega
                      · omega)).trans HX2D.out,
                    HBD.out.trans (hkg.below (fun j hj => by
                      rcases hj with h | h
                      · have := hlowd _ h; omega
                      · omega) (by omega))⟩
                have HR2 := hide hrel2
                clear hn' hxs' hownf hgf hatf hxe hlowf hkf hlowd hx6f hx6g hkg hkg2 hrg haw hrel2 hl6 hq6 hzd HX6D HX2D HOWND HBD HRL2 hm20 k6
                go_wp2
                case roundEnd => exact ⟨HR2.out, by simp [intOf]; omega⟩
          · have hkE : k = m := by omega
            subst hkE
            have hge : mi ≤ (k : Int) := by have := HMI.out; omega
            have HLQ := hide (show legsQ k [] r3 = some (ls, rk) from by rw [HL.out.2.1, Nat.sub_self]; rfl)
            have HLL := hide HL.out.1
            have HOE := hide (HO.out.trans (decQ_end HQ1.out HQ2.out HQ3.out HLQ.out))
            have b0 : wr.cell? ⟨q6, 0, none⟩ = some (.int .i64 day) := Joins.cell_of_block hx6 0
            have b1 : wr.cell? ⟨q6, 1, none⟩ = some (.string tx) := Joins.cell_of_block hx6 1
            have b2 : wr.cell? ⟨q6, 2, none⟩ = some (.slice A6 k c6) := Joins.cell_of_block hx6 2
            have hrow := Row.of_own hown
            have hm20 := HM20.out
            have HRA := hide (rright_any day tx A6 wr.heap.size k c6 ls wr HLL.out hrow (Nat.le_refl _) (by omega) (by unfold maxLen; have := HTXL.out; omega))
            have HRO := hide (show ∀ wz, Below wr.heap.size wr wz → ∀ wy, Kept (fun k => k = w.heap.size) wz wy → Row wy wy.heap.size A6 (legCells ls) from fun wz h1 wy h2 => by
              have h3 : Kept (fun k => k = w.heap.size) wr wy := (Kept.of_below h1).trans h2
              exact Row.of_own (h3.own hown (fun j hj e => by have := hlow j hj; omega)))
            have HX6 := hide hx6
            have HX2 := hide hx2
            have HB := hide hb
            have HLT := hide (show w.heap.size < wr.heap.size ∧ q6 < wr.heap.size ∧ w.heap.size + 1 ≤ q6 from ⟨(Array.getElem?_eq_some_iff.1 hx2).1, hl6, hq6⟩)
            have HRKL := hide (show 0 < rk.length → rk ≠ [] from fun h e => by subst e; simp at h)
            have HRKN := hide (show ¬ 0 < rk.length → rk = [] from fun h => List.eq_nil_of_length_eq_zero (by omega))
            clear hrk hrkc haw hown hx6 hx2 hb hlow hl6 hq6 hrow hlt hk hX hrkl hm20
            generalize rk.length = rkl at *
            go_wp2_with (go_at_call 45; refine halted ?_)
            refine go_on ?_
            refine HRA.out.mono ?_
            rintro e wz ⟨rfl, hbz⟩
            obtain ⟨hl2, hl6, hq6⟩ := HLT.out
            have hx5 := (hbz.block w.heap.size hl2).trans HX2.out
            have hbz' : Below w.heap.size w wz := HB.out.trans (hbz.mono (by omega))
            cases hRT : rightE day tx.size ls with
            | false =>
              have HON := hide (show O = none from by
                rw [HOE.out, if_neg]
                rintro ⟨_, h⟩
                rw [HTX.out, strB_size, HDAY.out, h] at hRT
                cases hRT)
              obtain ⟨d0, d1, d2, s0, s1, s2, e0, e1, e2, hk8⟩ := zeroEnd hx5
              have HB9 := hide hbz'
              clear hx5 hbz hbz' hl2 hl6 hq6 HRA b0 b1 b2 hRT
              go_wp2
              refine bodyPost_ret (v := .tuple #[.agg #[.int .i64 0, .string ⟨#[]⟩, .slice none 0 0], .int .i64 3]) (by rw [results_cell_tmp rfl]; go_simp) rfl ?_
              exact dec_failed HON.out (Nat.le_refl _) HB9.out hk8
            | true =>
              by_cases hne : 0 < rkl
              · have HON := hide (show O = none from by
                  rw [HOE.out, if_neg]
                  rintro ⟨h, _⟩
                  exact HRKL.out hne h)
                have hne' : 0 < (rkl : Int) := by omega
                obtain ⟨d0, d1, d2, s0, s1, s2, e0, e1, e2, hk8⟩ := zeroEnd hx5
                have HB9 := hide hbz'
                clear hx5 hbz hbz' hl2 hl6 hq6 HRA b0 b1 b2 hRT hne
                go_wp2
                refine bodyPost_ret (v := .tuple #[.agg #[.int .i64 0, .string ⟨#[]⟩, .slice none 0 0], .int .i64 3]) (by rw [results_cell_tmp rfl]; go_simp) rfl ?_
                exact dec_failed HON.out (Nat.le_refl _) HB9.out hk8
              · have hne' : (rkl : Int) ≤ 0 := by omega
                have HON := hide (show O = some (day, t, ls) from by
                  rw [HTX.out, strB_size, HDAY.out] at hRT
                  rw [HOE.out, if_pos ⟨HRKN.out hne, hRT⟩, ← HDAY.out])
                have HRT := hide (show rightE day t.length ls = true from by rw [HTX.out, strB_size] at hRT; exact hRT)
                have hx6 := (hbz.block q6 hl6).trans HX6.out
                have b0 : wz.cell? ⟨q6, 0, none⟩ = some (.int .i64 day) := Joins.cell_of_block hx6 0
                have b1 : wz.cell? ⟨q6, 1, none⟩ = some (.string tx) := Joins.cell_of_block hx6 1
                have b2 : wz.cell? ⟨q6, 2, none⟩ = some (.slice A6 k c6) := Joins.cell_of_block hx6 2
                have d0 : wz.cell? ⟨w.heap.size, 0, none⟩ = some (.int .i64 0) := Joins.cell_of_block hx5 0
                have d1 : wz.cell? ⟨w.heap.size, 1, none⟩ = some (.string ⟨#[]⟩) := Joins.cell_of_block hx5 1
                have d2 : wz.cell? ⟨w.heap.size, 2, none⟩ = some (.slice none 0 0) := Joins.cell_of_block hx5 2
                have s0 : wz.frozen? ⟨w.heap.size, 0, none⟩ = false := Joins.unfrozen_of_block hx5 0
                have hx6' := Joins.block_setCell (i := 0) hx5 (.int .i64 day)
                have s1 : (wz.setCell ⟨w.heap.size, 0, none⟩ (.int .i64 day)).frozen? ⟨w.heap.size, 1, none⟩ = false := Joins.unfrozen_of_block hx6' 1
                have hx7 := Joins.block_setCell (i := 1) hx6' (.string tx)
                have s2 := Joins.unfrozen_of_block hx7 2
                have hx8 := Joins.block_setCell (i := 2) hx7 (.slice A6 k c6)
                have e0 := Joins.cell_of_block hx8 0
                have e1 := Joins.cell_of_block hx8 1
                have e2 := Joins.cell_of_block hx8 2
                simp at e0 e1 e2 s2
                have hk8 : Kept (fun k => k = w.heap.size) wz (((wz.setCell ⟨w.heap.size, 0, none⟩ (.int .i64 day)).setCell ⟨w.heap.size, 1, none⟩ (.string tx)).setCell ⟨w.heap.size, 2, none⟩ (.slice A6 k c6)) := ((Kept.set (S := fun k => k = w.heap.size) wz rfl 0 _).trans (Kept.set (S := fun k => k = w.heap.size) _ rfl 1 _)).trans (Kept.set (S := fun k => k = w.heap.size) _ rfl 2 _)
                have hrow8 := HRO.out _ hbz _ hk8
                have HRW := hide hrow8
                have HB8 := hide (hbz'.trans (hk8.below (fun j hj => by omega) hbz'.size))
                clear hx5 hx6 hx6' hx7 hx8 hrow8 hbz hbz' hk8 hl2 hl6 hq6 hRT hne
                go_wp2
                refine bodyPost_ret (v := .tuple #[.agg #[.int .i64 day, .string tx, .slice A6 k c6], .int .i64 0]) (by rw [results_cell_tmp rfl]; go_simp) rfl ?_
                rw [HON.out]
                exact ⟨A6, c6, by rw [← HTX.out, HLL.out], HRW.out, HB8.out, HRT.out⟩
end Go.Proofs.Ytibanikfalfmcaa
