/-
  chart.Decode of any bytes.
-/
import Derived.Test.YtibanikfalfmcaaDecQ1
import Derived.Test.YtibanikfalfmcaaDecC
namespace Go.Proofs.Ytibanikfalfmcaa
open Go.RowKit
set_option linter.unusedVariables false

/-- The empty posting of a result, stored. -/
theorem zeroEnd {q : Nat} {W : World} (hx : W.heap[q]? = some (.cells #[.int .i64 0, .string ⟨#[]⟩, .slice none 0 0] 25 (0, 0))) :
    W.cell? ⟨q, 0, none⟩ = some (.int .i64 0) ∧ W.cell? ⟨q, 1, none⟩ = some (.string ⟨#[]⟩) ∧ W.cell? ⟨q, 2, none⟩ = some (.slice none 0 0) ∧ W.frozen? ⟨q, 0, none⟩ = false ∧
    (W.setCell ⟨q, 0, none⟩ (.int .i64 0)).frozen? ⟨q, 1, none⟩ = false ∧ ((W.setCell ⟨q, 0, none⟩ (.int .i64 0)).setCell ⟨q, 1, none⟩ (.string ⟨#[]⟩)).frozen? ⟨q, 2, none⟩ = false ∧
    (((W.setCell ⟨q, 0, none⟩ (.int .i64 0)).setCell ⟨q, 1, none⟩ (.string ⟨#[]⟩)).setCell ⟨q, 2, none⟩ (.slice none 0 0)).cell? ⟨q, 0, none⟩ = some (.int .i64 0) ∧
    (((W.setCell ⟨q, 0, none⟩ (.int .i64 0)).setCell ⟨q, 1, none⟩ (.string ⟨#[]⟩)).setCell ⟨q, 2, none⟩ (.slice none 0 0)).cell? ⟨q, 1, none⟩ = some (.string ⟨#[]⟩) ∧
    (((W.setCell ⟨q, 0, none⟩ (.int .i64 0)).setCell ⟨q, 1, none⟩ (.string ⟨#[]⟩)).setCell ⟨q, 2, none⟩ (.slice none 0 0)).cell? ⟨q, 2, none⟩ = some (.slice none 0 0) ∧
    Hid (Kept (fun k => k = q) W (((W.setCell ⟨q, 0, none⟩ (.int .i64 0)).setCell ⟨q, 1, none⟩ (.string ⟨#[]⟩)).setCell ⟨q, 2, none⟩ (.slice none 0 0))) := by
  have hx6 := Joins.block_setCell (i := 0) hx (.int .i64 0)
  have hx7 := Joins.block_setCell (i := 1) hx6 (.string ⟨#[]⟩)
  have hx8 := Joins.block_setCell (i := 2) hx7 (.slice none 0 0)
  have d0 := Joins.cell_of_block hx 0
  have d1 := Joins.cell_of_block hx 1
  have d2 := Joins.cell_of_block hx 2
  have e0 := Joins.cell_of_block hx8 0
  have e1 := Joins.cell_of_block hx8 1
  have e2 := Joins.cell_of_block hx8 2
  simp at d0 d1 d2 e0 e1 e2
  exact ⟨d0, d1, d2, Joins.unfrozen_of_block hx 0, Joins.unfrozen_of_block hx6 1, Joins.unfrozen_of_block hx7 2, e0, e1, e2, ((Kept.set (S := fun k => k = q) W rfl 0 _).trans (Kept.set (S := fun k => k = q) _ rfl 1 _)).trans (Kept.set (S := fun k => k = q) _ rfl 2 _)⟩
/-- A decoding that failed. -/
theorem dec_failed {w W : World} {O : Option (Int × List UInt8 × List (Int × Int))} (hO : O = none) {q : Nat} (hq : w.heap.size ≤ q) (hb : Below w.heap.size w W) {W' : World} (hk : Hid (Kept (fun k => k = q) W W')) :
    DecP w W' (.returned (.tuple #[.agg #[.int .i64 0, .string ⟨#[]⟩, .slice none 0 0], .int .i64 3])) O := by
  subst hO
  exact ⟨rfl, hb.trans (hk.out.below (fun j hj => by omega) hb.size)⟩
theorem strB_tx (t : List UInt8) : (strB t).data.toList = t := by unfold strB; simp
theorem strB_size (t : List UInt8) : (strB t).size = t.length := by unfold strB; simp [ByteArray.size]
theorem away_less3 {q1 q4 q6 : Nat} {W : World} {A : Option Addr} {bs : List UInt8} (h : Away (fun k => k = q1 ∨ k = q4) A bs) (hr : Bytes W W.heap.size A bs) (hq : W.heap.size ≤ q6) : Away (Xs q1 q4 q6 none) A bs := by
  intro hne a ha hx
  rcases hx with h1 | h1 | h1 | h1
  · exact h hne a ha (.inl h1)
  · exact h hne a ha (.inr h1)
  · exact Away.of_bytes (X := fun k => k = q6) hr (fun k hk => by omega) hne a ha h1
  · unfold InRow at h1; simp at h1

/-- The state of 'Decode' ahead of the k-th leg. -/
def DqRel (w : World) (q1 q2 q4 q6 : Nat) (day : Int) (tx : ByteArray) (n : Nat) (r0 : List UInt8) (i : Value) (wr : World) : Prop :=
  ∃ (k : Nat) (ls : List (Int × Int)) (r : List UInt8) (A B : Option Addr) (c d : Nat), k ≤ n ∧ i = .int .i64 (k : Int) ∧ Hid (ls.length = k ∧ legsQ n [] r0 = legsQ (n - k) ls r ∧ r.length ≤ 20000) ∧ Dc q1 q4 (Xs q1 q4 q6 A) r B d wr ∧ wr.heap[q6]? = some (.cells #[.int .i64 day, .string tx, .slice A k c] 25 (0, 0)) ∧
    wr.ownsRow (q6 + 1) 51 2 (.slice A k c) k (legCells ls) ∧ wr.heap[q2]? = some (.cells #[.int .i64 0, .string ⟨#[]⟩, .slice none 0 0] 25 (0, 0)) ∧ Below w.heap.size w wr

theorem legsQ_wf : ∀ {n : Nat} {l0 : List (Int × Int)} {bs : List UInt8} {ls : List (Int × Int)} {r : List UInt8}, legsQ n l0 bs = some (ls, r) → (∀ x ∈ l0, (Lit.int .i64 x.1).wf = true) → ∀ x ∈ ls, (Lit.int .i64 x.1).wf = true
  | 0, l0, bs, ls, r, h, h0 => by
    unfold legsQ at h
    injection h with h
    injection h with h1 h2
    subst h1
    exact h0
  | n + 1, l0, bs, ls, r, h, h0 => by
    cases hq : numQ 99999 bs with
    | none => rw [legsQ_no1 hq] at h; cases h
    | some x =>
      obtain ⟨a, s⟩ := x
      cases hz : takeN s with
      | none => rw [legsQ_no2 hq hz] at h; cases h
      | some y =>
        obtain ⟨z, s2⟩ := y
        rw [legsQ_yes hq hz] at h
        have ha := (numQ_some hq).2
        refine legsQ_wf h fun x hx => ?_
        rcases List.mem_append.1 hx with hx | hx
        · exact h0 x hx
        · simp at hx
          subst hx
          simp [Lit.wf, IntKind.min, IntKind.max, IntKind.signed, IntKind.bits]
          omega

set_option maxRecDepth 100000 in
set_option maxHeartbeats 4000000 in
theorem decodeQ_any (A : Option Addr) (n c : Nat) (bs : List UInt8) (w : World) (hn : bs.length = n) (hr : Bytes w w.heap.size A bs) (hc : n ≤ c) (hl : n ≤ 20000) :
    Calls Try.prog 17 #[.slice A n c] w fun e w' => DecP w w' e (decQ 3652058 bs) := by
  obtain ⟨O, HO⟩ : ∃ O, Hid (O = decQ 3652058 bs) := ⟨_, rfl⟩
  rw [← HO.out]
  obtain ⟨w3, hw3⟩ : ∃ w3, w3 = ((w.alloc (.cells #[.slice A n c] 40)).alloc (.cells #[.int .i64 0, .string ⟨#[]⟩, .slice none 0 0] 25)).alloc (.cells #[.bool true] 4) := ⟨_, rfl⟩
  have hb3 : Below w.heap.size w w3 := by rw [hw3]; exact ((below_new w _).alloc (by simp) _).alloc (by simp; omega) _
  have hz3 : w3.heap.size = w.heap.size + 3 := by rw [hw3]; simp
  have hx1 : Boxed w3 w.heap.size 40 (.slice A n c) := by rw [hw3]; exact ((Boxed.new w _ _).alloc _).alloc _
  have hx2 : w3.heap[w.heap.size + 1]? = some (.cells #[.int .i64 0, .string ⟨#[]⟩, .slice none 0 0] 25 (0, 0)) := by
    rw [hw3]
    have h1 := heap_alloc_new (w.alloc (.cells #[.slice A n c] 40)) (.cells #[.int .i64 0, .string ⟨#[]⟩, .slice none 0 0] 25)
    rw [World.size_alloc] at h1
    exact ((below_new _ _).block _ (by simp)).trans h1
  have hx4 : Boxed w3 (w.heap.size + 1 + 1) 4 (.bool true) := by
    rw [hw3]
    have h1 := Boxed.new ((w.alloc (.cells #[.slice A n c] 40)).alloc (.cells #[.int .i64 0, .string ⟨#[]⟩, .slice none 0 0] 25)) 4 (.bool true)
    simpa using h1
  have hdc : Dc w.heap.size (w.heap.size + 1 + 1) (fun k => k = w.heap.size ∨ k = w.heap.size + 1 + 1) bs A c w3 := ⟨by rw [hn]; exact hx1, hx4, (hr.below hb3).more hb3.size, by rw [hn]; exact hc, Away.of_bytes (hr.below hb3) (fun k hk => by omega)⟩
  have HX2 := hide hx2
  have HB3 := hide hb3
  have HZ3 := hide hz3
  cases hq1 : numQ 3652058 bs with
  | none =>
    have HD := hide (dnumN_any w.heap.size (w.heap.size + 1 + 1) (fun k => k = w.heap.size ∨ k = w.heap.size + 1 + 1) bs 3652058 A c w3 hdc (fun k hk => by omega) (by omega) (.inl rfl) (.inr rfl) (by omega) hq1 (by omega) (by omega))
    have HON := hide (HO.out.trans (decQ_no1 hq1))
    clear hx1 hx2 hx4 hb3 hz3 hdc hr hq1 HO
    go_enter Try.func17, Try.ntmps17
    go_wp2_with (go_at_call 39; refine halted ?_)
    refine go_on ?_
    rw [← hw3]
    refine HD.out.mono ?_
    rintro e w4 ⟨rfl, hd4, hk4⟩
    clear hw3 HD
    have hz4 : w.heap.size + 3 ≤ w4.heap.size := by have := hk4.size; have := HZ3.out; omega
    have hx2 := (hk4.block (w.heap.size + 1) (by have := HZ3.out; omega) (by omega)).trans HX2.out
    have hb4 : Below w.heap.size w w4 := HB3.out.trans (hk4.below (fun j hj => by omega) HB3.out.size)
    obtain ⟨w5, hw5⟩ : ∃ w5, w5 = w4.alloc (.cells #[.int .i64 0, .string ⟨#[]⟩, .slice none 0 0] 25) := ⟨_, rfl⟩
    have hb5 : Below w4.heap.size w4 w5 := by rw [hw5]; exact below_new _ _
    have hz5 : w5.heap.size = w4.heap.size + 1 := by rw [hw5]; simp
    have hrow5 := hd4.row.below hb5
    have htt := takeText_any A w5.heap.size c n bs w5 hn (hrow5.more hb5.size) (Nat.le_refl _) (by omega) hd4.cap hd4.away (fun k hk => by omega)
    have HTT := hide htt
    have hbox5 : Boxed w5 w.heap.size 40 _ := (hb5.block _ hd4.box.lt).trans hd4.box
    have hfin5 : Boxed w5 (w.heap.size + 1 + 1) 4 _ := (hb5.block _ hd4.fine.lt).trans hd4.fine
    have hx25 := (hb5.block _ (by omega)).trans hx2
    have k1 := hbox5.cell
    have k1' : w4.cell? ⟨w.heap.size, 0, none⟩ = some _ := hd4.box.cell
    rw [hn] at k1 k1'
    have hne4 : w.heap.size ≠ w4.heap.size := by omega
    have hne4' : w4.heap.size ≠ w.heap.size := by omega
    rw [hw5] at k1
    have HK5 := hide (show Boxed w5 (w.heap.size + 1 + 1) 4 (.bool false) ∧ w5.heap[w.heap.size + 1]? = _ ∧ Below w.heap.size w w5 ∧ w.heap.size + 3 ≤ w4.heap.size ∧ w5.heap.size = w4.heap.size + 1 from ⟨hfin5, hx25, hb4.trans (hb5.mono hb4.size), hz4, hz5⟩)
    clear hd4 hk4 hz4 hx2 hb4 hb5 hz5 hrow5 htt hbox5 hfin5 hx25 HX2 HB3 HZ3
    generalize takeT bs = TT at *
    go_wp2_with (go_at_call 41; refine halted ?_)
    refine go_on ?_
    rw [← hw5]
    clear hw5 k1 k1' hne4 hne4'
    refine HTT.out.mono ?_
    rintro e w6 ⟨A2, c2, A3, c3, rfl, ht, htc, hr6, hrc, hb6, hat, har⟩
    obtain ⟨hfin5, hx25, hb5, hz4, hz5⟩ := HK5.out
    have hfin6 : Boxed w6 (w.heap.size + 1 + 1) 4 _ := (hb6.block _ hfin5.lt).trans hfin5
    have hx26 := (hb6.block _ (by omega)).trans hx25
    have k4 := hfin6.cell
    have HB6 := hide (hb5.trans (hb6.mono hb5.size))
    obtain ⟨d0, d1, d2, s0, s1, s2, e0, e1, e2, hk8⟩ := zeroEnd hx26
    generalize tookT TT = R at *
    obtain ⟨t, r2, ee⟩ := R
    dsimp only
    clear hfin5 hx25 hb5 hz4 hz5 hfin6 hx26 ht htc hr6 hrc hb6 hat har HTT HK5
    go_wp2
    refine bodyPost_ret (v := .tuple #[.agg #[.int .i64 0, .string ⟨#[]⟩, .slice none 0 0], .int .i64 3]) (by rw [results_cell_tmp rfl]; go_simp) rfl ?_
    exact dec_failed HON.out (Nat.le_succ _) HB6.out hk8
  | some x1 =>
    obtain ⟨x, r⟩ := x1
    have HD := hide (dnumY_any w.heap.size (w.heap.size + 1 + 1) (fun k => k = w.heap.size ∨ k = w.heap.size + 1 + 1) x bs r 3652058 A c w3 hdc (fun k hk => by omega) (by omega) (.inl rfl) (.inr rfl) (by omega) hq1 (by omega))
    have HQ1 := hide hq1
    have HRL := hide (numQ_len hq1)
    obtain ⟨day, hday⟩ : ∃ day : Int, day = (x : Int) := ⟨_, rfl⟩
    rw [← hday] at HD
    have HDAY := hide hday
    clear hx1 hx2 hx4 hb3 hz3 hdc hr hq1 hday
    go_enter Try.func17, Try.ntmps17
    go_wp2_with (go_at_call 39; refine halted ?_)
    refine go_on ?_
    rw [← hw3]
    refine HD.out.mono ?_
    rintro e w4 ⟨rfl, ⟨A4, c4, hd4⟩, hk4⟩
    clear hw3 HD
    have hz4 : w.heap.size + 3 ≤ w4.heap.size := by have := hk4.size; have := HZ3.out; omega
    have hx2 := (hk4.block (w.heap.size + 1) (by have := HZ3.out; omega) (by omega)).trans HX2.out
    have hb4 : Below w.heap.size w w4 := HB3.out.trans (hk4.below (fun j hj => by omega) HB3.out.size)
    obtain ⟨w5, hw5⟩ : ∃ w5, w5 = w4.alloc (.cells #[.int .i64 day, .string ⟨#[]⟩, .slice none 0 0] 25) := ⟨_, rfl⟩
    have hb5 : Below w4.heap.size w4 w5 := by rw [hw5]; exact below_new _ _
    have hz5 : w5.heap.size = w4.heap.size + 1 := by rw [hw5]; simp
    have hx6 : w5.heap[w4.heap.size]? = some (.cells #[.int .i64 day, .string ⟨#[]⟩, .slice none 0 0] 25 (0, 0)) := by rw [hw5]; exact heap_alloc_new _ _
    have hrow5 := hd4.row.below hb5
    have haw5 := away_less3 (q6 := w4.heap.size) hd4.away hd4.row (Nat.le_refl _)
    have hrl := HRL.out
    have htt := takeText_any A4 w5.heap.size c4 _ r w5 rfl (hrow5.more hb5.size) (Nat.le_refl _) (by omega) hd4.cap haw5 (fun k hk => by
      rcases hk with h | h | h | h
      · omega
      · omega
      · omega
      · unfold InRow at h; simp at h)
    have hbox5 : Boxed w5 w.heap.size 40 _ := (hb5.block _ hd4.box.lt).trans hd4.box
    have hfin5 : Boxed w5 (w.heap.size + 1 + 1) 4 _ := (hb5.block _ hd4.fine.lt).trans hd4.fine
    have hx25 := (hb5.block _ (by omega)).trans hx2
    have k1 := hbox5.cell
    have k1' : w4.cell? ⟨w.heap.size, 0, none⟩ = some _ := hd4.box.cell
    have hne4 : w.heap.size ≠ w4.heap.size := by omega
    have hne4' : w4.heap.size ≠ w.heap.size := by omega
    rw [hw5] at k1
    have HK5 := hide (show Boxed w5 (w.heap.size + 1 + 1) 4 (.bool true) ∧ w5.heap[w.heap.size + 1]? = _ ∧ Below w.heap.size w w5 ∧ w.heap.size + 3 ≤ w4.heap.size ∧ w5.heap.size = w4.heap.size + 1 from ⟨hfin5, hx25, hb4.trans (hb5.mono hb4.size), hz4, hz5⟩)
    have HX6 := hide hx6
    have HBX := hide hbox5
    generalize hbl : r.length = bl at *
    have HBL := hide hbl
    cases hq2 : takeT r with
    | none =>
      rw [hq2] at htt
      have HTT := hide htt
      have HON := hide (HO.out.trans (decQ_no2 HQ1.out hq2))
      clear hd4 hk4 hz4 hx2 hb4 hb5 hz5 hx6 hrow5 haw5 htt hbox5 hfin5 hx25 HX2 HB3 HZ3 hbl hq2 HO hrl
      go_wp2_with (go_at_call 41; refine halted ?_)
      refine go_on ?_
      rw [← hw5]
      clear hw5 k1 k1' hne4 hne4'
      refine HTT.out.mono ?_
      rintro e w6 ⟨A2, c2, A3, c3, rfl, ht, htc, hr6, hrc, hb6, hat, har⟩
      dsimp only [tookT] at *
      obtain ⟨hfin5, hx25, hb5, hz4, hz5⟩ := HK5.out
      have hfin6 : Boxed w6 (w.heap.size + 1 + 1) 4 _ := (hb6.block _ hfin5.lt).trans hfin5
      have hx26 := (hb6.block _ (by omega)).trans hx25
      have k4 := hfin6.cell
      have HB6 := hide (hb5.trans (hb6.mono hb5.size))
      obtain ⟨d0, d1, d2, s0, s1, s2, e0, e1, e2, hk8⟩ := zeroEnd hx26
      clear hfin5 hx25 hb5 hz4 hz5 hfin6 hx26 ht htc hr6 hrc hb6 hat har HTT HK5
      go_wp2
      refine bodyPost_ret (v := .tuple #[.agg #[.int .i64 0, .string ⟨#[]⟩, .slice none 0 0], .int .i64 3]) (by rw [results_cell_tmp rfl]; go_simp) rfl ?_
      exact dec_failed HON.out (Nat.le_succ _) HB6.out hk8
    | some x2 =>
      obtain ⟨t, r2⟩ := x2
      rw [hq2] at htt
      have HTT := hide htt
      have HQ2 := hide hq2
      have HTL := hide (show r2.length ≤ bl ∧ t.length ≤ bl from by have := takeT_len hq2; omega)
      obtain ⟨tx, htx⟩ : ∃ tx, tx = strB t := ⟨_, rfl⟩
      have HTX := hide htx
      clear hd4 hk4 hz4 hx2 hb4 hb5 hz5 hx6 hrow5 haw5 htt hbox5 hfin5 hx25 HX2 HB3 HZ3 hbl hq2 hrl
      go_wp2_with (go_at_call 41; refine halted ?_)
      refine go_on ?_
      rw [← hw5]
      clear hw5 k1 k1' hne4 hne4'
      refine HTT.out.mono ?_
      rintro e w6 ⟨A2, c2, A3, c3, rfl, ht, htc, hr6, hrc, hb6, hat, har⟩
      dsimp only [tookT] at *
      obtain ⟨hfin5, hx25, hb5, hz4, hz5⟩ := HK5.out
      have hbox6 : Boxed w6 w.heap.size 40 _ := (hb6.block _ HBX.out.lt).trans HBX.out
      have hfin6 : Boxed w6 (w.heap.size + 1 + 1) 4 _ := (hb6.block _ hfin5.lt).trans hfin5
      have hx26 := (hb6.block _ (by omega)).trans hx25
      have hx66 := (hb6.block _ (by omega)).trans HX6.out
      have k4 := hfin6.cell
      have hstr := run_str (P := Try.prog) (w := w6) (dst := 9) (c := c2) Try.underlying40 Try.underlying5 Try.underlying9 ht rfl
      rw [← htx] at hstr
      have f6 : w6.frozen? ⟨w4.heap.size, 1, none⟩ = false := Joins.unfrozen_of_block hx66 1
      have g6 : w6.cell? ⟨w4.heap.size, 1, none⟩ = some (.string ⟨#[]⟩) := Joins.cell_of_block hx66 1
      have hx67 := Joins.block_setCell (i := 1) hx66 (.string tx)
      simp at hx67
      have hkp1 : Kept (fun k => k = w4.heap.size) w6 (w6.setCell ⟨w4.heap.size, 1, none⟩ (.string tx)) := Kept.set (S := fun k => k = w4.heap.size) w6 rfl 1 _
      have hbox7 : Boxed _ w.heap.size 40 _ := (hkp1.block _ hbox6.lt (by omega)).trans hbox6
      have hfin7 : Boxed _ (w.heap.size + 1 + 1) 4 _ := (hkp1.block _ hfin6.lt (by omega)).trans hfin6
      have hx27 := (hkp1.block (w.heap.size + 1) (by have := hb6.size; omega) (by omega)).trans hx26
      have f1 := hbox7.frozen
      have g1 := hbox7.cell
      have hkp2 : Kept (fun k => k = w.heap.size) (w6.setCell ⟨w4.heap.size, 1, none⟩ (.string tx)) ((w6.setCell ⟨w4.heap.size, 1, none⟩ (.string tx)).setCell ⟨w.heap.size, 0, none⟩ (.slice A3 r2.length c3)) := Kept.set (S := fun k => k = w.heap.size) _ rfl 0 _
      have hbox8 := hbox7.set (.slice A3 r2.length c3)
      have hfin8 := hfin7.other (B' := w.heap.size) (by omega) (.slice A3 r2.length c3)
      have hx68 := (hkp2.block w4.heap.size (by have := hkp1.size; have := hb6.size; omega) (by omega)).trans hx67
      have hx28 := (hkp2.block (w.heap.size + 1) (by have := hkp1.size; have := hb6.size; omega) (by omega)).trans hx27
      have hkpb : Kept (fun k => k = w4.heap.size ∨ k = w.heap.size) w6 _ := (hkp1.wider fun j _ e => .inl e).trans (hkp2.wider fun j _ e => .inr e)
      have hb8 : Below w.heap.size w _ := (hb5.trans (hb6.mono (by omega))).trans (hkpb.below (fun j hj => by omega) (by have := hb6.size; omega))
      have hdc8 : Dc w.heap.size (w.heap.size + 1 + 1) (Xs w.heap.size (w.heap.size + 1 + 1) w4.heap.size none) r2 A3 c3 _ := ⟨hbox8, hfin8, (hkpb.bytes hr6 (Nat.le_refl _) (har.less fun j hj => by
        rcases hj with rfl | rfl
        · exact .inr (.inr (.inl rfl))
        · exact .inl rfl)).more hkpb.size, hrc, har⟩
      have HDC := hide hdc8
      have HX28 := hide hx28
      have HX68 := hide hx68
      have HB8 := hide hb8
      have HZ8 := hide (Nat.le_trans hb6.size hkpb.size)
      have HZ5 := hide (And.intro hz4 hz5)
      clear hfin5 hx25 hb5 hz4 hz5 hbox6 hfin6 hx26 hx66 ht hr6 hrc hb6 hat har hx67 hkp1 hbox7 hfin7 hx27 hkp2 hbox8 hfin8 hx68 hx28 hkpb hb8 hdc8 HK5 HX6 HBX HTT htx
      generalize hrl : r2.length = rl at *
      have HRL2 := hide hrl
      clear hrl
      go_wp2_with (go_at_call 39; refine halted ?_)
      refine go_on ?_
      clear f6 g6 f1 g1 k4 hstr
      generalize (w6.setCell ⟨w4.heap.size, 1, none⟩ (.string tx)).setCell ⟨w.heap.size, 0, none⟩ (.slice A3 rl c3) = w8 at *
      have hz5 := HZ5.out.1
      have hz8 := HZ8.out
      have hz6 := HZ5.out.2
      have hX8 : ∀ j, Xs w.heap.size (w.heap.size + 1 + 1) w4.heap.size none j → j < w8.heap.size := fun j hj => by
        rcases hj with h | h | h | h
        · have := HDC.out.box.lt; omega
        · have := HDC.out.fine.lt; omega
        · have := (Array.getElem?_eq_some_iff.1 HX68.out).1; omega
        · unfold InRow at h; simp at h
      have htl := HTL.out
      have hbl := HBL.out
      have hr0 := HRL.out
      have hrl2 := HRL2.out
      cases hq3 : numQ 20 r2 with
      | none =>
        have HON := hide (HO.out.trans (decQ_no3 HQ1.out HQ2.out hq3))
        refine (dnumN_any w.heap.size (w.heap.size + 1 + 1) (Xs w.heap.size (w.heap.size + 1 + 1) w4.heap.size none) r2 20 A3 c3 w8 HDC.out hX8 (by omega) (.inl rfl) (.inr (.inl rfl)) (by omega) hq3 (by omega) (by omega)).mono ?_
        rintro e w9 ⟨rfl, hd9, hk9⟩
        have hx29 := (hk9.block (w.heap.size + 1) (Array.getElem?_eq_some_iff.1 HX28.out).1 (by omega)).trans HX28.out
        have HB9 := hide (HB8.out.trans (hk9.below (fun j hj => by omega) HB8.out.size))
        have k4 : w9.cell? ⟨w.heap.size + 1 + 1, 0, none⟩ = some (.bool false) := hd9.fine.cell
        obtain ⟨d0, d1, d2, s0, s1, s2, e0, e1, e2, hk8⟩ := zeroEnd hx29
        clear hd9 hx29 hk9 hz5 hz6 hz8 HDC HX28 HX68 HB8 HZ8 HZ5 HBL hX8 hq3 htl hbl hr0 hrl2
        go_wp2
        refine wp_loop_rounds 1 ?_
        rw [rounds_succ]
        go_wp2
        refine bodyPost_ret (v := .tuple #[.agg #[.int .i64 0, .string ⟨#[]⟩, .slice none 0 0], .int .i64 3]) (by rw [results_cell_tmp rfl]; go_simp) rfl ?_
        exact dec_failed HON.out (Nat.le_succ _) HB9.out hk8
      | some x3 =>
        obtain ⟨m, r3⟩ := x3
        have hm20 := (numQ_some hq3).2
        have hr3 := numQ_len hq3
        have HQ3 := hide hq3
        refine (dnumY_any w.heap.size (w.heap.size + 1 + 1) (Xs w.heap.size (w.heap.size + 1 + 1) w4.heap.size none) m r2 r3 20 A3 c3 w8 HDC.out hX8 (by omega) (.inl rfl) (.inr (.inl rfl)) (by omega) hq3 (by omega)).mono ?_
        rintro e w9 ⟨rfl, ⟨B9, d9, hd9⟩, hk9⟩
        have hx69 := (hk9.block w4.heap.size (Array.getElem?_eq_some_iff.1 HX68.out).1 (by omega)).trans HX68.out
        have hx29 := (hk9.block (w.heap.size + 1) (Array.getElem?_eq_some_iff.1 HX28.out).1 (by omega)).trans HX28.out
        have hb9 : Below w.heap.size w w9 := HB8.out.trans (hk9.below (fun j hj => by omega) HB8.out.size)
        obtain ⟨q6, hq6⟩ : ∃ q6, q6 = w4.heap.size := ⟨_, rfl⟩
        have HQ6 := hide (show w.heap.size + 3 ≤ q6 from by omega)
        rw [← hq6] at hd9 hx69
        have HST := hide (show DqRel w w.heap.size (w.heap.size + 1) (w.heap.size + 1 + 1) q6 day tx m r3 (.int .i64 0) w9 from ⟨0, [], r3, none, B9, 0, d9, Nat.zero_le _, rfl, ⟨rfl, rfl, by omega⟩, hd9, hx69, World.ownsRow_nil _ _ _ _, hx29, hb9⟩)
        have HTXL := hide (show tx.size ≤ 20000 from by rw [HTX.out, strB_size]; omega)
        have hm20' : m ≤ 20 := by omega
        have HM20 := hide hm20'
        clear hd9 hx69 hx29 hb9 hk9 hz5 hz6 hz8 HDC HX28 HX68 HB8 HZ8 HZ5 HBL hX8 hq3 htl hbl hr0 hrl2 hr3 hm20'
        go_wp2
        rw [← hq6]
        clear hq6
        go_loopw [37] (fun i wr => DqRel w w.heap.size (w.heap.size + 1) (w.heap.size + 1 + 1) q6 day tx m r3 i wr) (fun i _ => m - (intOf i).toNat)
        case atStart => exact HST.out
        case round =>
          obtain ⟨k, ls, rk, A5, B, c5, d, hk, rfl, HL, hdc, hx6, hown, hx2, hb⟩ := hrel
          have hq6 := HQ6.out
          have hlow : ∀ j, InRow A5 j → q6 + 1 ≤ j ∧ j < wr.heap.size := fun j hj => World.ownsRow.lt hown j (by rw [ownBlock_slice]; exact hj)
          have hl1 := hdc.box.lt
          have hl4 := hdc.fine.lt
          have hl6 := (Array.getElem?_eq_some_iff.1 hx6).1
          have hrk := HL.out.2.2
          have hX : ∀ j, Xs w.heap.size (w.heap.size + 1 + 1) q6 A5 j → j < wr.heap.size := fun j hj => by
            rcases hj with h | h | h | h
            · omega
            · omega
            · omega
            · exact (hlow j h).2
          by_cases hlt : k < m
          · have hlt' : (k : Int) < (m : Int) := by omega
            have HNX := hide (show legsQ m [] r3 = legsQ ((m - (k + 1)) + 1) ls rk from by rw [HL.out.2.1, show m - (k + 1) + 1 = m - k from by omega])
            have HOWN := hide hown
            have HX6 := hide hx6
            have HX2 := hide hx2
            have HB := hide hb
            have HLOW := hide hlow
            have HLT := hide (show w.heap.size < wr.heap.size ∧ w.heap.size + 1 + 1 < wr.heap.size ∧ q6 < wr.heap.size ∧ w.heap.size + 3 ≤ q6 from ⟨hl1, hl4, hl6, hq6⟩)
            cases hqa : numQ 99999 rk with
            | none =>
              have HDN := hide (dnumN_any w.heap.size (w.heap.size + 1 + 1) (Xs w.heap.size (w.heap.size + 1 + 1) q6 A5) rk 99999 B d wr hdc hX (by omega) (.inl rfl) (.inr (.inl rfl)) (by omega) hqa (by omega) (by omega))
              have HON := hide (HO.out.trans (decQ_no4 HQ1.out HQ2.out HQ3.out (HNX.out.trans (legsQ_no1 hqa))))
              clear hdc hx6 hown hx2 hb hlow hl1 hl4 hl6 hq6 hrk hX hqa hk
              go_wp2_with (go_at_call 39; refine halted ?_)
              refine go_on ?_
              refine HDN.out.mono ?_
              rintro e wa ⟨rfl, hda, hka⟩
              obtain ⟨hl1, hl4, hl6, hq6⟩ := HLT.out
              obtain ⟨wb, hwb⟩ : ∃ wb, wb = wa.alloc (.cells #[.int .i64 0, .int .i64 0] 51) := ⟨_, rfl⟩
              have hbb : Below wa.heap.size wa wb := by rw [hwb]; exact below_new _ _
              have hsa := hka.size
              have hdb : Df w.heap.size (w.heap.size + 1 + 1) (Xs w.heap.size (w.heap.size + 1 + 1) q6 A5) rk B d wb := hda.kept (Kept.of_below (S := fun _ => False) hbb) (fun j hj => hj.elim) (fun h => h) (fun h => h)
              have hrk := HL.out.2.2
              have hti := takeInt_any B wb.heap.size d _ rk wb rfl hdb.row (Nat.le_refl _) (by omega) hdb.cap hdb.away (fun j hj => by
                have hsb := hbb.size
                rcases hj with h | h | h | h
                · omega
                · omega
                · omega
                · have := HLOW.out j h; omega)
              have HTI := hide hti
              have hkb : Kept (fun j => j = w.heap.size ∨ j = w.heap.size + 1 + 1) wr wb := hka.call hbb
              have HKB := hide hkb
              have hx2b := (hkb.block (w.heap.size + 1) (by omega) (by omega)).trans HX2.out
              have HX2B := hide hx2b
              have HFB := hide hdb.fine
              have k1 : wa.cell? ⟨w.heap.size, 0, none⟩ = some _ := hda.box.cell
              have k1' := hdb.box.cell
              rw [hwb] at k1'
              have hne1 : w.heap.size ≠ wa.heap.size := by omega
              have hne2 : wa.heap.size ≠ w.heap.size := by omega
              generalize takeN rk = TT at *
              generalize hbl : rk.length = bl2 at *
              clear hda hka hbb hsa hdb hrk hti HDN hl1 hl4 hl6 hq6 hbl hkb hx2b
              go_wp2_with (go_at_call 42; refine halted ?_)
              refine go_on ?_
              rw [← hwb]
              clear hwb k1 k1' hne1 hne2
              refine HTI.out.mono ?_
              rintro e wc ⟨Bc, dc, rfl, hrc, hcc, hbc, hac⟩
              have hfc : Boxed wc (w.heap.size + 1 + 1) 4 _ := (hbc.block _ HFB.out.lt).trans HFB.out
              have hx2c := (hbc.block (w.heap.size + 1) (Array.getElem?_eq_some_iff.1 HX2B.out).1).trans HX2B.out
              have k4 := hfc.cell
              have HBC := hide (HB.out.trans ((HKB.out.call hbc).below (fun j hj => by omega) HB.out.size))
              obtain ⟨d0, d1, d2, s0, s1, s2, e0, e1, e2, hk8⟩ := zeroEnd hx2c
              generalize tookZ TT = R at *
              obtain ⟨t9, r9, ee⟩ := R
              dsimp only
              clear hfc hx2c hrc hcc hbc hac HTI
              go_wp2
              refine bodyPost_ret (v := .tuple #[.agg #[.int .i64 0, .string ⟨#[]⟩, .slice none 0 0], .int .i64 3]) (by rw [results_cell_tmp rfl]; go_simp) rfl ?_
              exact dec_failed HON.out (Nat.le_succ _) HBC.out hk8
            | some xa =>
              obtain ⟨an, ra⟩ := xa
              have ha99 := (numQ_some hqa).2
              have hra := numQ_len hqa
              have HDN := hide (dnumY_any w.heap.size (w.heap.size + 1 + 1) (Xs w.heap.size (w.heap.size + 1 + 1) q6 A5) an rk ra 99999 B d wr hdc hX (by omega) (.inl rfl) (.inr (.inl rfl)) (by omega) hqa (by omega))
              obtain ⟨a, ea⟩ : ∃ a : Int, a = (an : Int) := ⟨_, rfl⟩
              rw [← ea] at HDN
              have HEA := hide ea
              have HRL3 := hide (show ra.length ≤ 20000 from by omega)
              have HQA := hide hqa
              have HA99 := hide (show 0 ≤ a ∧ a ≤ 99999 from by omega)
              clear hdc hx6 hown hx2 hb hlow hl1 hl4 hl6 hq6 hrk hX hqa ha99 hra ea hk
              go_wp2_with (go_at_call 39; refine halted ?_)
              refine go_on ?_
              refine HDN.out.mono ?_
              rintro e wa ⟨rfl, ⟨Ba, da, hda⟩, hka⟩
              obtain ⟨hl1, hl4, hl6, hq6⟩ := HLT.out
              obtain ⟨wb, hwb⟩ : ∃ wb, wb = wa.alloc (.cells #[.int .i64 a, .int .i64 0] 51) := ⟨_, rfl⟩
              have hbb : Below wa.heap.size wa wb := by rw [hwb]; exact below_new _ _
              have hxb : wb.heap[wa.heap.size]? = some (.cells #[.int .i64 a, .int .i64 0] 51 (0, 0)) := by rw [hwb]; exact heap_alloc_new _ _
              have hzb : wb.heap.size = wa.heap.size + 1 := by rw [hwb]; simp
              have hkb : Kept (fun j => j = w.heap.size ∨ j = w.heap.size + 1 + 1) wr wb := hka.call hbb
              have hsa := hka.size
              have hdb : Dc w.heap.size (w.heap.size + 1 + 1) (Xs w.heap.size (w.heap.size + 1 + 1) q6 A5) ra Ba da wb := hda.kept (Kept.of_below (S := fun _ => False) hbb) (fun j hj => hj.elim) (fun h => h) (fun h => h)
              have haw : Away (fun j => Xs w.heap.size (w.heap.size + 1 + 1) q6 A5 j ∨ j = wa.heap.size) Ba ra := Away.or hda.away (Away.of_bytes hda.row (fun j hj => by omega))
              have hti := takeInt_any Ba wb.heap.size da _ ra wb rfl hdb.row (Nat.le_refl _) (by have := HRL3.out; omega) hdb.cap haw (fun j hj => by
                rcases hj with h | h
                · rcases h with h | h | h | h
                  · omega
                  · omega
                  · omega
                  · have := HLOW.out j h; omega
                · omega)
              have k1 : wa.cell? ⟨w.heap.size, 0, none⟩ = some _ := hda.box.cell
              have k1' := hdb.box.cell
              rw [hwb] at k1'
              have hne1 : w.heap.size ≠ wa.heap.size := by omega
              have hne2 : wa.heap.size ≠ w.heap.size := by omega
              have HDB := hide hdb
              have HKB := hide hkb
              have HXB := hide hxb
              have HSA := hide hsa
              have HZB := hide hzb
              cases hqz : takeN ra with
              | none =>
                rw [hqz] at hti
                have HTI := hide hti
                have HON := hide (HO.out.trans (decQ_no4 HQ1.out HQ2.out HQ3.out (HNX.out.trans (legsQ_no2 HQA.out hqz))))
                have hx2b := (hkb.block (w.heap.size + 1) (by omega) (by omega)).trans HX2.out
                have HX2B := hide hx2b
                have HFB := hide hdb.fine
                generalize hbl2 : ra.length = bl2 at *
                clear hda hka hbb hxb hzb hkb hsa hdb haw hti HDN hl1 hl4 hl6 hq6 hbl2 hqz hx2b
                go_wp2_with (go_at_call 42; refine halted ?_)
                refine go_on ?_
                rw [← hwb]
                clear hwb k1 k1' hne1 hne2
                refine HTI.out.mono ?_
                rintro e wc ⟨Bc, dc, rfl, hrc, hcc, hbc, hac⟩
                dsimp only [tookZ] at *
                have hfc : Boxed wc (w.heap.size + 1 + 1) 4 _ := (hbc.block _ HFB.out.lt).trans HFB.out
                have hx2c := (hbc.block (w.heap.size + 1) (Array.getElem?_eq_some_iff.1 HX2B.out).1).trans HX2B.out
                have k4 := hfc.cell
                have HBC := hide (HB.out.trans ((HKB.out.call hbc).below (fun j hj => by omega) HB.out.size))
                obtain ⟨d0, d1, d2, s0, s1, s2, e0, e1, e2, hk8⟩ := zeroEnd hx2c
                clear hfc hx2c hrc hcc hbc hac HTI
                go_wp2
                refine bodyPost_ret (v := .tuple #[.agg #[.int .i64 0, .string ⟨#[]⟩, .slice none 0 0], .int .i64 3]) (by rw [results_cell_tmp rfl]; go_simp) rfl ?_
                exact dec_failed HON.out (Nat.le_succ _) HBC.out hk8
              | some xz =>
                obtain ⟨z, rz⟩ := xz
                rw [hqz] at hti
                have HTI := hide hti
                have hrz := takeN_len hqz
                have HNY := hide (HNX.out.trans (legsQ_yes HQA.out hqz))
                have HRZ := hide (show rz.length ≤ 20000 from by have := HRL3.out; omega)
                obtain ⟨mz, emz⟩ : ∃ mz, mz = zag z := ⟨_, rfl⟩
                have HMZ := hide emz
                generalize hbl2 : ra.length = bl2 at *
                have HBL2 := hide hbl2
                clear hda hka hbb hxb hzb hkb hsa hdb haw hti HDN hl1 hl4 hl6 hq6 hbl2 hqz hrz
                go_wp2_with (go_at_call 42; refine halted ?_)
                refine go_on ?_
                rw [← hwb]
                clear hwb k1 k1' hne1 hne2
                refine HTI.out.mono ?_
                rintro e wc ⟨Bc, dc, rfl, hrc, hcc, hbc, hac⟩
                dsimp only [tookZ] at *
                rw [← emz]
                clear emz
                obtain ⟨hl1, hl4, hl6, hq6⟩ := HLT.out
                have hsa := HSA.out
                have hzb := HZB.out
                have hsc := hbc.size
                have hfc : Boxed wc (w.heap.size + 1 + 1) 4 (.bool true) := (hbc.block _ HDB.out.fine.lt).trans HDB.out.fine
                have hboxc : Boxed wc w.heap.size 40 (.slice Ba bl2 da) := by
                  have := (hbc.block _ HDB.out.box.lt).trans HDB.out.box
                  rw [HBL2.out] at this
                  exact this
                have hxc := (hbc.block wa.heap.size (by omega)).trans HXB.out
                have hkc : Kept (fun j => j = w.heap.size ∨ j = w.heap.size + 1 + 1) wr wc := HKB.out.call hbc
                have k4 := hfc.cell
                have g1 : wc.cell? ⟨wa.heap.size, 1, none⟩ = some (.int .i64 0) := Joins.cell_of_block hxc 1
                have f1 : wc.frozen? ⟨wa.heap.size, 1, none⟩ = false := Joins.unfrozen_of_block hxc 1
                have hxd := Joins.block_setCell (i := 1) hxc (.int .i64 mz)
                simp at hxd
                have hk1 : Kept (fun j => j = wa.heap.size) wc (wc.setCell ⟨wa.heap.size, 1, none⟩ (.int .i64 mz)) := Kept.set (S := fun j => j = wa.heap.size) wc rfl 1 _
                have hboxd : Boxed (wc.setCell ⟨wa.heap.size, 1, none⟩ (.int .i64 mz)) w.heap.size 40 (.slice Ba bl2 da) := (hk1.block _ hboxc.lt (by omega)).trans hboxc
                have hfd : Boxed (wc.setCell ⟨wa.heap.size, 1, none⟩ (.int .i64 mz)) (w.heap.size + 1 + 1) 4 (.bool true) := (hk1.block _ hfc.lt (by omega)).trans hfc
                have g2 := hboxd.cell
                have f2 := hboxd.frozen
                obtain ⟨wd, hwd⟩ : ∃ wd, wd = (wc.setCell ⟨wa.heap.size, 1, none⟩ (.int .i64 mz)).setCell ⟨w.heap.size, 0, none⟩ (.slice Bc rz.length dc) := ⟨_, rfl⟩
                have hk2 : Kept (fun j => j = w.heap.size) (wc.setCell ⟨wa.heap.size, 1, none⟩ (.int .i64 mz)) wd := by rw [hwd]; exact Kept.set (S := fun j => j = w.heap.size) _ rfl 0 _
                have hboxe : Boxed wd w.heap.size 40 (.slice Bc rz.length dc) := by rw [hwd]; exact hboxd.set _
                have hfe : Boxed wd (w.heap.size + 1 + 1) 4 (.bool true) := (hk2.block _ hfd.lt (by omega)).trans hfd
                have hxe := (hk2.block wa.heap.size (by have := hk1.size; omega) (by omega)).trans hxd
                have hkcd : Kept (fun j => j = wa.heap.size ∨ j = w.heap.size) wc wd := (hk1.wider fun j _ e => .inl e).trans (hk2.wider fun j _ e => .inr e)
                have hkd : Kept (fun j => j = w.heap.size ∨ j = w.heap.size + 1 + 1) wr wd := by
                  rw [hwd]
                  exact (hkc.put (q := wa.heap.size) (.inl hsa) 1 _).put (q := w.heap.size) (.inr (.inl rfl)) 0 _
                have hrd : Bytes wd wd.heap.size Bc rz := (hkcd.bytes hrc (Nat.le_refl _) (hac.less fun j hj => by
                  rcases hj with rfl | rfl
                  · exact .inr rfl
                  · exact .inl (.inl rfl))).more hkcd.size
                have hdd : Dc w.heap.size (w.heap.size + 1 + 1) (Xs w.heap.size (w.heap.size + 1 + 1) q6 A5) rz Bc dc wd := ⟨hboxe, hfe, hrd, hcc, hac.less fun j hj => .inl hj⟩
                have hx6d := (hkd.block q6 hl6 (by omega)).trans HX6.out
                have hx2d := (hkd.block (w.heap.size + 1) (Array.getElem?_eq_some_iff.1 HX2.out).1 (by omega)).trans HX2.out
                have hownd := hkd.own HOWN.out (fun j hj hs => by have := HLOW.out j hj; omega)
                have hbd : Below w.heap.size w wd := HB.out.trans (hkd.below (fun j hj => by omega) (by omega))
                have k6 : wd.cell? ⟨q6, 2, none⟩ = some (.slice A5 k c5) := Joins.cell_of_block hx6d 2
                have kx0 : wd.cell? ⟨wa.heap.size, 0, none⟩ = some (.int .i64 a) := Joins.cell_of_block hxe 0
                have kx1 : wd.cell? ⟨wa.heap.size, 1, none⟩ = some (.int .i64 mz) := Joins.cell_of_block hxe 1
                have HDD := hide hdd
                have HX6D := hide hx6d
                have HX2D := hide hx2d
                have HOWND := hide hownd
                have HBD := hide hbd
                have HZD := hide (show wr.heap.size ≤ wd.heap.size from hkd.size)
                have HZW := hide (show wd.heap.size = wc.heap.size from by rw [hwd]; simp)
                rw [hwd] at k6 kx0 kx1
                clear hl1 hl4 hl6 hq6 hsa hzb hsc hfc hboxc hxc hkc hxd hboxd hk1 hfd hk2 hboxe hfe hxe hkcd hkd hrd hdd hx6d hx2d hownd hbd hrc hcc hbc hac HTI HDB HKB HXB HX6 HX2 HOWN HB
                generalize hrl2 : rz.length = rl2 at *
                have HRL2 := hide hrl2
                clear hrl2
                go_wp2_with (at_builtin; refine halted ?_)
                refine go_on ?_
                rw [← hwd]
                clear k6 kx0 kx1 k4 g1 f1 g2 f2 hwd
                obtain ⟨hl1, hl4, hl6, hq6⟩ := HLT.out
                have hzd := HZD.out
                have hm20 := HM20.out
                obtain ⟨i1, hj, hw0, hw1, hw2⟩ := info_parts info_leg
                refine wpList_append_own _ rfl (.tmp 59) (.tmp 61) 23 rfl (q6 + 1) 51 i1 _ 2 16 Try.underlying23 hj hw0 hw1 hw2 rfl (by decide) A5 k c5 (legCells ls) rfl (World.ownsRow.alloc HOWND.out _) _ _ 1 _ [.int .i64 a, .int .i64 mz] rfl rfl (by have h := Row.new wd #[.int .i64 a, .int .i64 mz] 51 (0, 0); rw [HZW.out] at h; exact h) (by intro u hu; simp at hu; rcases hu with rfl | rfl <;> rfl) (by unfold maxLen; omega) (by omega) (by simp; omega) ?_
                intro n' xs' A6 c6 wf hn' hxs' _ _ hownf hgf hatf
                obtain rfl : n' = k + 1 := hn'.out
                have hxe : xs' = legCells (ls ++ [(a, mz)]) := by rw [hxs'.out, legCells_append]; rfl
                rw [hxe] at hownf
                rw [World.size_alloc] at hatf
                have hlowf : ∀ j, InRow A6 j → q6 + 1 ≤ j ∧ j < wf.heap.size := fun j hj => World.ownsRow.lt hownf j (by rw [ownBlock_slice]; exact hj)
                have hkf : Kept (fun j => InRow A5 j) wd wf := ((Kept.refl wd).alloc _).trans (Kept.of_grown hgf (fun j e => e))
                have hlowd : ∀ j, InRow A5 j → q6 + 1 ≤ j := fun j hj => (HLOW.out j hj).1
                have hx6f := (hkf.block q6 (by omega) (fun h => by have := hlowd _ h; omega)).trans HX6D.out
                have k6 : wf.cell? ⟨q6, 2, none⟩ = some (.slice A5 k c5) := Joins.cell_of_block hx6f 2
                have f6 : wf.frozen? ⟨q6, 2, none⟩ = false := Joins.unfrozen_of_block hx6f 2
                have hx6g := Joins.block_setCell (i := 2) hx6f (.slice A6 (k + 1) c6)
                simp at hx6g
                have hkg : Kept (fun j => InRow A5 j ∨ j = q6) wd (wf.setCell ⟨q6, 2, none⟩ (.slice A6 (k + 1) c6)) := (hkf.wider fun j _ e => .inl e).trans (Kept.set (S := fun j => InRow A5 j ∨ j = q6) wf (.inr rfl) 2 _)
                have hkg2 : Kept (fun j => j = q6) wf (wf.setCell ⟨q6, 2, none⟩ (.slice A6 (k + 1) c6)) := Kept.set (S := fun j => j = q6) wf rfl 2 _
                have hdg := HDD.out.kept hkg (fun j hj => by
                  rcases hj with h | h
                  · exact .inr (.inr (.inr h))
                  · exact .inr (.inr (.inl h))) (fun h => by
                  rcases h with h | h
                  · have := hlowd _ h; omega
                  · omega) (fun h => by
                  rcases h with h | h
                  · have := hlowd _ h; omega
                  · omega)
                have haw : Away (Xs w.heap.size (w.heap.size + 1 + 1) q6 A6) Bc rz := by
                  intro hne ad had hx
                  rcases hx with h | h | h | h
                  · exact HDD.out.away hne ad had (.inl h)
                  · exact HDD.out.away hne ad had (.inr (.inl h))
                  · exact HDD.out.away hne ad had (.inr (.inr (.inl h)))
                  · rcases hatf with e | e
                    · exact HDD.out.away hne ad had (.inr (.inr (.inr (by unfold InRow at h ⊢; rw [← e]; exact h))))
                    · refine Away.of_bytes (X := fun j => j = wd.heap.size + 1) HDD.out.row (fun j hj => by omega) hne ad had ?_
                      unfold InRow at h
                      rw [e] at h
                      injection h with h
                      exact h.symm
                have hrel2 : DqRel w w.heap.size (w.heap.size + 1) (w.heap.size + 1 + 1) q6 day tx m r3 (.int .i64 ((k : Int) + 1)) (wf.setCell ⟨q6, 2, none⟩ (.slice A6 (k + 1) c6)) :=
                  ⟨k + 1, ls ++ [(a, mz)], rz, A6, Bc, c6, dc, hlt, by simp, ⟨by rw [List.length_append, HL.out.1]; rfl, by rw [HNY.out, HEA.out, HMZ.out], by rw [HRL2.out]; exact HRZ.out⟩, ⟨hdg.box, hdg.fine, hdg.row, hdg.cap, haw⟩, hx6g, hkg2.own hownf (fun j hj hs => by have := hlowf j hj; omega),
                    (hkg.block (w.heap.size + 1) (by omega) (fun h => by
                      rcases h with h | h
                      · have := hlowd _ h; omega
                      · omega)).trans HX2D.out,
                    HBD.out.trans (hkg.below (fun j hj => by
                      rcases hj with h | h
                      · have := hlowd _ h; omega
                      · omega) (by omega))⟩
                have HR2 := hide hrel2
                clear hn' hxs' hownf hgf hatf hxe hlowf hkf hlowd hx6f hx6g hkg hkg2 hdg haw hrel2 hl1 hl4 hl6 hq6 hzd HDD HX6D HX2D HOWND HBD HRL HRL2 hm20
                go_wp2
                case roundEnd => exact ⟨HR2.out, by simp [intOf]; omega⟩
          · have hkE : k = m := by omega
            subst hkE
            have HLQ := hide (show legsQ k [] r3 = some (ls, rk) from by rw [HL.out.2.1, Nat.sub_self]; rfl)
            have HLL := hide HL.out.1
            have HOE := hide (HO.out.trans (decQ_end HQ1.out HQ2.out HQ3.out HLQ.out))
            have k1 : wr.cell? ⟨w.heap.size, 0, none⟩ = some (.slice B rk.length d) := hdc.box.cell
            have k4 : wr.cell? ⟨w.heap.size + 1 + 1, 0, none⟩ = some (.bool true) := hdc.fine.cell
            by_cases hne : 0 < rk.length
            · have HON := hide (show O = none from by
                rw [HOE.out, if_neg]
                rintro ⟨h, _⟩
                rw [h] at hne
                simp at hne)
              have hne' : 0 < (rk.length : Int) := by omega
              obtain ⟨d0, d1, d2, s0, s1, s2, e0, e1, e2, hk8⟩ := zeroEnd hx2
              have HB := hide hb
              generalize rk.length = bl2 at *
              clear hdc hown hx6 hx2 hb hlow hl1 hl4 hl6 hq6 hlt hk hX hrk
              go_wp2
              refine bodyPost_ret (v := .tuple #[.agg #[.int .i64 0, .string ⟨#[]⟩, .slice none 0 0], .int .i64 3]) (by rw [results_cell_tmp rfl]; go_simp) rfl ?_
              exact dec_failed HON.out (Nat.le_succ _) HB.out hk8
            · have hrk0 : rk = [] := List.eq_nil_of_length_eq_zero (by omega)
              have hrk1 : rk.length = 0 := by omega
              rw [hrk1] at k1
              have HRK := hide hrk0
              have b0 : wr.cell? ⟨q6, 0, none⟩ = some (.int .i64 day) := Joins.cell_of_block hx6 0
              have b1 : wr.cell? ⟨q6, 1, none⟩ = some (.string tx) := Joins.cell_of_block hx6 1
              have b2 : wr.cell? ⟨q6, 2, none⟩ = some (.slice A5 k c5) := Joins.cell_of_block hx6 2
              have hrow := Row.of_own hown
              have hm20 := HM20.out
              have HWF := hide (show ∀ x ∈ ls, (Lit.int .i64 x.1).wf = true from legsQ_wf HLQ.out (fun x hx => by cases hx))
              have HRA := hide (right_any day tx A5 wr.heap.size k c5 ls wr HLL.out hrow (Nat.le_refl _) (by omega) HWF.out (by unfold maxLen; have := HTXL.out; omega))
              have HRO := hide (show ∀ wz, Below wr.heap.size wr wz → ∀ wy, Kept (fun k => k = w.heap.size + 1) wz wy → Row wy wy.heap.size A5 (legCells ls) from fun wz h1 wy h2 => by
                have h3 : Kept (fun k => k = w.heap.size + 1) wr wy := (Kept.of_below h1).trans h2
                exact Row.of_own (h3.own hown (fun j hj e => by have := hlow j hj; omega)))
              have HX6 := hide hx6
              have HX2 := hide hx2
              have HB := hide hb
              have HLT := hide (show w.heap.size + 1 < wr.heap.size ∧ q6 < wr.heap.size ∧ w.heap.size + 3 ≤ q6 from ⟨(Array.getElem?_eq_some_iff.1 hx2).1, hl6, hq6⟩)
              clear hdc hown hx6 hx2 hb hlow hl1 hl4 hl6 hq6 hrow hlt hk hX hrk hm20 hrk0 hrk1 hne
              go_wp2_with (go_at_call 34; refine halted ?_)
              refine go_on ?_
              refine HRA.out.mono ?_
              rintro e wz ⟨rfl, hbz⟩
              obtain ⟨hl2, hl6, hq6⟩ := HLT.out
              have hx5 := (hbz.block (w.heap.size + 1) hl2).trans HX2.out
              have hbz' : Below w.heap.size w wz := HB.out.trans (hbz.mono (by omega))
              cases hRT : rightE day tx.size ls with
              | false =>
                have HON := hide (show O = none from by
                  rw [HOE.out, if_neg]
                  rintro ⟨_, h⟩
                  rw [HTX.out, strB_size, HDAY.out, h] at hRT
                  cases hRT)
                obtain ⟨d0, d1, d2, s0, s1, s2, e0, e1, e2, hk8⟩ := zeroEnd hx5
                have HB9 := hide hbz'
                clear hx5 hbz hbz' hl2 hl6 hq6 HRA b0 b1 b2 k1 k4 hRT
                go_wp2
                refine bodyPost_ret (v := .tuple #[.agg #[.int .i64 0, .string ⟨#[]⟩, .slice none 0 0], .int .i64 3]) (by rw [results_cell_tmp rfl]; go_simp) rfl ?_
                exact dec_failed HON.out (Nat.le_succ _) HB9.out hk8
              | true =>
                have HON := hide (show O = some (day, t, ls) from by
                  rw [HTX.out, strB_size, HDAY.out] at hRT
                  rw [HOE.out, if_pos ⟨HRK.out, hRT⟩, ← HDAY.out])
                have HRT := hide (show rightE day t.length ls = true from by rw [HTX.out, strB_size] at hRT; exact hRT)
                have hx6 := (hbz.block q6 hl6).trans HX6.out
                have b0 : wz.cell? ⟨q6, 0, none⟩ = some (.int .i64 day) := Joins.cell_of_block hx6 0
                have b1 : wz.cell? ⟨q6, 1, none⟩ = some (.string tx) := Joins.cell_of_block hx6 1
                have b2 : wz.cell? ⟨q6, 2, none⟩ = some (.slice A5 k c5) := Joins.cell_of_block hx6 2
                have d0 : wz.cell? ⟨w.heap.size + 1, 0, none⟩ = some (.int .i64 0) := Joins.cell_of_block hx5 0
                have d1 : wz.cell? ⟨w.heap.size + 1, 1, none⟩ = some (.string ⟨#[]⟩) := Joins.cell_of_block hx5 1
                have d2 : wz.cell? ⟨w.heap.size + 1, 2, none⟩ = some (.slice none 0 0) := Joins.cell_of_block hx5 2
                have s0 : wz.frozen? ⟨w.heap.size + 1, 0, none⟩ = false := Joins.unfrozen_of_block hx5 0
                have hx6' := Joins.block_setCell (i := 0) hx5 (.int .i64 day)
                have s1 : (wz.setCell ⟨w.heap.size + 1, 0, none⟩ (.int .i64 day)).frozen? ⟨w.heap.size + 1, 1, none⟩ = false := Joins.unfrozen_of_block hx6' 1
                have hx7 := Joins.block_setCell (i := 1) hx6' (.string tx)
                have s2 := Joins.unfrozen_of_block hx7 2
                have hx8 := Joins.block_setCell (i := 2) hx7 (.slice A5 k c5)
                have e0 := Joins.cell_of_block hx8 0
                have e1 := Joins.cell_of_block hx8 1
                have e2 := Joins.cell_of_block hx8 2
                simp at e0 e1 e2 s2
                have hk8 : Kept (fun k => k = w.heap.size + 1) wz (((wz.setCell ⟨w.heap.size + 1, 0, none⟩ (.int .i64 day)).setCell ⟨w.heap.size + 1, 1, none⟩ (.string tx)).setCell ⟨w.heap.size + 1, 2, none⟩ (.slice A5 k c5)) := ((Kept.set (S := fun k => k = w.heap.size + 1) wz rfl 0 _).trans (Kept.set (S := fun k => k = w.heap.size + 1) _ rfl 1 _)).trans (Kept.set (S := fun k => k = w.heap.size + 1) _ rfl 2 _)
                have hrow8 := HRO.out _ hbz _ hk8
                have HRW := hide hrow8
                have HB8 := hide (hbz'.trans (hk8.below (fun j hj => by omega) hbz'.size))
                clear hx5 hx6 hx6' hx7 hx8 hrow8 hbz hbz' hk8 hl2 hl6 hq6 hRT k1 k4
                go_wp2
                refine bodyPost_ret (v := .tuple #[.agg #[.int .i64 day, .string tx, .slice A5 k c5], .int .i64 0]) (by rw [results_cell_tmp rfl]; go_simp) rfl ?_
                rw [HON.out]
                exact ⟨A5, c5, by rw [← HTX.out, HLL.out], HRW.out, HB8.out, HRT.out⟩
end Go.Proofs.Ytibanikfalfmcaa
