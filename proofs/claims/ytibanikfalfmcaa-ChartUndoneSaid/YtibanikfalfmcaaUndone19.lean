/-
  ChartUndone.
-/
import Derived.Test.YtibanikfalfmcaaZero19
import Derived.Test.YtibanikfalfmcaaUndoneLaw
import Derived.Test.YtibanikfalfmcaaSameC
import Derived.Test.YtibanikfalfmcaaEncC
import Derived.Test.YtibanikfalfmcaaDecC
namespace Go.Proofs.Ytibanikfalfmcaa
open Go.RowKit Go.Maps
set_option linter.unusedVariables false

/-- The state of ChartUndone ahead of the k-th step. -/
def UdRel (q b n : Nat) (w3 : World) (i : Value) (wr : World) : Prop :=
  ∃ (k : Nat) (l : Acs), k ≤ n ∧ k ≤ 60 ∧ i = .int .i64 (k : Int) ∧ Ch q b l wr ∧ Good l ∧ l.length ≤ 100 * k ∧ Kept (fun k => k = b) w3 wr

/-- .. of the j-th balance that is kept. -/
def BfRel (l : Acs) (w12 : World) (v i : Value) (wq : World) : Prop :=
  ∃ (j : Nat) (A : Option Addr) (c : Nat), j ≤ l.length ∧ i = .int .i64 (j : Int) ∧ v = .slice A j c ∧ wq.ownsRow w12.heap.size 2 1 (.slice A j c) j (((l.take j).map (·.2.2)).map i64v) ∧ Below w12.heap.size w12 wq

set_option maxRecDepth 100000 in
set_option maxHeartbeats 4000000 in
theorem chartUndone_few (A : Option Addr) (c : Nat) (l : List Sp) (p : Pg) (d : Int) (w : World) (hl : StepRow w w.heap.size A l) (hll : l.length ≤ 9223372036854775807) (hp : p.Ok w w.heap.size) (h60n : l.length ≤ 60) :
    Calls Try.prog 3 #[.slice A l.length c, p.v, .int .i64 d] w fun e w' => e = .returned (.bool true) ∧ Below w.heap.size w w' := by
  obtain ⟨n, hn⟩ : ∃ n, l.length = n := ⟨_, rfl⟩
  rw [hn] at hll h60n
  rw [hn]
  obtain ⟨w0, hw0⟩ : ∃ w0, w0 = w.alloc (.cells #[.int .i64 p.day, .string p.tx, .slice p.A p.ls.length p.c] 25) := ⟨_, rfl⟩
  have hb0 : Below w.heap.size w w0 := by rw [hw0]; exact below_new w _
  have hx0 : w0.heap[w.heap.size]? = some (.cells #[.int .i64 p.day, .string p.tx, .slice p.A p.ls.length p.c] 25 (0, 0)) := by rw [hw0]; exact heap_alloc_new w _
  have hz0 : w0.heap.size = w.heap.size + 1 := by rw [hw0]; simp
  have HL := hide hl
  have HN := hide hn
  have HP := hide hp
  have HB0 := hide hb0
  have HZ0 := hide hz0
  have HX0 := hide (show ∀ W, Below w0.heap.size w0 W → W.cell? ⟨w.heap.size, 0, none⟩ = some (.int .i64 p.day) ∧ W.cell? ⟨w.heap.size, 1, none⟩ = some (.string p.tx) ∧ W.cell? ⟨w.heap.size, 2, none⟩ = some (.slice p.A p.ls.length p.c) from fun W hW => by
    have h := (hW.block w.heap.size (by omega)).trans hx0
    exact ⟨Joins.cell_of_block h 0, Joins.cell_of_block h 1, Joins.cell_of_block h 2⟩)
  clear hl hn hp hb0 hx0 hz0
  show Calls _ _ #[.slice A n c, .agg #[.int .i64 p.day, .string p.tx, .slice p.A p.ls.length p.c], .int .i64 d] w _
  go_enter Try.func3, Try.ntmps3
  go_wp2_with (go_at_call 9; refine halted ?_)
  refine go_on ?_
  rw [← hw0]
  clear hw0
  refine (awake_any w0).mono ?_
  rintro e w1 ⟨rfl, hb1⟩
  have HB1 := hide hb1
  clear hb1
  go_wp2_with (go_at_call 10; refine halted ?_)
  refine go_on ?_
  refine (newC_any w1).mono ?_
  rintro e w2 ⟨q, b, rfl, hc, hb2, hq, hb⟩
  have hb2' := HB1.out.trans (hb2.mono HB1.out.size)
  obtain ⟨x0, x1, x2⟩ := HX0.out w2 hb2'
  have HC2 := hide hc
  have HB2 := hide hb2'
  have HQ := hide (show q ≠ b ∧ w0.heap.size ≤ q ∧ w0.heap.size ≤ b from by
    have h1 := HB1.out.size
    have h2 := hc.lt
    omega)
  clear hc hb2 hq hb hb2'
  go_wp2_with (go_at_call 11; refine halted ?_)
  refine go_on ?_
  refine (few_any p.day p.tx p.A p.ls.length p.c w2).mono ?_
  rintro e w3 ⟨rfl, hb3⟩
  have HC3 := hide (HC2.out.call hb3)
  have hb3' := HB2.out.trans (hb3.mono HB2.out.size)
  have HB3 := hide hb3'
  have HBW := hide (HB0.out.trans (hb3'.mono HB0.out.size))
  clear hb3 hb3' x0 x1 x2 HC2 HB2 HB1
  cases hfp : fewB p.tx.size p.ls.length with
  | false =>
    go_wp2
    go_ret
    exact ⟨rfl, HBW.out⟩
  | true =>
    have HFP := hide (few_legs hfp)
    clear hfp
    by_cases hd0 : d < 0
    · go_wp2
      go_ret
      exact ⟨rfl, HBW.out⟩
    by_cases hd1 : 3652058 < d
    · go_wp2
      go_ret
      exact ⟨rfl, HBW.out⟩
    go_wp2
    go_loopw [10] (fun i wr => UdRel q b n w3 i wr) (fun i _ => n - (intOf i).toNat)
    case atStart => exact ⟨0, [], Nat.zero_le _, Nat.zero_le _, rfl, HC3.out, Good.nil, Nat.zero_le _, Kept.refl _⟩
    case round =>
      obtain ⟨k, lk, hk, hk60, rfl, hca, hg, hlen, hkp⟩ := hrel
      have hbw : Below w.heap.size w wr := HBW.out.trans (hkp.below (fun j hj => by have h1 := HQ.out; have h2 := HZ0.out; omega) HBW.out.size)
      by_cases hin : k < n ∧ k < 60
      · skip
        obtain ⟨hlt, h60⟩ := hin
        obtain ⟨st, hst⟩ : ∃ st, l[k]? = some st := ⟨_, List.getElem?_eq_getElem (by rw [HN.out]; exact hlt)⟩
        have hrw := HL.out.belowLe hbw (Nat.le_refl _)
        obtain ⟨ad, hA, _, s0, s1, s2, s3, s4, s5⟩ := hrw.cells hst
        have HSO := hide (HL.out.2 st (List.mem_of_getElem? hst))
        have HCA := hide hca
        have HKP := hide hkp
        have HBWr := hide hbw
        have HG := hide hg
        have hlt' : (k : Int) < (n : Int) := by omega
        have h60' : (k : Int) < 60 := by omega
        have HA := hide hA
        rw [hA]
        clear hca hkp hbw hg hrw hA
        go_wp2_with (go_at_call 11; refine halted ?_)
        refine go_on ?_
        refine (few_any st.p.day st.p.tx st.p.A st.p.ls.length st.p.c wr).mono ?_
        rintro e w7 ⟨rfl, hb7⟩
        have hb7w : Below w.heap.size w w7 := HBWr.out.trans (hb7.mono HBWr.out.size)
        have HB7W := hide hb7w
        have HCA7 := hide (HCA.out.call hb7)
        have HKP7 := hide (HKP.out.call hb7)
        have HCL := hide (show ∀ W, Below w.heap.size w W → StepRow W w.heap.size (some ad) l from fun W hW => by
          have := HL.out.belowLe hW (Nat.le_refl _)
          rw [HA.out] at this
          exact this)
        have HST := hide hst
        clear s0 s1 s2 s3 s4 s5 hb7 hb7w hst
        cases hfw : fewB st.p.tx.size st.p.ls.length with
        | false =>
          go_wp2
          go_ret
          exact ⟨rfl, HB7W.out⟩
        | true =>
          have hfl := few_legs hfw
          have HFL := hide hfl
          clear hfw hfl
          obtain ⟨s0, s1, s2, s3, s4, s5⟩ := (HCL.out w7 HB7W.out).cells' HST.out
          by_cases h0 : st.do_ = 0
          · rw [h0] at s0
            have t1 : w7.drew.cell? ⟨(ad.add (k * 6)).block, (ad.add (k * 6)).off + 1, none⟩ = some (.int .i64 st.acc) := s1
            have t2 : w7.drew.cell? ⟨(ad.add (k * 6)).block, (ad.add (k * 6)).off + 2, none⟩ = some (.int .i64 st.kind) := s2
            have HOA := hide (open_any q b lk w7.drew (HCA7.out.call (below_dN (Below.refl _ _) 1)) st.acc st.kind HSO.out.1 (by omega))
            clear s3 s4 s5 h0
            go_wp2
            go_region_law
              ((go_simp; go_at_call 12; (with_reducible refine HOA.out.mono ?_); rintro e w8 ⟨rfl, hc8, hk8⟩; dsimp only))
            all_goals
              have hk8' : Kept (fun k => k = b) w7 w8 := (Kept.of_below (below_dN (Below.refl _ _) 1)).trans hk8
              have hrel2 : UdRel q b n w3 (.int .i64 ((k : Int) + 1)) w8 := by
                have h1 := open_len (l := lk) (n := st.acc) (kind := st.kind)
                exact ⟨k + 1, _, by omega, by omega, by simp, hc8, open_good HG.out, by omega, HKP7.out.trans hk8'⟩
              have HR2 := hide hrel2
              clear hk8 hk8' hc8 hrel2 s0 s1 s2 t1 t2 HOA
              go_wp2
              case roundEnd => exact ⟨HR2.out, by simp [intOf]; omega⟩
          · have h0' : (st.do_ == 0) = false := by simpa using h0
            have hok := HSO.out.2
            have HPA := hide (post_any q b lk w7 HCA7.out st.p.day st.p.tx st.p.A w.heap.size st.p.ls.length st.p.c st.p.ls rfl (hok.row.belowLe HB7W.out (Nat.le_refl _)) HB7W.out.size (by have := HFL.out; omega) hok.wf hok.tx (by omega))
            clear s1 s2 h0 hok
            go_wp2_with (go_at_call 13; refine halted ?_)
            refine go_on ?_
            refine HPA.out.mono ?_
            rintro e w8 ⟨rfl, hc8, hk8⟩
            have hrel2 : UdRel q b n w3 (.int .i64 ((k : Int) + 1)) w8 := by
              have h1 := posted_len (l := lk) (day := st.p.day) (tl := st.p.tx.size) (ls := st.p.ls)
              have h2 := HFL.out
              exact ⟨k + 1, _, by omega, by omega, by simp, hc8, posted_good HG.out, by omega, HKP7.out.trans hk8⟩
            have HR2 := hide hrel2
            obtain ⟨E, hE⟩ : ∃ E, E = checkE lk st.p.day st.p.tx.size st.p.ls := ⟨_, rfl⟩
            rw [← hE]
            clear hk8 hc8 s0 s3 s4 s5 HPA hE hrel2
            go_wp2
            case roundEnd => exact ⟨HR2.out, by simp [intOf]; omega⟩
      · have hor : ¬ k < n ∨ (k < n ∧ ¬ k < 60) := by omega
        have hlen2 : lk.length ≤ 6000 := by omega
        have hrs := acs_rises hca.map
        have HACC := hide (accounts_any q b lk wr hca (by omega))
        have HCAr := hide hca
        have hkb0 : Below w0.heap.size w0 wr := HB3.out.trans (hkp.below (fun j hj => by have h1 := HQ.out; omega) HB3.out.size)
        have HB0r := hide hkb0
        have HG := hide hg
        have HRS := hide hrs
        have HQB := hide hca.lt
        clear hca hkp hbw hg hlen hrs hkb0
        go_wp2_with (go_at_call 14; refine halted ?_)
        refine go_on ?_
        refine HACC.out.mono ?_
        rintro e w12 ⟨AN, cN, rfl, hown, hb12⟩
        have HOWN := hide hown
        have HC12 := hide (HCAr.out.call hb12)
        have HB12 := hide (HB0r.out.trans (hb12.mono HB0r.out.size))
        have HS12 := hide hb12.size
        clear hown hb12 HACC
        go_wp2
        go_loopw [13, 14] (fun v i wq => BfRel lk w12 v i wq) (fun _ i _ => lk.length - (intOf i).toNat)
        case atStart => exact ⟨0, none, 0, Nat.zero_le _, rfl, rfl, World.ownsRow_nil _ _ _ _, Below.refl _ _⟩
        case round =>
          obtain ⟨j, A5, c5, hj, rfl, rfl, ho5, hb5⟩ := hrel
          by_cases hjl : j < lk.length
          · obtain ⟨e, he⟩ : ∃ e, lk[j]? = some e := ⟨_, List.getElem?_eq_getElem hjl⟩
            have hrowq := (Row.of_own HOWN.out).belowLe hb5 (Nat.le_refl _)
            obtain ⟨ad2, hA2, _, hc2⟩ := hrowq j (.int .i64 e.1) (by rw [List.getElem?_map, List.getElem?_map, he]; rfl)
            have hge := HG.out e.1 e.2 (find_mem HRS.out (List.mem_of_getElem? he))
            have hwf : (Lit.int .i64 e.1).wf = true := wf_ofT (by omega) (by omega)
            have HBA := hide (balance_any q b lk wr (HC12.out.call hb5) e.1 hwf)
            rw [bal_of HRS.out he] at HBA
            have HE := hide he
            have HO5 := hide ho5
            have HB5 := hide hb5
            have hj2 : (j : Int) < (lk.length : Int) := by omega
            rw [hA2]
            clear hrowq hA2 hge hwf he ho5 hb5
            go_wp2_with (go_at_call 15; refine halted ?_)
            refine go_on ?_
            refine HBA.out.mono ?_
            rintro e5 w13 ⟨rfl, hb13⟩
            dsimp only
            obtain ⟨bal, hbal⟩ : ∃ bal, bal = e.2.2 := ⟨_, rfl⟩
            rw [← hbal]
            have HBL := hide hbal
            have HB13 := hide (HB5.out.trans (hb13.mono HB5.out.size))
            have ho13 := World.ownsRow.kept HO5.out (row := none) ⟨hb13.os, hb13.tape, hb13.output, hb13.size, fun k hk _ => hb13.block k hk⟩ (by
              rw [ownBlock_slice]
              cases A5 with
              | none => exact .inl rfl
              | some a => exact .inr (by simp))
            have HO13 := hide ho13
            have hrn := Row.new w13 #[.int .i64 bal] 2 (0, 0)
            have HRN := hide hrn
            obtain ⟨i0, hi, hz0, hz1, hz2⟩ := info_parts info_i64
            have HI := hide (And.intro hi (And.intro hz0 (And.intro hz1 hz2)))
            clear hbal hb13 ho13 hrn hc2 HBA hi hz0 hz1 hz2
            go_wp2_with (at_builtin; refine halted ?_)
            refine go_on ?_
            refine wpList_append_own _ rfl (.tmp 116) (.tmp 118) 37 rfl w12.heap.size 2 i0 _ 1 8 Try.underlying37 HI.out.1 HI.out.2.1 HI.out.2.2.1 HI.out.2.2.2 rfl (by decide) A5 j c5 (((lk.take j).map (·.2.2)).map i64v) rfl (World.ownsRow.alloc HO13.out _) _ _ 1 _ [.int .i64 bal] rfl rfl HRN.out (by intro u hu; simp at hu; subst hu; rfl) (by unfold maxLen; omega) (by omega) (by have := HB13.out.size; simp; omega) ?_
            intro n' xs' A6 c6 wf hn' hxs' _ _ hownf hgf hatf
            obtain rfl : n' = j + 1 := hn'.out
            have hxe : xs' = ((lk.take (j + 1)).map (·.2.2)).map i64v := by
              rw [hxs'.out, take_next HE.out, HBL.out]
              simp [i64v]
            rw [hxe] at hownf
            have hbf : Below w12.heap.size w12 wf := (HB13.out.alloc HB13.out.size _).grown hgf (by have := HB13.out.size; simp; omega) (fun q hq => (World.ownsRow.lt HO13.out q (by rw [ownBlock_slice]; exact hq)).1)
            have hrel2 : BfRel lk w12 (.slice A6 (j + 1) c6) (.int .i64 ((j : Int) + 1)) wf := ⟨j + 1, A6, c6, hjl, by simp, rfl, hownf, hbf⟩
            have HR2 := hide hrel2
            clear hn' hxs' hownf hgf hatf hxe hbf hrel2
            go_wp2
            case roundEnd => exact ⟨HR2.out, by simp [intOf]; omega⟩
          · have hjE : j = lk.length := by omega
            subst hjE
            rw [List.take_of_length_le (Nat.le_refl _)] at ho5
            have HBF := hide ho5
            have HC5 := hide (HC12.out.call hb5)
            have HB5 := hide (HB12.out.trans (hb5.mono (Nat.le_trans (Nat.le_trans HB0r.out.size HS12.out) (Nat.le_refl _))))
            have HS5 := hide hb5.size
            have HOWN5 := hide (World.ownsRow.kept HOWN.out (row := none) ⟨hb5.os, hb5.tape, hb5.output, hb5.size, fun k hk _ => hb5.block k hk⟩ (by
              rw [ownBlock_slice]
              cases AN with
              | none => exact .inl rfl
              | some a => exact .inr (by simp)))
            have hBw : Below w.heap.size w wr := HB0.out.trans (HB5.out.mono HB0.out.size)
            have HBw := hide hBw
            have hok := HP.out
            have HPA := hide (post_any q b lk wr HC5.out p.day p.tx p.A w.heap.size p.ls.length p.c p.ls rfl (hok.row.belowLe hBw (Nat.le_refl _)) hBw.size (by have := HFP.out; omega) hok.wf hok.tx (by omega))
            obtain ⟨x0, x1, x2⟩ := HX0.out wr HB5.out
            clear ho5 hb5 hBw hok hjl hj
            go_wp2_with (go_at_call 13; refine halted ?_)
            refine go_on ?_
            refine HPA.out.mono ?_
            rintro e w14 ⟨rfl, hc14, hk14⟩
            have HB14 := hide (HB5.out.trans (hk14.below (fun j hj => by have h1 := HQ.out; omega) HB5.out.size))
            have HC14 := hide hc14
            have HK14 := hide hk14
            obtain ⟨E, hE⟩ : ∃ E, E = checkE lk p.day p.tx.size p.ls := ⟨_, rfl⟩
            rw [← hE]
            have HE := hide hE
            clear hc14 hk14 hE HPA x0 x1 x2
            by_cases hE0 : E = 0
            case' neg =>
              have hE0' : (E == 0) = false := by simpa using hE0
              have HFI := hide (show ∃ l2, Ch q b l2 w14 ∧ (∀ n, balE l2 n = balE lk n) from ⟨_, HC14.out, fun n => by
                unfold postedL
                rw [if_neg (by rw [← HE.out]; exact hE0)]⟩)
              obtain ⟨w21, hw21⟩ : ∃ w21, w21 = w14 := ⟨_, rfl⟩
              have HB21 := hide HB14.out
              have HK21 := hide HK14.out
              rw [← hw21] at HFI HB21 HK21
              clear hE0
              go_wp2
              rw [← hw21]
              clear hw21 hE0' HC14 HK14 HB14 HE
            case' pos =>
              subst hE0
              have hR := (check_parts HE.out.symm).1
              have hdy : dayOk d = true := by unfold dayOk; simp; omega
              have hok := HP.out
              have HRW := hide (show ∀ W, Below w0.heap.size w0 W → Row W w.heap.size p.A (legCells p.ls) ∧ w.heap.size ≤ W.heap.size from fun W hW => by
                have h1 := HB0.out.trans (hW.mono HB0.out.size)
                exact ⟨hok.row.belowLe h1 (Nat.le_refl _), h1.size⟩)
              have HEN := hide (fun (W : World) (hW : Below w0.heap.size w0 W) => encodeC_any p.day p.tx p.A p.ls.length p.c p.ls W rfl (((HRW.out W hW).1).more (HRW.out W hW).2) (by have := HFP.out; omega) hok.wf hok.tx hR)
              have HRV := hide (fun (W : World) (hW : Below w0.heap.size w0 W) => reverseC_any p.day p.tx p.A p.ls.length p.c p.ls d W rfl (((HRW.out W hW).1).more (HRW.out W hW).2) (by have := HFP.out; omega) hok.wf hok.tx hR hdy)
              have HSM := hide (fun (W : World) (hW : Below w0.heap.size w0 W) (A' : Option Addr) (c' : Nat) (hr : Row W W.heap.size A' (legCells p.ls)) => sameP_any p.day p.tx A' p.A W.heap.size c' p.c p.ls W hr (((HRW.out W hW).1).more (HRW.out W hW).2) (Nat.le_refl _) (by have := HFP.out; omega) hok.tx)
              have HDE := hide (fun (W : World) (A' : Option Addr) (c' : Nat) (h1 : _) (h2 : _) => decodeC_any p.day p.tx p.ls A' _ c' W hR rfl h1 h2)
              have hpd : postedL lk p.day p.tx.size p.ls = postL lk p.ls := by unfold postedL; rw [if_pos HE.out.symm]
              have HC15 := hide (show Ch q b (postL lk p.ls) w14 from by have := HC14.out; rw [hpd] at this; exact this)
              obtain ⟨x0, x1, x2⟩ := HX0.out w14 HB14.out
              have HDY := hide hdy
              clear hR hdy hok hpd HRW
              go_wp2_with (go_at_call 16; refine halted ?_)
              refine go_on ?_
              refine (HEN.out w14 HB14.out).mono ?_
              rintro e w15 ⟨A15, c15, rfl, hr15, hc15, hb15⟩
              have HD15 := hide (HDE.out w15 A15 c15 hr15 hc15)
              generalize hbl : (headB p.day p.tx.data.toList p.ls.length ++ legsB p.ls).length = bl at *
              have hB15 := HB14.out.trans (hb15.mono HB14.out.size)
              have HB15 := hide hB15
              have HC16 := hide (HC15.out.call hb15)
              have HK15 := hide (HK14.out.call hb15)
              clear hr15 hc15 hb15 hB15 x0 x1 x2 HEN HDE hbl
              go_wp2_with (go_at_call 17; refine halted ?_)
              refine go_on ?_
              refine HD15.out.mono ?_
              rintro e w16 ⟨A16, c16, rfl, hr16, hb16⟩
              obtain ⟨w17, hw17⟩ : ∃ w17, w17 = w16.alloc (.cells #[.int .i64 p.day, .string p.tx, .slice A16 p.ls.length c16] 25) := ⟨_, rfl⟩
              have hb17 : Below w15.heap.size w15 w17 := by rw [hw17]; exact hb16.alloc hb16.size _
              have hbn : Below w16.heap.size w16 w17 := by rw [hw17]; exact below_new _ _
              have hx17 : w17.heap[w16.heap.size]? = some (.cells #[.int .i64 p.day, .string p.tx, .slice A16 p.ls.length c16] 25 (0, 0)) := by rw [hw17]; exact heap_alloc_new _ _
              have y0 : w17.cell? ⟨w16.heap.size, 0, none⟩ = some (.int .i64 p.day) := Joins.cell_of_block hx17 0
              have y1 : w17.cell? ⟨w16.heap.size, 1, none⟩ = some (.string p.tx) := Joins.cell_of_block hx17 1
              have y2 : w17.cell? ⟨w16.heap.size, 2, none⟩ = some (.slice A16 p.ls.length c16) := Joins.cell_of_block hx17 2
              have hB17 := HB15.out.trans (hb17.mono HB15.out.size)
              obtain ⟨x0, x1, x2⟩ := HX0.out w17 hB17
              have HSM2 := hide (HSM.out w17 hB17 A16 c16 ((hr16.below hbn).more hbn.size))
              have HC17 := hide (HC16.out.call hb17)
              have HK17 := hide (HK15.out.call hb17)
              have HB17 := hide hB17
              rw [hw17] at x0 x1 x2 y0 y1 y2
              clear hr16 hb16 hb17 hbn hx17 hB17 HSM HD15 HC16 HK15 HB15
              go_wp2_with (go_at_call 18; refine halted ?_)
              refine go_on ?_
              rw [← hw17]
              clear hw17 x0 x1 x2 y0 y1 y2
              refine HSM2.out.mono ?_
              rintro e w18 ⟨rfl, hb18⟩
              have HB18 := hide (HB17.out.trans (hb18.mono HB17.out.size))
              have HC18 := hide (HC17.out.call hb18)
              have HK18 := hide (HK17.out.call hb18)
              obtain ⟨x0, x1, x2⟩ := HX0.out w18 HB18.out
              clear hb18 HSM2 HC17 HK17 HB17
              go_wp2_with (go_at_call 19; refine halted ?_)
              refine go_on ?_
              refine (HRV.out w18 HB18.out).mono ?_
              rintro e w19 ⟨A19, c19, rfl, hr19, hb19⟩
              obtain ⟨w20, hw20⟩ : ∃ w20, w20 = w19.alloc (.cells #[.int .i64 d, .string p.tx, .slice A19 p.ls.length c19] 25) := ⟨_, rfl⟩
              have hb20 : Below w18.heap.size w18 w20 := by rw [hw20]; exact hb19.alloc hb19.size _
              have hbn : Below w19.heap.size w19 w20 := by rw [hw20]; exact below_new _ _
              have hx20 : w20.heap[w19.heap.size]? = some (.cells #[.int .i64 d, .string p.tx, .slice A19 p.ls.length c19] 25 (0, 0)) := by rw [hw20]; exact heap_alloc_new _ _
              have y0 : w20.cell? ⟨w19.heap.size, 0, none⟩ = some (.int .i64 d) := Joins.cell_of_block hx20 0
              have y1 : w20.cell? ⟨w19.heap.size, 1, none⟩ = some (.string p.tx) := Joins.cell_of_block hx20 1
              have y2 : w20.cell? ⟨w19.heap.size, 2, none⟩ = some (.slice A19 p.ls.length c19) := Joins.cell_of_block hx20 2
              have hlp : (postL lk p.ls).length ≤ 10000 := by
                have h1 := postL_len lk p.ls
                have h2 := HFP.out
                omega
              have HPB := hide (post_any q b (postL lk p.ls) w20 (HC18.out.call hb20) d p.tx A19 w20.heap.size p.ls.length c19 (negL p.ls) (by unfold negL; simp) ((hr19.below hbn).more hbn.size) (Nat.le_refl _) (by have := HFP.out; omega) (fun x hx => by
                unfold negL at hx
                obtain ⟨y, hy, rfl⟩ := List.mem_map.1 hx
                exact HP.out.wf y hy) HP.out.tx (by omega))
              have HB20 := hide (HB18.out.trans (hb20.mono HB18.out.size))
              have HK20 := hide (HK18.out.call hb20)
              have hck := undone_check HE.out.symm HDY.out
              rw [hw20] at y0 y1 y2
              clear hr19 hb19 hb20 hbn hx20 x0 x1 x2 HRV HC18 HK18 HB18 hlp
              go_wp2_with (go_at_call 13; refine halted ?_)
              refine go_on ?_
              rw [← hw20]
              clear hw20 y0 y1 y2
              refine HPB.out.mono ?_
              rintro e w21 ⟨rfl, hc21, hk21⟩
              rw [hck]
              have HFI := hide (show ∃ l2, Ch q b l2 w21 ∧ (∀ n, balE l2 n = balE lk n) from ⟨_, hc21, fun n => by
                unfold postedL
                rw [if_pos hck]
                exact undone_bal HE.out.symm HDY.out n⟩)
              have HB21 := hide (HB20.out.trans (hk21.below (fun j hj => by have h1 := HQ.out; omega) HB20.out.size))
              have HK21 := hide (HK20.out.trans hk21)
              clear hc21 hk21 hck HPB HE HDY HC14 HK14 HB14 HB20 HK20 HC15
              go_wp2
            all_goals
              obtain ⟨l2, hc2, hbe⟩ := HFI.out
              have HC21 := hide hc2
              have HBE := hide hbe
              have hra := Row.of_own (HK21.out.own HOWN5.out (fun j hj e => by
                have h1 := (World.ownsRow.lt HOWN.out j (by rw [ownBlock_slice]; exact hj)).1
                have h2 := HQB.out
                omega))
              have hrb := Row.of_own (HK21.out.own HBF.out (fun j hj e => by
                have h1 := (World.ownsRow.lt HBF.out j (by rw [ownBlock_slice]; exact hj)).1
                have h2 := HQB.out
                have h3 := HS12.out
                omega))
              have HRA := hide hra
              have HRB := hide hrb
              clear hc2 hbe hra hrb HFI
              go_loopw [26] (fun i wq => ∃ j : Nat, j ≤ lk.length ∧ i = .int .i64 (j : Int) ∧ Below w21.heap.size w21 wq) (fun i _ => lk.length - (intOf i).toNat)
              case atStart => exact ⟨0, Nat.zero_le _, rfl, Below.refl _ _⟩
              case round =>
                obtain ⟨j, hj, rfl, hbq⟩ := hrel
                by_cases hjl : j < lk.length
                · obtain ⟨e, he⟩ : ∃ e, lk[j]? = some e := ⟨_, List.getElem?_eq_getElem hjl⟩
                  obtain ⟨ad2, hA2, _, hc2⟩ := (HRA.out.belowLe hbq (Nat.le_refl _)) j (.int .i64 e.1) (by rw [List.getElem?_map, List.getElem?_map, he]; rfl)
                  have hgg := (HRB.out) j (.int .i64 e.2.2) (by rw [List.getElem?_map, List.getElem?_map, he]; rfl)
                  obtain ⟨ad3, hA3, hlt3, hc3⟩ := hgg
                  have hge := HG.out e.1 e.2 (find_mem HRS.out (List.mem_of_getElem? he))
                  have hwf : (Lit.int .i64 e.1).wf = true := wf_ofT (by omega) (by omega)
                  have HBA := hide (balance_any q b l2 wr (HC21.out.call hbq) e.1 hwf)
                  rw [HBE.out, bal_of HRS.out he] at HBA
                  obtain ⟨bal, hbal⟩ : ∃ bal, bal = e.2.2 := ⟨_, rfl⟩
                  rw [← hbal] at HBA hc3
                  have HBQ := hide hbq
                  have HC3 := hide hc3
                  have hj2 : (j : Int) < (lk.length : Int) := by omega
                  rw [hA2, hA3]
                  clear hA2 hA3 hge hwf he hbal hbq hc3
                  go_wp2_with (go_at_call 15; refine halted ?_)
                  refine go_on ?_
                  refine HBA.out.mono ?_
                  rintro e5 w23 ⟨rfl, hb23⟩
                  dsimp only
                  have hbw := HBQ.out.trans (hb23.mono HBQ.out.size)
                  have hc4 : w23.cell? (ad3.add j) = some (.int .i64 bal) := (hbw.cell (by rw [add_block]; exact hlt3)).trans HC3.out
                  have hxx : (bal != bal) = false := by simp
                  have HBW2 := hide hbw
                  clear hb23 hbw HBA hc2
                  go_wp2
                  case roundEnd => exact ⟨⟨j + 1, hjl, by simp, HBW2.out⟩, by simp [intOf]; omega⟩
                · have hjE : j = lk.length := by omega
                  subst hjE
                  have HBZ := hide (HB0.out.trans ((HB21.out.trans (hbq.mono HB21.out.size)).mono HB0.out.size))
                  clear hbq
                  go_wp2
                  go_ret
                  exact ⟨rfl, HBZ.out⟩
end Go.Proofs.Ytibanikfalfmcaa
