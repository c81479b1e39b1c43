/-
  ChartZero.
-/
import Derived.Test.YtibanikfalfmcaaAwake19
import Derived.Test.YtibanikfalfmcaaOpen19
import Derived.Test.YtibanikfalfmcaaWMap19
import Derived.Test.YtibanikfalfmcaaZeroLaw
namespace Go.Proofs.Ytibanikfalfmcaa
open Go.RowKit Go.Maps
set_option linter.unusedVariables false

theorem StepRow.cells {w : World} {B : Nat} {A : Option Addr} {l : List Sp} (h : StepRow w B A l) {k : Nat} {s : Sp} (hk : l[k]? = some s) :
    ∃ ad, A = some ad ∧ ad.block < B ∧ w.cell? (ad.add (k * 6)) = some (.int .i64 s.do_) ∧ w.cell? ⟨(ad.add (k * 6)).block, (ad.add (k * 6)).off + 1, none⟩ = some (.int .i64 s.acc) ∧ w.cell? ⟨(ad.add (k * 6)).block, (ad.add (k * 6)).off + 2, none⟩ = some (.int .i64 s.kind) ∧
      w.cell? ⟨(ad.add (k * 6)).block, (ad.add (k * 6)).off + 3, none⟩ = some (.int .i64 s.p.day) ∧ w.cell? ⟨(ad.add (k * 6)).block, (ad.add (k * 6)).off + 4, none⟩ = some (.string s.p.tx) ∧ w.cell? ⟨(ad.add (k * 6)).block, (ad.add (k * 6)).off + 5, none⟩ = some (.slice s.p.A s.p.ls.length s.p.c) := by
  obtain ⟨ad, hA, hlt, hc⟩ := h.at_ hk
  exact ⟨ad, hA, hlt, hc 0 _ rfl, hc 1 _ rfl, hc 2 _ rfl, hc 3 _ rfl, hc 4 _ rfl, hc 5 _ rfl⟩
theorem StepRow.cells' {w : World} {B : Nat} {ad : Addr} {l : List Sp} (h : StepRow w B (some ad) l) {k : Nat} {s : Sp} (hk : l[k]? = some s) :
    w.cell? (ad.add (k * 6)) = some (.int .i64 s.do_) ∧ w.cell? ⟨(ad.add (k * 6)).block, (ad.add (k * 6)).off + 1, none⟩ = some (.int .i64 s.acc) ∧ w.cell? ⟨(ad.add (k * 6)).block, (ad.add (k * 6)).off + 2, none⟩ = some (.int .i64 s.kind) ∧
      w.cell? ⟨(ad.add (k * 6)).block, (ad.add (k * 6)).off + 3, none⟩ = some (.int .i64 s.p.day) ∧ w.cell? ⟨(ad.add (k * 6)).block, (ad.add (k * 6)).off + 4, none⟩ = some (.string s.p.tx) ∧ w.cell? ⟨(ad.add (k * 6)).block, (ad.add (k * 6)).off + 5, none⟩ = some (.slice s.p.A s.p.ls.length s.p.c) := by
  obtain ⟨ad', hA, _, hc⟩ := h.cells hk
  injection hA with hA
  subst hA
  exact hc
theorem wf_ofT {n : Int} (h1 : -9223372036854775808 ≤ n) (h2 : n ≤ 9223372036854775807) : (Lit.int .i64 n).wf = true := by
  simp [Lit.wf, IntKind.min, IntKind.max, IntKind.signed, IntKind.bits]
  omega
theorem few_legs {tl n : Nat} (h : fewB tl n = true) : n ≤ 100 := by
  unfold fewB at h
  rw [Bool.and_eq_true, decide_eq_true_eq] at h
  exact h.1
theorem find_mem {l : Acs} (h : l.Pairwise fun x y => x.1 < y.1) {n : Int} {a : Int × Int} (hm : (n, a) ∈ l) : aFind l n = some a := by
  induction l with
  | nil => cases hm
  | cons e r ih =>
    rw [List.pairwise_cons] at h
    rw [find_cons]
    rcases List.mem_cons.1 hm with h1 | h1
    · subst h1
      rw [if_pos rfl]
    · have := h.1 _ h1
      dsimp only at this
      rw [if_neg (by omega)]
      exact ih h.2 h1
theorem bal_of {l : Acs} (h : l.Pairwise fun x y => x.1 < y.1) {k : Nat} {e : Int × Int × Int} (he : l[k]? = some e) : balE l e.1 = (e.2.2, 0) := by
  unfold balE
  rw [find_mem h (List.mem_of_getElem? he : (e.1, e.2) ∈ l)]
/-- The state of ChartZero ahead of the k-th step. -/
def ZrRel (q b sb n : Nat) (w3 : World) (i : Value) (wr : World) : Prop :=
  ∃ (k : Nat) (l : Acs) (S : Int → Int) (m : Nat), k ≤ n ∧ k ≤ 100 ∧ i = .int .i64 (k : Int) ∧ Ch q b l wr ∧ WMap wr sb m S ∧ Good l ∧ l.length ≤ 100 * k ∧ m ≤ 100 * k ∧ Inv l S ∧ total l = 0 ∧ Kept (fun k => k = b ∨ k = sb) w3 wr
/-- .. of the j-th leg of what was posted. -/
def ZlRel (sb m : Nat) (S : Int → Int) (ls : List (Int × Int)) (w8 : World) (i : Value) (wr : World) : Prop :=
  ∃ (j mm : Nat), j ≤ ls.length ∧ i = .int .i64 (j : Int) ∧ WMap wr sb mm (fun n => S n + legSum (ls.take j) n) ∧ mm ≤ m + j ∧ Kept (fun k => k = sb) w8 wr

/-- .. of the j-th account that is told. -/
def Z3Rel (l : Acs) (av : Nat) (w12 : World) (i : Value) (wq : World) : Prop :=
  ∃ (j : Nat) (n : Bool) (x0 x1 x2 x3 : Int), j ≤ l.length ∧ i = .int .i64 (j : Int) ∧ wq.heap[av]? = some (.cells #[.bool n, .int .u64 x0, .int .u64 x1, .int .u64 x2, .int .u64 x3] 55 (0, 0)) ∧ SW (.agg #[.bool n, .int .u64 x0, .int .u64 x1, .int .u64 x2, .int .u64 x3]) (total (l.take j)) ∧ Kept (fun k => k = av) w12 wq
theorem total_amts {l : Acs} (hg : Good l) (h : Rises l) : ∀ x ∈ l, amt x.2.2 = true := fun x hx => (hg x.1 x.2 (find_mem h hx)).1

set_option maxRecDepth 100000 in
set_option maxHeartbeats 4000000 in
theorem chartZero_any (A : Option Addr) (c : Nat) (l : List Sp) (w : World) (hl : StepRow w w.heap.size A l) (hll : l.length ≤ 9223372036854775807) :
    Calls Try.prog 5 #[.slice A l.length c] w fun e w' => e = .returned (.bool true) ∧ Below w.heap.size w w' := by
  have hmm := @run_makeMap Try.prog
  obtain ⟨n, hn⟩ : ∃ n, l.length = n := ⟨_, rfl⟩
  rw [hn] at hll
  rw [hn]
  have HL := hide hl
  have HN := hide hn
  clear hl hn
  go_enter Try.func5, Try.ntmps5
  go_wp2_with (go_at_call 9; refine halted ?_)
  refine go_on ?_
  refine (awake_any w).mono ?_
  rintro e w1 ⟨rfl, hb1⟩
  have HB1 := hide hb1
  clear hb1
  go_wp2_with (go_at_call 10; refine halted ?_)
  refine go_on ?_
  refine (newC_any w1).mono ?_
  rintro e w2 ⟨q, b, rfl, hc, hb2, hq, hb⟩
  have hlt := hc.lt
  have hc3 := hc.kept (S := fun _ => False) ((Kept.refl w2).alloc (.map #[] 0)) (fun e => e) (fun e => e)
  have hwm := WMap.made w2
  have hb3 : Below w.heap.size w (w2.alloc (.map #[] 0)) := (HB1.out.trans (hb2.mono HB1.out.size)).alloc (Nat.le_trans HB1.out.size hb2.size) _
  obtain ⟨sb, hsb⟩ : ∃ sb, sb = w2.heap.size := ⟨_, rfl⟩
  rw [← hsb] at hwm
  have HD := hide (show q ≠ b ∧ q ≠ sb ∧ b ≠ sb ∧ w.heap.size ≤ b ∧ w.heap.size ≤ sb ∧ w.heap.size ≤ (w2.alloc (.map #[] 0)).heap.size from by
    have h1 := HB1.out.size
    have h2 := hb3.size
    omega)
  have HC3 := hide hc3
  have HWM := hide hwm
  have HB3 := hide hb3
  clear hc hb2 hq hb hlt hc3 hwm hb3
  go_wp2
  rw [← hsb]
  clear hsb hmm
  generalize w2.alloc (.map #[] 0) = w3 at *
  go_loopw [6] (fun i wr => ZrRel q b sb n w3 i wr) (fun i _ => n - (intOf i).toNat)
  case atStart => exact ⟨0, [], _, 0, Nat.zero_le _, Nat.zero_le _, rfl, HC3.out, HWM.out, Good.nil, Nat.zero_le _, Nat.zero_le _, Inv.nil, rfl, Kept.refl _⟩
  case round =>
    obtain ⟨k, lk, S, m, hk, hk60, rfl, hca, hwm, hg, hlen, hmm, hinv, htot, hkp⟩ := hrel
    have hbw : Below w.heap.size w wr := HB3.out.trans (hkp.below (fun j hj => by have := HD.out; omega) HD.out.2.2.2.2.2)
    by_cases hin : k < n ∧ k < 100
    · skip
      obtain ⟨hlt, h60⟩ := hin
      obtain ⟨st, hst⟩ : ∃ st, l[k]? = some st := ⟨_, List.getElem?_eq_getElem (by rw [HN.out]; exact hlt)⟩
      have hrw := HL.out.belowLe hbw (Nat.le_refl _)
      obtain ⟨ad, hA, _, s0, s1, s2, s3, s4, s5⟩ := hrw.cells hst
      have HSO := hide (HL.out.2 st (List.mem_of_getElem? hst))
      have HCA := hide hca
      have HWMr := hide hwm
      have HKP := hide hkp
      have HBW := hide hbw
      have HG := hide hg
      have HIV := hide (And.intro hinv htot)
      have hlt' : (k : Int) < (n : Int) := by omega
      have h60' : (k : Int) < 100 := by omega
      have HA := hide hA
      rw [hA]
      clear hca hkp hbw hg hrw hA hwm hinv htot
      go_wp2_with (go_at_call 11; refine halted ?_)
      refine go_on ?_
      refine (few_any st.p.day st.p.tx st.p.A st.p.ls.length st.p.c wr).mono ?_
      rintro e w7 ⟨rfl, hb7⟩
      have hb7w : Below w.heap.size w w7 := HBW.out.trans (hb7.mono HBW.out.size)
      have HB7W := hide hb7w
      have HCA7 := hide (HCA.out.call hb7)
      have HWM7 := hide (HWMr.out.call hb7)
      have HKP7 := hide (HKP.out.call hb7)
      have HCL := hide (show ∀ W, Below w.heap.size w W → StepRow W w.heap.size (some ad) l from fun W hW => by
        have := HL.out.belowLe hW (Nat.le_refl _)
        rw [HA.out] at this
        exact this)
      have HST := hide hst
      clear s0 s1 s2 s3 s4 s5 hb7 hb7w hst
      cases hfw : fewB st.p.tx.size st.p.ls.length with
      | false =>
        go_wp2
        go_ret
        exact ⟨rfl, HB7W.out⟩
      | true =>
        have hfl := few_legs hfw
        have HFL := hide hfl
        clear hfw hfl
        obtain ⟨s0, s1, s2, s3, s4, s5⟩ := (HCL.out w7 HB7W.out).cells' HST.out
        by_cases h0 : st.do_ = 0
        · rw [h0] at s0
          have t1 : w7.drew.cell? ⟨(ad.add (k * 6)).block, (ad.add (k * 6)).off + 1, none⟩ = some (.int .i64 st.acc) := s1
          have t2 : w7.drew.cell? ⟨(ad.add (k * 6)).block, (ad.add (k * 6)).off + 2, none⟩ = some (.int .i64 st.kind) := s2
          have HOA := hide (open_any q b lk w7.drew (HCA7.out.call (below_dN (Below.refl _ _) 1)) st.acc st.kind HSO.out.1 (by omega))
          clear s3 s4 s5 h0
          go_wp2
          go_region_law
            ((go_simp; go_at_call 12; (with_reducible refine HOA.out.mono ?_); rintro e w8 ⟨rfl, hc8, hk8⟩; dsimp only))
          all_goals
            have hk8' : Kept (fun k => k = b) w7 w8 := (Kept.of_below (below_dN (Below.refl _ _) 1)).trans hk8
            have hrel2 : ZrRel q b sb n w3 (.int .i64 ((k : Int) + 1)) w8 := by
              have h1 := open_len (l := lk) (n := st.acc) (kind := st.kind)
              exact ⟨k + 1, _, S, m, by omega, by omega, by simp, hc8, HWM7.out.kept hk8' (fun e => HD.out.2.2.1 e.symm), open_good HG.out, by omega, by omega, HIV.out.1.opened, by rw [total_open]; exact HIV.out.2, HKP7.out.trans (hk8'.wider fun j _ e => .inl e)⟩
            have HR2 := hide hrel2
            clear hk8 hk8' hc8 hrel2 s0 s1 s2 t1 t2 HOA
            go_wp2
            case roundEnd => exact ⟨HR2.out, by simp [intOf]; omega⟩
        · have h0' : (st.do_ == 0) = false := by simpa using h0
          have hok := HSO.out.2
          have HPA := hide (post_any q b lk w7 HCA7.out st.p.day st.p.tx st.p.A w.heap.size st.p.ls.length st.p.c st.p.ls rfl (hok.row.belowLe HB7W.out (Nat.le_refl _)) HB7W.out.size (by have := HFL.out; omega) hok.wf hok.tx (by omega))
          clear s1 s2 h0 hok
          go_wp2_with (go_at_call 13; refine halted ?_)
          refine go_on ?_
          refine HPA.out.mono ?_
          rintro e w8 ⟨rfl, hc8, hk8⟩
          have HC8 := hide hc8
          have HWM8 := hide (HWM7.out.kept hk8 (fun e => HD.out.2.2.1 e.symm))
          have hb8 : Below w.heap.size w w8 := HB7W.out.trans (hk8.below (fun j hj => by have h1 := HD.out; omega) HB7W.out.size)
          have HB8 := hide hb8
          have HKP8 := hide (HKP7.out.trans (hk8.wider fun j _ e => .inl e))
          obtain ⟨E, hE⟩ : ∃ E, E = checkE lk st.p.day st.p.tx.size st.p.ls := ⟨_, rfl⟩
          rw [← hE]
          have HE := hide hE
          clear hk8 hc8 s0 s3 s4 s5 HPA hE
          obtain ⟨_, _, _, _, _, s5⟩ := (HCL.out w8 hb8).cells' HST.out
          have s6 : w8.cell? ⟨(ad.add (k * 6)).block, (ad.add (k * 6)).off + 3 + 2, none⟩ = some (.slice st.p.A st.p.ls.length st.p.c) := s5
          clear hb8
          by_cases he0 : E = 0
          · subst he0
            have hpd : postedL lk st.p.day st.p.tx.size st.p.ls = postL lk st.p.ls := by unfold postedL; rw [if_pos HE.out.symm]
            have hc9 := HC8.out
            rw [hpd] at hc9
            have HC9 := hide hc9
            have HRS := hide (acs_rises HCA7.out.map)
            clear hpd hc9
            have HLA := hide (legsOk_amt (right_legs (check_parts HE.out.symm).1))
            go_wp2
            go_loopw [9] (fun i wq => ZlRel sb m S st.p.ls w8 i wq) (fun i _ => st.p.ls.length - (intOf i).toNat)
            case atStart => exact ⟨0, m, Nat.zero_le _, rfl, HWM8.out.congr (fun k => by simp [legSum]), by omega, Kept.refl _⟩
            case round =>
              obtain ⟨j, mm, hj, rfl, hwm, hmm2, hkq⟩ := hrel
              have hbq : Below w.heap.size w wr := HB8.out.trans (hkq.below (fun j hj => by have h1 := HD.out; omega) HB8.out.size)
              have HBQ := hide hbq
              obtain ⟨_, _, _, _, _, s5⟩ := (HCL.out wr hbq).cells' HST.out
              have s6 : wr.cell? ⟨(ad.add (k * 6)).block, (ad.add (k * 6)).off + 3 + 2, none⟩ = some (.slice st.p.A st.p.ls.length st.p.c) := s5
              have HKQ := hide hkq
              by_cases hjl : j < st.p.ls.length
              · obtain ⟨ad2, a, mv, hA2, _, hx, ha, hm⟩ := (HSO.out.2.row.belowLe hbq (Nat.le_refl _)).leg hjl
                have hwa := HSO.out.2.wf _ (List.mem_of_getElem? hx.out)
                dsimp only at hwa
                have hma := (amt_iff _).1 (HLA.out _ (List.mem_of_getElem? hx.out))
                dsimp only at hma
                obtain ⟨v, hlook, hsv⟩ := (hwm.call (below_new wr (.cells #[.int .i64 a, .int .i64 mv] 51))).look hwa
                obtain ⟨wl, hwl⟩ : ∃ wl, wl = wr.alloc (.cells #[.int .i64 a, .int .i64 mv] 51) := ⟨_, rfl⟩
                rw [← hwl] at hlook
                have hbl : Below wr.heap.size wr wl := by rw [hwl]; exact below_new _ _
                have hbxl : wl.heap[wr.heap.size]? = some (.cells #[.int .i64 a, .int .i64 mv] 51 (0, 0)) := by rw [hwl]; exact heap_alloc_new _ _
                have HKC := hide (show ∀ W, Below wl.heap.size wl W → W.cell? ⟨wr.heap.size, 0, none⟩ = some (.int .i64 a) ∧ W.cell? ⟨wr.heap.size, 1, none⟩ = some (.int .i64 mv) from fun W hW => by
                  have h := (hW.block _ (Array.getElem?_eq_some_iff.1 hbxl).1).trans hbxl
                  exact ⟨Joins.cell_of_block h 0, Joins.cell_of_block h 1⟩)
                obtain ⟨k0, k1⟩ := HKC.out wl (Below.refl _ _)
                have hBd : Below wl.heap.size wl wl.drew := (Below.refl _ _).drew
                obtain ⟨d0, d1⟩ := HKC.out _ hBd
                have hl1 := hlook _ hBd
                have hz1 := HIV.out.1.le HG.out a
                have hz2 := legSum_le (ls := st.p.ls.take j) (fun x hx => HLA.out x (List.mem_of_mem_take hx)) a
                rw [List.length_take] at hz2
                have hfl := HFL.out
                obtain ⟨z, hz⟩ : ∃ z, z = S a + legSum (st.p.ls.take j) a := ⟨_, rfl⟩
                have hsv2 : SW v z := by rw [hz]; exact hsv
                have hzb : -1000000000000000000000000000000 ≤ z ∧ z ≤ 1000000000000000000000000000000 := by rw [hz]; omega
                have HOF := hide (of_any mv (by omega) (by omega) wl.drew)
                have HAD := hide (fun (W : World) (vo : Value) (hso : SW vo mv) => wadd_any hsv2 hso hzb (by omega) W)
                have HLK := hide hlook
                have hmml : mm < maxLen := by unfold maxLen; omega
                have hwml : WMap wl sb mm (fun n => S n + legSum (st.p.ls.take j) n) := hwm.call hbl
                have HSTO := hide (show ∀ W, Below wl.heap.size wl W → ∀ vs, (∃ n x0 x1 x2 x3, vs = .agg #[.bool n, .int .u64 x0, .int .u64 x1, .int .u64 x2, .int .u64 x3]) → SW vs (z + mv) → ∃ w', (Instr.mapUpdate 49 (.map (some sb)) (.int .i64 a) vs).run Try.prog W = .ok () w' ∧ WMap w' sb (mm + 1) (fun k => if a = k then z + mv else S k + legSum (st.p.ls.take j) k) ∧ Kept (fun k => k = sb) wl w' from fun W hW vs hform hss => by
                  obtain ⟨w', h1, h2, h3⟩ := (hwml.call hW).store hmml hwa hform hss
                  exact ⟨w', h1, h2, (Kept.of_below hW).trans (Kept.of_grown h3 (fun k hk => by injection hk with hk; exact hk.symm))⟩)
                have HFIN := hide (show ∀ W, WMap W sb (mm + 1) (fun k => if a = k then z + mv else S k + legSum (st.p.ls.take j) k) → Kept (fun k => k = sb) wl W → ZlRel sb m S st.p.ls w8 (.int .i64 ((j : Int) + 1)) W from fun W h1 h2 => by
                  refine ⟨j + 1, mm + 1, hjl, by simp, h1.congr (fun n => ?_), by omega, (HKQ.out.call hbl).trans h2⟩
                  rw [legSum_take hx.out]
                  dsimp only
                  by_cases e : a = n
                  · rw [if_pos e, if_pos e, hz, e]; omega
                  · rw [if_neg e, if_neg e]; omega)
                have hj2 : (j : Int) < (st.p.ls.length : Int) := by omega
                have hj100 : j < 100 := by omega
                rw [hA2] at s6
                clear s5 hbq hkq hwm hA2 hx hwa hma hsv hlook hbl hbxl hBd hz1 hz2 hfl hz hsv2 hzb hwml hmml
                go_wp2
                rw [← hwl]
                clear hwl
                go_region_law
                  (first
                    | (go_simp; go_at_call 24; (with_reducible refine HOF.out.mono ?_); rintro e w5 ⟨⟨vo, rfl, hso, -⟩, hb5⟩; have hB5 : Below wl.heap.size wl w5 := (Below.refl wl.heap.size wl).drew.trans (hb5.mono (Nat.le_refl _)); obtain ⟨m0, m1⟩ := HKC.out w5 hB5; have hl5 := HLK.out w5 hB5; dsimp only)
                    | (go_simp; go_at_call 23; (with_reducible refine (HAD.out _ _ hso).mono ?_); rintro e w6 ⟨⟨vs, rfl, hss, hform⟩, hb6⟩; have hB6 : Below wl.heap.size wl w6 := hB5.trans (hb6.mono hB5.size); obtain ⟨o0, o1⟩ := HKC.out w6 hB6; obtain ⟨w7, hrun, hwm7, hk7⟩ := HSTO.out w6 hB6 vs hform hss; dsimp only))
                all_goals
                  have HR3 := hide (HFIN.out w7 hwm7 hk7)
                  clear hwm7 hk7 hrun hss hform hb6 hB6 hso hb5 hB5 m0 m1 hl5 o0 o1 k0 k1 d0 d1 hl1 HSTO HFIN HAD HOF HLK
                  go_wp2
                  case roundEnd => exact ⟨HR3.out, by simp [intOf]; omega⟩
              · have hj' : j = st.p.ls.length := by omega
                subst hj'
                have hrel2 : ZrRel q b sb n w3 (.int .i64 ((k : Int) + 1)) wr := by
                  have h1 := postL_len lk st.p.ls
                  have h2 := HFL.out
                  have hch : Ch q b (postL lk st.p.ls) wr := HC9.out.kept hkq (fun e => HD.out.2.1 e) (fun e => HD.out.2.2.1 e)
                  refine ⟨k + 1, _, _, mm, by omega, by omega, by simp, hch, hwm, post_good HG.out HE.out.symm, by omega, by omega, ?_, ?_, HKP8.out.trans (hkq.wider fun j _ e => .inr e)⟩
                  · rw [List.take_of_length_le (Nat.le_refl _)]
                    exact HIV.out.1.post HE.out.symm
                  · rw [total_post HRS.out (acs_rises HC9.out.map) HE.out.symm]
                    exact HIV.out.2
                have HR2 := hide hrel2
                have hj2 : ¬ (st.p.ls.length : Int) < (st.p.ls.length : Int) := by omega
                clear hrel2 hwm hkq hbq hj hjl
                go_wp2
                case roundEnd => exact ⟨HR2.out, by simp [intOf]; omega⟩
          · have hne : (E == 0) = false := by simpa using he0
            have hpd : postedL lk st.p.day st.p.tx.size st.p.ls = lk := by unfold postedL; rw [if_neg (by rw [← HE.out]; exact he0)]
            have hc9 := HC8.out
            rw [hpd] at hc9
            have hrel2 : ZrRel q b sb n w3 (.int .i64 ((k : Int) + 1)) w8 :=
              ⟨k + 1, _, S, m, by omega, by omega, by simp, hc9, HWM8.out, HG.out, by omega, by omega, HIV.out.1, HIV.out.2, HKP8.out⟩
            have HR2 := hide hrel2
            clear hrel2 hc9 hpd he0
            go_wp2
            refine wp_loop_rounds 1 ?_
            rw [rounds_succ]
            go_wp2
            all_goals exact ⟨HR2.out, by simp [intOf]; omega⟩
    · have hor : ¬ k < n ∨ (k < n ∧ ¬ k < 100) := by omega
      have hlen2 : lk.length ≤ 10000 := by omega
      have hrs := acs_rises hca.map
      obtain ⟨wa, hwa⟩ : ∃ wa, wa = wr.alloc (.cells #[.bool false, .int .u64 0, .int .u64 0, .int .u64 0, .int .u64 0] 55) := ⟨_, rfl⟩
      have hba : Below wr.heap.size wr wa := by rw [hwa]; exact below_new _ _
      have hxa : wa.heap[wr.heap.size]? = some (.cells #[.bool false, .int .u64 0, .int .u64 0, .int .u64 0, .int .u64 0] 55 (0, 0)) := by rw [hwa]; exact heap_alloc_new _ _
      have hza : wa.heap.size = wr.heap.size + 1 := by rw [hwa]; simp
      have HACC := hide (accounts_any q b lk wa (hca.call hba) (by omega))
      have HCAa := hide (hca.call hba)
      have HWMa := hide (hwm.call hba)
      have hqb := hca.lt
      have hsbl := hwm.lt
      have HAV := hide (show q ≠ wr.heap.size ∧ b ≠ wr.heap.size ∧ sb ≠ wr.heap.size from by omega)
      have HXA := hide hxa
      have HZA := hide hza
      have HBWa := hide (hbw.trans (hba.mono hbw.size))
      have HWZ := hide hbw.size
      have HG := hide hg
      have HIV := hide (And.intro hinv htot)
      have HRS := hide hrs
      obtain ⟨av, hav⟩ : ∃ av, av = wr.heap.size := ⟨_, rfl⟩
      rw [← hav] at HAV HXA HZA HWZ
      clear hca hwm hkp hbw hg hinv htot hlen hmm hrs hba hxa hza hqb hsbl
      rcases hor with h1 | ⟨h1, h2⟩
      all_goals
        go_wp2_with (go_at_call 14; refine halted ?_)
        refine go_on ?_
        rw [← hwa, ← hav]
        clear hwa hav
        refine HACC.out.mono ?_
        rintro e w12 ⟨AN, cN, rfl, hown, hb12⟩
        have HOWN := hide hown
        have HC12 := hide (HCAa.out.call hb12)
        have HWM12 := hide (HWMa.out.call hb12)
        have HBW12 := hide (HBWa.out.trans (hb12.mono HBWa.out.size))
        have hx12 := (hb12.block av (by rw [HZA.out]; omega)).trans HXA.out
        have HX12 := hide hx12
        clear hown hb12 hx12 HACC
        go_wp2
        go_loopw [13] (fun i wq => Z3Rel lk av w12 i wq) (fun i _ => lk.length - (intOf i).toNat)
        case atStart => exact ⟨0, false, 0, 0, 0, 0, Nat.zero_le _, rfl, HX12.out, SW.zero, Kept.refl _⟩
        case round =>
          obtain ⟨j, n8, x0, x1, x2, x3, hj, rfl, hxv, hsw, hkq⟩ := hrel
          have HCQ := hide (HC12.out.kept hkq HAV.out.1 HAV.out.2.1)
          have HWQ := hide (HWM12.out.kept hkq HAV.out.2.2)
          have HBQ := hide (HBW12.out.trans (hkq.below (fun k hk => by have := HWZ.out; omega) HBW12.out.size))
          by_cases hjl : j < lk.length
          · obtain ⟨e, he⟩ : ∃ e, lk[j]? = some e := ⟨_, List.getElem?_eq_getElem hjl⟩
            have hrowq := Row.of_own (hkq.own HOWN.out (fun k hk e => by have h1 := HOWN.out.lt k (by rw [ownBlock_slice]; exact hk); have h2 := HZA.out; omega))
            obtain ⟨ad2, hA2, _, hc2⟩ := hrowq j (.int .i64 e.1) (by rw [List.getElem?_map, List.getElem?_map, he]; rfl)
            have hge := HG.out e.1 e.2 (find_mem HRS.out (List.mem_of_getElem? he))
            have hwf : (Lit.int .i64 e.1).wf = true := wf_ofT (by omega) (by omega)
            have hbe := bal_of HRS.out he
            obtain ⟨bal, hbal⟩ : ∃ bal, bal = e.2.2 := ⟨_, rfl⟩
            have HBA := hide (balance_any q b lk wr HCQ.out e.1 hwf)
            rw [hbe, ← hbal] at HBA
            obtain ⟨v, hlook, hsv⟩ := HWQ.out.look hwf
            have hse : bal = (fun n => S n) e.1 := by rw [hbal]; exact HIV.out.1.there e.1 e.2 (find_mem HRS.out (List.mem_of_getElem? he))
            have hsv2 : SW v bal := by rw [hse]; exact hsv
            have hbb := (amt_iff _).1 hge.1
            rw [← hbal] at hbb
            have HTD := hide (fun W => stold_any hsv2 hbb W)
            have HOF := hide (fun W => of_any bal (by omega) (by omega) W)
            have htl := total_le (l := lk.take j) (fun x hx => total_amts HG.out HRS.out x (List.mem_of_mem_take hx))
            rw [List.length_take] at htl
            have HAD := hide (fun (W : World) (vo : Value) (hso : SW vo bal) => wadd_any hsw hso (by omega) (by omega) W)
            have HXB := hide (show ∀ W, Below wr.heap.size wr W → W.heap[av]? = some (.cells #[.bool n8, .int .u64 x0, .int .u64 x1, .int .u64 x2, .int .u64 x3] 55 (0, 0)) from fun W hW => (hW.block av (Array.getElem?_eq_some_iff.1 hxv).1).trans hxv)
            have HXC := hide (show ∀ W, Below wr.heap.size wr W → W.cell? ⟨av, 0, none⟩ = some (.bool n8) ∧ W.cell? ⟨av, 1, none⟩ = some (.int .u64 x0) ∧ W.cell? ⟨av, 2, none⟩ = some (.int .u64 x1) ∧ W.cell? ⟨av, 3, none⟩ = some (.int .u64 x2) ∧ W.cell? ⟨av, 4, none⟩ = some (.int .u64 x3) from fun W hW =>
              ⟨Joins.cell_of_block (HXB.out W hW) 0, Joins.cell_of_block (HXB.out W hW) 1, Joins.cell_of_block (HXB.out W hW) 2, Joins.cell_of_block (HXB.out W hW) 3, Joins.cell_of_block (HXB.out W hW) 4⟩)
            have htk := total_take he
            rw [← hbal] at htk
            have HNX := hide (show ∀ (w16 : World) (n9 : Bool) (y0 y1 y2 y3 : Int), Below wr.heap.size wr w16 → SW (.agg #[.bool n9, .int .u64 y0, .int .u64 y1, .int .u64 y2, .int .u64 y3]) (total (lk.take j) + bal) → Z3Rel lk av w12 (.int .i64 ((j : Int) + 1)) (((((w16.setCell ⟨av, 0, none⟩ (.bool n9)).setCell ⟨av, 1, none⟩ (.int .u64 y0)).setCell ⟨av, 2, none⟩ (.int .u64 y1)).setCell ⟨av, 3, none⟩ (.int .u64 y2)).setCell ⟨av, 4, none⟩ (.int .u64 y3)) from fun w16 n9 y0 y1 y2 y3 hW hss => by
              have hx16 := HXB.out w16 hW
              exact ⟨j + 1, n9, y0, y1, y2, y3, hjl, by simp, Joins.block_setCell (i := 4) (Joins.block_setCell (i := 3) (Joins.block_setCell (i := 2) (Joins.block_setCell (i := 1) (Joins.block_setCell (i := 0) (hx16) (.bool n9)) (.int .u64 y0)) (.int .u64 y1)) (.int .u64 y2)) (.int .u64 y3), by rw [htk]; exact hss, (hkq.call hW).trans (((((Kept.set (S := fun k => k = av) w16 rfl 0 _).trans (Kept.set (S := fun k => k = av) _ rfl 1 _)).trans (Kept.set (S := fun k => k = av) _ rfl 2 _)).trans (Kept.set (S := fun k => k = av) _ rfl 3 _)).trans (Kept.set (S := fun k => k = av) _ rfl 4 _))⟩)
            have hj2 : (j : Int) < (lk.length : Int) := by omega
            have HLK := hide hlook
            rw [hA2]
            clear hxv hsw hkq he hrowq hA2 hge hwf hbe hbal hlook hsv hse hsv2 hbb htl htk
            go_wp2_with (go_at_call 15; refine halted ?_)
            refine go_on ?_
            refine HBA.out.mono ?_
            rintro e5 w13 ⟨rfl, hb13⟩
            have hc3 : w13.cell? (ad2.add j) = some (.int .i64 e.1) := (hb13.cell (lt_of_cell hc2)).trans hc2
            have hl13 := HLK.out w13 hb13
            have HB13 := hide hb13
            clear hc2 hb13 HBA
            go_wp2_with (go_at_call 25; refine halted ?_)
            refine go_on ?_
            refine (HTD.out w13).mono ?_
            rintro e5 w14 ⟨rfl, hb14⟩
            have hb14' := HB13.out.trans (hb14.mono HB13.out.size)
            have HB14 := hide hb14'
            have hxx : (bal != bal) = false := by simp
            obtain ⟨a0, a1, a2, a3, a4⟩ := HXC.out w14 hb14'
            have hBd : Below wr.heap.size wr w14.drew := hb14'.drew
            obtain ⟨d0, d1, d2, d3, d4⟩ := HXC.out _ hBd
            clear hc3 hl13 hb14 hb14' HTD
            go_wp2
            go_region_law
              (first
                | (go_simp; go_at_call 24; (with_reducible refine (HOF.out _).mono ?_); rintro e6 w15 ⟨⟨vo, rfl, hso, -⟩, hb15⟩; have hB15 : Below wr.heap.size wr w15 := hBd.trans (hb15.mono hBd.size); obtain ⟨m0, m1, m2, m3, m4⟩ := HXC.out w15 hB15; dsimp only)
                | (go_simp; go_at_call 23; (with_reducible refine (HAD.out _ _ hso).mono ?_); rintro e7 w16 ⟨⟨vs, rfl, hss, n9, y0, y1, y2, y3, rfl⟩, hb16⟩; have hB16 : Below wr.heap.size wr w16 := hB15.trans (hb16.mono hB15.size); obtain ⟨o0, o1, o2, o3, o4⟩ := HXC.out w16 hB16; have hx16 := HXB.out w16 hB16; have u0 := Joins.unfrozen_of_block hx16 0; have u1 := Joins.unfrozen_of_block hx16 1; have u2 := Joins.unfrozen_of_block hx16 2; have u3 := Joins.unfrozen_of_block hx16 3; have u4 := Joins.unfrozen_of_block hx16 4; dsimp only))
            all_goals
              have HR3 := hide (HNX.out w16 n9 y0 y1 y2 y3 hB16 hss)
              clear hss hb16 hB16 hx16 u0 u1 u2 u3 u4 o0 o1 o2 o3 o4 m0 m1 m2 m3 m4 a0 a1 a2 a3 a4 d0 d1 d2 d3 d4 hso hb15 hB15 hBd HNX HAD HOF
              go_wp2
              case roundEnd => exact ⟨HR3.out, by simp [intOf]; omega⟩
          · have hjE : j = lk.length := by omega
            subst hjE
            have hsw0 : SW (.agg #[.bool n8, .int .u64 x0, .int .u64 x1, .int .u64 x2, .int .u64 x3]) 0 := by
              rw [List.take_of_length_le (Nat.le_refl _), HIV.out.2] at hsw
              exact hsw
            have HTD := hide (stold_any hsw0 (by omega) wr)
            have a0 : wr.cell? ⟨av, 0, none⟩ = some (.bool n8) := Joins.cell_of_block hxv 0
            have a1 : wr.cell? ⟨av, 1, none⟩ = some (.int .u64 x0) := Joins.cell_of_block hxv 1
            have a2 : wr.cell? ⟨av, 2, none⟩ = some (.int .u64 x1) := Joins.cell_of_block hxv 2
            have a3 : wr.cell? ⟨av, 3, none⟩ = some (.int .u64 x2) := Joins.cell_of_block hxv 3
            have a4 : wr.cell? ⟨av, 4, none⟩ = some (.int .u64 x3) := Joins.cell_of_block hxv 4
            have hj2 : ¬ (lk.length : Int) < (lk.length : Int) := by omega
            clear hxv hsw hkq hsw0 hj hjl
            go_wp2_with (go_at_call 25; refine halted ?_)
            refine go_on ?_
            refine HTD.out.mono ?_
            rintro e5 w14 ⟨rfl, hb14⟩
            have HBE := hide (HBQ.out.trans (hb14.mono HBQ.out.size))
            clear a0 a1 a2 a3 a4 hb14 HTD
            go_wp2
            go_ret
            exact ⟨rfl, HBE.out⟩
end Go.Proofs.Ytibanikfalfmcaa
