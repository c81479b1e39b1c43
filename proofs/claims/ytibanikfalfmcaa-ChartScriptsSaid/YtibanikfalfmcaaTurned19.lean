/-
  ChartTurned.
-/
import Derived.Test.YtibanikfalfmcaaAwake19
import Derived.Test.YtibanikfalfmcaaOpen19
import Derived.Test.YtibanikfalfmcaaTrial2
import Derived.Test.YtibanikfalfmcaaEq5
namespace Go.Proofs.Ytibanikfalfmcaa
open Go.RowKit Go.Maps
set_option linter.unusedVariables false

theorem StepRow.cells {w : World} {B : Nat} {A : Option Addr} {l : List Sp} (h : StepRow w B A l) {k : Nat} {s : Sp} (hk : l[k]? = some s) :
    ∃ ad, A = some ad ∧ ad.block < B ∧ w.cell? (ad.add (k * 6)) = some (.int .i64 s.do_) ∧ w.cell? ⟨(ad.add (k * 6)).block, (ad.add (k * 6)).off + 1, none⟩ = some (.int .i64 s.acc) ∧ w.cell? ⟨(ad.add (k * 6)).block, (ad.add (k * 6)).off + 2, none⟩ = some (.int .i64 s.kind) ∧
      w.cell? ⟨(ad.add (k * 6)).block, (ad.add (k * 6)).off + 3, none⟩ = some (.int .i64 s.p.day) ∧ w.cell? ⟨(ad.add (k * 6)).block, (ad.add (k * 6)).off + 4, none⟩ = some (.string s.p.tx) ∧ w.cell? ⟨(ad.add (k * 6)).block, (ad.add (k * 6)).off + 5, none⟩ = some (.slice s.p.A s.p.ls.length s.p.c) := by
  obtain ⟨ad, hA, hlt, hc⟩ := h.at_ hk
  exact ⟨ad, hA, hlt, hc 0 _ rfl, hc 1 _ rfl, hc 2 _ rfl, hc 3 _ rfl, hc 4 _ rfl, hc 5 _ rfl⟩
theorem StepRow.cells' {w : World} {B : Nat} {ad : Addr} {l : List Sp} (h : StepRow w B (some ad) l) {k : Nat} {s : Sp} (hk : l[k]? = some s) :
    w.cell? (ad.add (k * 6)) = some (.int .i64 s.do_) ∧ w.cell? ⟨(ad.add (k * 6)).block, (ad.add (k * 6)).off + 1, none⟩ = some (.int .i64 s.acc) ∧ w.cell? ⟨(ad.add (k * 6)).block, (ad.add (k * 6)).off + 2, none⟩ = some (.int .i64 s.kind) ∧
      w.cell? ⟨(ad.add (k * 6)).block, (ad.add (k * 6)).off + 3, none⟩ = some (.int .i64 s.p.day) ∧ w.cell? ⟨(ad.add (k * 6)).block, (ad.add (k * 6)).off + 4, none⟩ = some (.string s.p.tx) ∧ w.cell? ⟨(ad.add (k * 6)).block, (ad.add (k * 6)).off + 5, none⟩ = some (.slice s.p.A s.p.ls.length s.p.c) := by
  obtain ⟨ad', hA, _, hc⟩ := h.cells hk
  injection hA with hA
  subst hA
  exact hc
theorem wf_ofT {n : Int} (h1 : -9223372036854775808 ≤ n) (h2 : n ≤ 9223372036854775807) : (Lit.int .i64 n).wf = true := by
  simp [Lit.wf, IntKind.min, IntKind.max, IntKind.signed, IntKind.bits]
  omega
theorem few_legs {tl n : Nat} (h : fewB tl n = true) : n ≤ 100 := by
  unfold fewB at h
  rw [Bool.and_eq_true, decide_eq_true_eq] at h
  exact h.1
/-- Two postings, whichever is first. -/
theorem turned_law {l : Acs} {d1 d2 : Int} {t1 t2 : Nat} {p q : List (Int × Int)} (h1 : checkE l d1 t1 p = 0) (h2 : checkE (postedL l d1 t1 p) d2 t2 q = 0) (h3 : checkE l d2 t2 q = 0) (h4 : checkE (postedL l d2 t2 q) d1 t1 p = 0) (n : Int) :
    aFind (postedL (postedL l d1 t1 p) d2 t2 q) n = aFind (postedL (postedL l d2 t2 q) d1 t1 p) n := by
  have e1 : postedL l d1 t1 p = postL l p := by unfold postedL; rw [if_pos h1]
  have e3 : postedL l d2 t2 q = postL l q := by unfold postedL; rw [if_pos h3]
  have e2 : postedL (postedL l d1 t1 p) d2 t2 q = postL (postedL l d1 t1 p) q := by
    show (if checkE (postedL l d1 t1 p) d2 t2 q = 0 then _ else _) = _
    rw [if_pos h2]
  have e4 : postedL (postedL l d2 t2 q) d1 t1 p = postL (postedL l d2 t2 q) p := by
    show (if checkE (postedL l d2 t2 q) d1 t1 p = 0 then _ else _) = _
    rw [if_pos h4]
  rw [e2, e4, post_find h2, post_find h4, e1, e3, post_find h1, post_find h3]
  cases aFind l n with
  | none => rfl
  | some a =>
    simp
    omega
theorem bal_of {l : Acs} (h : l.Pairwise fun x y => x.1 < y.1) {k : Nat} {e : Int × Int × Int} (he : l[k]? = some e) : balE l e.1 = (e.2.2, 0) := by
  unfold balE
  rw [find_mem h (List.mem_of_getElem? he : (e.1, e.2) ∈ l)]
/-- The state of ChartTurned ahead of the k-th step. -/
def TnRel (qa ba qb bb n : Nat) (w3 : World) (i : Value) (wr : World) : Prop :=
  ∃ (k : Nat) (l : Acs), k ≤ n ∧ k ≤ 60 ∧ i = .int .i64 (k : Int) ∧ Ch qa ba l wr ∧ Ch qb bb l wr ∧ Good l ∧ l.length ≤ 100 * k ∧ Kept (fun k => k = ba ∨ k = bb) w3 wr

set_option maxRecDepth 100000 in
set_option maxHeartbeats 4000000 in
theorem chartTurned_few (A : Option Addr) (c : Nat) (l : List Sp) (p q : Pg) (w : World) (hl : StepRow w w.heap.size A l) (hll : l.length ≤ 9223372036854775807) (hp : p.Ok w w.heap.size) (hq : q.Ok w w.heap.size) (hn60 : l.length ≤ 60) :
    Calls Try.prog 7 #[.slice A l.length c, p.v, q.v] w fun e w' => e = .returned (.bool true) ∧ Below w.heap.size w w' := by
  obtain ⟨n, hn⟩ : ∃ n, l.length = n := ⟨_, rfl⟩
  rw [hn] at hll hn60
  rw [hn]
  unfold Pg.v
  obtain ⟨w1, hw1⟩ : ∃ w1, w1 = (w.alloc (.cells #[.int .i64 p.day, .string p.tx, .slice p.A p.ls.length p.c] 25)).alloc (.cells #[.int .i64 q.day, .string q.tx, .slice q.A q.ls.length q.c] 25) := ⟨_, rfl⟩
  have hb1 : Below w.heap.size w w1 := by rw [hw1]; exact ((Below.refl _ _).alloc (Nat.le_refl _) _).alloc (by simp) _
  have hz1 : w1.heap.size = w.heap.size + 2 := by rw [hw1]; simp
  have hxp : w1.heap[w.heap.size]? = some (.cells #[.int .i64 p.day, .string p.tx, .slice p.A p.ls.length p.c] 25 (0, 0)) := by
    rw [hw1]
    exact ((below_new (w.alloc (.cells #[.int .i64 p.day, .string p.tx, .slice p.A p.ls.length p.c] 25)) _).block _ (by simp)).trans (heap_alloc_new w _)
  have hxq : w1.heap[w.heap.size + 1]? = some (.cells #[.int .i64 q.day, .string q.tx, .slice q.A q.ls.length q.c] 25 (0, 0)) := by
    rw [hw1]
    have := heap_alloc_new (w.alloc (.cells #[.int .i64 p.day, .string p.tx, .slice p.A p.ls.length p.c] 25)) (.cells #[.int .i64 q.day, .string q.tx, .slice q.A q.ls.length q.c] 25)
    rw [World.size_alloc] at this
    exact this
  have HL := hide hl
  have HN := hide hn
  have HP := hide hp
  have HQ := hide hq
  have HB1 := hide hb1
  have HZ1 := hide hz1
  have HX := hide (And.intro hxp hxq)
  clear hl hn hp hq hb1 hz1 hxp hxq
  go_enter Try.func7, Try.ntmps7
  go_wp2_with (go_at_call 9; refine halted ?_)
  refine go_on ?_
  rw [← hw1]
  refine (awake_any w1).mono ?_
  rintro e w2 ⟨rfl, hb2⟩
  have HB2 := hide hb2
  have HBX := hide (show ∀ W, Below w1.heap.size w1 W → W.heap[w.heap.size]? = some (.cells #[.int .i64 p.day, .string p.tx, .slice p.A p.ls.length p.c] 25 (0, 0)) ∧ W.heap[w.heap.size + 1]? = some (.cells #[.int .i64 q.day, .string q.tx, .slice q.A q.ls.length q.c] 25 (0, 0)) from fun W hb =>
    ⟨(hb.block _ (by rw [HZ1.out]; omega)).trans HX.out.1, (hb.block _ (by rw [HZ1.out]; omega)).trans HX.out.2⟩)
  have HCE := hide (show ∀ W, Below w1.heap.size w1 W → (W.cell? ⟨w.heap.size, 0, none⟩ = some (.int .i64 p.day) ∧ W.cell? ⟨w.heap.size, 1, none⟩ = some (.string p.tx) ∧ W.cell? ⟨w.heap.size, 2, none⟩ = some (.slice p.A p.ls.length p.c)) ∧ W.cell? ⟨w.heap.size + 1, 0, none⟩ = some (.int .i64 q.day) ∧ W.cell? ⟨w.heap.size + 1, 1, none⟩ = some (.string q.tx) ∧ W.cell? ⟨w.heap.size + 1, 2, none⟩ = some (.slice q.A q.ls.length q.c) from fun W hb =>
    ⟨⟨Joins.cell_of_block (HBX.out W hb).1 0, Joins.cell_of_block (HBX.out W hb).1 1, Joins.cell_of_block (HBX.out W hb).1 2⟩, Joins.cell_of_block (HBX.out W hb).2 0, Joins.cell_of_block (HBX.out W hb).2 1, Joins.cell_of_block (HBX.out W hb).2 2⟩)
  obtain ⟨⟨c0, c1, c2⟩, c3, c4, c5⟩ := HCE.out w2 hb2
  clear hb2 hw1
  go_wp2_with (go_at_call 11; refine halted ?_)
  refine go_on ?_
  refine (few_any p.day p.tx p.A p.ls.length p.c w2).mono ?_
  rintro e w3 ⟨rfl, hb3⟩
  have hb13 := HB2.out.trans (hb3.mono HB2.out.size)
  have HB3 := hide hb13
  clear c0 c1 c2 c3 c4 c5 hb3
  obtain ⟨⟨c0, c1, c2⟩, c3, c4, c5⟩ := HCE.out w3 hb13
  clear hb13
  cases hfp : fewB p.tx.size p.ls.length with
  | false =>
    go_wp2_with (go_at_call 10; refine halted ?_)
    refine go_on ?_
    refine (newC_any w3).mono ?_
    rintro e wn1 ⟨qa, ba, rfl, hc, hbn1, _⟩
    have hbn1' := HB3.out.trans (hbn1.mono HB3.out.size)
    have HBN1 := hide (HB1.out.trans (hbn1'.mono HB1.out.size))
    clear hc hbn1 hbn1' c0 c1 c2 c3 c4 c5
    go_wp2_with (go_at_call 10; refine halted ?_)
    refine go_on ?_
    refine (newC_any wn1).mono ?_
    rintro e wn2 ⟨qb, bb, rfl, hc, hbn2, _⟩
    have HBN2 := hide (HBN1.out.trans (hbn2.mono HBN1.out.size))
    clear hc hbn2
    go_wp2
    go_ret
    exact ⟨rfl, HBN2.out⟩
  | true =>
    have HFP := hide hfp
    clear hfp
    go_wp2_with (go_at_call 11; refine halted ?_)
    refine go_on ?_
    refine (few_any q.day q.tx q.A q.ls.length q.c w3).mono ?_
    rintro e w4 ⟨rfl, hb4⟩
    have HB4 := hide (HB3.out.trans (hb4.mono HB3.out.size))
    clear hb4
    cases hfq : fewB q.tx.size q.ls.length with
    | false =>
      go_wp2_with (go_at_call 10; refine halted ?_)
      refine go_on ?_
      refine (newC_any w4).mono ?_
      rintro e wn1 ⟨qa, ba, rfl, hc, hbn1, _⟩
      have hbn1' := HB4.out.trans (hbn1.mono HB4.out.size)
      have HBN1 := hide (HB1.out.trans (hbn1'.mono HB1.out.size))
      clear hc hbn1 hbn1' c0 c1 c2 c3 c4 c5
      go_wp2_with (go_at_call 10; refine halted ?_)
      refine go_on ?_
      refine (newC_any wn1).mono ?_
      rintro e wn2 ⟨qb, bb, rfl, hc, hbn2, _⟩
      have HBN2 := hide (HBN1.out.trans (hbn2.mono HBN1.out.size))
      clear hc hbn2
      go_wp2
      go_ret
      exact ⟨rfl, HBN2.out⟩
    | true =>
      have HFQ := hide hfq
      clear hfq
      go_wp2_with (go_at_call 10; refine halted ?_)
      refine go_on ?_
      refine (newC_any w4).mono ?_
      rintro e w5 ⟨qa, ba, rfl, hca, hb5, hqa, hba⟩
      have HCA := hide hca
      have HB5 := hide (HB4.out.trans (hb5.mono HB4.out.size))
      have hla := hca.lt
      clear hca hb5 c0 c1 c2 c3 c4 c5
      go_wp2_with (go_at_call 10; refine halted ?_)
      refine go_on ?_
      refine (newC_any w5).mono ?_
      rintro e w6 ⟨qb, bb, rfl, hcb, hb6, hqb, hbb⟩
      have HCA6 := hide (HCA.out.call hb6)
      have HCB6 := hide hcb
      have HB6 := hide (HB5.out.trans (hb6.mono HB5.out.size))
      have hlb := hcb.lt
      have HD := hide (show qa ≠ ba ∧ qb ≠ bb ∧ qa ≠ bb ∧ qb ≠ ba ∧ ba ≠ bb ∧ w1.heap.size ≤ ba ∧ w1.heap.size ≤ bb ∧ w1.heap.size ≤ w6.heap.size from by
        have h1 := HB4.out.size
        have h2 := HB6.out.size
        omega)
      clear hcb hb6 hla hlb hqa hba hqb hbb
      go_wp2
      go_loopw [11] (fun i wr => TnRel qa ba qb bb n w6 i wr) (fun i _ => n - (intOf i).toNat)
      case atStart => exact ⟨0, [], Nat.zero_le _, Nat.zero_le _, rfl, HCA6.out, HCB6.out, Good.nil, Nat.zero_le _, Kept.refl _⟩
      case round =>
        obtain ⟨k, lk, hk, hk60, rfl, hca, hcb, hg, hlen, hkp⟩ := hrel
        have hbw1 : Below w1.heap.size w1 wr := HB6.out.trans (hkp.below (fun j hj => by have := HD.out; omega) HD.out.2.2.2.2.2.2.2)
        have hbw : Below w.heap.size w wr := HB1.out.trans (hbw1.mono HB1.out.size)
        by_cases hin : k < n ∧ k < 60
        · obtain ⟨hlt, h60⟩ := hin
          obtain ⟨st, hst⟩ : ∃ st, l[k]? = some st := ⟨_, List.getElem?_eq_getElem (by rw [HN.out]; exact hlt)⟩
          have hrw := HL.out.belowLe hbw (Nat.le_refl _)
          obtain ⟨ad, hA, _, s0, s1, s2, s3, s4, s5⟩ := hrw.cells hst
          have HSO := hide (HL.out.2 st (List.mem_of_getElem? hst))
          have HCA := hide hca
          have HCB := hide hcb
          have HKP := hide hkp
          have HBW1 := hide hbw1
          have HG := hide hg
          have hlt' : (k : Int) < (n : Int) := by omega
          have h60' : (k : Int) < 60 := by omega
          have HA := hide hA
          rw [hA]
          clear hca hcb hkp hbw hbw1 hg hrw hA
          go_wp2_with (go_at_call 11; refine halted ?_)
          refine go_on ?_
          refine (few_any st.p.day st.p.tx st.p.A st.p.ls.length st.p.c wr).mono ?_
          rintro e w7 ⟨rfl, hb7⟩
          have hb7w : Below w.heap.size w w7 := HB1.out.trans ((HBW1.out.trans (hb7.mono HBW1.out.size)).mono HB1.out.size)
          have HB7W := hide hb7w
          have HCA7 := hide (HCA.out.call hb7)
          have HCB7 := hide (HCB.out.call hb7)
          have HKP7 := hide (HKP.out.call hb7)
          have HCL := hide (show ∀ W, Below w.heap.size w W → StepRow W w.heap.size (some ad) l from fun W hW => by
            have := HL.out.belowLe hW (Nat.le_refl _)
            rw [HA.out] at this
            exact this)
          have HST := hide hst
          clear s0 s1 s2 s3 s4 s5 hb7 hb7w hst
          cases hfw : fewB st.p.tx.size st.p.ls.length with
          | false =>
            go_wp2
            go_ret
            exact ⟨rfl, HB7W.out⟩
          | true =>
            have hfl := few_legs hfw
            have HFL := hide hfl
            clear hfw hfl
            obtain ⟨s0, s1, s2, s3, s4, s5⟩ := (HCL.out w7 HB7W.out).cells' HST.out
            by_cases h0 : st.do_ = 0
            · rw [h0] at s0
              have t1 : w7.drew.cell? ⟨(ad.add (k * 6)).block, (ad.add (k * 6)).off + 1, none⟩ = some (.int .i64 st.acc) := s1
              have t2 : w7.drew.cell? ⟨(ad.add (k * 6)).block, (ad.add (k * 6)).off + 2, none⟩ = some (.int .i64 st.kind) := s2
              have HOA := hide (open_any qa ba lk w7.drew (HCA7.out.call (below_dN (Below.refl _ _) 1)) st.acc st.kind HSO.out.1 (by omega))
              clear s3 s4 s5 h0
              go_wp2
              go_region_law
                ((go_simp; go_at_call 12; (with_reducible refine HOA.out.mono ?_); rintro e w8 ⟨rfl, hc8, hk8⟩; dsimp only))
              all_goals
                have hk8' : Kept (fun k => k = ba) w7 w8 := (Kept.of_below (below_dN (Below.refl _ _) 1)).trans hk8
                have HC8 := hide hc8
                have HCB8 := hide (HCB7.out.kept hk8' HD.out.2.2.2.1 (fun e => HD.out.2.2.2.2.1 e.symm))
                have hb8 : Below w.heap.size w w8 := HB7W.out.trans (hk8'.below (fun j hj => by have h1 := HD.out; have h2 := HB1.out.size; omega) HB7W.out.size)
                have HB8 := hide hb8
                have HKP8 := hide (HKP7.out.trans (hk8'.wider fun j _ e => .inl e))
                clear hk8 hk8' hc8 s0 s1 s2 t1 t2 HOA
                obtain ⟨s0, s1, s2, _, _, _⟩ := (HCL.out w8 hb8).cells' HST.out
                have t1 : w8.drew.cell? ⟨(ad.add (k * 6)).block, (ad.add (k * 6)).off + 1, none⟩ = some (.int .i64 st.acc) := s1
                have t2 : w8.drew.cell? ⟨(ad.add (k * 6)).block, (ad.add (k * 6)).off + 2, none⟩ = some (.int .i64 st.kind) := s2
                have HOB := hide (open_any qb bb lk w8.drew (HCB8.out.call (below_dN (Below.refl _ _) 1)) st.acc st.kind HSO.out.1 (by omega))
                clear hb8
                go_wp2
                go_region_law
                  ((go_simp; go_at_call 12; (with_reducible refine HOB.out.mono ?_); rintro e w9 ⟨rfl, hc9, hk9⟩; dsimp only))
                all_goals
                  have hk9' : Kept (fun k => k = bb) w8 w9 := (Kept.of_below (below_dN (Below.refl _ _) 1)).trans hk9
                  have hrel2 : TnRel qa ba qb bb n w6 (.int .i64 ((k : Int) + 1)) w9 := by
                    have h1 := open_len (l := lk) (n := st.acc) (kind := st.kind)
                    exact ⟨k + 1, _, by omega, by omega, by simp, HC8.out.kept hk9' HD.out.2.2.1 HD.out.2.2.2.2.1, hc9, open_good HG.out, by omega, HKP8.out.trans (hk9'.wider fun j _ e => .inr e)⟩
                  have HR2 := hide hrel2
                  clear hk9 hk9' hc9 hrel2 s0 s1 s2 t1 t2 HOB
                  go_wp2
                  case roundEnd => exact ⟨HR2.out, by simp [intOf]; omega⟩
            · have h0' : (st.do_ == 0) = false := by simpa using h0
              have hok := HSO.out.2
              have HPA := hide (post_any qa ba lk w7 HCA7.out st.p.day st.p.tx st.p.A w.heap.size st.p.ls.length st.p.c st.p.ls rfl (hok.row.belowLe HB7W.out (Nat.le_refl _)) HB7W.out.size (by have := HFL.out; omega) hok.wf hok.tx (by omega))
              clear s1 s2 h0 hok
              go_wp2_with (go_at_call 13; refine halted ?_)
              refine go_on ?_
              refine HPA.out.mono ?_
              rintro e w8 ⟨rfl, hc8, hk8⟩
              have HC8 := hide hc8
              have HCB8 := hide (HCB7.out.kept hk8 HD.out.2.2.2.1 (fun e => HD.out.2.2.2.2.1 e.symm))
              have hb8 : Below w.heap.size w w8 := HB7W.out.trans (hk8.below (fun j hj => by have h1 := HD.out; have h2 := HB1.out.size; omega) HB7W.out.size)
              have HB8 := hide hb8
              have HKP8 := hide (HKP7.out.trans (hk8.wider fun j _ e => .inl e))
              clear hk8 hc8 s0 s3 s4 s5 HPA
              obtain ⟨s0, _, _, s3, s4, s5⟩ := (HCL.out w8 hb8).cells' HST.out
              have hok := HSO.out.2
              have HPB := hide (post_any qb bb lk w8 HCB8.out st.p.day st.p.tx st.p.A w.heap.size st.p.ls.length st.p.c st.p.ls rfl (hok.row.belowLe hb8 (Nat.le_refl _)) hb8.size (by have := HFL.out; omega) hok.wf hok.tx (by omega))
              clear hb8 hok
              go_wp2_with (go_at_call 13; refine halted ?_)
              refine go_on ?_
              refine HPB.out.mono ?_
              rintro e w9 ⟨rfl, hc9, hk9⟩
              have hrel2 : TnRel qa ba qb bb n w6 (.int .i64 ((k : Int) + 1)) w9 := by
                have h1 := posted_len (l := lk) (day := st.p.day) (tl := st.p.tx.size) (ls := st.p.ls)
                have h2 := HFL.out
                exact ⟨k + 1, _, by omega, by omega, by simp, HC8.out.kept hk9 HD.out.2.2.1 HD.out.2.2.2.2.1, hc9, posted_good HG.out, by omega, HKP8.out.trans (hk9.wider fun j _ e => .inr e)⟩
              have HR2 := hide hrel2
              clear hk9 hc9 hrel2 s0 s3 s4 s5 HPB
              go_wp2
              case roundEnd => exact ⟨HR2.out, by simp [intOf]; omega⟩
        · have hor : ¬ k < n ∨ (k < n ∧ ¬ k < 60) := by omega
          have HBXwr := hide hbw1
          have HCAwr := hide hca
          have HCBwr := hide hcb
          have HG := hide hg
          have HLNwr := hide (show lk.length ≤ 6000 from by omega)
          clear hca hcb hkp hbw hbw1 hg hlen
          have h1 : ¬ k < n := by omega
          clear hor hk hk60 hin
          all_goals
            have hcc := HCE.out wr HBXwr.out
            obtain ⟨⟨c0, c1, c2⟩, c3, c4, c5⟩ := hcc
            have HPO := hide (post_any qa ba lk wr HCAwr.out p.day p.tx p.A w.heap.size p.ls.length p.c p.ls rfl (HP.out.row.belowLe (HB1.out.trans (HBXwr.out.mono HB1.out.size)) (Nat.le_refl _)) (Nat.le_trans HB1.out.size HBXwr.out.size) (by have := few_legs HFP.out; omega) HP.out.wf HP.out.tx (by have := HLNwr.out; omega))
            go_wp2_with (go_at_call 13; refine halted ?_)
            refine go_on ?_
            refine HPO.out.mono ?_
            rintro e w8 ⟨rfl, hc, hk⟩
            have HCAw8 := hide hc
            have HCBw8 := hide (HCBwr.out.kept hk HD.out.2.2.2.1 (fun e => HD.out.2.2.2.2.1 e.symm))
            have HBXw8 := hide (HBXwr.out.trans (hk.below (fun j hj => by have h1 := HD.out; omega) HBXwr.out.size))
            obtain ⟨E1, hE⟩ : ∃ E, E = checkE lk p.day p.tx.size p.ls := ⟨_, rfl⟩
            rw [← hE]
            have HE1 := hide hE
            clear c0 c1 c2 c3 c4 c5 hc hk hE HPO
            have HLNw8 := hide (show (postedL lk p.day p.tx.size p.ls).length ≤ 7000 from by have h1 := posted_len (l := lk) (day := p.day) (tl := p.tx.size) (ls := p.ls); have h2 := few_legs HFP.out; have h3 := HLNwr.out; omega)
            have hcc := HCE.out w8 HBXw8.out
            obtain ⟨⟨c0, c1, c2⟩, c3, c4, c5⟩ := hcc
            have HPO := hide (post_any qa ba (postedL lk p.day p.tx.size p.ls) w8 HCAw8.out q.day q.tx q.A w.heap.size q.ls.length q.c q.ls rfl (HQ.out.row.belowLe (HB1.out.trans (HBXw8.out.mono HB1.out.size)) (Nat.le_refl _)) (Nat.le_trans HB1.out.size HBXw8.out.size) (by have := few_legs HFQ.out; omega) HQ.out.wf HQ.out.tx (by have := HLNw8.out; omega))
            go_wp2_with (go_at_call 13; refine halted ?_)
            refine go_on ?_
            refine HPO.out.mono ?_
            rintro e w9 ⟨rfl, hc, hk⟩
            have HCAw9 := hide hc
            have HCBw9 := hide (HCBw8.out.kept hk HD.out.2.2.2.1 (fun e => HD.out.2.2.2.2.1 e.symm))
            have HBXw9 := hide (HBXw8.out.trans (hk.below (fun j hj => by have h1 := HD.out; omega) HBXw8.out.size))
            obtain ⟨E2, hE⟩ : ∃ E, E = checkE (postedL lk p.day p.tx.size p.ls) q.day q.tx.size q.ls := ⟨_, rfl⟩
            rw [← hE]
            have HE2 := hide hE
            clear c0 c1 c2 c3 c4 c5 hc hk hE HPO
            have HLNw9 := HLNwr
            have hcc := HCE.out w9 HBXw9.out
            obtain ⟨⟨c0, c1, c2⟩, c3, c4, c5⟩ := hcc
            have HPO := hide (post_any qb bb lk w9 HCBw9.out q.day q.tx q.A w.heap.size q.ls.length q.c q.ls rfl (HQ.out.row.belowLe (HB1.out.trans (HBXw9.out.mono HB1.out.size)) (Nat.le_refl _)) (Nat.le_trans HB1.out.size HBXw9.out.size) (by have := few_legs HFQ.out; omega) HQ.out.wf HQ.out.tx (by have := HLNw9.out; omega))
            go_wp2_with (go_at_call 13; refine halted ?_)
            refine go_on ?_
            refine HPO.out.mono ?_
            rintro e w10 ⟨rfl, hc, hk⟩
            have HCBw10 := hide hc
            have HCAw10 := hide (HCAw9.out.kept hk HD.out.2.2.1 HD.out.2.2.2.2.1)
            have HBXw10 := hide (HBXw9.out.trans (hk.below (fun j hj => by have h1 := HD.out; omega) HBXw9.out.size))
            obtain ⟨F1, hE⟩ : ∃ E, E = checkE lk q.day q.tx.size q.ls := ⟨_, rfl⟩
            rw [← hE]
            have HF1 := hide hE
            clear c0 c1 c2 c3 c4 c5 hc hk hE HPO
            have HLNw10 := hide (show (postedL lk q.day q.tx.size q.ls).length ≤ 7000 from by have h1 := posted_len (l := lk) (day := q.day) (tl := q.tx.size) (ls := q.ls); have h2 := few_legs HFQ.out; have h3 := HLNwr.out; omega)
            have hcc := HCE.out w10 HBXw10.out
            obtain ⟨⟨c0, c1, c2⟩, c3, c4, c5⟩ := hcc
            have HPO := hide (post_any qb bb (postedL lk q.day q.tx.size q.ls) w10 HCBw10.out p.day p.tx p.A w.heap.size p.ls.length p.c p.ls rfl (HP.out.row.belowLe (HB1.out.trans (HBXw10.out.mono HB1.out.size)) (Nat.le_refl _)) (Nat.le_trans HB1.out.size HBXw10.out.size) (by have := few_legs HFP.out; omega) HP.out.wf HP.out.tx (by have := HLNw10.out; omega))
            go_wp2_with (go_at_call 13; refine halted ?_)
            refine go_on ?_
            refine HPO.out.mono ?_
            rintro e w11 ⟨rfl, hc, hk⟩
            have HCBw11 := hide hc
            have HCAw11 := hide (HCAw10.out.kept hk HD.out.2.2.1 HD.out.2.2.2.2.1)
            have HBXw11 := hide (HBXw10.out.trans (hk.below (fun j hj => by have h1 := HD.out; omega) HBXw10.out.size))
            obtain ⟨F2, hE⟩ : ∃ E, E = checkE (postedL lk q.day q.tx.size q.ls) p.day p.tx.size p.ls := ⟨_, rfl⟩
            rw [← hE]
            have HF2 := hide hE
            clear c0 c1 c2 c3 c4 c5 hc hk hE HPO
            have HBW := hide (HB1.out.trans (HBXw11.out.mono HB1.out.size))
            by_cases e1 : E1 = 0
            case neg =>
              have e1' : (E1 != 0) = true := by rw [bne_iff_ne]; exact e1
              clear e1
              go_wp2
              go_ret
              exact ⟨rfl, HBW.out⟩
            by_cases e2 : E2 = 0
            case neg =>
              have e2' : (E2 != 0) = true := by rw [bne_iff_ne]; exact e2
              subst e1
              clear e2
              go_wp2
              go_ret
              exact ⟨rfl, HBW.out⟩
            by_cases e3 : F1 = 0
            case neg =>
              have e3' : (F1 != 0) = true := by rw [bne_iff_ne]; exact e3
              subst e1 e2
              clear e3
              go_wp2
              go_ret
              exact ⟨rfl, HBW.out⟩
            by_cases e4 : F2 = 0
            case neg =>
              have e4' : (F2 != 0) = true := by rw [bne_iff_ne]; exact e4
              subst e1 e2 e3
              clear e4
              go_wp2
              go_ret
              exact ⟨rfl, HBW.out⟩
            subst e1 e2 e3 e4
            have hlab : postedL (postedL lk p.day p.tx.size p.ls) q.day q.tx.size q.ls = postedL (postedL lk q.day q.tx.size q.ls) p.day p.tx.size p.ls :=
              acs_ext (acs_rises HCAw11.out.map) (acs_rises HCBw11.out.map) (turned_law HE1.out.symm HE2.out.symm HF1.out.symm HF2.out.symm)
            obtain ⟨lz, hlz⟩ : ∃ lz, lz = postedL (postedL lk p.day p.tx.size p.ls) q.day q.tx.size q.ls := ⟨_, rfl⟩
            have HCA12 : Hid (Ch qa ba lz w11) := by rw [hlz]; exact HCAw11.out
            have HCB12 : Hid (Ch qb bb lz w11) := by rw [hlz, hlab]; exact HCBw11.out
            have HGZ : Hid (Good lz) := by rw [hlz]; exact posted_good (posted_good HG.out)
            have HLZ : Hid (lz.length ≤ 8000) := by
              show _ ≤ _
              rw [hlz]
              have h1 := posted_len (l := postedL lk p.day p.tx.size p.ls) (day := q.day) (tl := q.tx.size) (ls := q.ls)
              have h2 := few_legs HFQ.out
              have h3 := HLNw8.out
              omega
            clear hlz hlab
            go_wp2_with (go_at_call 14; refine halted ?_)
            refine go_on ?_
            refine (accounts_any qa ba lz w11 HCA12.out (by have := HLZ.out; omega)).mono ?_
            rintro e w12 ⟨AN, cN, rfl, hown, hb12⟩
            have HROW := hide (Row.of_own hown)
            have hlz8 : lz.length ≤ 8000 := HLZ.out
            have HRS := hide (acs_rises HCA12.out.map)
            have HCA13 := hide (HCA12.out.call hb12)
            have HCB13 := hide (HCB12.out.call hb12)
            have HBW12 := hide (HBW.out.trans (hb12.mono HBW.out.size))
            clear hown hb12
            go_wp2
            go_loopw [18] (fun i wr => ∃ j : Nat, j ≤ lz.length ∧ i = .int .i64 (j : Int) ∧ Below w12.heap.size w12 wr) (fun i _ => lz.length - (intOf i).toNat)
            case atStart => exact ⟨0, Nat.zero_le _, rfl, Below.refl _ _⟩
            case round =>
              obtain ⟨j, hj, rfl, hbj⟩ := hrel
              by_cases hjl : j < lz.length
              · obtain ⟨e, he⟩ : ∃ e, lz[j]? = some e := ⟨_, List.getElem?_eq_getElem hjl⟩
                obtain ⟨ad2, hA2, _, hc2⟩ := HROW.out.below hbj j (.int .i64 e.1) (by rw [List.getElem?_map, List.getElem?_map, he]; rfl)
                have hge := HGZ.out e.1 e.2 (find_mem HRS.out (List.mem_of_getElem? he))
                have hbe := bal_of HRS.out he
                have HBJ := hide hbj
                have HBA := hide (balance_any qa ba lz wr (HCA13.out.call hbj) e.1 (wf_ofT (by omega) (by omega)))
                have HBB := hide (fun W (hb : Below w12.heap.size w12 W) => balance_any qb bb lz W (HCB13.out.call hb) e.1 (wf_ofT (by omega) (by omega)))
                obtain ⟨bal, hbal⟩ : ∃ bal, bal = e.2.2 := ⟨_, rfl⟩
                rw [hbe, ← hbal] at HBA HBB
                have hj2 : (j : Int) < (lz.length : Int) := by omega
                rw [hA2]
                clear hbj he hA2 hge hbe hbal
                go_wp2_with (go_at_call 15; refine halted ?_)
                refine go_on ?_
                refine HBA.out.mono ?_
                rintro e5 w13 ⟨rfl, hb13⟩
                have HB13 := hide (HBJ.out.trans (hb13.mono HBJ.out.size))
                have hc3 : w13.cell? (ad2.add j) = some (.int .i64 e.1) := (hb13.cell (by have := lt_of_cell hc2; exact this)).trans hc2
                clear hc2 hb13 HBA
                go_wp2_with (go_at_call 15; refine halted ?_)
                refine go_on ?_
                refine (HBB.out w13 HB13.out).mono ?_
                rintro e5 w14 ⟨rfl, hb14⟩
                have HB14 := hide (HB13.out.trans (hb14.mono HB13.out.size))
                have hxx : (bal != bal) = false := by simp
                clear hc3 hb14 HBB
                go_wp2
                case roundEnd => exact ⟨⟨j + 1, by omega, by simp, HB14.out⟩, by simp [intOf]; omega⟩
              · have HBJ := hide hbj
                have hj2 : j = lz.length := by omega
                subst hj2
                have HTA := hide (trial_any qa ba lz wr (HCA13.out.call hbj) HGZ.out (by have := HLZ.out; omega))
                have HTB := hide (fun W (hb : Below w12.heap.size w12 W) => trial_any qb bb lz W (HCB13.out.call hb) HGZ.out (by have := HLZ.out; omega))
                clear hbj hjl
                go_wp2_with (go_at_call 26; refine halted ?_)
                refine go_on ?_
                refine HTA.out.mono ?_
                rintro e5 w13 ⟨rfl, hb13⟩
                have HB13 := hide (HBJ.out.trans (hb13.mono HBJ.out.size))
                clear hb13 HTA
                go_wp2_with (go_at_call 26; refine halted ?_)
                refine go_on ?_
                refine (HTB.out w13 HB13.out).mono ?_
                rintro e5 w14 ⟨rfl, hb14⟩
                have HB14 := hide (HBW12.out.trans ((HB13.out.trans (hb14.mono HB13.out.size)).mono HBW12.out.size))
                clear hb14 HTB
                generalize trialE lz 0 = v0 at *
                generalize trialE lz 1 = v1 at *
                generalize trialE lz 2 = v2 at *
                generalize trialE lz 3 = v3 at *
                generalize trialE lz 4 = v4 at *
                have heq5 := eq5_same v0 v1 v2 v3 v4 w14
                go_wp2
                go_ret
                exact ⟨rfl, HB14.out⟩
end Go.Proofs.Ytibanikfalfmcaa
