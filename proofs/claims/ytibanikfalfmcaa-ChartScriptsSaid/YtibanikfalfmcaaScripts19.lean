/-
  ChartScripts, walked.
-/
import Derived.Test.YtibanikfalfmcaaRCh4
import Derived.Test.YtibanikfalfmcaaRCh5
import Derived.Test.YtibanikfalfmcaaTrial2
import Derived.Test.YtibanikfalfmcaaEq5
import Derived.Test.YtibanikfalfmcaaTurned19
namespace Go.Proofs.Ytibanikfalfmcaa
open Go.RowKit Go.Maps Go.Shelf
set_option linter.unusedVariables false

theorem Rc.ne_map {w : World} {r base b : Nat} {A : Option Addr} {c : Nat} {l : Acs} (h : Rc r base A c l w) (hb : Km w b) : r ≠ b ∧ ∀ k, InRow A k → k ≠ b := by
  obtain ⟨es, cl, hm⟩ := hb
  refine ⟨?_, ?_⟩
  · rintro rfl
    rw [h.box] at hm
    cases hm
  · rintro k hk rfl
    rcases h.own.2 with ⟨hv, _⟩ | ⟨g, cap, cur, hv, _, hg, _⟩
    · injection hv with hA
      subst hA
      unfold InRow at hk
      simp at hk
    · injection hv with hA
      subst hA
      unfold InRow at hk
      simp at hk
      subst hk
      rw [hg] at hm
      cases hm
theorem Ch.ne_ref {w : World} {q b r base : Nat} {A : Option Addr} {c : Nat} {l l' : Acs} (h : Ch q b l w) (k : Rc r base A c l' w) : q ≠ r := by
  rintro rfl
  have h1 := h.box
  rw [k.box] at h1
  injection h1 with h1
  injection h1 with _ h1
  exact absurd h1 (by decide)
theorem Ch.ne_acc {w : World} {q b : Nat} {l : Acs} (h : Ch q b l w) : ¬ (∃ vs f, w.heap[q]? = some (.cells vs 98 f)) ∧ ¬ (∃ vs f, w.heap[b]? = some (.cells vs 98 f)) := by
  refine ⟨?_, ?_⟩
  · rintro ⟨vs, f, h1⟩
    rw [h.box] at h1
    injection h1 with h1
    injection h1 with _ h1
    exact absurd h1 (by decide)
  · rintro ⟨vs, f, h1⟩
    obtain ⟨es, cl, hm⟩ := Km.of_acs h.map
    rw [hm] at h1
    cases h1
/-- Both charts, alike. -/
structure Bo (q b r base : Nat) (l : Acs) (w : World) : Prop where
  ch : Ch q b l w
  rc : ∃ A c, Rc r base A c l w
  le : base ≤ w.heap.size
theorem Bo.call {q b r base : Nat} {l : Acs} {w w' : World} (h : Bo q b r base l w) (hb : Below w.heap.size w w') : Bo q b r base l w' := by
  obtain ⟨A, c, hr⟩ := h.rc
  exact ⟨h.ch.call hb, ⟨A, c, hr.call hb⟩, Nat.le_trans h.le hb.size⟩
/-- What the program's chart has turned leaves the reference's. -/
theorem rc_past {q b r base : Nat} {l : Acs} {w w' : World} (h : Bo q b r base l w) (hk : Kept (fun k => k = b) w w') : ∃ A c, Rc r base A c l w' := by
  obtain ⟨A, c, hr⟩ := h.rc
  have hn := hr.ne_map (Km.of_acs h.ch.map)
  exact ⟨A, c, hr.kept hk hn.1 hn.2⟩

set_option maxRecDepth 100000 in
set_option maxHeartbeats 2000000 in
theorem sameInts_any (A A' : Option Addr) (B c c' : Nat) (xs : List Int) (n : Nat) (hn : xs.length = n) (w : World) (hr : Row w B A (xs.map encZ)) (hr' : Row w B A' (xs.map encZ)) (hB : B ≤ w.heap.size) (hl : n ≤ 1000000) :
    Calls Try.prog 63 #[.slice A n c, .slice A' n c'] w fun e w' => e = .returned (.bool true) ∧ Below w.heap.size w w' := by
  subst hn
  have HR1 := hide hr
  have HR2 := hide hr'
  clear hr hr'
  go_enter Try.func63, Try.ntmps63
  go_wp2
  go_loopw [5] (fun i wr => ∃ k : Nat, k ≤ xs.length ∧ i = .int .i64 (k : Int) ∧ Below w.heap.size w wr) (fun i _ => xs.length - (intOf i).toNat)
  case atStart => exact ⟨0, Nat.zero_le _, rfl, Below.refl _ _⟩
  case round =>
    obtain ⟨k, hk, rfl, hbr⟩ := hrel
    by_cases hlt : k < xs.length
    · obtain ⟨x, hx⟩ : ∃ x, xs[k]? = some x := ⟨_, List.getElem?_eq_getElem hlt⟩
      obtain ⟨ad, rfl, hadb, hc⟩ := (HR1.out.belowLe hbr hB) k (.int .i64 x) (by rw [List.getElem?_map, hx]; rfl)
      obtain ⟨ad', rfl, hadb', hc'⟩ := (HR2.out.belowLe hbr hB) k (.int .i64 x) (by rw [List.getElem?_map, hx]; rfl)
      have hlt' : (k : Int) < (xs.length : Int) := by omega
      have HB := hide hbr
      clear hx hadb hadb' hbr
      go_wp2
      go_region
      go_wp2
      case roundEnd => exact ⟨⟨k + 1, hlt, by simp, HB.out.drew⟩, by simp [intOf]; omega⟩
    · have hkE : k = xs.length := by omega
      subst hkE
      have HB := hide hbr
      clear hbr
      go_wp2
      go_ret
      exact ⟨rfl, HB.out⟩

theorem trial_zero {l : Acs} (h : ∀ e ∈ l, 1 ≤ e.2.1) : trialE l 0 = 0 := by
  have e : kinds l 0 = [] := by
    unfold kinds
    induction l with
    | nil => rfl
    | cons y r ih =>
      have := h y (List.mem_cons_self ..)
      rw [gotK_cons, if_neg (by omega), ih (fun e he => h e (List.mem_cons_of_mem _ he))]
  unfold trialE
  rw [e]
  rfl

set_option maxRecDepth 100000 in
set_option maxHeartbeats 4000000 in
theorem alike_any (q b r base : Nat) (l : Acs) (w : World) (hs : Bo q b r base l w) (hg : Good l) (hl : l.length ≤ 1000000) :
    Calls Try.prog 31 #[.pointer (some ⟨q, 0, none⟩), .pointer (some ⟨r, 0, none⟩)] w fun e w' => e = .returned (.bool true) ∧ Below w.heap.size w w' := by
  have HS := hide hs
  have HG := hide hg
  have hrs := acs_rises hs.ch.map
  have hmem : ∀ e ∈ l, amt e.2.2 = true ∧ 1 ≤ e.2.1 := fun e he => by
    have := hg e.1 e.2 (find_mem hrs he)
    exact ⟨this.1, this.2.1⟩
  have HM := hide hmem
  have ht0 := trial_zero (l := l) (fun e he => (hmem e he).2)
  have HT0 := hide ht0
  have HA1 := hide (accounts_any q b l w hs.ch (by omega))
  clear hs hg hrs hmem ht0
  go_enter Try.func31, Try.ntmps31
  go_wp2_with (go_at_call 14; refine halted ?_)
  refine go_on ?_
  refine HA1.out.mono ?_
  rintro e w1 ⟨A1, c1, rfl, own1, hb1⟩
  have HO1 := hide own1
  have HS1 := hide (HS.out.call hb1)
  have HB1 := hide hb1
  obtain ⟨AR, cR, hrc1⟩ := HS1.out.rc
  have HA2 := hide (raccounts_any r base AR cR l w1 hrc1 (by omega))
  clear own1 hb1 hrc1 HA1
  go_wp2_with (go_at_call 64; refine halted ?_)
  refine go_on ?_
  refine HA2.out.mono ?_
  rintro e w2 ⟨A2, c2, rfl, own2, hb2⟩
  have hrw1 : Row w2 w2.heap.size A1 ((l.map (·.1)).map encZ) := ((Row.of_own HO1.out).below hb2).more hb2.size
  have HSI := hide (sameInts_any A1 A2 w2.heap.size c1 c2 (l.map (·.1)) l.length (by simp) w2 hrw1 (Row.of_own own2) (Nat.le_refl _) hl)
  have HS2 := hide (HS1.out.call hb2)
  have HB2 := hide (HB1.out.trans (hb2.mono HB1.out.size))
  clear own2 hb2 hrw1 HA2 HO1
  go_wp2_with (go_at_call 63; refine halted ?_)
  refine go_on ?_
  refine HSI.out.mono ?_
  rintro e w3 ⟨rfl, hb3⟩
  have HS3 := hide (HS2.out.call hb3)
  have HB3 := hide (HB2.out.trans (hb3.mono HB2.out.size))
  have HT1 := hide (trial_any q b l w3 HS3.out.ch HG.out (by omega))
  rw [HT0.out] at HT1
  clear hb3 HSI HS1 HS2 HB1 HB2
  go_wp2_with (go_at_call 26; refine halted ?_)
  refine go_on ?_
  refine HT1.out.mono ?_
  rintro e w4 ⟨rfl, hb4⟩
  have HS4 := hide (HS3.out.call hb4)
  have HB4 := hide (HB3.out.trans (hb4.mono HB3.out.size))
  obtain ⟨AR4, cR4, hrc4⟩ := HS4.out.rc
  have HT2 := hide (rtrial_any r base AR4 cR4 l w4 hrc4 (fun e he => (HM.out e he).1) (by omega))
  generalize trialE l 1 = t1 at *
  generalize trialE l 2 = t2 at *
  generalize trialE l 3 = t3 at *
  generalize trialE l 4 = t4 at *
  clear hb4 HT1 HS3 HB3 hrc4
  go_wp2_with (go_at_call 65; refine halted ?_)
  refine go_on ?_
  refine HT2.out.mono ?_
  rintro e w5 ⟨rfl, hb5⟩
  have HS5 := hide (HS4.out.call hb5)
  have HB5 := hide (HB4.out.trans (hb5.mono HB4.out.size))
  have heq := eq5_same 0 t1 t2 t3 t4 w5
  clear hb5 HT2 HS4 HB4
  go_wp2
  clear heq
  go_loopw [6] (fun i wr => ∃ k : Nat, k ≤ 12 ∧ i = .int .i64 (k : Int) ∧ Below w5.heap.size w5 wr) (fun i _ => 12 - (intOf i).toNat)
  case atStart => exact ⟨0, Nat.zero_le _, rfl, Below.refl _ _⟩
  case round =>
    obtain ⟨k, hk, rfl, hbr⟩ := hrel
    by_cases hlt : k < 12
    · have hlt' : (k : Int) < 12 := by omega
      have hwf : (Lit.int .i64 (k : Int)).wf = true := wf_ofT (by omega) (by omega)
      have HSR := hide (HS5.out.call hbr)
      have HBR := hide hbr
      have HC1 := hide (balance_any q b l wr HSR.out.ch (k : Int) hwf)
      clear hbr
      go_wp2_with (go_at_call 15; refine halted ?_)
      refine go_on ?_
      refine HC1.out.mono ?_
      rintro e w6 ⟨rfl, hb6⟩
      have HS6 := hide (HSR.out.call hb6)
      have HB6 := hide (HBR.out.trans (hb6.mono HBR.out.size))
      obtain ⟨A6, c6, hrc6⟩ := HS6.out.rc
      have HC2 := hide (rbalance_any r base A6 c6 l w6 hrc6 (k : Int) (by omega))
      clear hb6 HC1 hrc6
      generalize balE l (k : Int) = be at *
      obtain ⟨be1, be2⟩ := be
      try dsimp only at HC2
      try dsimp only
      go_wp2_with (go_at_call 66; refine halted ?_)
      refine go_on ?_
      refine HC2.out.mono ?_
      rintro e w7 ⟨rfl, hb7⟩
      have HS7 := hide (HS6.out.call hb7)
      have HB7 := hide (HB6.out.trans (hb7.mono HB6.out.size))
      have HC3 := hide (kind_any q b l w7 HS7.out.ch (k : Int) hwf)
      clear hb7 HC2 HS6 HB6
      try dsimp only
      go_wp2_with (go_at_call 67; refine halted ?_)
      refine go_on ?_
      refine HC3.out.mono ?_
      rintro e w8 ⟨rfl, hb8⟩
      have HS8 := hide (HS7.out.call hb8)
      have HB8 := hide (HB7.out.trans (hb8.mono HB7.out.size))
      obtain ⟨A8, c8, hrc8⟩ := HS8.out.rc
      have HC4 := hide (rkind_any r base A8 c8 l w8 hrc8 (k : Int) (by omega))
      clear hb8 HC3 HS7 HB7 hrc8
      generalize kindE l (k : Int) = ke at *
      obtain ⟨ke1, ke2⟩ := ke
      try dsimp only at HC4
      try dsimp only
      go_wp2_with (go_at_call 68; refine halted ?_)
      refine go_on ?_
      refine HC4.out.mono ?_
      rintro e w9 ⟨rfl, hb9⟩
      have HB9 := hide (HB8.out.trans (hb9.mono HB8.out.size))
      have n1 : (be1 != be1) = false := by simp
      have n2 : (be2 != be2) = false := by simp
      have n3 : (ke1 != ke1) = false := by simp
      have n4 : (ke2 != ke2) = false := by simp
      clear hb9 HC4 HS8 HB8
      try dsimp only
      go_wp2
      case roundEnd => exact ⟨⟨k + 1, by omega, by simp, HB9.out⟩, by simp [intOf]; omega⟩
    · have hkE : k = 12 := by omega
      subst hkE
      have HB9 := hide (HB5.out.trans (hbr.mono HB5.out.size))
      clear hbr
      go_wp2
      go_ret
      exact ⟨rfl, HB9.out⟩

/-- The state of ChartScripts ahead of the k-th step. -/
def SsRel (q b r base n : Nat) (w : World) (i : Value) (wr : World) : Prop :=
  ∃ (k : Nat) (l : Acs), k ≤ n ∧ k ≤ 100 ∧ i = .int .i64 (k : Int) ∧ Bo q b r base l wr ∧ Good l ∧ l.length ≤ 100 * k ∧ Below w.heap.size w wr

set_option maxRecDepth 100000 in
set_option maxHeartbeats 8000000 in
theorem chartScripts_any (A : Option Addr) (c : Nat) (l : List Sp) (w : World) (hl : StepRow w w.heap.size A l) (hll : l.length ≤ 9223372036854775807) :
    Calls Try.prog 8 #[.slice A l.length c] w fun e w' => e = .returned (.bool true) ∧ Below w.heap.size w w' := by
  obtain ⟨n, hn⟩ : ∃ n, l.length = n := ⟨_, rfl⟩
  rw [hn] at hll ⊢
  have HL := hide hl
  have HN := hide hn
  clear hl hn
  go_enter Try.func8, Try.ntmps8
  go_wp2_with (go_at_call 9; refine halted ?_)
  refine go_on ?_
  refine (awake_any w).mono ?_
  rintro e w1 ⟨rfl, hb1⟩
  have HB1 := hide hb1
  clear hb1
  go_wp2_with (go_at_call 10; refine halted ?_)
  refine go_on ?_
  refine (newC_any w1).mono ?_
  rintro e w2 ⟨q, b, rfl, hc, hb2, hq, hb⟩
  obtain ⟨w3, hw3⟩ : ∃ w3, w3 = w2.alloc (.cells #[.slice none 0 0] 67) := ⟨_, rfl⟩
  have hb3 : Below w2.heap.size w2 w3 := by rw [hw3]; exact below_new _ _
  have hx3 : w3.heap[w2.heap.size]? = some (.cells #[.slice none 0 0] 67 (0, 0)) := by rw [hw3]; exact heap_alloc_new _ _
  have hz3 : w3.heap.size = w2.heap.size + 1 := by rw [hw3]; simp
  obtain ⟨r, hr⟩ : ∃ r, r = w2.heap.size := ⟨_, rfl⟩
  rw [← hr] at hx3
  have hbw3 : Below w.heap.size w w3 := (HB1.out.trans (hb2.mono HB1.out.size)).trans (hb3.mono (Nat.le_trans HB1.out.size hb2.size))
  have HST := hide (show SsRel q b r (r + 1) n w (.int .i64 0) w3 from ⟨0, [], Nat.zero_le _, Nat.zero_le _, rfl, ⟨hc.call hb3, ⟨none, 0, hx3, World.ownsRow_nil _ _ _ _, Nat.lt_succ_self r⟩, by omega⟩, Good.nil, Nat.zero_le _, hbw3⟩)
  have HQ := hide (show w.heap.size ≤ q ∧ w.heap.size ≤ b ∧ w.heap.size ≤ r from by
    have h1 := HB1.out.size
    have h2 := hb2.size
    omega)
  clear hc hb2 hq hb hb3 hx3 hz3 hbw3 HB1
  go_wp2
  rw [← hw3, ← hr]
  clear hw3 hr
  go_loopw [6] (fun i wr => SsRel q b r (r + 1) n w i wr) (fun i _ => n - (intOf i).toNat)
  case atStart => exact HST.out
  case round =>
    obtain ⟨k, lk, hk, hk100, rfl, hbo, hg, hlen, hbw⟩ := hrel
    have HBO := hide hbo
    have HG := hide hg
    have HBW := hide hbw
    clear hbo hg hbw
    by_cases hin : k < n ∧ k < 100
    case neg =>
      have hor : ¬ k < n ∨ (k < n ∧ ¬ k < 100) := by omega
      rcases hor with h | ⟨h, h'⟩
      · have h1 : (n : Int) ≤ (k : Int) := by omega
        clear hin h
        go_wp2
        go_ret
        exact ⟨rfl, HBW.out⟩
      · have h1 : (k : Int) < (n : Int) := by omega
        have h2 : (100 : Int) ≤ (k : Int) := by omega
        clear hin h h'
        go_wp2
        go_ret
        exact ⟨rfl, HBW.out⟩
    obtain ⟨hlt, h100⟩ := hin
    obtain ⟨st, hst⟩ : ∃ st, l[k]? = some st := ⟨_, List.getElem?_eq_getElem (by rw [HN.out]; exact hlt)⟩
    have hrw := HL.out.belowLe HBW.out (Nat.le_refl _)
    obtain ⟨ad, hA, _, s0, s1, s2, s3, s4, s5⟩ := hrw.cells hst
    have HSO := hide (HL.out.2 st (List.mem_of_getElem? hst))
    have hlt' : (k : Int) < (n : Int) := by omega
    have h100' : (k : Int) < 100 := by omega
    have HAE := hide hA
    have HSTP := hide hst
    rw [hA]
    clear hrw hA hst
    go_wp2_with (go_at_call 11; refine halted ?_)
    refine go_on ?_
    refine (few_any st.p.day st.p.tx st.p.A st.p.ls.length st.p.c wr).mono ?_
    rintro e w7 ⟨rfl, hb7⟩
    have HB7 := hide (HBW.out.trans (hb7.mono HBW.out.size))
    have HBO7 := hide (HBO.out.call hb7)
    have HCL := hide (show ∀ W, Below w.heap.size w W → StepRow W w.heap.size (some ad) l from fun W hW => by
      have := HL.out.belowLe hW (Nat.le_refl _)
      rw [HAE.out] at this
      exact this)
    clear s0 s1 s2 s3 s4 s5 hb7 HBO HBW
    cases hfw : fewB st.p.tx.size st.p.ls.length with
    | false =>
      go_wp2
      go_ret
      exact ⟨rfl, HB7.out⟩
    | true =>
      have HFL := hide (few_legs hfw)
      clear hfw
      have HEND := hide (show ∀ (W : World) (l' : Acs) (E : Int), Bo q b r (r + 1) l' W → Good l' → l'.length ≤ 100 * (k + 1) → Below w.heap.size w W → SsRel q b r (r + 1) n w (.int .i64 ((k : Int) + 1)) W from fun W l' E h1 h2 h3 h4 => ⟨k + 1, l', by omega, by omega, by simp, h1, h2, h3, h4⟩)
      obtain ⟨s0, s1, s2, s3, s4, s5⟩ := (HCL.out w7 HB7.out).cells' HSTP.out
      have hok := HSO.out.2
      by_cases h0 : st.do_ = 0
      · rw [h0] at s0
        have t1 : w7.drew.cell? ⟨(ad.add (k * 6)).block, (ad.add (k * 6)).off + 1, none⟩ = some (.int .i64 st.acc) := s1
        have t2 : w7.drew.cell? ⟨(ad.add (k * 6)).block, (ad.add (k * 6)).off + 2, none⟩ = some (.int .i64 st.kind) := s2
        have HOA := hide (open_any q b lk w7.drew (HBO7.out.ch.call (below_dN (Below.refl _ _) 1)) st.acc st.kind HSO.out.1 (by omega))
        clear s3 s4 s5 h0 hok
        go_wp2
        go_region_law
          ((go_simp; go_at_call 12; (with_reducible refine HOA.out.mono ?_); rintro e w8 ⟨rfl, hc8, hk8⟩; dsimp only))
        all_goals
          have hk8' : Kept (fun k => k = b) w7 w8 := (Kept.of_below (below_dN (Below.refl _ _) 1)).trans hk8
          have hrc8 := rc_past HBO7.out hk8'
          have hb8 : Below w.heap.size w w8 := HB7.out.trans (hk8'.below (fun j hj => by have := HQ.out; omega) HB7.out.size)
          have HB8 := hide hb8
          have HC8 := hide hc8
          have hle8 : r + 1 ≤ w8.heap.size := Nat.le_trans HBO7.out.le hk8'.size
          obtain ⟨A8, c8, hrc8⟩ := hrc8
          have HRC8 := hide hrc8
          have HLE8 := hide hle8
          have HOB := hide (ropen_any r (r + 1) A8 c8 lk w8.drew (hrc8.call (below_dN (Below.refl _ _) 1)) hle8 st.acc st.kind (by omega))
          clear hk8 hk8' hc8 hrc8 hb8 hle8 s0 s1 s2 t1 t2 HOA
          obtain ⟨s0, s1, s2, s3, s4, s5⟩ := (HCL.out w8 HB8.out).cells' HSTP.out
          have t1 : w8.drew.cell? ⟨(ad.add (k * 6)).block, (ad.add (k * 6)).off + 1, none⟩ = some (.int .i64 st.acc) := s1
          have t2 : w8.drew.cell? ⟨(ad.add (k * 6)).block, (ad.add (k * 6)).off + 2, none⟩ = some (.int .i64 st.kind) := s2
          clear s0 s3 s4 s5
          obtain ⟨E, hE⟩ : ∃ E, E = openE lk st.acc st.kind := ⟨_, rfl⟩
          rw [← hE]
          unfold ROpenR at HOB
          rw [← hE] at HOB
          clear hE
          go_wp2
          go_region_law
            ((go_simp; go_at_call 27; (with_reducible refine HOB.out.mono ?_); rintro e w9 ⟨rfl, hrc9, hk9⟩; dsimp only))
          all_goals
            have hk9' : Kept (fun k => k = r) w8 w9 := (Kept.of_below (below_dN (Below.refl _ _) 1)).trans hk9
            have hch9 : Ch q b (openL lk st.acc st.kind) w9 := HC8.out.kept hk9' (fun e => HC8.out.ne_ref HRC8.out e) (fun e => (HRC8.out.ne_map (Km.of_acs HC8.out.map)).1 e.symm)
            have hb9 : Below w.heap.size w w9 := HB8.out.trans (hk9'.below (fun j hj => by have := HQ.out; omega) HB8.out.size)
            have hbo9 : Bo q b r (r + 1) (openL lk st.acc st.kind) w9 := ⟨hch9, hrc9, Nat.le_trans HLE8.out hk9'.size⟩
            have hlen9 : (openL lk st.acc st.kind).length ≤ 100 * (k + 1) := by have := open_len (l := lk) (n := st.acc) (kind := st.kind); omega
            have HBO9 := hide hbo9
            have HB9 := hide hb9
            have HL9 := hide hlen9
            have HAL := hide (alike_any q b r (r + 1) _ w9 hbo9 (open_good HG.out) (by omega))
            clear hk9 hk9' hch9 hb9 hbo9 hlen9 hrc9 s1 s2 t1 t2 HOB
            go_wp2_with (go_at_call 31; refine halted ?_)
            refine go_on ?_
            refine HAL.out.mono ?_
            rintro e w10 ⟨rfl, hb10⟩
            have HR2 := hide (HEND.out w10 _ 0 (HBO9.out.call hb10) (open_good HG.out) HL9.out (HB9.out.trans (hb10.mono HB9.out.size)))
            have n1 : (E != E) = false := by simp
            clear hb10 HAL
            go_wp2
            case roundEnd => exact ⟨HR2.out, by simp [intOf]; omega⟩
      · have h0' : (st.do_ == 0) = false := by simpa using h0
        by_cases h1 : st.do_ = 1
        · rw [h1] at s0
          have hbl7 : w.heap.size ≤ w7.heap.size := HB7.out.size
          have HPA := hide (post_any q b lk w7 HBO7.out.ch st.p.day st.p.tx st.p.A w.heap.size st.p.ls.length st.p.c st.p.ls rfl (hok.row.belowLe HB7.out (Nat.le_refl _)) HB7.out.size (by have := HFL.out; omega) hok.wf hok.tx (by omega))
          clear s1 s2 h0 h1 h0' hbl7
          obtain ⟨E, hE⟩ : ∃ E, E = checkE lk st.p.day st.p.tx.size st.p.ls := ⟨_, rfl⟩
          have HE := hide hE
          clear hE
          go_wp2_with (go_at_call 13; refine halted ?_)
          refine go_on ?_
          refine HPA.out.mono ?_
          rintro e w8 ⟨rfl, hc8, hk8⟩
          rw [← HE.out]
          have hrc8 := rc_past HBO7.out hk8
          have hb8 : Below w.heap.size w w8 := HB7.out.trans (hk8.below (fun j hj => by have := HQ.out; omega) HB7.out.size)
          have HB8 := hide hb8
          have HC8 := hide hc8
          have hle8 : r + 1 ≤ w8.heap.size := Nat.le_trans HBO7.out.le hk8.size
          obtain ⟨A8, c8, hrc8⟩ := hrc8
          have HRC8 := hide hrc8
          have HLE8 := hide hle8
          have hok := HSO.out.2
          have HPB := hide (rpost_any r (r + 1) A8 c8 lk w8 hrc8 (acs_rises HBO7.out.ch.map) st.p.day st.p.tx st.p.A w.heap.size st.p.ls.length st.p.c st.p.ls rfl (hok.row.belowLe HB8.out (Nat.le_refl _)) (by have := HQ.out; omega) hle8 (by have := HFL.out; omega) hok.tx (by omega))
          clear s0 s3 s4 s5 hk8 hc8 hrc8 hb8 hle8 HPA hok
          obtain ⟨s0, s1, s2, s3, s4, s5⟩ := (HCL.out w8 HB8.out).cells' HSTP.out
          clear s0 s1 s2
          go_wp2_with (go_at_call 28; refine halted ?_)
          refine go_on ?_
          refine HPB.out.mono ?_
          rintro e w9 ⟨rfl, hrc9, hk9⟩
          rw [← HE.out]
          have hch9 : Ch q b (postedL lk st.p.day st.p.tx.size st.p.ls) w9 := HC8.out.kept hk9 (fun e => by
            rcases e with e | e
            · exact HC8.out.ne_ref HRC8.out e
            · exact HC8.out.ne_acc.1 e.2) (fun e => by
            rcases e with e | e
            · exact (HRC8.out.ne_map (Km.of_acs HC8.out.map)).1 e.symm
            · exact HC8.out.ne_acc.2 e.2)
          have hb9 : Below w.heap.size w w9 := HB8.out.trans (hk9.below (fun j hj => by
            have := HQ.out
            rcases hj with h | h
            · omega
            · omega) HB8.out.size)
          have hbo9 : Bo q b r (r + 1) (postedL lk st.p.day st.p.tx.size st.p.ls) w9 := ⟨hch9, hrc9, Nat.le_trans HLE8.out hk9.size⟩
          have hlen9 : (postedL lk st.p.day st.p.tx.size st.p.ls).length ≤ 100 * (k + 1) := by
            have h1 := posted_len (l := lk) (day := st.p.day) (tl := st.p.tx.size) (ls := st.p.ls)
            have h2 := HFL.out
            omega
          have HBO9 := hide hbo9
          have HB9 := hide hb9
          have HL9 := hide hlen9
          have HAL := hide (alike_any q b r (r + 1) _ w9 hbo9 (posted_good HG.out) (by omega))
          clear hk9 hch9 hb9 hbo9 hlen9 hrc9 s3 s4 s5 HPB
          go_wp2_with (go_at_call 31; refine halted ?_)
          refine go_on ?_
          refine HAL.out.mono ?_
          rintro e w10 ⟨rfl, hb10⟩
          have HR2 := hide (HEND.out w10 _ 0 (HBO9.out.call hb10) (posted_good HG.out) HL9.out (HB9.out.trans (hb10.mono HB9.out.size)))
          have n1 : (E != E) = false := by simp
          clear hb10 HAL
          go_wp2
          case roundEnd => exact ⟨HR2.out, by simp [intOf]; omega⟩
        · have h1' : (st.do_ == 1) = false := by simpa using h1
          have HPA := hide (check_any q b lk w7 HBO7.out.ch st.p.day st.p.tx st.p.A w.heap.size st.p.ls.length st.p.c st.p.ls rfl (hok.row.belowLe HB7.out (Nat.le_refl _)) HB7.out.size (by have := HFL.out; omega) hok.wf hok.tx)
          clear s1 s2 h0 h1
          obtain ⟨E, hE⟩ : ∃ E, E = checkE lk st.p.day st.p.tx.size st.p.ls := ⟨_, rfl⟩
          have HE := hide hE
          clear hE
          go_wp2_with (go_at_call 29; refine halted ?_)
          refine go_on ?_
          refine HPA.out.mono ?_
          rintro e w8 ⟨rfl, hb8⟩
          rw [← HE.out]
          have HBO8 := hide (HBO7.out.call hb8)
          have HB8 := hide (HB7.out.trans (hb8.mono HB7.out.size))
          obtain ⟨A8, c8, hrc8⟩ := HBO8.out.rc
          have hok := HSO.out.2
          have HPB := hide (rcheck_any r (r + 1) A8 c8 lk w8 hrc8 st.p.day st.p.tx st.p.A w.heap.size st.p.ls.length st.p.c st.p.ls rfl (hok.row.belowLe HB8.out (Nat.le_refl _)) HB8.out.size (by have := HFL.out; omega) hok.tx (by omega))
          clear s0 s3 s4 s5 hb8 hrc8 HPA hok
          obtain ⟨s0, s1, s2, s3, s4, s5⟩ := (HCL.out w8 HB8.out).cells' HSTP.out
          clear s0 s1 s2
          go_wp2_with (go_at_call 30; refine halted ?_)
          refine go_on ?_
          refine HPB.out.mono ?_
          rintro e w9 ⟨rfl, hb9⟩
          rw [← HE.out]
          have HBO9 := hide (HBO8.out.call hb9)
          have HB9 := hide (HB8.out.trans (hb9.mono HB8.out.size))
          have HAL := hide (alike_any q b r (r + 1) _ w9 HBO9.out HG.out (by omega))
          clear hb9 s3 s4 s5 HPB
          go_wp2_with (go_at_call 31; refine halted ?_)
          refine go_on ?_
          refine HAL.out.mono ?_
          rintro e w10 ⟨rfl, hb10⟩
          have HR2 := hide (HEND.out w10 _ 0 (HBO9.out.call hb10) HG.out (by omega) (HB9.out.trans (hb10.mono HB9.out.size)))
          have n1 : (E != E) = false := by simp
          clear hb10 HAL
          go_wp2
          case roundEnd => exact ⟨HR2.out, by simp [intOf]; omega⟩
end Go.Proofs.Ytibanikfalfmcaa
