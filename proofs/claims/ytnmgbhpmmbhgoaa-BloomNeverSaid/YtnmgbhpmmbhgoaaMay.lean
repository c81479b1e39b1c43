/-
  bloom.May: what it computes.
-/
import Derived.Test.YtnmgbhpmmbhgoaaProbes1
namespace Go.Proofs.Ytnmgbhpmmbhgoaa
open Go.RowKit Go.Shelf
set_option linter.unusedVariables false
attribute [local go_sem] Oper.semAt_some

theorem isf_in (n : Nat) (w : World) (A : Option Addr) (c : Nat) (f : List UInt8) (hr : Bytes w w.heap.size A f) (hl : f.length ≤ 9223372036854775807) :
    CallsIn Fence.wide n Try.prog 16 #[.slice A f.length c] w fun e w' => e = .returned (.bool (isF f)) ∧ w = w' := callsIn_wide.2 (isf_any w A c f hr hl)
theorem probes_in (n : Nat) (A A2 : Option Addr) (c c2 : Nat) (f key : List UInt8) (w : World) (hr2 : Bytes w w.heap.size A2 key) (hl2 : key.length ≤ 1000000000) :
    CallsIn Fence.wide n Try.prog 15 #[.slice A f.length c, .slice A2 key.length c2] w fun e w' => ProbesP f key A c w w' e := callsIn_wide.2 (probes_any A A2 c c2 f key w hr2 hl2)

/-- Between two rounds; behind a return. -/
def MayJ (rec : LoopState → Option Code → Loop) (w : World) (w1 s0 s1 s2 : Nat) (v : Value) (f key : List UInt8) (L : Nat) (k : Nat) (W : World) : Prop :=
  Three s0 s1 s2 v ((hK key + k * gK key : Nat) : Int) (gK key : Int) W ∧ Boxed W w.heap.size 4 (.bool false) ∧ W.heap[w1 + 1]? = some (.loop (rec .ready none)) ∧ W.heap[w1]? = some (.deferred (some [])) ∧ Below w.heap.size w W ∧ Hid (allF f key k = true)
def MayE (rec : LoopState → Option Code → Loop) (w : World) (w1 : Nat) (f key : List UInt8) (p : Nat) (W : World) : Prop :=
  Boxed W w.heap.size 4 (.bool false) ∧ W.heap[w1 + 1]? = some (.loop (rec .done (some .ret))) ∧ W.heap[w1]? = some (.deferred (some [])) ∧ Below w.heap.size w W ∧ Hid (allF f key p = false)

set_option maxRecDepth 100000 in
set_option maxHeartbeats 4000000 in
theorem may_any (A1 A2 : Option Addr) (c1 c2 : Nat) (f key : List UInt8) (w : World) (hr1 : Bytes w w.heap.size A1 f) (hr2 : Bytes w w.heap.size A2 key) (hl1 : f.length ≤ 1000000000) (hl2 : key.length ≤ 1000000000) :
    Calls Try.prog 9 #[.slice A1 f.length c1, .slice A2 key.length c2] w fun e w' => e = .returned (.bool (mayF f key)) ∧ Below w.heap.size w w' := by
  have hb0 : Below w.heap.size w (w.alloc (.cells #[.bool false] 4)) := (Below.refl _ _).alloc (Nat.le_refl _) _
  have hi := isf_in 2 _ A1 c1 f ((hr1.below hb0).more hb0.size) (by omega)
  cases hf : isF f with
  | false =>
    rw [hf] at hi
    have HI := hide hi
    have HM := hide (mayF_no (key := key) hf)
    clear hi hf hr1 hr2
    refine (callsIn_wide (n := 3)).1 ?_
    refine callsIn_of_wp_marks Try.func9 rfl trivial ?_ rfl
    simp only [Try.ntmps9, List.size_toArray, List.length_cons, List.length_nil, Nat.reduceAdd, Nat.reduceSub, Array.replicate_succ, Array.replicate_zero, List.push_toArray, List.append_toArray, List.nil_append, List.cons_append]
    gi_wp2_with (gi_at_call 16; refine halted ?_)
    refine go_on ?_
    refine ⟨trivial, HI.out.mono ?_⟩
    rintro e w1 ⟨rfl, rfl⟩
    gi_wp2
    refine ⟨.bool true, ?_, by rw [HM.out], (Below.refl _ _).alloc (Nat.le_refl _) _⟩
    simp [results, Try.results9, go_sem]
  | true =>
    obtain ⟨h9, x, hx, hhd, hx1, hx2⟩ := isF_len hf
    rw [hf] at hi
    have HI := hide hi
    have hm := mayF_yes (key := key) hf
    rw [hhd] at hm
    have HM := hide hm
    obtain ⟨ad, b, rfl, hadb, hb, hc⟩ := hr1.at_ (k := 0) (by omega)
    have hc0 : w.cell? ad = some (.int .u8 (b.toNat : Int)) := hc
    obtain rfl : b = x := by have := hb.out.symm.trans hx; injection this
    have hxi : (b.toNat : Int) ≤ 12 := by omega
    have hp := probes_in 2 (some ad) A2 c1 c2 f key _ ((hr2.below hb0).more hb0.size) hl2
    have HP := hide hp
    have HB0 := hide hb0
    have HR1 := hide hr1
    clear hi hf hx hhd hm hb hc hr2 hp hx1 hx2 hr1
    refine (callsIn_wide (n := 3)).1 ?_
    refine callsIn_of_wp_marks Try.func9 rfl trivial ?_ rfl
    simp only [Try.ntmps9, List.size_toArray, List.length_cons, List.length_nil, Nat.reduceAdd, Nat.reduceSub, Array.replicate_succ, Array.replicate_zero, List.push_toArray, List.append_toArray, List.nil_append, List.cons_append]
    gi_wp2_with (gi_at_call 16; refine halted ?_)
    refine go_on ?_
    refine ⟨trivial, HI.out.mono ?_⟩
    rintro e w1 ⟨rfl, rfl⟩
    gi_wp2_with (gi_at_call 15; refine halted ?_)
    refine go_on ?_
    refine ⟨trivial, HP.out.mono ?_⟩
    rintro e w1 ⟨s0, s1, s2, rfl, q0, q1, q2, q3, t0, t1, t2, hb1⟩
    rw [World.size_alloc] at q0
    have hbw := HB0.out.trans (hb1.mono HB0.out.size)
    have hbx : Boxed w1 w.heap.size 4 (.bool false) := (hb1.block _ (by simp)).trans (Boxed.new w _ _)
    clear hb1 HI HP HB0
    gi_wp2
    refine range_enter (by omega) (gf := 23) (lb := #[.pointer (some ⟨s0, 0, none⟩), .pointer (some ⟨s1, 0, none⟩), .pointer (some ⟨s2, 0, none⟩)]) rfl (enters_of Try.func23 (by kernel_rfl) rfl) ?_
    intro fn rec hrec
    have hJ0 : MayJ rec w w1.heap.size s0 s1 s2 (.slice (some ad) f.length c1) f key f.length 0 ((w1.alloc (.deferred (some []))).alloc (.loop (rec .ready none))) := by
      refine ⟨⟨(t0.alloc _).alloc _, ?_, (t2.alloc _).alloc _⟩, (hbx.alloc _).alloc _, ?_, ?_, ?_, rfl⟩
      · rw [Nat.zero_mul, Nat.add_zero]; exact (t1.alloc _).alloc _
      · have := World.alloc_heap_new (w1.alloc (.deferred (some []))) (.loop (rec .ready none))
        rwa [World.size_alloc] at this
      · exact (Below.heap_alloc _ _ _ (by simp)).trans (World.alloc_heap_new w1 (.deferred (some [])))
      · exact (hbw.alloc hbw.size _).alloc (by have := hbw.size; simp; omega) _
    have hlpq : w.heap.size < w1.heap.size := hbx.lt
    have hcW : ((w1.alloc (.deferred (some []))).alloc (.loop (rec .ready none))).cell? ad = some (.int .u8 (b.toNat : Int)) := (hJ0.2.2.2.2.1.cell hadb).trans hc0
    have HJ0 := hide hJ0
    clear hJ0 t0 t1 t2 hbx hbw hc0
    generalize w1.heap.size = s at *
    generalize ((w1.alloc (.deferred (some []))).alloc (.loop (rec .ready none))) = WS at *
    refine (probes1_in 2 (s + 1) s0 s1 s2 (by omega) ad f.length c1 b.toNat (hK key) (gK key) (by omega) hl1 hxi (hK_lt key) (gK_lt key) (MayJ rec w s s0 s1 s2 (.slice (some ad) f.length c1) f key f.length) (MayE rec w s f key b.toNat) (fun k W h => h.1) ?_ _ hcW HJ0.out).mono ?_
    · intro k W hk hJ
      obtain ⟨⟨t0, t1, t2⟩, hbx, hL, hD, hB, HF⟩ := hJ
      have hpos := pos_in (by omega : 2 ≤ f.length) key k
      have hjd : (hK key + k * gK key) % (8 * (f.length - 1)) = posK key (8 * (f.length - 1)) k := rfl
      rw [hjd]
      have hs := allF_succ f key k
      obtain ⟨q, r, k1, b1, Qt, e1, e2, e3, e4, e5, e6, hbk, e7, e8, e9, hway, ek, er⟩ := place_get (by omega : 2 ≤ f.length) hpos.1
      generalize posK key (8 * (f.length - 1)) k = j at *
      rw [← ek.out, ← er.out]
      have hP : (2 ^ r : Nat) < 256 := by have := Nat.pow_le_pow_right (show 0 < 2 by omega) (show r ≤ 7 by omega); omega
      have hand := u8_and_nat b1.toNat (2 ^ r) b1.toNat_lt hP
      have hba := bit_and b1.toNat_lt e6
      have hQ : (Qt % 2 == 0) = decide (b1.toNat &&& 2 ^ r = 0) := by
        rw [← e7]
        have e : (b1.toNat : Int) / 2 ^ r = ((b1.toNat / 2 ^ r : Nat) : Int) := by rw [Int.natCast_ediv, Int.natCast_pow]; rfl
        rw [e, Bool.eq_iff_iff, beq_iff_eq, decide_eq_true_eq, hba]
        omega
      have hP0 : 1 ≤ (2 ^ r : Nat) := Nat.pow_pos (by omega)
      generalize (2 ^ r : Nat) = P at *
      generalize hn : b1.toNat &&& P = nn at *
      have HAW := hide hway
      have HS := hide hs
      have HQ := hide hQ
      have HLt := hide (Array.getElem?_eq_some_iff.1 hL).1
      have g := grownBy_putObj' W (s + 1) (.loop (rec .busy none))
      have aB := hB.grown g hB.size (fun k hk => by cases hk; omega)
      have a0 := t0.kept g (by simp; omega)
      have a1 := t1.kept g (by simp; omega)
      have a2 := t2.kept g (by simp; omega)
      have abx := hbx.kept g (by simp; omega)
      have aD := (g.block s (by have := HLt.out; omega) (by simp)).trans hD
      have aL : (W.putObj (s + 1) (.loop (rec .busy none))).heap[s + 1]? = some (.loop (rec .busy none)) := World.putObj_heap_same HLt.out
      obtain ⟨ad2, b2, ea, had2, hbk2, hc2⟩ := (HR1.out.below aB).at_ (k := k1) e4
      injection ea with ea
      subst ea
      obtain rfl : b2 = b1 := by have := hbk2.out.symm.trans hbk.out; injection this
      have aS := g.size
      have qc := abx.cell
      have qf := abx.frozen
      have HA0 := hide a0
      have HA1 := hide a1
      have HA2 := hide a2
      have HABX := hide abx
      have HAD := hide aD
      have HAL := hide aL
      have HAB := hide aB
      clear hba hway hs hbk hbk2 t0 t1 t2 hbx hD hB g hpos hn hQ e7 a0 a1 a2 abx aD aL aB hjd
      refine range_yield hrec rfl hL ?_
      rcases HAW.out with ⟨hbt, htest⟩ | ⟨hbt, htest⟩
      · have HF2 : Hid (allF f key (k + 1) = true) := by show _ = _; rw [HS.out, HF.out, hbt.out]; rfl
        have hnn : ((nn : Int) == 0) = false := by
          have h := HQ.out
          rw [htest] at h
          have h2 : ¬ nn = 0 := by simpa using h.symm
          rw [beq_eq_false_iff_ne]; omega
        clear htest HAW
        gi_wp2
        refine ⟨none, rfl, HAL.out, ?_⟩
        rw [if_pos rfl, show ((hK key : Int) + (k : Int) * (gK key : Int)) = ((hK key + k * gK key : Nat) : Int) by rw [Int.natCast_add, Int.natCast_mul], show ((hK key : Int) + ((k : Int) + 1) * (gK key : Int)) = ((hK key + (k + 1) * gK key : Nat) : Int) by rw [Int.natCast_add, Int.natCast_mul]; rfl]
        have g2 := grownBy_putObj' (W.putObj (s + 1) (.loop (rec .busy none))) (s + 1) (.loop (rec .ready none))
        have b0 := HA0.out.kept g2 (by simp; omega)
        have b1 := HA1.out.kept g2 (by simp; omega)
        have b2 := HA2.out.kept g2 (by simp; omega)
        have bx := HABX.out.kept g2 (by simp; omega)
        have bD := (g2.block s (Array.getElem?_eq_some_iff.1 HAD.out).1 (by simp)).trans HAD.out
        have bL : ((W.putObj (s + 1) (.loop (rec .busy none))).putObj (s + 1) (.loop (rec .ready none))).heap[s + 1]? = some (.loop (rec .ready none)) := World.putObj_heap_same (Array.getElem?_eq_some_iff.1 HAL.out).1
        have bB := HAB.out.grown g2 HAB.out.size (fun k hk => by cases hk; omega)
        generalize ((W.putObj (s + 1) (.loop (rec .busy none))).putObj (s + 1) (.loop (rec .ready none))) = X at *
        refine YieldR.more ⟨b0, b1, b2⟩ ?_
        have g3 := grownBy_setCell' X s1 (.int .u64 ((hK key + (k + 1) * gK key : Nat) : Int))
        exact ⟨⟨b0.kept g3 (by simp; omega), b1.set _, b2.kept g3 (by simp; omega)⟩, bx.kept g3 (by simp; omega), (g3.block _ (Array.getElem?_eq_some_iff.1 bL).1 (by simp; omega)).trans bL, (g3.block _ (Array.getElem?_eq_some_iff.1 bD).1 (by simp; omega)).trans bD, bB.grown g3 bB.size (fun k hk => by cases hk; omega), HF2.out⟩
      · have HF2 : Hid (allF f key b.toNat = false) := by
          refine allF_false (i := k) hk ?_
          have h1 := HS.out
          rw [HF.out, Bool.true_and] at h1
          have h4 := allF_succ f key k
          rw [HF.out, Bool.true_and] at h4
          rw [← h4, h1]; exact hbt.out
        have hnn : ((nn : Int) == 0) = true := by
          have h := HQ.out
          rw [htest] at h
          have h2 : nn = 0 := by simpa using h.symm
          rw [beq_iff_eq]; omega
        clear htest HAW
        gi_wp2
        have g2 := grownBy_setCell' (W.putObj (s + 1) (.loop (rec .busy none))) w.heap.size (.bool false)
        have bx := HABX.out.set (.bool false)
        have bD := (g2.block s (Array.getElem?_eq_some_iff.1 HAD.out).1 (by simp; omega)).trans HAD.out
        have bL := (g2.block (s + 1) (Array.getElem?_eq_some_iff.1 HAL.out).1 (by simp; omega)).trans HAL.out
        have bB := HAB.out.grown g2 HAB.out.size (fun k hk => by cases hk; omega)
        refine ⟨some .ret, rfl, bL, ?_⟩
        rw [if_neg (by simp)]
        generalize ((W.putObj (s + 1) (.loop (rec .busy none))).setCell ⟨w.heap.size, 0, none⟩ (.bool false)) = X at *
        have g3 := grownBy_putObj' X (s + 1) (.loop (rec .done (some .ret)))
        exact YieldR.stop ⟨bx.kept g3 (by simp; omega), World.putObj_heap_same (Array.getElem?_eq_some_iff.1 bL).1, (g3.block _ (Array.getElem?_eq_some_iff.1 bD).1 (by simp)).trans bD, bB.grown g3 bB.size (fun k hk => by cases hk; omega), HF2.out⟩
    · rintro e W2 ⟨⟨v, rfl⟩, hJ | hE⟩
      · obtain ⟨-, hbx, hL, hD, hB, HF⟩ := hJ
        have hlw := (Array.getElem?_eq_some_iff.1 hL).1
        have HMT : Hid (mayF f key = true) := HM.out.trans HF.out
        refine ⟨none, _, range_end hrec hL (by simp), ?_⟩
        have g := grownBy_putObj' W2 (s + 1) (.loop (rec .exhausted none))
        have kx := hbx.kept g (by simp; omega)
        have kD := (g.block s (by omega) (by simp)).trans hD
        have kB := hB.grown g hB.size (fun k hk => by cases hk; omega)
        clear hbx hL hD hB g HJ0 hlw
        generalize (W2.putObj (s + 1) (.loop (rec .exhausted none))) = W3 at *
        have c0 := kx.cell
        have f0 := kx.frozen
        gi_wp2
        have g2 := grownBy_setCell' W3 w.heap.size (.bool true)
        have jx := kx.set (.bool true)
        have jD := (g2.block s (Array.getElem?_eq_some_iff.1 kD).1 (by simp; omega)).trans kD
        have jB := kB.grown g2 kB.size (fun k hk => by cases hk; omega)
        clear c0 f0
        generalize W3.setCell ⟨w.heap.size, 0, none⟩ (.bool true) = W4 at *
        have g4 := grownBy_putObj' W4 s (.deferred none)
        have r0 := (jx.kept g4 (by simp; omega)).cell
        have r1 := jB.grown g4 jB.size (fun k hk => by cases hk; omega)
        refine ⟨by simp, .inl ⟨_, _, rfl, run_takeDeferred jD, ?_⟩⟩
        refine ⟨.bool true, ?_, by rw [HMT.out], r1⟩
        simp [results, Try.results9, go_sem, r0]
      · obtain ⟨hbx, hL, hD, hB, HF⟩ := hE
        have hlw := (Array.getElem?_eq_some_iff.1 hL).1
        have HMT : Hid (mayF f key = false) := HM.out.trans HF.out
        refine ⟨some .ret, _, range_end hrec hL (by simp), ?_⟩
        have g := grownBy_putObj' W2 (s + 1) (.loop (rec .exhausted (some .ret)))
        have kx := hbx.kept g (by simp; omega)
        have kD := (g.block s (by omega) (by simp)).trans hD
        have kB := hB.grown g hB.size (fun k hk => by cases hk; omega)
        clear hbx hL hD hB g HJ0 hlw
        generalize (W2.putObj (s + 1) (.loop (rec .exhausted (some .ret)))) = W3 at *
        have c0 := kx.cell
        have f0 := kx.frozen
        gi_wp2
        clear c0 f0
        have g4 := grownBy_putObj' W3 s (.deferred none)
        have r0 := (kx.kept g4 (by simp; omega)).cell
        have r1 := kB.grown g4 kB.size (fun k hk => by cases hk; omega)
        refine ⟨by simp, .inl ⟨_, _, rfl, run_takeDeferred kD, ?_⟩⟩
        refine ⟨.bool false, ?_, by rw [HMT.out], r1⟩
        simp [results, Try.results9, go_sem, r0]
end Go.Proofs.Ytnmgbhpmmbhgoaa
