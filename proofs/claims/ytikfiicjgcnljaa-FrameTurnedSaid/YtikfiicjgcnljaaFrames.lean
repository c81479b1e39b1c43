/-
  frame.frames' iterator: what it does, whatever the loop's body keeps.
-/
import Derived.Test.YtikfiicjgcnljaaFrs
import Derived.Test.YtikfiicjgcnljaaRScan
import Derived.RangeFuncNested
import Derived.RangeFuncBound
import Derived.RangeFuncCalls
import Derived.RangeFuncLeaves
import Derived.RangeFuncBox
import Derived.Shelf.Abstract
import Derived.Shelf.RegionOpen
import Derived.WalkKit
import Derived.OwnWalkIn
import Derived.TacticsInMore
import Derived.LoopNIn
import Derived.LoopIn
namespace Go.Proofs.Ytikfiicjgcnljaa
open Go.RowKit Go.Shelf
set_option linter.unusedVariables false
attribute [local go_sem] Oper.semAt_some

/-- Whatever is in none of the blocks Z lies as it lay. -/
structure Turns (Z : Nat → Prop) (W W' : World) : Prop where
  os : W'.os = W.os
  tape : W'.tape = W.tape
  output : W'.output = W.output
  size : W.heap.size ≤ W'.heap.size
  block : ∀ k, k < W.heap.size → ¬ Z k → W'.heap[k]? = W.heap[k]?

theorem Turns.bytes {Z : Nat → Prop} {W W' : World} (h : Turns Z W W') {A : Option Addr} {bs : List UInt8} (hr : Bytes W W.heap.size A bs) (haw : Away Z A bs) : Bytes W' W'.heap.size A bs := by
  intro j v hj
  obtain ⟨ad, hA, hb, hc⟩ := hr j v hj
  have hne : bs ≠ [] := by intro e; subst e; simp at hj
  refine ⟨ad, hA, Nat.lt_of_lt_of_le hb h.size, ?_⟩
  have e1 : (ad.add j).block = ad.block := add_block ad j
  rw [World.cell?_of_block (w := W) (h.block _ (by rw [e1]; exact hb) (by rw [e1]; exact haw hne ad hA))]
  exact hc
theorem Turns.below {Z : Nat → Prop} {W W' : World} (h : Turns Z W W') {B : Nat} (hB : B ≤ W.heap.size) (hZ : ∀ k, Z k → B ≤ k) : Below B W W' :=
  ⟨h.os, h.tape, h.output, h.size, fun k hk => h.block k (by omega) (fun hz => by have := hZ k hz; omega)⟩
theorem Turns.boxed {Z : Nat → Prop} {W W' : World} (h : Turns Z W W') {b : Nat} {t : TypeId} {v : Value} (hb : Boxed W b t v) (hz : ¬ Z b) : Boxed W' b t v := (h.block b hb.lt hz).trans hb

/-- The iterator's loop. -/
def FramesRel (J : List Fr → Option Addr → Nat → World → Prop) (s : Nat) (bs : List UInt8) (wr : World) : Prop :=
  ∃ (l : List Fr) (A : Option Addr) (r : List UInt8) (A2 : Option Addr) (c2 : Nat), J l A r.length wr ∧ Boxed wr (s + 2) 22 (.slice A2 r.length c2) ∧ Hid (bs = flat (l.map Fr.pair) ++ r) ∧ Hid (∀ f ∈ l.map Fr.pair, f.2.length ≤ 65536) ∧ r.length ≤ c2 ∧
    Bytes wr wr.heap.size A2 r ∧ Away (fun k => InRow A k ∨ (s ≤ k ∧ k < s + 5)) A2 r

set_option maxRecDepth 100000 in
set_option maxHeartbeats 2000000 in
theorem frames1_in (n lp s : Nat) (hn : 1 ≤ n) (J : List Fr → Option Addr → Nat → World → Prop) (bs : List UInt8) (hl : bs.length ≤ 1000000)
    (hJg : ∀ l A b W W' row, J l A b W → W.grownBy W' row → (∀ r, row = some r → r = s + 2) → J l A b W')
    (hJr : ∀ l A b W, J l A b W → s + 5 ≤ W.heap.size ∧ ∀ k, InRow A k → s + 5 ≤ k ∧ k < W.heap.size)
    (hY : ∀ (l : List Fr) (A : Option Addr) (b b' : Nat) (f : Fr) (W : World), J l A b W → Bytes W W.heap.size f.A f.b → f.b.length ≤ f.c → Away (fun k => InRow A k ∨ (s ≤ k ∧ k < s + 5)) f.A f.b → l.length < bs.length → b' ≤ bs.length →
      YieldAt Fence.wide (n - 1) Try.prog lp #[.agg #[.int .u8 (f.k.toNat : Int), .slice f.A f.b.length f.c], .int .i64 (b' : Int)] W fun e W' =>
        e = .returned (.bool true) ∧ ∃ A', J (l ++ [f]) A' b' W' ∧ Turns (fun k => InRow A k ∨ (s ≤ k ∧ k < s + 5 ∧ k ≠ s + 2)) W W' ∧ ∀ k, InRow A' k → InRow A k ∨ W.heap.size ≤ k)
    (W : World) (A : Option Addr) (c : Nat) (hbox : Boxed W (s + 2) 22 (.slice A bs.length c)) (hr : Bytes W s A bs) (hc : bs.length ≤ c) (h0 : J [] none bs.length W) :
    CallsIn Fence.wide n Try.prog 34 #[.func (.yield lp) #[] #[], .pointer (some ⟨s + 2, 0, none⟩)] W fun e W' => (∃ v, e = .returned v) ∧
      ∃ (l : List Fr) (A' : Option Addr) (r : List UInt8), Hid (Scans bs (l.map Fr.pair) r) ∧ J l A' r.length W' := by
  refine callsIn_of_wp Try.func34 rfl trivial ?_ rfl
  simp only [Try.ntmps34, List.size_toArray, List.length_cons, List.length_nil, Nat.reduceAdd, Nat.reduceSub, Array.replicate_succ, Array.replicate_zero, List.push_toArray, List.append_toArray, List.nil_append, List.cons_append]
  gi_wp2
  gi_loopw [6] (fun _ wr => FramesRel J s bs wr) (fun _ wr => match wr.cell? ⟨s + 2, 0, none⟩ with | some (.slice _ n _) => n | _ => 0)
  case atStart => exact ⟨[], none, bs, A, c, h0, hbox, by show _ = _; simp [flat], by show ∀ _, _; simp, hc, hr.more (by have := (hJr _ _ _ _ h0).1; omega), (Away.of_bytes hr (fun k hk => by rcases hk with hk | hk; unfold InRow at hk; simp at hk; exact hk.1))⟩
  case round =>
    obtain ⟨l, A1, r, A2, c2, hJ, hbx, HB, HL, hc2, hr2, haw2⟩ := hrel
    have hJr1 := hJr _ _ _ _ hJ
    have hrl : r.length ≤ bs.length := by have := congrArg List.length HB.out; rw [List.length_append] at this; omega
    have ht := callsIn_wide (n := n - 1).2 (ftake_any A2 wr.heap.size c2 _ r wr rfl hr2 (Nat.le_refl _) (by omega) hc2 haw2 (fun k hk => by rcases hk with hk | hk; exact (hJr1.2 k hk).2; omega))
    have hcell := hbx.cell
    cases hT : takeF r with
    | none =>
      rw [hT] at ht
      have HT := hide ht
      have HN := hide hT
      clear ht hT
      gi_wp2_with (gi_at_call 12; refine halted ?_)
      refine go_on ?_
      refine ⟨trivial, HT.out.mono ?_⟩
      rintro e w1 ⟨A3, c3, A4, c4, rfl, h2, h3, h4, h5, h6, -, -⟩
      dsimp only [tookF] at *
      have hg1 : wr.grownBy (w1.alloc (.cells #[.int .u8 0, .slice A3 0 c3] 29)) none := by
        have hb2 := h6.alloc h6.size (.cells #[.int .u8 0, .slice A3 0 c3] 29)
        exact ⟨hb2.os, hb2.tape, hb2.output, hb2.size, fun k hk _ => hb2.block k hk⟩
      have hJ2 := hide (hJg _ _ _ _ _ _ hJ hg1 (fun r h => by cases h))
      gi_wp2
      refine ⟨fun _ h => (by cases h), ?_⟩
      gi_wp2
      refine bodyPost_ret (results_none rfl _ _ _) rfl ?_
      exact ⟨⟨_, rfl⟩, l, A1, r, ⟨HB.out, HL.out, HN.out⟩, hJ2.out⟩
    | some x =>
      obtain ⟨k, body, r'⟩ := x
      rw [hT] at ht
      have HT := hide ht
      obtain ⟨hput, hbl⟩ := takeF_put hT
      have HP := hide hput
      have HBL := hide hbl
      have hlen : 6 * l.length + 6 + r'.length ≤ bs.length := by
        have h1 := congrArg List.length HB.out
        have h2 := flat_len (l.map Fr.pair)
        have h3 := frameB_pos k body
        have h4 := congrArg List.length hput
        rw [List.length_append] at h1 h4
        rw [List.length_map] at h2
        omega
      have HLEN := hide hlen
      clear ht hT hput hbl hlen hr2 haw2
      gi_wp2_with (gi_at_call 12; refine halted ?_)
      refine go_on ?_
      refine ⟨trivial, HT.out.mono ?_⟩
      rintro e w1 ⟨A3, c3, A4, c4, rfl, h2, h3, h4, h5, h6, h7, h8⟩
      dsimp only [tookF] at *
      have hg1 : wr.grownBy (w1.alloc (.cells #[.int .u8 (k.toNat : Int), .slice A3 body.length c3] 29)) none := by
        have hb2 := h6.alloc h6.size (.cells #[.int .u8 (k.toNat : Int), .slice A3 body.length c3] 29)
        exact ⟨hb2.os, hb2.tape, hb2.output, hb2.size, fun k hk _ => hb2.block k hk⟩
      have hJ2 := hJg _ _ _ _ _ _ hJ hg1 (fun r h => by cases h)
      have hb3 : Below w1.heap.size w1 (w1.alloc (.cells #[.int .u8 (k.toNat : Int), .slice A3 body.length c3] 29)) := (Below.refl _ _).alloc (Nat.le_refl _) _
      obtain ⟨fn, tmps, assign, bodyC, hy, hR⟩ := hY l A1 r.length r'.length ⟨k, A3, c3, body⟩ _ hJ2 ((h2.below hb3).more hb3.size) h3 h7 (by have := HLEN.out; omega) (by have := HLEN.out; omega)
      gi_wp2
      have hbx2 := hbx.kept hg1 (by simp)
      have h4d := (h4.below hb3).more hb3.size
      have hs2 := (hJr _ _ _ _ hJ2).1
      refine hR.mono ?_
      rintro e W3 ⟨rfl, A5, hJ3, hT3, hin⟩
      have hno : ¬ (InRow A1 (s + 2) ∨ (s ≤ s + 2 ∧ s + 2 < s + 5 ∧ s + 2 ≠ s + 2)) := by
        rintro (h | h)
        · have := ((hJr _ _ _ _ hJ2).2 _ h).1; omega
        · omega
      have hbx3 := hT3.boxed hbx2 hno
      have hr3 := hT3.bytes h4d (h8.less (fun k hk => hk.imp id (fun h => ⟨h.1, h.2.1⟩)))
      have haw3 := ((h8.or (Away.of_bytes h4d (fun k hk => hk))).less (Y := fun k => InRow A5 k ∨ (s ≤ k ∧ k < s + 5)) (fun k hk => by
        rcases hk with hk | hk
        · rcases hin k hk with h | h
          · exact .inl (.inl h)
          · exact .inr h
        · exact .inl (.inr hk)))
      have hc3 := hbx3.cell
      have hf3 := hbx3.frozen
      have hbx4 := hbx3.set (.slice A4 r'.length c4)
      have hJ4 := hJg _ _ _ _ _ _ hJ3 (grownBy_setCell' W3 (s + 2) (.slice A4 r'.length c4)) (fun r h => by cases h; rfl)
      have hr4 := haw3.setCell (p := ⟨s + 2, 0, none⟩) hr3 (Or.inr (by simp)) (.slice A4 r'.length c4)
      have hsz4 : (W3.setCell ⟨s + 2, 0, none⟩ (.slice A4 r'.length c4)).heap.size = W3.heap.size := by simp
      have HR := hide (show FramesRel J s bs (W3.setCell ⟨s + 2, 0, none⟩ (.slice A4 r'.length c4)) from
        ⟨l ++ [⟨k, A3, c3, body⟩], A5, r', A4, c4, hJ4, hbx4, by show _ = _; rw [List.map_append, List.map_cons, List.map_nil, show Fr.pair ⟨k, A3, c3, body⟩ = (k, body) from rfl, flat_snoc, HB.out, HP.out, List.append_assoc], by
          show ∀ _, _
          intro f hf
          rw [List.map_append] at hf
          rcases List.mem_append.1 hf with h | h
          · exact HL.out f h
          · simp at h; subst h; exact HBL.out, h5, by rw [hsz4]; exact hr4, haw3⟩)
      have HM := hide (show r'.length < r.length by
        have h1 := congrArg List.length HP.out
        have h3 := frameB_pos k body
        rw [List.length_append] at h1
        omega)
      have HC4 := hide hbx4.cell
      clear hr4 haw3 hJ4 hbx4 hr3 hbx3 hJ3 hT3 hin h4d h8 h7 h4 h2 hJ2 hJ hy hR hJr1 hbx2 hbx
      gi_wp2
      go_roundw
      case rel => exact HR.out
      case measure => rw [HC4.out, hcell]; exact HM.out
end Go.Proofs.Ytikfiicjgcnljaa
