/-
  The reference's Scan: what it does.
-/
import Derived.Test.YtikfiicjgcnljaaRFTake
import Derived.Test.YtikfiicjgcnljaaFrs
namespace Go.Proofs.Ytikfiicjgcnljaa
open Go.RowKit
set_option linter.unusedVariables false

theorem info_rframe : (Try.prog.info? 33).map (fun i => (i.zero, i.size, i.bytes)) = some (some (.agg #[.int .u8 0, .slice none 0 0]), 2, 32) := by kernel_rfl

/-- The loop of a scan: what was told, and what is left. -/
def ScanRel (e : TypeId) (bs : List UInt8) (w : World) (v u : Value) (wr : World) : Prop :=
  ∃ (l : List Fr) (A : Option Addr) (c : Nat) (r : List UInt8) (A2 : Option Addr) (c2 : Nat), v = .slice A l.length c ∧ u = .slice A2 r.length c2 ∧ Hid (bs = flat (l.map Fr.pair) ++ r) ∧ Hid (∀ f ∈ l.map Fr.pair, f.2.length ≤ 65536) ∧ r.length ≤ c2 ∧
    wr.ownsRow w.heap.size e 2 (.slice A l.length c) l.length (l.flatMap Fr.cells) ∧ Bodies (InRow A) wr l ∧ Bytes wr wr.heap.size A2 r ∧ Away (InRow A) A2 r ∧ Below w.heap.size w wr

theorem own_in {w : World} {base : Nat} {e : TypeId} {size : Nat} {A : Option Addr} {n m c : Nat} {xs : List Value} (h : w.ownsRow base e size (.slice A n c) m xs) {k : Nat} (hk : InRow A k) : base ≤ k ∧ k < w.heap.size :=
  World.ownsRow.lt h k (by rw [ownBlock_slice]; exact hk)

theorem own_below {w w' : World} {base size : Nat} {e : TypeId} {A : Option Addr} {n m c : Nat} {xs : List Value} (h : w.ownsRow base e size (.slice A n c) m xs) (hb : Below w.heap.size w w') : w'.ownsRow base e size (.slice A n c) m xs := by
  refine World.ownsRow.kept h (row := none) ⟨hb.os, hb.tape, hb.output, hb.size, fun k hk _ => hb.block k hk⟩ ?_
  rw [ownBlock_slice]
  cases A with
  | none => exact .inl rfl
  | some a => exact .inr (by simp)
theorem own_cap {w : World} {base size : Nat} {e : TypeId} {A : Option Addr} {n c : Nat} {xs : List Value} (h : w.ownsRow base e size (.slice A n c) n xs) : n ≤ c := by
  obtain ⟨_, c2, e2, h1, _⟩ := own_shape h
  injection e2 with _ _ e3
  subst e3
  exact h1

set_option maxRecDepth 100000 in
set_option maxHeartbeats 2000000 in
theorem rscan_any (A : Option Addr) (B c n : Nat) (bs : List UInt8) (w : World) (hn : bs.length = n) (hr : Bytes w B A bs) (hB : B ≤ w.heap.size) (hl : bs.length ≤ 1000000) (hc : bs.length ≤ c) :
    Calls Try.prog 15 #[.slice A n c] w fun e w' => ScanP w w' e bs := by
  subst hn
  obtain ⟨i0, hi, hz0, hz1, hz2⟩ := info_parts info_rframe
  go_enter Try.func15, Try.ntmps15
  go_wp2
  go_loopw [4, 5] (fun v u wr => ScanRel 33 bs w v u wr) (fun _ u _ => match u with | .slice _ n _ => n | _ => 0)
  case atStart => exact ⟨[], none, 0, bs, A, c, rfl, rfl, by show _ = _; simp [flat], by show ∀ _, _; simp, hc, World.ownsRow_nil _ _ _ _, Bodies.nil, hr.more hB, (fun _ _ _ h => by unfold InRow at h; simp at h), Below.refl _ _⟩
  case round =>
    obtain ⟨l, A1, c1, r, A2, c2, rfl, rfl, HB, HL, hc2, hown, hbod, hr2, haw2, hb⟩ := hrel
    have hrl : r.length ≤ bs.length := by have := congrArg List.length HB.out; rw [List.length_append] at this; omega
    have ht := rftake_any A2 wr.heap.size c2 _ r wr rfl hr2 (Nat.le_refl _) (by have := congrArg List.length HB.out; rw [List.length_append] at this; omega) hc2 haw2 (fun k hk => (own_in hown hk).2)
    cases hT : takeF r with
    | none =>
      rw [hT] at ht
      have HT := hide ht
      have HN := hide hT
      clear ht hT
      go_wp2_with (go_at_call 13; refine halted ?_)
      refine go_on ?_
      refine HT.out.mono ?_
      rintro e w1 ⟨A3, c3, A4, c4, rfl, h2, h3, h4, h5, h6, -, -⟩
      dsimp only [tookF] at *
      have hsub : wrap64 ((bs.length : Int) - (r.length : Int)) = (bs.length : Int) - (r.length : Int) := IntWalk.wrap64_in _ (by omega)
      have hb2 : Below wr.heap.size wr (w1.alloc (.cells #[.int .u8 0, .slice A3 0 c3] 33)) := h6.alloc h6.size _
      have hown2 := own_below hown hb2
      go_wp2
      go_ret2
      exact ⟨l, r, A1, c1, rfl, ⟨HB.out, HL.out, HN.out⟩, Row.of_own hown2, own_cap hown, (hbod.below hb2).less (fun _ h => h.elim), hb.trans (hb2.mono hb.size)⟩
    | some x =>
      obtain ⟨k, body, r'⟩ := x
      rw [hT] at ht
      have HT := hide ht
      obtain ⟨hput, hbl⟩ := takeF_put hT
      have HP := hide hput
      have HBL := hide hbl
      have hlen : 6 * l.length + 6 + r'.length ≤ bs.length := by
        have h1 := congrArg List.length HB.out
        have h2 := flat_len (l.map Fr.pair)
        have h3 := frameB_pos k body
        have h4 := congrArg List.length hput
        rw [List.length_append] at h1 h4
        rw [List.length_map] at h2
        omega
      have HLEN := hide hlen
      clear ht hT hput hbl hlen hr2 haw2 hr
      go_wp2_with (go_at_call 13; refine halted ?_)
      refine go_on ?_
      refine HT.out.mono ?_
      rintro e w1 ⟨A3, c3, A4, c4, rfl, h2, h3, h4, h5, h6, h7, h8⟩
      dsimp only [tookF] at *
      go_wp2_with (at_builtin; refine halted ?_)
      refine go_on ?_
      have hb2 : Below wr.heap.size wr ((w1.alloc (.cells #[.int .u8 (k.toNat : Int), .slice A3 body.length c3] 33)).alloc (.cells #[.int .u8 (k.toNat : Int), .slice A3 body.length c3] 33)) := (h6.alloc h6.size _).alloc (Nat.le_trans h6.size (by simp)) _
      have hown2 := own_below hown hb2
      have hbod2 := (hbod.below hb2).snoc (f := ⟨k, A3, c3, body⟩) ⟨(h2.belowLe (((Below.refl w1.heap.size w1).alloc (Nat.le_refl _) _).alloc (by simp) _) (Nat.le_refl _)).more (by simp; omega), h3, h7⟩
      have hr3 := (h4.belowLe (((Below.refl w1.heap.size w1).alloc (Nat.le_refl _) (.cells #[.int .u8 (k.toNat : Int), .slice A3 body.length c3] 33)).alloc (by simp) (.cells #[.int .u8 (k.toNat : Int), .slice A3 body.length c3] 33)) (Nat.le_refl _)).more (B' := ((w1.alloc (.cells #[.int .u8 (k.toNat : Int), .slice A3 body.length c3] 33)).alloc (.cells #[.int .u8 (k.toNat : Int), .slice A3 body.length c3] 33)).heap.size) (by simp; omega)
      have hrow := Row.new (w1.alloc (.cells #[.int .u8 (k.toNat : Int), .slice A3 body.length c3] 33)) #[.int .u8 (k.toNat : Int), .slice A3 body.length c3] 33 (0, 0)
      rw [World.size_alloc] at hrow
      have hbw := hb.trans (hb2.mono hb.size)
      refine wpList_append_row _ rfl (.tmp 24) (.tmp 26) 39 rfl w.heap.size 33 i0 _ 2 32 Try.underlying39 hi hz0 hz1 hz2 rfl (by decide) _ _ _ rfl hown2 _ _ 1 _ _ rfl rfl hrow ?_ ?_ ?_ hbw.size ?_
      · intro u hu
        simp at hu
        rcases hu with rfl | rfl <;> rfl
      · have := HLEN.out; unfold maxLen; omega
      · have := HLEN.out; omega
      intro n' xs' A5 c5 w5 hn' hxs' hnc _ hown5 hg hat
      have hg' : World.grownBy ((w1.alloc (.cells #[.int .u8 (k.toNat : Int), .slice A3 body.length c3] 33)).alloc (.cells #[.int .u8 (k.toNat : Int), .slice A3 body.length c3] 33)) w5 (A1.map (·.block)) := by rw [← ownBlock_slice A1 l.length c1]; exact hg
      have hat' : A5.map (·.block) = A1.map (·.block) ∨ A5.map (·.block) = some ((w1.alloc (.cells #[.int .u8 (k.toNat : Int), .slice A3 body.length c3] 33)).alloc (.cells #[.int .u8 (k.toNat : Int), .slice A3 body.length c3] 33)).heap.size := by rw [← ownBlock_slice A1 l.length c1]; exact hat
      have hb5 := hbw.grown hg' hbw.size (fun k hk => (own_in hown2 hk).1)
      have hin : ∀ q, InRow A5 q → InRow A1 q ∨ ((w1.alloc (.cells #[.int .u8 (k.toNat : Int), .slice A3 body.length c3] 33)).alloc (.cells #[.int .u8 (k.toNat : Int), .slice A3 body.length c3] 33)).heap.size ≤ q := fun q hk => hat'.imp (fun e => by unfold InRow at *; rw [← e]; exact hk) (fun e => by unfold InRow at hk; rw [e] at hk; injection hk with hk; omega)
      have hbod5 := (hbod2.grown hg' (fun k hk => hk)).less (fun k hk => hin k hk)
      have hr5 := (h8.grown hr3 (Nat.le_refl _) hg' (fun k hk => hk)).more hg'.size
      have haw5 := (h8.or (Away.of_bytes hr3 (fun k hk => hk))).less (fun k hk => hin k hk)
      have hn2 : n' = (l ++ [(⟨k, A3, c3, body⟩ : Fr)]).length := by rw [hn'.out, List.length_append]; rfl
      have hx2 : xs' = (l ++ [(⟨k, A3, c3, body⟩ : Fr)]).flatMap Fr.cells := by rw [hxs'.out, flatCells_snoc]; rfl
      subst hn2 hx2
      have HR := hide (show ScanRel 33 bs w (.slice A5 (l ++ [(⟨k, A3, c3, body⟩ : Fr)]).length c5) (.slice A4 r'.length c4) w5 from
        ⟨_, A5, c5, r', A4, c4, rfl, rfl, by show _ = _; rw [List.map_append, List.map_cons, List.map_nil, show Fr.pair ⟨k, A3, c3, body⟩ = (k, body) from rfl, flat_snoc, HB.out, HP.out, List.append_assoc], by
          show ∀ _, _
          intro f hf
          rw [List.map_append] at hf
          rcases List.mem_append.1 hf with h | h
          · exact HL.out f h
          · simp at h; subst h; exact HBL.out, h5, hown5, hbod5, hr5, haw5, hb5⟩)
      have hm : r'.length < r.length := by
        have h1 := congrArg List.length HP.out
        have h3 := frameB_pos k body
        rw [List.length_append] at h1
        omega
      have HM := hide hm
      generalize (l ++ [(⟨k, A3, c3, body⟩ : Fr)]).length = N5 at HR ⊢
      clear hg hat hg' hat' hin hbod5 hr5 haw5 hown5 hown2 hbod2 hr3 hrow hb5 hb2 hbw hn' hxs' hnc
      go_wp2
      go_roundw
      case rel => exact HR.out
      case measure => exact HM.out
end Go.Proofs.Ytikfiicjgcnljaa
