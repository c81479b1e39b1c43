/-
  The state of Parse's loop.
-/
import Derived.Test.YteagjjiggneheaaNext
import Derived.Test.YteagjjiggneheaaEqualI
import Derived.Test.YteagjjiggneheaaPairs
namespace Go.Proofs.Yteagjjiggneheaa
open Go.RowKit
set_option linter.unusedVariables false

/-- A slice of bytes that lies away from the blocks X. -/
structure Sl (X : Nat → Prop) (w : World) (A : Option Addr) (c : Nat) (bs : List UInt8) : Prop where
  row : Bytes w w.heap.size A bs
  cap : bs.length ≤ c
  away : Away X A bs
theorem Sl.kept {S X X' : Nat → Prop} {w w' : World} {A : Option Addr} {c : Nat} {bs : List UInt8} (h : Sl X w A c bs) (hk : Kept S w w') (hS : ∀ k, S k → X k) (hX : ∀ k, X' k → X k ∨ w.heap.size ≤ k) : Sl X' w' A c bs :=
  ⟨(hk.bytes h.row (Nat.le_refl _) (h.away.less hS)).more hk.size, h.cap, (h.away.or (Away.of_bytes h.row (X := fun k => w.heap.size ≤ k) fun k hk => hk)).less hX⟩

/-- The blocks that are written. -/
def Xs (qb : Nat) (AO AH : Option Addr) (k : Nat) : Prop := (k = qb ∨ k = qb + 1) ∨ InRow AO k ∨ InRow AH k
structure PSt (W0 : World) (qb : Nat) (outs : List Pr) (AO : Option Addr) (cO : Nat) (hs : List Nat) (AH : Option Addr) (cH : Nat) (left : List UInt8) (A : Option Addr) (c : Nat) (last : List UInt8) (AL : Option Addr) (cL : Nat) (wr : World) : Prop where
  own : wr.ownsRow W0.heap.size 34 2 (.slice AO outs.length cO) outs.length (outs.flatMap Pr.cells)
  ownH : wr.ownsRow W0.heap.size 3 1 (.slice AH hs.length cH) hs.length (hs.map intv)
  apart : Apart AO AH
  bb : BoxS qb (.slice A left.length c) wr
  bl : BoxS (qb + 1) (.slice AL last.length cL) wr
  low : qb + 1 < W0.heap.size
  sl : Sl (Xs qb AO AH) wr A c left
  sk : Sl (Xs qb AO AH) wr AL cL last
  goods : ∀ p ∈ outs, Sl (Xs qb AO AH) wr p.A p.c p.k ∧ Sl (Xs qb AO AH) wr p.A2 p.c2 p.v
  kept : Kept (fun k => k = qb ∨ k = qb + 1) W0 wr
section
variable {W0 wr w' : World} {qb : Nat} {outs : List Pr} {AO AH A AL : Option Addr} {cO cH c cL : Nat} {hs : List Nat} {left last : List UInt8}
theorem own_low {w : World} {base size n m c : Nat} {e : TypeId} {A : Option Addr} {xs : List Value} (h : w.ownsRow base e size (.slice A n c) m xs) {k : Nat} (hk : InRow A k) : base ≤ k ∧ k < w.heap.size :=
  World.ownsRow.lt h k (by rw [ownBlock_slice]; exact hk)
theorem PSt.wider (h : PSt W0 qb outs AO cO hs AH cH left A c last AL cL wr) : ∀ k, Xs qb AO AH k → k < wr.heap.size := by
  intro k hk
  have := h.kept.size
  have := h.low
  rcases hk with (rfl | rfl) | hk | hk
  · omega
  · omega
  · exact (own_low h.own hk).2
  · exact (own_low h.ownH hk).2
/-- Behind a call that turns nothing. -/
theorem PSt.call (h : PSt W0 qb outs AO cO hs AH cH left A c last AL cL wr) (hb : Below wr.heap.size wr w') : PSt W0 qb outs AO cO hs AH cH left A c last AL cL w' := by
  have hk : Kept (fun _ => False) wr w' := Kept.of_below hb
  have hz := h.kept.size
  have hlow := h.low
  exact ⟨hk.own h.own (fun _ _ h => h), hk.own h.ownH (fun _ _ h => h), h.apart, h.bb.below hb h.bb.lt, h.bl.below hb h.bl.lt, h.low,
    h.sl.kept hk (fun _ h => h.elim) (fun _ h => .inl h), h.sk.kept hk (fun _ h => h.elim) (fun _ h => .inl h), fun p hp => ⟨(h.goods p hp).1.kept hk (fun _ h => h.elim) (fun _ h => .inl h), (h.goods p hp).2.kept hk (fun _ h => h.elim) (fun _ h => .inl h)⟩, h.kept.call hb⟩
/-- Behind a growth of the heads. -/
theorem PSt.moveH (h : PSt W0 qb outs AO cO hs AH cH left A c last AL cL wr) {AH' : Option Addr} {cH' : Nat} {hs' : List Nat} (hk : Kept (InRow AH) wr w') (ho : w'.ownsRow W0.heap.size 3 1 (.slice AH' hs'.length cH') hs'.length (hs'.map intv))
    (hat : ∀ k, InRow AH' k → InRow AH k ∨ wr.heap.size ≤ k) : PSt W0 qb outs AO cO hs' AH' cH' left A c last AL cL w' := by
  have hz := h.kept.size
  have hlow := h.low
  have hX : ∀ k, Xs qb AO AH' k → Xs qb AO AH k ∨ wr.heap.size ≤ k := by
    rintro k (hk | hk | hk)
    · exact .inl (.inl hk)
    · exact .inl (.inr (.inl hk))
    · exact (hat k hk).imp_left fun h => .inr (.inr h)
  have hS : ∀ k, InRow AH k → Xs qb AO AH k := fun k hk => .inr (.inr hk)
  refine ⟨hk.own h.own (fun k h1 h2 => h.apart k h1 h2), ho, ?_, ?_, ?_, h.low, h.sl.kept hk hS hX, h.sk.kept hk hS hX, fun p hp => ⟨(h.goods p hp).1.kept hk hS hX, (h.goods p hp).2.kept hk hS hX⟩, ?_⟩
  · intro k h1 h2
    rcases hat k h2 with h3 | h3
    · exact h.apart k h1 h3
    · have := (own_low h.own h1).2; omega
  · exact (hk.block qb h.bb.lt fun e => by have := (own_low h.ownH e).1; omega).trans h.bb
  · exact (hk.block (qb + 1) h.bl.lt fun e => by have := (own_low h.ownH e).1; omega).trans h.bl
  · exact ⟨hk.os.trans h.kept.os, hk.tape.trans h.kept.tape, hk.output.trans h.kept.output, Nat.le_trans h.kept.size hk.size, fun k h1 h2 =>
      (hk.block k (by omega) fun e => by have := (own_low h.ownH e).1; omega).trans (h.kept.block k h1 h2)⟩
/-- Behind a pair told. -/
theorem PSt.told (h : PSt W0 qb outs AO cO hs AH cH left A c last AL cL wr) {A' AL' : Option Addr} {c' cL' : Nat} {left' last' : List UInt8} (hk : Kept (fun k => k = qb ∨ k = qb + 1) wr w') (hb : BoxS qb (.slice A' left'.length c') w') (hl : BoxS (qb + 1) (.slice AL' last'.length cL') w')
    (s1 : Sl (Xs qb AO AH) w' A' c' left') (s2 : Sl (Xs qb AO AH) w' AL' cL' last') : PSt W0 qb outs AO cO hs AH cH left' A' c' last' AL' cL' w' := by
  have hz := h.kept.size
  have hlow := h.low
  have hS : ∀ k, (k = qb ∨ k = qb + 1) → Xs qb AO AH k := fun k hk => .inl hk
  exact ⟨hk.own h.own (fun k h1 h2 => by have := (own_low h.own h1).1; omega), hk.own h.ownH (fun k h1 h2 => by have := (own_low h.ownH h1).1; omega), h.apart, hb, hl, h.low, s1, s2,
    fun p hp => ⟨(h.goods p hp).1.kept hk hS (fun _ h => .inl h), (h.goods p hp).2.kept hk hS (fun _ h => .inl h)⟩, h.kept.trans hk⟩
/-- Behind a growth of the pairs. -/
theorem PSt.moveO (h : PSt W0 qb outs AO cO hs AH cH left A c last AL cL wr) {AO' : Option Addr} {cO' : Nat} {p : Pr} (hk : Kept (InRow AO) wr w') (ho : w'.ownsRow W0.heap.size 34 2 (.slice AO' (outs ++ [p]).length cO') (outs ++ [p]).length ((outs ++ [p]).flatMap Pr.cells))
    (hat : ∀ k, InRow AO' k → InRow AO k ∨ wr.heap.size ≤ k) (hp : Sl (Xs qb AO AH) wr p.A p.c p.k ∧ Sl (Xs qb AO AH) wr p.A2 p.c2 p.v) : PSt W0 qb (outs ++ [p]) AO' cO' hs AH cH left A c last AL cL w' := by
  have hz := h.kept.size
  have hlow := h.low
  have hX : ∀ k, Xs qb AO' AH k → Xs qb AO AH k ∨ wr.heap.size ≤ k := by
    rintro k (hk | hk | hk)
    · exact .inl (.inl hk)
    · exact (hat k hk).imp_left fun h => .inr (.inl h)
    · exact .inl (.inr (.inr hk))
  have hS : ∀ k, InRow AO k → Xs qb AO AH k := fun k hk => .inr (.inl hk)
  refine ⟨ho, hk.own h.ownH (fun k h1 h2 => h.apart k h2 h1), ?_, ?_, ?_, h.low, h.sl.kept hk hS hX, h.sk.kept hk hS hX, ?_, ?_⟩
  · intro k h1 h2
    rcases hat k h1 with h3 | h3
    · exact h.apart k h3 h2
    · have := (own_low h.ownH h2).2; omega
  · exact (hk.block qb h.bb.lt fun e => by have := (own_low h.own e).1; omega).trans h.bb
  · exact (hk.block (qb + 1) h.bl.lt fun e => by have := (own_low h.own e).1; omega).trans h.bl
  · intro q hq
    rcases List.mem_append.1 hq with h1 | h1
    · exact ⟨(h.goods q h1).1.kept hk hS hX, (h.goods q h1).2.kept hk hS hX⟩
    · rw [List.mem_singleton.1 h1]
      exact ⟨hp.1.kept hk hS hX, hp.2.kept hk hS hX⟩
  · exact ⟨hk.os.trans h.kept.os, hk.tape.trans h.kept.tape, hk.output.trans h.kept.output, Nat.le_trans h.kept.size hk.size, fun k h1 h2 =>
      (hk.block k (by omega) fun e => by have := (own_low h.own e).1; omega).trans (h.kept.block k h1 h2)⟩
theorem PSt.row (h : PSt W0 qb outs AO cO hs AH cH left A c last AL cL wr) : PrRow wr wr.heap.size AO outs :=
  ⟨Row.of_own h.own, fun p hp => ⟨(h.goods p hp).1.row, (h.goods p hp).1.cap, (h.goods p hp).2.row, (h.goods p hp).2.cap⟩⟩
end

theorem info_pair : (Try.prog.info? 34).map (fun i => (i.zero, i.size, i.bytes)) = some (some (.agg #[.slice none 0 0, .slice none 0 0]), 2, 48) := by kernel_rfl
/-- Pairs just made and an error. -/
def NewP (w w' : World) (e : Ending) (r : List KV × Int) : Prop :=
  ∃ (A : Option Addr) (c : Nat) (l : List Pr), e = .returned (.tuple #[.slice A l.length c, .int .i64 r.2]) ∧ l.map Pr.pair = r.1 ∧ PrRow w' w'.heap.size A l ∧ l.length ≤ c ∧ Below w.heap.size w w'

theorem okE_okH {every i : Nat} {last whole : List UInt8} {n : Nat} (h : okE every i last n whole) : okH (decide (i % every = 0)) last n whole := by
  unfold okE at h
  constructor
  · intro h1
    simp at h1
    rw [if_pos h1] at h
    exact h.1
  · intro h1
    simp at h1
    rw [if_neg h1] at h
    have hi : i ≠ 0 := by intro e; rw [e] at h1; simp at h1
    exact ⟨h.2.resolve_left hi, by rw [comm_comm]; exact h.1.symm⟩
theorem okE_of {every i : Nat} {last whole : List UInt8} {n : Nat} (h : okH (decide (i % every = 0)) last n whole) (h2 : i = 0 ∨ Op.bytesLess last whole = true) : okE every i last n whole := by
  unfold okE
  refine ⟨?_, h2⟩
  by_cases h1 : i % every = 0
  · rw [if_pos h1]
    exact h.1 (by simp [h1])
  · rw [if_neg h1]
    have := (h.2 (by simp [h1])).2
    rw [comm_comm]
    exact this.symm
/-- What is told, as the whole parse goes on with it. -/
theorem allP_told {every tot i : Nat} {last b : List UInt8} (hb : b ≠ []) {head : Bool} (hh : head = decide (i % every = 0)) {r : Option (KV × List UInt8)} (hr : nextP head last b r) :
    (r = none → allP every tot i last b = none) ∧
    (∀ p t, r = some (p, t) → (¬ (i = 0 ∨ Op.bytesLess last p.1 = true) → allP every tot i last b = none) ∧ ((i = 0 ∨ Op.bytesLess last p.1 = true) → allP every tot i last b = (allP every tot (i + 1) p.1 t).map fun q => (p :: q.1, (if i % every = 0 then [tot - b.length] else []) ++ q.2)) ∧
      p.1.length + t.length ≤ last.length + b.length ∧ t.length < b.length) := by
  subst hh
  unfold nextP at hr
  cases hE : takeE last b with
  | none =>
    rw [hE] at hr
    dsimp only at hr
    subst hr
    exact ⟨fun _ => allP_none hb hE, fun _ _ h => by cases h⟩
  | some x =>
    obtain ⟨n, p, t⟩ := x
    rw [hE] at hr
    dsimp only at hr
    rcases hr with ⟨h1, rfl⟩ | ⟨h1, rfl⟩
    · refine ⟨(fun h => by cases h), ?_⟩
      intro p' t' he
      injection he with he
      simp only [Prod.mk.injEq] at he
      obtain ⟨rfl, rfl⟩ := he
      obtain ⟨hput, hn, _, _⟩ := takeE_put hE
      refine ⟨fun h => allP_bad hE fun hok => h hok.2, fun h => allP_ok hE (okE_of h1 h), ?_, takeE_lt hE⟩
      have hlen := congrArg List.length hput
      unfold entryB textB at hlen
      simp only [List.length_append, List.length_drop] at hlen
      omega
    · exact ⟨fun _ => allP_bad hE fun hok => h1 (okE_okH hok), fun _ _ h => by cases h⟩
theorem nextP_ex (head : Bool) (last b : List UInt8) : ∃ r, nextP head last b r := by
  unfold nextP
  cases takeE last b with
  | none => exact ⟨none, rfl⟩
  | some x =>
    obtain ⟨n, p, t⟩ := x
    by_cases h : okH head last n p.1
    · exact ⟨some (p, t), .inl ⟨h, rfl⟩⟩
    · exact ⟨none, .inr ⟨h, rfl⟩⟩
end Go.Proofs.Yteagjjiggneheaa
