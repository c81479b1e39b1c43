/-
  Pairs in memory; few.
-/
import Derived.Test.YteagjjiggneheaaBlockFn
import Derived.Test.YteagjjiggneheaaConcat
namespace Go.Proofs.Yteagjjiggneheaa
open Go.RowKit
set_option linter.unusedVariables false

/-- A pair in memory. -/
structure Pr where
  A : Option Addr
  c : Nat
  k : List UInt8
  A2 : Option Addr
  c2 : Nat
  v : List UInt8
def Pr.cells (p : Pr) : List Value := [.slice p.A p.k.length p.c, .slice p.A2 p.v.length p.c2]
def Pr.pair (p : Pr) : KV := (p.k, p.v)
/-- A list of pairs in memory. -/
def PrRow (w : World) (B : Nat) (A : Option Addr) (l : List Pr) : Prop := Row w B A (l.flatMap Pr.cells) ∧ ∀ p ∈ l, Bytes w w.heap.size p.A p.k ∧ p.k.length ≤ p.c ∧ Bytes w w.heap.size p.A2 p.v ∧ p.v.length ≤ p.c2

theorem prCells_at {l : List Pr} {k : Nat} {p : Pr} (h : l[k]? = some p) : (l.flatMap Pr.cells)[k * 2]? = some (.slice p.A p.k.length p.c) ∧ (l.flatMap Pr.cells)[k * 2 + 1]? = some (.slice p.A2 p.v.length p.c2) := by
  induction l generalizing k with
  | nil => simp at h
  | cons g l ih =>
    cases k with
    | zero =>
      simp at h
      subst h
      simp [Pr.cells]
    | succ k =>
      simp at h
      have := ih h
      constructor
      · rw [show (k + 1) * 2 = k * 2 + 2 by omega]
        simpa [Pr.cells] using this.1
      · rw [show (k + 1) * 2 + 1 = k * 2 + 1 + 2 by omega]
        simpa [Pr.cells] using this.2

theorem PrRow.below {w w' : World} {A : Option Addr} {l : List Pr} (h : PrRow w w.heap.size A l) (hb : Below w.heap.size w w') : PrRow w' w'.heap.size A l :=
  ⟨(h.1.below hb).more hb.size, fun f hf => ⟨((h.2 f hf).1.below hb).more hb.size, (h.2 f hf).2.1, ((h.2 f hf).2.2.1.below hb).more hb.size, (h.2 f hf).2.2.2⟩⟩

theorem PrRow.at_ {w : World} {B : Nat} {A : Option Addr} {l : List Pr} (h : PrRow w B A l) {k : Nat} (hk : k < l.length) : ∃ ad p, A = some ad ∧ ad.block < B ∧ Hid (l[k]? = some p) ∧ w.cell? (ad.add (k * 2)) = some (.slice p.A p.k.length p.c) ∧
    w.cell? ⟨(ad.add (k * 2)).block, (ad.add (k * 2)).off + 1, none⟩ = some (.slice p.A2 p.v.length p.c2) ∧ Bytes w w.heap.size p.A p.k ∧ p.k.length ≤ p.c ∧ Bytes w w.heap.size p.A2 p.v ∧ p.v.length ≤ p.c2 := by
  have hg : l[k]? = some l[k] := List.getElem?_eq_getElem hk
  obtain ⟨h1, h2⟩ := prCells_at hg
  obtain ⟨ad, hA, hb, hc⟩ := h.1 _ _ h1
  obtain ⟨ad', hA', _, hc'⟩ := h.1 _ _ h2
  rw [hA] at hA'
  injection hA' with hA'
  subst hA'
  exact ⟨ad, l[k], hA, hb, hg, hc, by rw [← add_add'] at hc'; exact hc', h.2 _ (List.getElem_mem hk)⟩

/-- Few pairs, with few bytes. -/
def FewTo (l : List Pr) (k : Nat) : Prop := ∀ j p, j < k → l[j]? = some p → p.k.length ≤ 1000 ∧ p.v.length ≤ 5000
theorem FewTo.all {l : List Pr} (h : FewTo l l.length) (hl : l.length ≤ 2000) : FewP (l.map Pr.pair) := by
  refine ⟨by simpa using hl, fun q hq => ?_⟩
  obtain ⟨p, hp, rfl⟩ := List.mem_map.1 hq
  obtain ⟨j, hj⟩ := List.mem_iff_getElem?.1 hp
  exact h j p (List.getElem?_eq_some_iff.1 hj).1 hj

/-- What few answers. -/
def FewR (l : List Pr) (e : Ending) : Prop := e = .returned (.bool false) ∨ (e = .returned (.bool true) ∧ Hid (FewP (l.map Pr.pair)))

set_option maxRecDepth 100000 in
set_option maxHeartbeats 2000000 in
theorem few_any (A : Option Addr) (c : Nat) (l : List Pr) (w : World) (hrow : PrRow w w.heap.size A l) (hll : l.length ≤ 9223372036854775807) :
    Calls Try.prog 9 #[.slice A l.length c] w fun e w' => FewR l e ∧ Below w.heap.size w w' := by
  by_cases hL : 2000 < l.length
  · go_enter Try.func9, Try.ntmps9
    go_wp2
    go_ret
    exact ⟨.inl rfl, Below.refl _ _⟩
  go_enter Try.func9, Try.ntmps9
  go_wp2
  go_loopw [3] (fun i wr => ∃ k : Nat, k ≤ l.length ∧ i = .int .i64 (k : Int) ∧ Hid (FewTo l k) ∧ Below w.heap.size w wr) (fun i _ => l.length - (intOf i).toNat)
  case atStart => exact ⟨0, by omega, rfl, (by show FewTo l 0; intro j p hj; omega), Below.refl _ _⟩
  case round =>
    obtain ⟨k, hk, rfl, HF, hb⟩ := hrel
    by_cases hlt : k < l.length
    · obtain ⟨ad, p, rfl, hadb, hg, hc1, hd1, hr1, _, hr2, _⟩ := hrow.at_ hlt
      have hc1' := (hb.cell (p := ad.add (k * 2)) (by rw [add_block]; exact hadb)).trans hc1
      have hd1' := (hb.cell (p := ⟨(ad.add (k * 2)).block, (ad.add (k * 2)).off + 1, none⟩) (by show (ad.add (k * 2)).block < _; rw [add_block]; exact hadb)).trans hd1
      clear hrow hr1 hr2 hc1 hd1
      by_cases h1 : 1000 < p.k.length
      · go_wp2
        go_ret
        exact ⟨.inl rfl, hb⟩
      by_cases h2 : 5000 < p.v.length
      · go_wp2
        go_ret
        exact ⟨.inl rfl, hb⟩
      have HF2 : Hid (FewTo l (k + 1)) := by
        show FewTo _ _
        intro j q hj hq
        by_cases e : j = k
        · subst e
          rw [hg.out] at hq
          injection hq with hq
          subst hq
          omega
        · exact HF.out j q (by omega) hq
      go_wp2
      go_roundw
      case rel => exact ⟨k + 1, by omega, by go_num, HF2.out, hb⟩
      case measure => simp [intOf]; omega
    · have hkl : k = l.length := by omega
      subst hkl
      have HF2 := hide (HF.out.all (by omega))
      clear hrow
      go_wp2
      go_ret
      exact ⟨.inr ⟨rfl, HF2⟩, hb⟩
end Go.Proofs.Yteagjjiggneheaa
