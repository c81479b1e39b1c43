/-
  same: true of lists that are alike.
-/
import Derived.Test.YtikfiicjgcnljaaScan
namespace Go.Proofs.Ytikfiicjgcnljaa
open Go.RowKit
set_option linter.unusedVariables false

/-- A list of frames in memory, read. -/
def FrRow (w : World) (B : Nat) (A : Option Addr) (l : List Fr) : Prop := Row w B A (l.flatMap Fr.cells) ∧ ∀ f ∈ l, Bytes w w.heap.size f.A f.b ∧ f.b.length ≤ f.c

theorem flatCells_at {l : List Fr} {k : Nat} {f : Fr} (h : l[k]? = some f) : (l.flatMap Fr.cells)[k * 2]? = some (.int .u8 (f.k.toNat : Int)) ∧ (l.flatMap Fr.cells)[k * 2 + 1]? = some (.slice f.A f.b.length f.c) := by
  induction l generalizing k with
  | nil => simp at h
  | cons g l ih =>
    cases k with
    | zero =>
      simp at h
      subst h
      simp [Fr.cells]
    | succ k =>
      simp at h
      have := ih h
      constructor
      · rw [show (k + 1) * 2 = k * 2 + 2 by omega]
        simpa [Fr.cells] using this.1
      · rw [show (k + 1) * 2 + 1 = k * 2 + 1 + 2 by omega]
        simpa [Fr.cells] using this.2

theorem FrRow.at_ {w : World} {B : Nat} {A : Option Addr} {l : List Fr} (h : FrRow w B A l) {k : Nat} (hk : k < l.length) : ∃ ad f, A = some ad ∧ ad.block < B ∧ Hid (l[k]? = some f) ∧ w.cell? (ad.add (k * 2)) = some (.int .u8 (f.k.toNat : Int)) ∧
    w.cell? ⟨(ad.add (k * 2)).block, (ad.add (k * 2)).off + 1, none⟩ = some (.slice f.A f.b.length f.c) ∧ Bytes w w.heap.size f.A f.b ∧ f.b.length ≤ f.c := by
  have hg : l[k]? = some l[k] := List.getElem?_eq_getElem hk
  obtain ⟨h1, h2⟩ := flatCells_at hg
  obtain ⟨ad, hA, hb, hc⟩ := h.1 _ _ h1
  obtain ⟨ad', hA', _, hc'⟩ := h.1 _ _ h2
  rw [hA] at hA'
  injection hA' with hA'
  subst hA'
  exact ⟨ad, l[k], hA, hb, hg, hc, by rw [← add_add'] at hc'; exact hc', h.2 _ (List.getElem_mem hk)⟩

set_option maxRecDepth 100000 in
set_option maxHeartbeats 2000000 in
theorem same_any (A1 A2 : Option Addr) (c1 c2 n1 n2 : Nat) (l1 l2 : List Fr) (w : World) (h1 : FrRow w w.heap.size A1 l1) (h2 : FrRow w w.heap.size A2 l2) (hn1 : l1.length = n1) (hn2 : l2.length = n2) (heq : l1.map Fr.pair = l2.map Fr.pair) (hl : l1.length ≤ 1000000) :
    Calls Try.prog 16 #[.slice A1 n1 c1, .slice A2 n2 c2] w fun e w' => e = .returned (.bool true) ∧ Below w.heap.size w w' := by
  subst hn1 hn2
  have hlen : l2.length = l1.length := by have := congrArg List.length heq; simpa using this.symm
  rw [hlen]
  have HE := hide heq
  clear heq
  go_enter Try.func16, Try.ntmps16
  go_wp2
  go_loopw [5] (fun i wr => ∃ k : Nat, k ≤ l1.length ∧ i = .int .i64 (k : Int) ∧ Below w.heap.size w wr) (fun i _ => l1.length - (intOf i).toNat)
  case atStart => exact ⟨0, by omega, rfl, Below.refl _ _⟩
  case round =>
    obtain ⟨k, hk, rfl, hb⟩ := hrel
    by_cases hlt : k < l1.length
    · obtain ⟨ad1, f1, rfl, hb1, hg1, hc1, hd1, hr1, _⟩ := h1.at_ hlt
      obtain ⟨ad2, f2, rfl, hb2, hg2, hc2, hd2, hr2, _⟩ := h2.at_ (by omega : k < l2.length)
      have hp : f1.pair = f2.pair := by
        have e := congrArg (fun l => l[k]?) HE.out
        simp only [List.getElem?_map, hg1.out, hg2.out, Option.map_some] at e
        injection e
      have hpk : f1.k = f2.k := congrArg Prod.fst hp
      have hpb : f1.b = f2.b := congrArg Prod.snd hp
      rw [← hpk] at hc2
      rw [← hpb] at hd2 hr2
      clear hp hpk hpb
      have hc1' := (hb.cell (p := ad1.add (k * 2)) (by rw [add_block]; exact hb1)).trans hc1
      have hc2' := (hb.cell (p := ad2.add (k * 2)) (by rw [add_block]; exact hb2)).trans hc2
      have hd1' := (hb.cell (p := ⟨(ad1.add (k * 2)).block, (ad1.add (k * 2)).off + 1, none⟩) (by show (ad1.add (k * 2)).block < _; rw [add_block]; exact hb1)).trans hd1
      have hd2' := (hb.cell (p := ⟨(ad2.add (k * 2)).block, (ad2.add (k * 2)).off + 1, none⟩) (by show (ad2.add (k * 2)).block < _; rw [add_block]; exact hb2)).trans hd2
      have k1 := fun n => run_str (P := Try.prog) (w := wr.drewN n) (dst := 9) (c := f1.c) Try.underlying22 Try.underlying5 Try.underlying9 (drewN_bytes (n := n) (hr1.below hb)) rfl
      have k2 := fun n => run_str (P := Try.prog) (w := wr.drewN n) (dst := 9) (c := f2.c) Try.underlying22 Try.underlying5 Try.underlying9 (drewN_bytes (n := n) (hr2.below hb)) rfl
      go_wp2
      go_quiet (fail)
      go_wp2
      go_roundw
      case rel => exact ⟨k + 1, by omega, by go_num, below_drewN' hb _⟩
      case measure => simp [intOf]; omega
    · go_wp2
      go_ret
      exact ⟨rfl, hb⟩
end Go.Proofs.Ytikfiicjgcnljaa
