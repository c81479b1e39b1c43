/-
  Small words of our own for the walks of this seat: a fact kept from the walk, slices that read as a list.
-/
import Derived.Test.YtpakihbejdpmoaaRows
import Derived.WalkKit
import Derived.Laws.BitsAllLaws
import Derived.Deep.Draws
namespace Go.Proofs.Ytpakihbejdpmoaa
open Go.RowKit
set_option linter.unusedVariables false

theorem hide {p : Prop} (h : p) : Hid p := h

/-- The walk halted ahead of an operation, so that a law is met by hand: an arm '(at_builtin; refine halted ?_)', then 'refine go_on ?_'. -/
def Stop (p : Prop) : Prop := p
theorem halted {p : Prop} (h : Stop p) : p := h
theorem go_on {p : Prop} (h : p) : Stop p := h

theorem ret_int {k : IntKind} {a b : Int} (h : a = b) : Ending.returned (.int k a) = .returned (.int k b) := by rw [h]

theorem add_block (a : Addr) (n : Nat) : (a.add n).block = a.block := by unfold Addr.add; split <;> rfl
theorem add_add' (a : Addr) (i j : Nat) : (a.add i).add j = a.add (i + j) := by
  unfold Addr.add
  rcases i with _ | i <;> rcases j with _ | j <;> simp [Nat.add_assoc]

/-- A slice whose address is A holds the cells xs, below block B. -/
def Row (w : World) (B : Nat) (A : Option Addr) (xs : List Value) : Prop :=
  ∀ j u, xs[j]? = some u → ∃ ad, A = some ad ∧ ad.block < B ∧ w.cell? (ad.add j) = some u

section
variable {w w' : World} {B B' : Nat} {A : Option Addr} {xs : List Value}
theorem Row.nil : Row w B A [] := by intro j u h; simp at h
theorem Row.keep (h : Row w B A xs) (hk : ∀ p : Addr, p.block < B → w'.cell? p = w.cell? p) : Row w' B A xs := by
  intro j u hj
  obtain ⟨ad, hA, hb, hc⟩ := h j u hj
  exact ⟨ad, hA, hb, (hk _ (by rw [add_block]; exact hb)).trans hc⟩
theorem Row.below (h : Row w B A xs) (hb : Below B w w') : Row w' B A xs := h.keep fun _ hp => hb.cell hp
theorem Row.belowLe (h : Row w B A xs) (hb : Below B' w w') (hB : B ≤ B') : Row w' B A xs := h.keep fun _ hp => hb.cell (Nat.lt_of_lt_of_le hp hB)
theorem Row.more (h : Row w B A xs) (hB : B ≤ B') : Row w B' A xs := by
  intro j u hj
  obtain ⟨ad, hA, hb, hc⟩ := h j u hj
  exact ⟨ad, hA, Nat.lt_of_lt_of_le hb hB, hc⟩
theorem Row.take (h : Row w B A xs) (k : Nat) : Row w B A (xs.take k) := by
  intro j u hj
  rw [List.getElem?_take] at hj
  split at hj
  · exact h j u hj
  · cases hj
theorem Row.drop (h : Row w B A xs) (k : Nat) : Row w B (A.map (·.add k)) (xs.drop k) := by
  intro j u hj
  rw [List.getElem?_drop] at hj
  obtain ⟨ad, hA, hb, hc⟩ := h _ u hj
  subst hA
  exact ⟨ad.add k, rfl, by rw [add_block]; exact hb, by rw [add_add']; exact hc⟩
/-- A cut 's[k:]' or 's[k:h]' as the model writes its address. -/
theorem Row.cut (h : Row w B A xs) {m k size : Nat} (hk : m = k → xs.drop (k * size) = []) : Row w B (if m = k then A else A.map (·.add (k * size))) (xs.drop (k * size)) := by
  split
  · rename_i e; rw [hk e]; exact Row.nil
  · exact h.drop _
theorem Row.of_own {base : Nat} {e : TypeId} {n c size : Nat} (h : w.ownsRow base e size (.slice A n c) n xs) : Row w w.heap.size A xs := by
  intro j u hj
  rcases h.2 with ⟨hv, hn⟩ | ⟨g, cap, cur, hv, hbg, hh, hnc, hcm, hcs, ht⟩
  · have hl := h.1
    rw [hn] at hl
    have : xs = [] := List.eq_nil_of_length_eq_zero (by simpa using hl)
    subst this
    simp at hj
  · injection hv with hA _ _
    subst hA
    refine ⟨_, rfl, ?_, h.cells (g := g) rfl j u hj⟩
    rcases Nat.lt_or_ge g w.heap.size with hlt | hge
    · exact hlt
    · rw [Array.getElem?_eq_none hge] at hh; cases hh
theorem Row.alloc (h : Row w B A xs) (hB : B ≤ w.heap.size) (o : Obj) : Row (w.alloc o) B A xs := h.belowLe (Below.alloc (Below.refl B w) hB o) (Nat.le_refl _)
theorem Row.grown {row : Option Nat} (h : Row w B A xs) (hg : w.grownBy w' row) (hB : B ≤ w.heap.size) (hr : ∀ k, row = some k → B ≤ k) : Row w' B A xs := h.belowLe ((Below.refl B w).grown hg hB hr) (Nat.le_refl _)
theorem Row.new (w : World) (cs : Array Value) (t : TypeId) (fr : Nat × Nat) : Row (w.alloc (.cells cs t fr)) (w.heap.size + 1) (some ⟨w.heap.size, 0, none⟩) cs.toList := by
  intro j u hj
  refine ⟨_, rfl, by simp, ?_⟩
  have e : (⟨w.heap.size, 0, none⟩ : Addr).add j = ⟨w.heap.size, j, none⟩ := by unfold Addr.add; split <;> simp_all
  rw [e, World.cell?_alloc_mark]
  simpa using hj
theorem Row.at_ (h : Row w B A xs) {k : Nat} (hk : k < xs.length) : ∃ ad u, A = some ad ∧ ad.block < B ∧ Hid (xs[k]? = some u) ∧ w.cell? (ad.add k) = some u := by
  obtain ⟨ad, hA, hb, hc⟩ := h k xs[k] (List.getElem?_eq_getElem hk)
  exact ⟨ad, xs[k], hA, hb, List.getElem?_eq_getElem hk, hc⟩
theorem Row.eq_nil_of_none (h : Row w B none xs) : xs = [] := by
  cases xs with
  | nil => rfl
  | cons x r => obtain ⟨ad, hA, _⟩ := h 0 x rfl; cases hA
end

/-- Bytes as the model's values. -/
def byv (b : UInt8) : Value := .int .u8 (b.toNat : Int)
/-- A slice of bytes. -/
def Bytes (w : World) (B : Nat) (A : Option Addr) (bs : List UInt8) : Prop := Row w B A (bs.map byv)

section
variable {w w' : World} {B B' : Nat} {A : Option Addr} {bs : List UInt8}
theorem Bytes.at_ (h : Bytes w B A bs) {k : Nat} (hk : k < bs.length) : ∃ ad b, A = some ad ∧ ad.block < B ∧ Hid (bs[k]? = some b) ∧ w.cell? (ad.add k) = some (.int .u8 (b.toNat : Int)) := by
  obtain ⟨ad, hA, hb, hc⟩ := h k (byv bs[k]) (by rw [List.getElem?_map, List.getElem?_eq_getElem hk]; rfl)
  exact ⟨ad, bs[k], hA, hb, List.getElem?_eq_getElem hk, hc⟩
theorem Bytes.below (h : Bytes w B A bs) (hb : Below B w w') : Bytes w' B A bs := Row.below h hb
theorem Bytes.belowLe (h : Bytes w B A bs) (hb : Below B' w w') (hB : B ≤ B') : Bytes w' B A bs := Row.belowLe h hb hB
theorem Bytes.more (h : Bytes w B A bs) (hB : B ≤ B') : Bytes w B' A bs := Row.more h hB
theorem Bytes.alloc (h : Bytes w B A bs) (hB : B ≤ w.heap.size) (o : Obj) : Bytes (w.alloc o) B A bs := h.belowLe (Below.alloc (Below.refl B w) hB o) (Nat.le_refl _)
theorem Bytes.grown {row : Option Nat} (h : Bytes w B A bs) (hg : w.grownBy w' row) (hB : B ≤ w.heap.size) (hr : ∀ k, row = some k → B ≤ k) : Bytes w' B A bs := h.belowLe ((Below.refl B w).grown hg hB hr) (Nat.le_refl _)
theorem Bytes.nil : Bytes w B A [] := Row.nil
theorem Bytes.take (h : Bytes w B A bs) (k : Nat) : Bytes w B A (bs.take k) := by unfold Bytes; rw [List.map_take]; exact Row.take h k
theorem Bytes.cut (h : Bytes w B A bs) {m k : Nat} (hk : m = k → bs.length ≤ k) : Bytes w B (if m = k then A else A.map (·.add k)) (bs.drop k) := by
  unfold Bytes
  rw [List.map_drop]
  have := Row.cut (m := m) (k := k) (size := 1) h (fun e => by rw [Nat.mul_one]; exact List.drop_eq_nil_of_le (by rw [List.length_map]; exact hk e))
  rw [Nat.mul_one] at this
  exact this
theorem Bytes.of_own {base : Nat} {e : TypeId} {n c : Nat} (h : w.ownsRow base e 1 (.slice A n c) n (bs.map byv)) : Bytes w w.heap.size A bs := Row.of_own h
end

/-- Bytes out of numbers that fit. -/
def toBytes (zs : List Int) : List UInt8 := zs.map fun z => UInt8.ofNat z.toNat
theorem toBytes_byv {z : Int} (h : (Lit.int .u8 z).wf = true) : byv (UInt8.ofNat z.toNat) = .int .u8 z := by
  have hb : 0 ≤ z ∧ z ≤ 255 := by simpa [Lit.wf, IntKind.min, IntKind.max, IntKind.signed, IntKind.bits] using h
  unfold byv
  congr 1
  simp
  omega
theorem lt_of_cell {w : World} {a : Addr} {v : Value} (h : w.cell? a = some v) : a.block < w.heap.size := by
  rcases Nat.lt_or_ge a.block w.heap.size with hlt | hge
  · exact hlt
  · simp [World.cell?, Array.getElem?_eq_none hge] at h
/-- What the row's step tells of a slice of bytes that came in, as bytes. -/
theorem bytes_of_row {w : World} {a : Option Addr} {len cap : Nat} {zs : List Int}
    (h : (a = none ∧ len = 0 ∧ cap = 0 ∧ zs = []) ∨
      ∃ x, a = some x ∧ len ≤ cap ∧ cap ≤ maxLen ∧ zs.length = cap ∧ (∀ i, i < zs.length → w.cell? (x.add i) = some (.int .u8 (zs.getD i 0))) ∧ ∀ n ∈ zs, (Lit.int .u8 n).wf = true) :
    ∃ bs : List UInt8, len = bs.length ∧ Bytes w w.heap.size a bs ∧ bs.length ≤ 9223372036854775807 ∧ bs.length ≤ cap := by
  rcases h with ⟨rfl, rfl, rfl, rfl⟩ | ⟨x, rfl, hl, hm, hz, hc, hw⟩
  · exact ⟨[], rfl, Bytes.nil, by simp, by simp⟩
  · unfold maxLen at hm
    refine ⟨toBytes (zs.take len), by simp [toBytes]; omega, ?_, by simp [toBytes]; omega, by simp [toBytes]; omega⟩
    intro j u hj
    simp only [toBytes, List.getElem?_map, List.getElem?_take] at hj
    split at hj
    · rename_i hjl
      have hjz : j < zs.length := by omega
      rw [List.getElem?_eq_getElem hjz] at hj
      simp only [Option.map_some, Option.some.injEq] at hj
      have hcj := hc j hjz
      have hg : zs.getD j 0 = zs[j] := by simp [List.getD, List.getElem?_eq_getElem hjz]
      rw [hg] at hcj
      rw [toBytes_byv (hw _ (List.getElem_mem hjz))] at hj
      subst hj
      exact ⟨x, rfl, by have := lt_of_cell hcj; rwa [add_block] at this, hcj⟩
    · simp at hj

theorem take_next {α : Type} {l : List α} {k : Nat} {x : α} (h : l[k]? = some x) : l.take (k + 1) = l.take k ++ [x] := by
  rw [List.take_add_one, h]; rfl
theorem lt_of_some {α : Type} {l : List α} {k : Nat} {x : α} (h : l[k]? = some x) : k < l.length := (List.getElem?_eq_some_iff.1 h).1

theorem split_at {α : Type} {l : List α} {k : Nat} {x : α} (h : l[k]? = some x) : l = l.take k ++ x :: l.drop (k + 1) := by
  have hk : k < l.length := (List.getElem?_eq_some_iff.1 h).1
  have hx : l[k] = x := (List.getElem?_eq_some_iff.1 h).2
  rw [← hx, ← List.drop_eq_getElem_cons hk, List.take_append_drop]
theorem set_at {α : Type} {l : List α} {k : Nat} (y : α) (hk : k < l.length) : l.set k y = l.take k ++ y :: l.drop (k + 1) :=
  List.set_eq_take_append_cons_drop .. |>.trans (by simp [hk])

theorem below_cells {W w1 : World} (hb : Below W.heap.size W w1) (b o : Nat) (h : b < W.heap.size) : w1.cell? ⟨b, o, none⟩ = W.cell? ⟨b, o, none⟩ := hb.cell (p := ⟨b, o, none⟩) h
theorem below_marks {W w1 : World} (hb : Below W.heap.size W w1) (b o : Nat) (h : b < W.heap.size) : w1.frozen? ⟨b, o, none⟩ = W.frozen? ⟨b, o, none⟩ := hb.frozen (p := ⟨b, o, none⟩) h
end Go.Proofs.Ytpakihbejdpmoaa
