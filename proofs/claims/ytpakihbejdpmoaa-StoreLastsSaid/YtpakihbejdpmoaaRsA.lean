/-
  The reference's store in memory. The reference's IsName, find, without. The reference's with, made. The reference's may, Plan. The reference's change.
-/
import Derived.Test.YtpakihbejdpmoaaStM
import Derived.Test.YtpakihbejdpmoaaNamed
import Derived.Test.YtpakihbejdpmoaaStepRow
import Derived.Laws.Cover1
import Derived.WideAt
import Derived.WideShapes
import Derived.Deep.RegionHeld3
import Derived.Test.YtpakihbejdpmoaaMeet
import Derived.BigRegion
import Derived.Deep.RegionLaw
namespace Go.Proofs.Ytpakihbejdpmoaa
open Go.RowKit
set_option linter.unusedVariables false

theorem strB_eta (s : ByteArray) : strB s.data.toList = s := rfl
/-- A directory of the reference as cells: a name, and the place of its file. -/
def enCells (l : Dir) : List Value := l.flatMap fun e => [.string (strB e.1), .int .i64 (e.2 : Int)]
theorem enCells_at {l : Dir} {k : Nat} {e : List UInt8 × Nat} (h : l[k]? = some e) : (enCells l)[k * 2]? = some (.string (strB e.1)) ∧ (enCells l)[k * 2 + 1]? = some (.int .i64 (e.2 : Int)) := by
  induction l generalizing k with
  | nil => simp at h
  | cons a r ih =>
    cases k with
    | zero =>
      simp only [List.getElem?_cons_zero, Option.some.injEq] at h
      subst h
      exact ⟨rfl, rfl⟩
    | succ k =>
      simp only [List.getElem?_cons_succ] at h
      have := ih h
      have e1 : (k + 1) * 2 = k * 2 + 2 := by omega
      rw [e1]
      exact this
theorem enCells_len (l : Dir) : (enCells l).length = l.length * 2 := by
  unfold enCells
  induction l with
  | nil => rfl
  | cons x r ih => rw [List.flatMap_cons, List.length_append, ih]; simp; omega
theorem enCells_append (a b : Dir) : enCells (a ++ b) = enCells a ++ enCells b := by unfold enCells; rw [List.flatMap_append]
theorem enCells_one (l : Dir) : ∀ u ∈ enCells l, u.oneCell' = true := by
  intro u hu
  obtain ⟨x, _, h⟩ := List.mem_flatMap.1 hu
  simp at h
  rcases h with rfl | rfl <;> rfl
theorem cell_next {w : World} {ad : Addr} {k j : Nat} {v : Value} (h : w.cell? (ad.add (k + j)) = some v) (hj : j ≠ 0) : w.cell? ⟨(ad.add k).block, (ad.add k).off + j, none⟩ = some v := by
  have e2 : ad.add (k + j) = ⟨(ad.add k).block, (ad.add k).off + j, none⟩ := by
    rw [← add_add' ad k j]
    generalize ad.add k = a
    unfold Addr.add
    simp [hj]
  rw [← e2]
  exact h
theorem Row.en {w : World} {B : Nat} {A : Option Addr} {l : Dir} (h : Row w B A (enCells l)) {k : Nat} {e : List UInt8 × Nat} (hk : l[k]? = some e) :
    ∃ ad, A = some ad ∧ ad.block < B ∧ w.cell? (ad.add (k * 2)) = some (.string (strB e.1)) ∧ w.cell? ⟨(ad.add (k * 2)).block, (ad.add (k * 2)).off + 1, none⟩ = some (.int .i64 (e.2 : Int)) := by
  obtain ⟨h1, h2⟩ := enCells_at hk
  obtain ⟨ad, hA, hlt, hc⟩ := h _ _ h1
  obtain ⟨ad', hA', _, hc'⟩ := h _ _ h2
  rw [hA] at hA'
  injection hA' with hA'
  subst hA'
  exact ⟨ad, hA, hlt, hc, cell_next hc' (by omega)⟩

/-- A file of the reference: where its bytes lie, its bytes, how many are synced. -/
structure Rf where
  A : Option Addr
  c : Nat
  bs : List UInt8
  sure : Nat
def fiCells (l : List Rf) : List Value := l.flatMap fun f => [.slice f.A f.bs.length f.c, .int .i64 (f.sure : Int)]
theorem fiCells_at {l : List Rf} {k : Nat} {f : Rf} (h : l[k]? = some f) : (fiCells l)[k * 2]? = some (.slice f.A f.bs.length f.c) ∧ (fiCells l)[k * 2 + 1]? = some (.int .i64 (f.sure : Int)) := by
  induction l generalizing k with
  | nil => simp at h
  | cons a r ih =>
    cases k with
    | zero =>
      simp only [List.getElem?_cons_zero, Option.some.injEq] at h
      subst h
      exact ⟨rfl, rfl⟩
    | succ k =>
      simp only [List.getElem?_cons_succ] at h
      have := ih h
      have e1 : (k + 1) * 2 = k * 2 + 2 := by omega
      rw [e1]
      exact this
theorem fiCells_len (l : List Rf) : (fiCells l).length = l.length * 2 := by
  unfold fiCells
  induction l with
  | nil => rfl
  | cons x r ih => rw [List.flatMap_cons, List.length_append, ih]; simp; omega
theorem fiCells_append (a b : List Rf) : fiCells (a ++ b) = fiCells a ++ fiCells b := by unfold fiCells; rw [List.flatMap_append]
theorem fiCells_one (l : List Rf) : ∀ u ∈ fiCells l, u.oneCell' = true := by
  intro u hu
  obtain ⟨x, _, h⟩ := List.mem_flatMap.1 hu
  simp at h
  rcases h with rfl | rfl <;> rfl
theorem fiCells_split {l : List Rf} {k : Nat} {f : Rf} (h : l[k]? = some f) (g : Rf) : fiCells (l.set k g) = fiCells (l.take k) ++ ([.slice g.A g.bs.length g.c, .int .i64 (g.sure : Int)] ++ fiCells (l.drop (k + 1))) := by
  have hk : k < l.length := (List.getElem?_eq_some_iff.1 h).1
  rw [List.set_eq_take_append_cons_drop, if_pos hk, fiCells_append]
  rfl
theorem fiCells_set {l : List Rf} {k : Nat} {f : Rf} (h : l[k]? = some f) (g : Rf) : ((fiCells l).set (k * 2) (.slice g.A g.bs.length g.c)).set (k * 2 + 1) (.int .i64 (g.sure : Int)) = fiCells (l.set k g) := by
  have hk : k < l.length := (List.getElem?_eq_some_iff.1 h).1
  have e0 : l.set k f = l := by
    have hx : l[k] = f := (List.getElem?_eq_some_iff.1 h).2
    rw [← hx, List.set_getElem_self]
  have e1 := fiCells_split h f
  rw [e0] at e1
  have e3 : (fiCells (l.take k)).length = k * 2 := by rw [fiCells_len, List.length_take]; omega
  rw [fiCells_split h g, e1, List.set_append_right _ _ (by omega), List.set_append_right _ _ (by omega), e3, Nat.sub_self, show k * 2 + 1 - k * 2 = 1 by omega]
  rfl
theorem fiCells_setB {l : List Rf} {k : Nat} {f : Rf} (h : l[k]? = some f) (A : Option Addr) (c : Nat) (bs : List UInt8) : (fiCells l).set (k * 2) (.slice A bs.length c) = fiCells (l.set k ⟨A, c, bs, f.sure⟩) := by
  rw [← fiCells_set h ⟨A, c, bs, f.sure⟩]
  dsimp only
  have h2 := (fiCells_at h).2
  rw [List.set_comm _ _ (by omega : k * 2 ≠ k * 2 + 1)]
  congr 1
  have hk := (List.getElem?_eq_some_iff.1 h2).1
  have hx := (List.getElem?_eq_some_iff.1 h2).2
  rw [← hx, List.set_getElem_self]
theorem fiCells_setS {l : List Rf} {k : Nat} {f : Rf} (h : l[k]? = some f) (n : Nat) : (fiCells l).set (k * 2 + 1) (.int .i64 (n : Int)) = fiCells (l.set k { f with sure := n }) := by
  rw [← fiCells_set h { f with sure := n }]
  dsimp only
  congr 1
  have h2 := (fiCells_at h).1
  have hk := (List.getElem?_eq_some_iff.1 h2).1
  have hx := (List.getElem?_eq_some_iff.1 h2).2
  rw [← hx, List.set_getElem_self]
theorem Row.fi {w : World} {B : Nat} {A : Option Addr} {l : List Rf} (h : Row w B A (fiCells l)) {k : Nat} {f : Rf} (hk : l[k]? = some f) :
    ∃ ad, A = some ad ∧ ad.block < B ∧ w.cell? (ad.add (k * 2)) = some (.slice f.A f.bs.length f.c) ∧ w.cell? ⟨(ad.add (k * 2)).block, (ad.add (k * 2)).off + 1, none⟩ = some (.int .i64 (f.sure : Int)) := by
  obtain ⟨h1, h2⟩ := fiCells_at hk
  obtain ⟨ad, hA, hlt, hc⟩ := h _ _ h1
  obtain ⟨ad', hA', _, hc'⟩ := h _ _ h2
  rw [hA] at hA'
  injection hA' with hA'
  subst hA'
  exact ⟨ad, hA, hlt, hc, cell_next hc' (by omega)⟩

/-- A change kept by the reference. -/
structure Rk where
  kind : Nat
  nm : List UInt8
  to : List UInt8
  ix : Nat
def Rk.v (c : Rk) : Value := .agg #[.int .i64 (c.kind : Int), .string (strB c.nm), .string (strB c.to), .int .i64 (c.ix : Int)]
def kpCells (l : List Rk) : List Value := l.flatMap fun c => [.int .i64 (c.kind : Int), .string (strB c.nm), .string (strB c.to), .int .i64 (c.ix : Int)]
theorem kpCells_at {l : List Rk} {k : Nat} {c : Rk} (h : l[k]? = some c) : (kpCells l)[k * 4]? = some (.int .i64 (c.kind : Int)) ∧ (kpCells l)[k * 4 + 1]? = some (.string (strB c.nm)) ∧ (kpCells l)[k * 4 + 2]? = some (.string (strB c.to)) ∧ (kpCells l)[k * 4 + 3]? = some (.int .i64 (c.ix : Int)) := by
  induction l generalizing k with
  | nil => simp at h
  | cons a r ih =>
    cases k with
    | zero =>
      simp only [List.getElem?_cons_zero, Option.some.injEq] at h
      subst h
      exact ⟨rfl, rfl, rfl, rfl⟩
    | succ k =>
      simp only [List.getElem?_cons_succ] at h
      have := ih h
      have e1 : (k + 1) * 4 = k * 4 + 4 := by omega
      rw [e1]
      exact this
theorem kpCells_len (l : List Rk) : (kpCells l).length = l.length * 4 := by
  unfold kpCells
  induction l with
  | nil => rfl
  | cons x r ih => rw [List.flatMap_cons, List.length_append, ih]; simp; omega
theorem kpCells_append (a b : List Rk) : kpCells (a ++ b) = kpCells a ++ kpCells b := by unfold kpCells; rw [List.flatMap_append]
theorem Row.kp {w : World} {B : Nat} {A : Option Addr} {l : List Rk} (h : Row w B A (kpCells l)) {k : Nat} {c : Rk} (hk : l[k]? = some c) :
    ∃ ad, A = some ad ∧ ad.block < B ∧ w.cell? (ad.add (k * 4)) = some (.int .i64 (c.kind : Int)) ∧ w.cell? ⟨(ad.add (k * 4)).block, (ad.add (k * 4)).off + 1, none⟩ = some (.string (strB c.nm)) ∧
      w.cell? ⟨(ad.add (k * 4)).block, (ad.add (k * 4)).off + 2, none⟩ = some (.string (strB c.to)) ∧ w.cell? ⟨(ad.add (k * 4)).block, (ad.add (k * 4)).off + 3, none⟩ = some (.int .i64 (c.ix : Int)) := by
  obtain ⟨h1, h2, h3, h4⟩ := kpCells_at hk
  obtain ⟨ad, hA, hlt, hc⟩ := h _ _ h1
  subst hA
  obtain ⟨ad', hA', _, hc'⟩ := h _ _ h2
  obtain ⟨ad3, hA3, _, hc3⟩ := h _ _ h3
  obtain ⟨ad4, hA4, _, hc4⟩ := h _ _ h4
  injection hA' with hA'
  injection hA3 with hA3
  injection hA4 with hA4
  subst hA'
  subst hA3
  subst hA4
  exact ⟨ad, rfl, hlt, hc, cell_next hc' (by omega), cell_next hc3 (by omega), cell_next hc4 (by omega)⟩

/-- The reference's store: its room; its files; the directory as it is now and as it was synced; the changes kept; the plan; is the power off. -/
structure RS where
  room : Int
  AF : Option Addr
  cF : Nat
  files : List Rf
  AN : Option Addr
  cN : Nat
  now : Dir
  AD : Option Addr
  cD : Nat
  disk : Dir
  AK : Option Addr
  cK : Nat
  kept : List Rk
  AP : Option Addr
  cP : Nat
  plan : List UInt8
  off : Bool
def RS.cells (s : RS) : Array Value := #[.int .i64 s.room, .slice s.AF s.files.length s.cF, .slice s.AN s.now.length s.cN, .slice s.AD s.disk.length s.cD, .slice s.AK s.kept.length s.cK, .slice s.AP s.plan.length s.cP, .bool s.off]
def RsB (r : Nat) (s : RS) (w : World) : Prop := w.heap[r]? = some (.cells s.cells 63 (0, 0))
theorem RsB.cell {r : Nat} {s : RS} {w : World} (h : RsB r s w) (i : Nat) : w.cell? ⟨r, i, none⟩ = (#[.int .i64 s.room, .slice s.AF s.files.length s.cF, .slice s.AN s.now.length s.cN, .slice s.AD s.disk.length s.cD, .slice s.AK s.kept.length s.cK, .slice s.AP s.plan.length s.cP, .bool s.off] : Array Value)[i]? := Joins.cell_of_block h i
theorem RsB.free {r : Nat} {s : RS} {w : World} (h : RsB r s w) (i : Nat) : w.frozen? ⟨r, i, none⟩ = false := Joins.unfrozen_of_block h i
theorem RsB.lt {r : Nat} {s : RS} {w : World} (h : RsB r s w) : r < w.heap.size := (Array.getElem?_eq_some_iff.1 h).1
theorem RsB.set {r : Nat} {s s' : RS} {w : World} (h : RsB r s w) (i : Nat) (v : Value) (e : s.cells.setIfInBounds i v = s'.cells) : RsB r s' (w.setCell ⟨r, i, none⟩ v) := by
  have := Joins.block_setCell (i := i) h v
  rw [e] at this
  exact this
theorem RsB.call {r : Nat} {s : RS} {w w' : World} (h : RsB r s w) (hb : Below w.heap.size w w') : RsB r s w' := (hb.block r h.lt).trans h
/-- The blocks of its rows; all its blocks. -/
def RS.rows (s : RS) (k : Nat) : Prop := InRow s.AF k ∨ InRow s.AN k ∨ InRow s.AD k ∨ InRow s.AK k ∨ InRow s.AP k ∨ ∃ f ∈ s.files, InRow f.A k
def RS.own (r : Nat) (s : RS) (k : Nat) : Prop := k = r ∨ s.rows k
/-- Its rows as they lie. -/
structure Rn (s : RS) (w : World) : Prop where
  rfiles : w.ownsRow 0 85 2 (.slice s.AF s.files.length s.cF) s.files.length (fiCells s.files)
  rnow : w.ownsRow 0 92 2 (.slice s.AN s.now.length s.cN) s.now.length (enCells s.now)
  rdisk : w.ownsRow 0 92 2 (.slice s.AD s.disk.length s.cD) s.disk.length (enCells s.disk)
  rkept : w.ownsRow 0 88 4 (.slice s.AK s.kept.length s.cK) s.kept.length (kpCells s.kept)
  plan : Bytes w w.heap.size s.AP s.plan
  pcap : s.plan.length ≤ s.cP
  planK : ∀ k, InRow s.AP k → Kb w k 5
  fb : ∀ f ∈ s.files, OwnB w 0 5 f.A f.c f.bs
  fsure : ∀ f ∈ s.files, f.sure ≤ f.bs.length
  nnow : ∀ e ∈ s.now, e.2 < s.files.length
  ndisk : ∀ e ∈ s.disk, e.2 < s.files.length
  nkept : ∀ c ∈ s.kept, c.kind = 0 ∨ c.kind = 1 → c.ix < s.files.length
structure Rm (r : Nat) (s : RS) (w : World) : Prop where
  box : RsB r s w
  rn : Rn s w
section
variable {r : Nat} {s : RS} {w w' : World} {S : Nat → Prop}
theorem Rn.stay (h : Rn s w) (hk : Kept S w w') (hs : ∀ k, S k → ¬ s.rows k) : Rn s w' := by
  have ns : ∀ k, s.rows k → ¬ S k := fun k h1 h2 => hs k h2 h1
  refine ⟨hk.own h.rfiles (fun k hk => ns k (.inl hk)), hk.own h.rnow (fun k hk => ns k (.inr (.inl hk))), hk.own h.rdisk (fun k hk => ns k (.inr (.inr (.inl hk)))), hk.own h.rkept (fun k hk => ns k (.inr (.inr (.inr (.inl hk))))),
    (hk.bytes h.plan (Nat.le_refl _) ?_).more hk.size, h.pcap, fun k hk' => (h.planK k hk').kept hk (ns k (.inr (.inr (.inr (.inr (.inl hk')))))), fun f hf => hk.own (h.fb f hf) (fun k hk => ns k (.inr (.inr (.inr (.inr (.inr ⟨f, hf, hk⟩)))))),
    h.fsure, h.nnow, h.ndisk, h.nkept⟩
  intro _ a ha hsa
  exact ns a.block (.inr (.inr (.inr (.inr (.inl (by unfold InRow; rw [ha]; rfl)))))) hsa
theorem Rn.call (h : Rn s w) (hb : Below w.heap.size w w') : Rn s w' := h.stay (S := fun _ => False) (Kept.of_below hb) (fun _ h => h.elim)
/-- Of which kind its blocks are. -/
theorem Rn.kind (h : Rn s w) {k : Nat} (hk : s.rows k) : Kb w k 85 ∨ Kb w k 92 ∨ Kb w k 88 ∨ Kb w k 5 := by
  rcases hk with hk | hk | hk | hk | hk | ⟨f, hf, hk⟩
  · exact .inl (Kb.of_row h.rfiles hk)
  · exact .inr (.inl (Kb.of_row h.rnow hk))
  · exact .inr (.inl (Kb.of_row h.rdisk hk))
  · exact .inr (.inr (.inl (Kb.of_row h.rkept hk)))
  · exact .inr (.inr (.inr (h.planK k hk)))
  · exact .inr (.inr (.inr (Kb.of_row (h.fb f hf) hk)))
theorem Rn.lt (h : Rn s w) {k : Nat} (hk : s.rows k) : k < w.heap.size := by
  rcases h.kind hk with h | h | h | h <;> exact h.lt
theorem Rn.ne (h : Rn s w) {k j : Nat} (hk : s.rows k) (hj : Kb w j 63) : k ≠ j := by
  rcases h.kind hk with h | h | h | h
  · exact h.ne hj (by decide)
  · exact h.ne hj (by decide)
  · exact h.ne hj (by decide)
  · exact h.ne hj (by decide)
theorem RsB.kb (h : RsB r s w) : Kb w r 63 := ⟨_, _, h⟩
/-- A store into the box. -/
theorem Rn.put (h : Rn s w) (hr : Kb w r 63) (i : Nat) (v : Value) : Rn s (w.setCell ⟨r, i, none⟩ v) :=
  h.stay (S := fun k => k = r) (Kept.set (S := fun k => k = r) w rfl i v) (fun k e hk => h.ne hk hr e)
theorem Rm.call (h : Rm r s w) (hb : Below w.heap.size w w') : Rm r s w' := ⟨h.box.call hb, h.rn.call hb⟩
theorem Rm.stay (h : Rm r s w) (hk : Kept S w w') (hs : ∀ k, S k → ¬ s.own r k) : Rm r s w' :=
  ⟨(hk.block r h.box.lt (fun e => hs r e (.inl rfl))).trans h.box, h.rn.stay hk (fun k h1 h2 => hs k h1 (.inr h2))⟩
theorem Rm.lt (h : Rm r s w) {k : Nat} (hk : s.own r k) : k < w.heap.size := by
  rcases hk with rfl | hk
  · exact h.box.lt
  · exact h.rn.lt hk
/-- What an operation does. -/
structure RDid (r : Nat) (s : RS) (w : World) (s' : RS) (w' : World) : Prop where
  sm : Rm r s' w'
  kept : Kept (s.own r) w w'
  own : ∀ k, s'.own r k → s.own r k ∨ w.heap.size ≤ k
theorem RDid.refl (h : Rm r s w) : RDid r s w s w := ⟨h, Kept.refl _, fun _ h => .inl h⟩
theorem RDid.trans {s1 s2 : RS} {w1 w2 : World} (h : RDid r s w s1 w1) (g : RDid r s1 w1 s2 w2) : RDid r s w s2 w2 :=
  ⟨g.sm, ⟨g.kept.os.trans h.kept.os, g.kept.tape.trans h.kept.tape, g.kept.output.trans h.kept.output, Nat.le_trans h.kept.size g.kept.size, fun k hk hs => (g.kept.block k (Nat.lt_of_lt_of_le hk h.kept.size) (fun e => by
      rcases h.own k e with h1 | h1
      · exact hs h1
      · omega)).trans (h.kept.block k hk hs)⟩, fun k hk => by
    rcases g.own k hk with h1 | h1
    · exact h.own k h1
    · exact .inr (Nat.le_trans h.kept.size h1)⟩
theorem RDid.call (h : Rm r s w) (hb : Below w.heap.size w w') : RDid r s w s w' := ⟨h.call hb, Kept.of_below hb, fun _ h => .inl h⟩
theorem RDid.after {s1 : RS} {w1 w2 : World} (h : RDid r s w s1 w1) (hb : Below w1.heap.size w1 w2) : RDid r s w s1 w2 := h.trans (RDid.call h.sm hb)
theorem RDid.below {s' : RS} {B : Nat} (h : RDid r s w s' w') (hB : ∀ k, s.own r k → B ≤ k) (hBw : B ≤ w.heap.size) : Below B w w' ∧ ∀ k, s'.own r k → B ≤ k :=
  ⟨h.kept.below hB hBw, fun k hk => by
    rcases h.own k hk with h1 | h1
    · exact hB k h1
    · omega⟩
end
end Go.Proofs.Ytpakihbejdpmoaa
namespace Go.Proofs.Ytpakihbejdpmoaa
open Go.RowKit
set_option linter.unusedVariables false

set_option maxRecDepth 100000 in
set_option maxHeartbeats 2000000 in
theorem isName_any (s : ByteArray) (w : World) (hsz : s.size ≤ maxLen) :
    Calls Try.prog 57 #[.string s] w fun e w' => e = .returned (.bool (isNm s)) ∧ w = w' := by
  obtain ⟨E, HE⟩ : ∃ E, Hid (E = isNm s) := ⟨_, rfl⟩
  rw [← HE.out]
  have hlen : s.data.toList.length = s.size := by simp
  have hsz2 : (s.size : Int) ≤ 9223372036854775807 := by unfold maxLen at hsz; omega
  clear hsz
  go_enter Try.func57, Try.ntmps57
  go_wp2
  go_loop [3] (fun i => ∃ j : Nat, j ≤ s.size ∧ i = .int .i64 (j : Int) ∧ Hid ((s.data.toList.take j).all okC = true)) (fun i => s.size - (intOf i).toNat)
  case atStart => exact ⟨0, Nat.zero_le _, rfl, rfl⟩
  case round =>
    obtain ⟨j, hj, rfl, HC⟩ := hrel
    by_cases hjl : j < s.size
    · have hb : s.data.toList[j]? = some s[j] := by
        rw [List.getElem?_eq_getElem (by omega)]
        rfl
      have hb4 := s[j].toNat_lt
      have htk := take_next hb
      have hjl' : (j : Int) < (s.size : Int) := by omega
      cases hok : okC s[j] with
      | true =>
        have HC2 : Hid ((s.data.toList.take (j + 1)).all okC = true) := by
          show _ = _
          rw [htk, List.all_append, HC.out]
          simp [hok]
        have hw : (97 ≤ (s[j].toNat : Int) ∧ (s[j].toNat : Int) ≤ 122) ∨ (48 ≤ (s[j].toNat : Int) ∧ (s[j].toNat : Int) ≤ 57) ∨ (s[j].toNat : Int) = 45 ∨ (s[j].toNat : Int) = 46 := by
          unfold okC at hok
          simp at hok
          omega
        clear hok htk hb HC
        rcases hw with ⟨w1, w2⟩ | ⟨w1, w2⟩ | w1 | w1
        all_goals
          go_wp2
          all_goals exact ⟨⟨j + 1, by omega, by simp, HC2.out⟩, by simp [intOf]; omega⟩
      | false =>
        have HF : Hid (E = false) := by
          show _ = _
          rw [HE.out]
          have : s.data.toList.all okC = false := by
            rw [List.all_eq_false]
            exact ⟨s[j], List.mem_of_getElem? hb, by rw [hok]; simp⟩
          unfold isNm
          rw [this]
          simp
        have hw : ((s[j].toNat : Int) < 97 ∨ 122 < (s[j].toNat : Int)) ∧ ((s[j].toNat : Int) < 48 ∨ 57 < (s[j].toNat : Int)) ∧ (s[j].toNat : Int) ≠ 45 ∧ (s[j].toNat : Int) ≠ 46 := by
          unfold okC at hok
          simp at hok
          omega
        obtain ⟨v1, v2, v3, v4⟩ := hw
        clear hok htk hb HC
        rcases v1 with v1 | v1
        all_goals
          rcases v2 with v2 | v2
          all_goals
            first
            | (exfalso; omega)
            | (go_wp2
               · go_ret
                 exact ⟨by rw [HF.out]; rfl, rfl⟩
               all_goals
                 exfalso
                 rename_i hx
                 simp at hx
                 omega)
    · obtain rfl : j = s.size := by omega
      have h1 : s.data.toList.all okC = true := by
        have := HC.out
        rwa [List.take_of_length_le (by omega)] at this
      have hE : E = (decide (1 ≤ s.size) && decide (s.size ≤ 64)) := by
        rw [HE.out]
        unfold isNm
        rw [h1, Bool.and_true]
      have HE2 := hide hE
      clear HC h1 hE HE hjl hj
      by_cases h0 : s.size = 0
      · have h0' : ¬ (1 : Int) ≤ (s.size : Int) := by omega
        have HF : Hid (E = false) := by
          show _ = _
          rw [HE2.out]
          simp
          omega
        go_wp2
        go_ret
        exact ⟨by rw [HF.out]; rfl, rfl⟩
      · have h0' : (1 : Int) ≤ (s.size : Int) := by omega
        have hd : E = decide ((s.size : Int) ≤ 64) := by
          rw [HE2.out, decide_eq_true (by omega : 1 ≤ s.size), Bool.true_and]
          congr 1
          exact propext ⟨fun h => by omega, fun h => by omega⟩
        have HD := hide hd
        clear hd h0
        go_wp2
        go_ret
        exact ⟨by rw [HD.out]; rfl, rfl⟩

def findI (o : Option Nat) : Int := match o with
  | some q => (q : Int)
  | none => -1
theorem dFind_drop {l : Dir} {k : Nat} {e : List UInt8 × Nat} (h : l[k]? = some e) (nm : List UInt8) : dFind (l.drop k) nm = if (e.1 == nm) = true then some e.2 else dFind (l.drop (k + 1)) nm := by
  have hk : k < l.length := (List.getElem?_eq_some_iff.1 h).1
  have hx : l[k] = e := (List.getElem?_eq_some_iff.1 h).2
  rw [List.drop_eq_getElem_cons hk, hx]
  unfold dFind
  rw [List.find?_cons]
  cases e.1 == nm <;> rfl
theorem str_eq (a : List UInt8) (s : ByteArray) : ((strB a).toList == s.toList) = (a == s.data.toList) := by
  rw [strB_toList, ByteArray.toList_eq]

set_option maxRecDepth 100000 in
set_option maxHeartbeats 2000000 in
theorem find_any (A : Option Addr) (B n c : Nat) (l : Dir) (w : World) (hn : l.length = n) (hr : Row w B A (enCells l)) (hl : n ≤ 1000000000) (nm : ByteArray) :
    Calls Try.prog 53 #[.slice A n c, .string nm] w fun e w' => e = .returned (.int .i64 (findI (dFind l nm.data.toList))) ∧ w = w' := by
  subst hn
  have HR := hide hr
  clear hr
  obtain ⟨E, HE⟩ : ∃ E, Hid (E = findI (dFind l nm.data.toList)) := ⟨_, rfl⟩
  rw [← HE.out]
  go_enter Try.func53, Try.ntmps53
  go_wp2
  go_loop [5] (fun i => ∃ k : Nat, k ≤ l.length ∧ i = .int .i64 (k : Int) ∧ Hid (dFind l nm.data.toList = dFind (l.drop k) nm.data.toList)) (fun i => l.length - (intOf i).toNat)
  case atStart => exact ⟨0, Nat.zero_le _, rfl, rfl⟩
  case round =>
    obtain ⟨k, hk, rfl, HP⟩ := hrel
    by_cases hlt : k < l.length
    · obtain ⟨e, he⟩ : ∃ e, l[k]? = some e := ⟨_, List.getElem?_eq_getElem hlt⟩
      obtain ⟨ad, rfl, hadb, ha, hb⟩ := HR.out.en he
      have hpl := dFind_drop he nm.data.toList
      have hlt' : (k : Int) < (l.length : Int) := by omega
      cases hq : e.1 == nm.data.toList with
      | true =>
        have HF := hide (show E = (e.2 : Int) from by rw [HE.out, HP.out, hpl, if_pos hq]; rfl)
        have hs : ((strB e.1).toList == nm.toList) = true := by rw [str_eq]; exact hq
        clear hpl he HP hq
        go_wp2
        go_ret
        exact ⟨by rw [HF.out]; rfl, rfl⟩
      | false =>
        have HN := hide (show dFind l nm.data.toList = dFind (l.drop (k + 1)) nm.data.toList from by rw [HP.out, hpl, if_neg (by rw [hq]; simp)])
        have hs : ((strB e.1).toList == nm.toList) = false := by rw [str_eq]; exact hq
        clear hpl he HP hq
        go_wp2
        go_round
        case rel => exact ⟨k + 1, hlt, by go_num, HN.out⟩
        case measure => simp [intOf]; omega
    · have hkE : k = l.length := by omega
      subst hkE
      have HF := hide (show E = -1 from by rw [HE.out, HP.out, List.drop_length]; rfl)
      clear HP
      go_wp2
      go_ret
      exact ⟨by rw [HF.out]; rfl, rfl⟩

theorem info_en : (Try.prog.info? 92).map (fun i => (i.zero, i.size, i.bytes)) = some (some (.agg #[.string ⟨#[]⟩, .int .i64 0]), 2, 24) := by kernel_rfl
/-- A directory as a new row. -/
def WoR (w : World) (l : Dir) (e : Ending) (w' : World) : Prop := ∃ A c, e = .returned (.slice A l.length c) ∧ w'.ownsRow w.heap.size 92 2 (.slice A l.length c) l.length (enCells l) ∧ Below w.heap.size w w'
def WoRel (l : Dir) (nm : List UInt8) (w : World) (v i : Value) (wr : World) : Prop :=
  ∃ (k m : Nat) (A' : Option Addr) (c' : Nat), k ≤ l.length ∧ i = .int .i64 (k : Int) ∧ v = .slice A' m c' ∧ Hid (m = (dDel (l.take k) nm).length) ∧ m ≤ k ∧ wr.ownsRow w.heap.size 92 2 (.slice A' m c') m (enCells (dDel (l.take k) nm)) ∧ Below w.heap.size w wr
theorem dDel_next {l : Dir} {k : Nat} {e : List UInt8 × Nat} (h : l[k]? = some e) (nm : List UInt8) : dDel (l.take (k + 1)) nm = dDel (l.take k) nm ++ (if (e.1 == nm) = true then [] else [e]) := by
  unfold dDel
  rw [take_next h, List.filter_append]
  congr 1
  rw [List.filter_cons]
  cases e.1 == nm <;> rfl

set_option maxRecDepth 100000 in
set_option maxHeartbeats 4000000 in
theorem without_any (A : Option Addr) (B n c : Nat) (l : Dir) (w : World) (hn : l.length = n) (hr : Row w B A (enCells l)) (hB : B ≤ w.heap.size) (hl : n ≤ 1000000000) (nm : ByteArray) :
    Calls Try.prog 64 #[.slice A n c, .string nm] w (WoR w (dDel l nm.data.toList)) := by
  subst hn
  have HR := hide hr
  clear hr
  obtain ⟨i0, hi, hz0, hz1, hz2⟩ := info_parts info_en
  go_enter Try.func64, Try.ntmps64
  go_wp2
  go_loopw [5, 6] (fun v i wr => WoRel l nm.data.toList w v i wr) (fun _ i _ => l.length - (intOf i).toNat)
  case atStart => exact ⟨0, 0, none, 0, Nat.zero_le _, rfl, rfl, rfl, Nat.le_refl _, World.ownsRow_nil _ _ _ _, Below.refl _ _⟩
  case round =>
    obtain ⟨k, m, A', c', hk, rfl, rfl, HM, hmk, hown, hb⟩ := hrel
    by_cases hlt : k < l.length
    · obtain ⟨e, he⟩ : ∃ e, l[k]? = some e := ⟨_, List.getElem?_eq_getElem hlt⟩
      obtain ⟨ad, rfl, hadb, ha, hc2⟩ := (HR.out.belowLe hb hB).en he
      have HOWN := hide hown
      have HB := hide hb
      have HN := hide (dDel_next he nm.data.toList)
      have hlt' : (k : Int) < (l.length : Int) := by omega
      cases hq : e.1 == nm.data.toList with
      | true =>
        have hs : ((strB e.1).toList == nm.toList) = true := by rw [str_eq]; exact hq
        have e1 : dDel (l.take (k + 1)) nm.data.toList = dDel (l.take k) nm.data.toList := by rw [HN.out, if_pos hq, List.append_nil]
        have hrel2 : WoRel l nm.data.toList w (.slice A' m c') (.int .i64 ((k : Int) + 1)) wr := ⟨k + 1, m, A', c', hlt, by simp, rfl, by show _ = _; rw [e1]; exact HM.out, by omega, by rw [e1]; exact HOWN.out, HB.out⟩
        have HR2 := hide hrel2
        clear hown hb he e1 hrel2 hq
        go_wp2
        case roundEnd => exact ⟨HR2.out, by simp [intOf]; omega⟩
      | false =>
        have hs : ((strB e.1).toList == nm.toList) = false := by rw [str_eq]; exact hq
        have e1 : dDel (l.take (k + 1)) nm.data.toList = dDel (l.take k) nm.data.toList ++ [e] := by rw [HN.out, if_neg (by rw [hq]; simp)]
        have HE1 := hide e1
        clear hown hb he e1 hq
        go_wp2_with (at_builtin; refine halted ?_)
        refine go_on ?_
        refine wpList_append_own _ rfl (.tmp 20) (.tmp 25) 60 rfl w.heap.size 92 i0 _ 2 24 Try.underlying60 hi hz0 hz1 hz2 rfl (by decide) A' m c' _ rfl (World.ownsRow.alloc HOWN.out _) _ _ 1 _ [.string (strB e.1), .int .i64 (e.2 : Int)] rfl rfl (Row.new wr #[.string (strB e.1), .int .i64 (e.2 : Int)] 92 (0, 0)) (by intro u hu; simp at hu; rcases hu with rfl | rfl <;> rfl) (by unfold maxLen; omega) (by omega) (by have := HB.out.size; simp; exact Nat.le_succ_of_le this) ?_
        intro n' xs' A5 c5 w5 hn' hxs' hnc _ hown5 hg5 hat5
        obtain rfl : n' = m + 1 := hn'.out
        have hb5 : Below w.heap.size w w5 := (HB.out.alloc HB.out.size _).grown hg5 (by have := HB.out.size; simp; exact Nat.le_succ_of_le this) (fun q hq => (World.ownsRow.lt HOWN.out q (by rw [ownBlock_slice]; exact hq)).1)
        have ex : xs' = enCells (dDel (l.take (k + 1)) nm.data.toList) := by
          rw [hxs'.out, HE1.out, enCells_append]
          rfl
        rw [ex] at hown5
        have hrel2 : WoRel l nm.data.toList w (.slice A5 (m + 1) c5) (.int .i64 ((k : Int) + 1)) w5 := ⟨k + 1, m + 1, A5, c5, hlt, by simp, rfl, by show _ = _; rw [HE1.out, List.length_append, ← HM.out]; rfl, by omega, hown5, hb5⟩
        have HR2 := hide hrel2
        clear hn' hxs' hown5 hg5 hat5 hb5 ex hrel2 ha hadb
        go_wp2
        case roundEnd => exact ⟨HR2.out, by simp [intOf]; omega⟩
    · have hkE : k = l.length := by omega
      subst hkE
      rw [List.take_of_length_le (Nat.le_refl _)] at hown HM
      have hM := HM.out
      subst hM
      have HF := hide (show WoR w (dDel l nm.data.toList) (.returned (.slice A' (dDel l nm.data.toList).length c')) wr from ⟨A', c', rfl, hown, hb⟩)
      clear hown hb
      go_wp2
      go_ret
      exact HF.out
end Go.Proofs.Ytpakihbejdpmoaa
namespace Go.Proofs.Ytpakihbejdpmoaa
open Go.RowKit
set_option linter.unusedVariables false

theorem below_new (w : World) (o : Obj) : Below w.heap.size w (w.alloc o) := (Below.refl _ _).alloc (Nat.le_refl _) o
theorem less_before : ∀ (a b : List UInt8), Op.bytesLess a b = bytesBefore a b
  | [], [] => rfl
  | [], _ :: _ => rfl
  | _ :: _, [] => rfl
  | a :: r, b :: s => by
    unfold Op.bytesLess bytesBefore
    rw [less_before r s]
theorem str_gt (a : List UInt8) (s : ByteArray) : (!(Op.bytesLess (strB a).toList s.toList || (strB a).toList == s.toList)) = bytesBefore s.data.toList a := by
  rw [strB_toList, ByteArray.toList_eq, less_before]
  by_cases h : a = s.data.toList
  · subst h
    rw [WideAt.bytes_irrefl]
    simp
  · have h1 : (a == s.data.toList) = false := by rw [beq_eq_false_iff_ne]; exact h
    rw [h1, Bool.or_false]
    cases hb : bytesBefore a s.data.toList with
    | true =>
      cases hc : bytesBefore s.data.toList a with
      | false => rfl
      | true =>
        have := WideShapes.bytes_trans _ _ _ hb hc
        rw [WideAt.bytes_irrefl] at this
        cases this
    | false =>
      rcases WideAt.bytes_total a s.data.toList h with h2 | h2
      · rw [hb] at h2; cases h2
      · rw [h2]; rfl
theorem dIns_drop {l : Dir} {k : Nat} {x : List UInt8 × Nat} (h : l[k]? = some x) (e : List UInt8 × Nat) : dIns e (l.drop k) = if bytesBefore e.1 x.1 = true then e :: x :: l.drop (k + 1) else x :: dIns e (l.drop (k + 1)) := by
  have hk : k < l.length := (List.getElem?_eq_some_iff.1 h).1
  have hx : l[k] = x := (List.getElem?_eq_some_iff.1 h).2
  rw [List.drop_eq_getElem_cons hk, hx]
  rfl
/-- What is still to be put out. -/
def leftD (p : Bool) (e : List UInt8 × Nat) (l : Dir) (k : Nat) : Dir := if p = true then l.drop k else dIns e (l.drop k)
def WiRel (l : Dir) (e : List UInt8 × Nat) (w1 : World) (base : Nat) (v p i : Value) (wr : World) : Prop :=
  ∃ (k m : Nat) (A' : Option Addr) (c' : Nat) (b : Bool) (O : Dir), k ≤ l.length ∧ i = .int .i64 (k : Int) ∧ p = .bool b ∧ v = .slice A' m c' ∧ Hid (m = O.length) ∧ m ≤ 2 * k + 1 ∧ Hid (O ++ leftD b e l k = dIns e l) ∧
    wr.ownsRow base 92 2 (.slice A' m c') m (enCells O) ∧ Below base w1 wr
theorem Row.en_at {w : World} {B : Nat} {ad : Addr} {l : Dir} (h : Row w B (some ad) (enCells l)) {k : Nat} {e : List UInt8 × Nat} (hk : l[k]? = some e) :
    ad.block < B ∧ w.cell? (ad.add (k * 2)) = some (.string (strB e.1)) ∧ w.cell? ⟨(ad.add (k * 2)).block, (ad.add (k * 2)).off + 1, none⟩ = some (.int .i64 (e.2 : Int)) := by
  obtain ⟨ad', hA, h1, h2, h3⟩ := h.en hk
  injection hA with hA
  subst hA
  exact ⟨h1, h2, h3⟩
theorem own_more {w : World} {base base' : Nat} {e : TypeId} {size n : Nat} {v : Value} {xs : List Value} (h : w.ownsRow base e size v n xs) (hb : base' ≤ base) : w.ownsRow base' e size v n xs := by
  refine ⟨h.1, ?_⟩
  rcases h.2 with h' | ⟨g, cap, cur, h1, h2, h3⟩
  · exact .inl h'
  · exact .inr ⟨g, cap, cur, h1, Nat.le_trans hb h2, h3⟩
theorem info_en2 : (Try.prog.info? 92).map (fun i => (i.zero, i.size, i.bytes)) = some (some (.agg #[.string ⟨#[]⟩, .int .i64 0]), 2, 24) := by kernel_rfl

set_option maxRecDepth 100000 in
set_option maxHeartbeats 4000000 in
theorem with_any (A : Option Addr) (B n c : Nat) (l : Dir) (w : World) (hn : l.length = n) (hr : Row w B A (enCells l)) (hB : B ≤ w.heap.size) (hl : n ≤ 1000000000) (nm : ByteArray) (q : Nat) :
    Calls Try.prog 63 #[.slice A n c, .string nm, .int .i64 (q : Int)] w (WoR w (dPut l nm.data.toList q)) := by
  have HWO := hide (without_any A B n c l w hn hr hB hl nm)
  have hdl : (dDel l nm.data.toList).length ≤ n := by rw [← hn]; exact List.length_filter_le ..
  obtain ⟨D, HD⟩ : ∃ D, Hid (D = dPut l nm.data.toList q) := ⟨_, rfl⟩
  rw [← HD.out]
  have hDI : D = dIns (nm.data.toList, q) (dDel l nm.data.toList) := HD.out
  obtain ⟨l1, hl1⟩ : ∃ l1, l1 = dDel l nm.data.toList := ⟨_, rfl⟩
  rw [← hl1] at HWO hdl hDI
  have HDI := hide hDI
  obtain ⟨i0, hi, hz0, hz1, hz2⟩ := info_parts info_en2
  clear hn hr hl1 hDI HD
  go_enter Try.func63, Try.ntmps63
  go_wp2_with (go_at_call 64; refine halted ?_)
  refine go_on ?_
  refine HWO.out.mono ?_
  rintro e w1 ⟨A1, c1, rfl, hown1, hb1⟩
  have HR1 := hide (Row.of_own hown1)
  have HB1 := hide hb1
  clear HWO hown1 hb1
  go_wp2
  go_loopw [7, 9, 10] (fun v p i wr => WiRel l1 (nm.data.toList, q) w1 w1.heap.size v p i wr) (fun _ _ i _ => l1.length - (intOf i).toNat)
  case atStart => exact ⟨0, 0, none, 0, false, [], Nat.zero_le _, rfl, rfl, rfl, rfl, Nat.zero_le _, rfl, World.ownsRow_nil _ _ _ _, Below.refl _ _⟩
  case round =>
    obtain ⟨k, m, A', c', b, O, hk, rfl, rfl, rfl, HM, hmk, HO, hown, hb⟩ := hrel
    by_cases hlt : k < l1.length
    · obtain ⟨x, hx⟩ : ∃ x, l1[k]? = some x := ⟨_, List.getElem?_eq_getElem hlt⟩
      obtain ⟨ad, rfl, hadb, ha, hc2⟩ := (HR1.out.belowLe hb (Nat.le_refl _)).en hx
      have HOWN := hide hown
      have HB := hide hb
      have hlt' : (k : Int) < (l1.length : Int) := by omega
      have HDR := hide (dIns_drop hx (nm.data.toList, q))
      have HDK := hide (show l1.drop k = x :: l1.drop (k + 1) from by
        have hx2 : l1[k] = x := (List.getElem?_eq_some_iff.1 hx).2
        rw [List.drop_eq_getElem_cons hlt, hx2])
      by_cases hput : b = false ∧ bytesBefore nm.data.toList x.1 = true
      · obtain ⟨rfl, hgt⟩ := hput
        have hs : (!(Op.bytesLess (strB x.1).toList nm.toList || (strB x.1).toList == nm.toList)) = true := by rw [str_gt]; exact hgt
        have hs1 : Op.bytesLess (strB x.1).toList nm.toList = false := by
          cases h : Op.bytesLess (strB x.1).toList nm.toList <;> rw [h] at hs <;> simp at hs ⊢
        have hs2 : ((strB x.1).toList == nm.toList) = false := by
          cases h : ((strB x.1).toList == nm.toList) <;> rw [h] at hs <;> simp at hs ⊢
        have HO3 := hide (show (O ++ [(nm.data.toList, q)] ++ [x]) ++ leftD true (nm.data.toList, q) l1 (k + 1) = dIns (nm.data.toList, q) l1 from by
          have h := HO.out
          unfold leftD at h ⊢
          rw [if_neg (by simp), HDR.out, if_pos hgt] at h
          rw [if_pos rfl, List.append_assoc, List.append_assoc]
          exact h)
        have hx_keep := hide hx
        clear hown hb hx hgt HO hs
        go_wp2_with (at_builtin; refine halted ?_)
        refine go_on ?_
        refine wpList_append_own _ rfl (.tmp 31) (.tmp 35) 60 rfl w1.heap.size 92 i0 _ 2 24 Try.underlying60 hi hz0 hz1 hz2 rfl (by decide) A' m c' _ rfl (World.ownsRow.alloc HOWN.out _) _ _ 1 _ [.string nm, .int .i64 (q : Int)] rfl rfl (Row.new wr #[.string nm, .int .i64 (q : Int)] 92 (0, 0)) (by intro u hu; simp at hu; rcases hu with rfl | rfl <;> rfl) (by unfold maxLen; omega) (by omega) (by have := HB.out.size; simp; exact Nat.le_succ_of_le this) ?_
        intro n5 xs5 A5 c5 w5 hn5 hxs5 hnc _ hown5 hg5 hat5
        obtain rfl : n5 = m + 1 := hn5.out
        have hb5 : Below w1.heap.size w1 w5 := (HB.out.alloc HB.out.size _).grown hg5 (by have := HB.out.size; simp; exact Nat.le_succ_of_le this) (fun q hq => (World.ownsRow.lt HOWN.out q (by rw [ownBlock_slice]; exact hq)).1)
        have ex : xs5 = enCells (O ++ [(nm.data.toList, q)]) := by
          rw [hxs5.out, enCells_append]
          rfl
        rw [ex] at hown5
        have HOWN5 := hide hown5
        have HB5 := hide hb5
        obtain ⟨hadb5, ha5, hd5⟩ := (HR1.out.belowLe hb5 (Nat.le_refl _)).en_at hx_keep.out
        clear hn5 hxs5 hnc hown5 hg5 hat5 hb5 ex ha hc2
        go_wp2_with (at_builtin; refine halted ?_)
        refine go_on ?_
        refine wpList_append_own _ rfl (.tmp 37) (.tmp 42) 60 rfl w1.heap.size 92 i0 _ 2 24 Try.underlying60 hi hz0 hz1 hz2 rfl (by decide) A5 (m + 1) c5 _ rfl (World.ownsRow.alloc HOWN5.out _) _ _ 1 _ [.string (strB x.1), .int .i64 (x.2 : Int)] rfl rfl (Row.new w5 #[.string (strB x.1), .int .i64 (x.2 : Int)] 92 (0, 0)) (by intro u hu; simp at hu; rcases hu with rfl | rfl <;> rfl) (by unfold maxLen; omega) (by omega) (by have := HB5.out.size; simp; exact Nat.le_succ_of_le this) ?_
        intro n6 xs6 A6 c6 w6 hn6 hxs6 _ _ hown6 hg6 _
        obtain rfl : n6 = (m + 1) + 1 := hn6.out
        have hb6 : Below w1.heap.size w1 w6 := (HB5.out.alloc HB5.out.size _).grown hg6 (by have := HB5.out.size; simp; exact Nat.le_succ_of_le this) (fun q hq => (World.ownsRow.lt HOWN5.out q (by rw [ownBlock_slice]; exact hq)).1)
        have ex6 : xs6 = enCells ((O ++ [(nm.data.toList, q)]) ++ [x]) := by
          rw [hxs6.out]
          exact (enCells_append _ [x]).symm
        rw [ex6] at hown6
        have hrel2 : WiRel l1 (nm.data.toList, q) w1 w1.heap.size (.slice A6 ((m + 1) + 1) c6) (.bool true) (.int .i64 ((k : Int) + 1)) w6 := by
          refine ⟨k + 1, (m + 1) + 1, A6, c6, true, (O ++ [(nm.data.toList, q)]) ++ [x], hlt, by simp, rfl, rfl, ?_, by omega, HO3.out, hown6, hb6⟩
          show _ = _
          rw [List.length_append, HM.out, List.length_append]
          rfl
        have HR2 := hide hrel2
        clear hn6 hxs6 hown6 hg6 hb6 ex6 hrel2
        go_wp2
        case roundEnd => exact ⟨HR2.out, by simp [intOf]; omega⟩
      · have HO3 := hide (show (O ++ [x]) ++ leftD b (nm.data.toList, q) l1 (k + 1) = dIns (nm.data.toList, q) l1 from by
          have h := HO.out
          unfold leftD at h ⊢
          cases b with
          | true =>
            rw [if_pos rfl] at h ⊢
            rw [HDK.out] at h
            rw [List.append_assoc]
            exact h
          | false =>
            rw [if_neg (by simp)] at h ⊢
            rw [HDR.out, if_neg (fun e => hput ⟨rfl, e⟩)] at h
            rw [List.append_assoc]
            exact h)
        have hor : b = true ∨ b = false ∧ bytesBefore nm.data.toList x.1 = false := by
          cases b with
          | true => exact .inl rfl
          | false =>
            cases h : bytesBefore nm.data.toList x.1 with
            | false => exact .inr ⟨rfl, rfl⟩
            | true => exact (hput ⟨rfl, h⟩).elim
        clear hput hown hb hx HO
        rcases hor with rfl | ⟨rfl, hgt⟩
        · go_wp2_with (at_builtin; refine halted ?_)
          refine go_on ?_
          refine wpList_append_own _ rfl (.tmp 37) (.tmp 42) 60 rfl w1.heap.size 92 i0 _ 2 24 Try.underlying60 hi hz0 hz1 hz2 rfl (by decide) A' m c' _ rfl (World.ownsRow.alloc HOWN.out _) _ _ 1 _ [.string (strB x.1), .int .i64 (x.2 : Int)] rfl rfl (Row.new wr #[.string (strB x.1), .int .i64 (x.2 : Int)] 92 (0, 0)) (by intro u hu; simp at hu; rcases hu with rfl | rfl <;> rfl) (by unfold maxLen; omega) (by omega) (by have := HB.out.size; simp; exact Nat.le_succ_of_le this) ?_
          intro n6 xs6 A6 c6 w6 hn6 hxs6 _ _ hown6 hg6 _
          obtain rfl : n6 = m + 1 := hn6.out
          have hb6 : Below w1.heap.size w1 w6 := (HB.out.alloc HB.out.size _).grown hg6 (by have := HB.out.size; simp; exact Nat.le_succ_of_le this) (fun q hq => (World.ownsRow.lt HOWN.out q (by rw [ownBlock_slice]; exact hq)).1)
          have ex6 : xs6 = enCells (O ++ [x]) := by
            rw [hxs6.out]
            exact (enCells_append _ [x]).symm
          rw [ex6] at hown6
          have hrel2 : WiRel l1 (nm.data.toList, q) w1 w1.heap.size (.slice A6 (m + 1) c6) (.bool true) (.int .i64 ((k : Int) + 1)) w6 := by
            refine ⟨k + 1, m + 1, A6, c6, true, O ++ [x], hlt, by simp, rfl, rfl, ?_, by omega, HO3.out, hown6, hb6⟩
            show _ = _
            rw [List.length_append, HM.out]
            rfl
          have HR2 := hide hrel2
          clear hn6 hxs6 hown6 hg6 hb6 ex6 hrel2
          go_wp2
          case roundEnd => exact ⟨HR2.out, by simp [intOf]; omega⟩
        · have hs : (!(Op.bytesLess (strB x.1).toList nm.toList || (strB x.1).toList == nm.toList)) = false := by rw [str_gt]; exact hgt
          have hs3 : Op.bytesLess (strB x.1).toList nm.toList = true ∨ Op.bytesLess (strB x.1).toList nm.toList = false ∧ ((strB x.1).toList == nm.toList) = true := by
            cases h : Op.bytesLess (strB x.1).toList nm.toList with
            | true => exact .inl rfl
            | false =>
              rw [h] at hs
              simp at hs
              exact .inr ⟨rfl, by simpa using hs⟩
          clear hs hgt
          rcases hs3 with hs1 | ⟨hs1, hs2⟩
          all_goals
            go_wp2_with (at_builtin; refine halted ?_)
            refine go_on ?_
            refine wpList_append_own _ rfl (.tmp 37) (.tmp 42) 60 rfl w1.heap.size 92 i0 _ 2 24 Try.underlying60 hi hz0 hz1 hz2 rfl (by decide) A' m c' _ rfl (World.ownsRow.alloc HOWN.out _) _ _ 1 _ [.string (strB x.1), .int .i64 (x.2 : Int)] rfl rfl (Row.new wr #[.string (strB x.1), .int .i64 (x.2 : Int)] 92 (0, 0)) (by intro u hu; simp at hu; rcases hu with rfl | rfl <;> rfl) (by unfold maxLen; omega) (by omega) (by have := HB.out.size; simp; exact Nat.le_succ_of_le this) ?_
            intro n6 xs6 A6 c6 w6 hn6 hxs6 _ _ hown6 hg6 _
            obtain rfl : n6 = m + 1 := hn6.out
            have hb6 : Below w1.heap.size w1 w6 := (HB.out.alloc HB.out.size _).grown hg6 (by have := HB.out.size; simp; exact Nat.le_succ_of_le this) (fun q hq => (World.ownsRow.lt HOWN.out q (by rw [ownBlock_slice]; exact hq)).1)
            have ex6 : xs6 = enCells (O ++ [x]) := by
              rw [hxs6.out]
              exact (enCells_append _ [x]).symm
            rw [ex6] at hown6
            have hrel2 : WiRel l1 (nm.data.toList, q) w1 w1.heap.size (.slice A6 (m + 1) c6) (.bool false) (.int .i64 ((k : Int) + 1)) w6 := by
              refine ⟨k + 1, m + 1, A6, c6, false, O ++ [x], hlt, by simp, rfl, rfl, ?_, by omega, HO3.out, hown6, hb6⟩
              show _ = _
              rw [List.length_append, HM.out]
              rfl
            have HR2 := hide hrel2
            clear hn6 hxs6 hown6 hg6 hb6 ex6 hrel2
            go_wp2
            case roundEnd => exact ⟨HR2.out, by simp [intOf]; omega⟩
    · have hkE : k = l1.length := by omega
      subst hkE
      have hM := HM.out
      cases b with
      | true =>
        have hO : O = D := by
          have h := HO.out
          unfold leftD at h
          rw [if_pos rfl, List.drop_length, List.append_nil] at h
          rw [h, ← HDI.out]
        subst hO
        subst hM
        have HF := hide (show WoR w O (.returned (.slice A' O.length c')) wr from ⟨A', c', rfl, own_more hown HB1.out.size, HB1.out.trans (hb.mono HB1.out.size)⟩)
        clear hown hb HO
        go_wp2
        go_ret
        exact HF.out
      | false =>
        have hO : O ++ [(nm.data.toList, q)] = D := by
          have h := HO.out
          unfold leftD at h
          rw [if_neg (by simp), List.drop_length] at h
          rw [HDI.out, ← h]
          rfl
        have HO3 := hide hO
        have HOWN := hide hown
        have HB := hide hb
        clear hown hb HO
        go_wp2_with (at_builtin; refine halted ?_)
        refine go_on ?_
        refine wpList_append_own _ rfl (.tmp 46) (.tmp 50) 60 rfl w1.heap.size 92 i0 _ 2 24 Try.underlying60 hi hz0 hz1 hz2 rfl (by decide) A' m c' _ rfl (World.ownsRow.alloc HOWN.out _) _ _ 1 _ [.string nm, .int .i64 (q : Int)] rfl rfl (Row.new wr #[.string nm, .int .i64 (q : Int)] 92 (0, 0)) (by intro u hu; simp at hu; rcases hu with rfl | rfl <;> rfl) (by unfold maxLen; omega) (by omega) (by have := HB.out.size; simp; exact Nat.le_succ_of_le this) ?_
        intro n5 xs5 A5 c5 w5 hn5 hxs5 hnc _ hown5 hg5 hat5
        have hlen : D.length = n5 := by rw [← HO3.out, List.length_append, hn5.out, hM]; rfl
        have hb5 : Below w1.heap.size w1 w5 := (HB.out.alloc HB.out.size _).grown hg5 (by have := HB.out.size; simp; exact Nat.le_succ_of_le this) (fun q hq => (World.ownsRow.lt HOWN.out q (by rw [ownBlock_slice]; exact hq)).1)
        have ex : xs5 = enCells D := by
          rw [hxs5.out, ← HO3.out, enCells_append]
          rfl
        rw [ex] at hown5
        subst hlen
        have HF := hide (show WoR w D (.returned (.slice A5 D.length c5)) w5 from ⟨A5, c5, rfl, own_more hown5 HB1.out.size, HB1.out.trans (hb5.mono HB1.out.size)⟩)
        clear hn5 hxs5 hnc hown5 hg5 hat5 hb5 ex
        go_wp2
        go_ret
        exact HF.out

/-- A directory with a change made. -/
def madeD (l : Dir) (c : Rk) : Dir := if c.kind = 0 then dPut l c.nm c.ix else if c.kind = 1 then dPut (dDel l c.nm) c.to c.ix else dDel l c.nm
theorem dPut_len (l : Dir) (nm : List UInt8) (q : Nat) : (dPut l nm q).length ≤ l.length + 1 := by
  have : ∀ (e : List UInt8 × Nat) (l : Dir), (dIns e l).length = l.length + 1 := by
    intro e l
    induction l with
    | nil => rfl
    | cons y r ih =>
      unfold dIns
      split
      · rfl
      · rw [List.length_cons, List.length_cons, ih]
  unfold dPut
  rw [this]
  have := List.length_filter_le (fun e : List UInt8 × Nat => !(e.1 == nm)) l
  unfold dDel
  omega
theorem dDel_len (l : Dir) (nm : List UInt8) : (dDel l nm).length ≤ l.length := List.length_filter_le ..
theorem madeD_len (l : Dir) (c : Rk) : (madeD l c).length ≤ l.length + 1 := by
  unfold madeD
  split
  · exact dPut_len ..
  · split
    · have := dPut_len (dDel l c.nm) c.to c.ix
      have := dDel_len l c.nm
      omega
    · have := dDel_len l c.nm
      omega
theorem strB_dt (a : List UInt8) : (strB a).data.toList = a := rfl

set_option maxRecDepth 100000 in
set_option maxHeartbeats 4000000 in
theorem made_any (A : Option Addr) (B n c : Nat) (l : Dir) (w : World) (hn : l.length = n) (hr : Row w B A (enCells l)) (hB : B ≤ w.heap.size) (hl : n ≤ 900000000) (ch : Rk) (kd : Int) (nm to : ByteArray) (ix : Int) (h1 : kd = ch.kind) (h2 : nm = strB ch.nm) (h3 : to = strB ch.to) (h4 : ix = ch.ix) :
    Calls Try.prog 58 #[.slice A n c, .agg #[.int .i64 kd, .string nm, .string to, .int .i64 ix]] w (WoR w (madeD l ch)) := by
  subst h2 h3 h4
  obtain ⟨w1, hw1⟩ : ∃ w1, w1 = w.alloc (.cells #[.int .i64 kd, .string (strB ch.nm), .string (strB ch.to), .int .i64 (ch.ix : Int)] 88) := ⟨_, rfl⟩
  have hb1 : Below w.heap.size w w1 := by rw [hw1]; exact below_new w _
  have hx1 : w1.heap[w.heap.size]? = some (.cells #[.int .i64 kd, .string (strB ch.nm), .string (strB ch.to), .int .i64 (ch.ix : Int)] 88 (0, 0)) := by rw [hw1]; exact heap_alloc_new w _
  have hz1 : w.heap.size < w1.heap.size := by rw [hw1]; simp
  have HR := hide (hr.belowLe hb1 hB)
  have HB1 := hide hb1
  obtain ⟨q1, hq1⟩ : ∃ q1, q1 = w.heap.size := ⟨_, rfl⟩
  have HBX := hide (show ∀ W, Below w1.heap.size w1 W → W.cell? ⟨q1, 0, none⟩ = some (.int .i64 kd) ∧ W.cell? ⟨q1, 1, none⟩ = some (.string (strB ch.nm)) ∧ W.cell? ⟨q1, 2, none⟩ = some (.string (strB ch.to)) ∧ W.cell? ⟨q1, 3, none⟩ = some (.int .i64 (ch.ix : Int)) from fun W hW => by
    have h := (hW.block w.heap.size hz1).trans hx1
    rw [← hq1] at h
    exact ⟨Joins.cell_of_block h 0, Joins.cell_of_block h 1, Joins.cell_of_block h 2, Joins.cell_of_block h 3⟩)
  have hB1 : B ≤ w1.heap.size := Nat.le_trans hB hb1.size
  obtain ⟨a0, a1, a2, a3⟩ := HBX.out w1 (Below.refl _ _)
  have HEND := hide (show ∀ (W W' : World) (D : Dir) (e : Ending), Below w1.heap.size w1 W → WoR W D e W' → WoR w D e W' from fun W W' D e hW ⟨A, c, h1, h2, h3⟩ => by
    have hbW := HB1.out.trans (hW.mono HB1.out.size)
    exact ⟨A, c, h1, own_more h2 hbW.size, hbW.trans (h3.mono hbW.size)⟩)
  obtain ⟨D, HD⟩ : ∃ D, Hid (D = madeD l ch) := ⟨_, rfl⟩
  rw [← HD.out]
  have H1 := hide h1
  clear hr hx1 hz1 h1
  by_cases k0 : kd = 0
  · subst k0
    have k0 : ch.kind = 0 := by have := H1.out; omega
    have HDE := hide (show D = dPut l (strB ch.nm).data.toList ch.ix from by rw [HD.out]; unfold madeD; rw [if_pos k0]; rfl)
    have HW := hide (with_any A B n c l w1 hn HR.out hB1 (by omega) (strB ch.nm) ch.ix)
    rw [← HDE.out] at HW
    clear k0
    go_enter Try.func58, Try.ntmps58
    go_wp2_with (go_at_call 63; refine halted ?_)
    refine go_on ?_
    rw [← hw1]
    refine HW.out.mono ?_
    intro e w2 h2
    have HF := hide (HEND.out w1 w2 D e (Below.refl _ _) h2)
    obtain ⟨A2, c2, rfl, _, _⟩ := h2
    clear a0 a1 a2 a3 hw1 hq1
    go_wp2
    go_ret
    exact HF.out
  have k0_ := k0
  by_cases k1 : kd = 1
  · subst k1
    have k0 : ch.kind = 1 := by have := H1.out; omega
    have HDE := hide (show D = dPut (dDel l (strB ch.nm).data.toList) (strB ch.to).data.toList ch.ix from by rw [HD.out]; unfold madeD; rw [if_neg (by omega), if_pos k0]; rfl)
    have HWO := hide (without_any A B n c l w1.drew hn (HR.out.belowLe (Below.refl _ _).drew hB1) hB1 (by omega) (strB ch.nm))
    have hdl : (dDel l (strB ch.nm).data.toList).length ≤ n := by rw [← hn]; exact dDel_len ..
    obtain ⟨l1, hl1⟩ : ∃ l1, l1 = dDel l (strB ch.nm).data.toList := ⟨_, rfl⟩
    rw [← hl1] at HWO hdl HDE
    have HW := hide (show ∀ (W : World) (A2 : Option Addr) (c2 : Nat), Row W W.heap.size A2 (enCells l1) → Calls Try.prog 63 #[.slice A2 l1.length c2, .string (strB ch.to), .int .i64 (ch.ix : Int)] W (WoR W D) from fun W A2 c2 hrw => by
      rw [HDE.out]
      exact with_any A2 W.heap.size l1.length c2 l1 W rfl hrw (Nat.le_refl _) (by omega) (strB ch.to) ch.ix)
    have S0 : w1.cell? ⟨q1, 1, none⟩ = some (.string (strB ch.nm)) ∧ w1.cell? ⟨q1, 2, none⟩ = some (.string (strB ch.to)) ∧ w1.cell? ⟨q1, 3, none⟩ = some (.int .i64 (ch.ix : Int)) := ⟨a1, a2, a3⟩
    have S1 : w1.drew.cell? ⟨q1, 1, none⟩ = some (.string (strB ch.nm)) ∧ w1.drew.cell? ⟨q1, 2, none⟩ = some (.string (strB ch.to)) ∧ w1.drew.cell? ⟨q1, 3, none⟩ = some (.int .i64 (ch.ix : Int)) := ⟨a1, a2, a3⟩
    clear k0 hl1
    go_enter Try.func58, Try.ntmps58
    go_wp2
    rw [← hw1, ← hq1]
    clear hw1 hq1
    go_region_held3 (fun W => W.cell? ⟨q1, 1, none⟩ = some (.string (strB ch.nm)) ∧ W.cell? ⟨q1, 2, none⟩ = some (.string (strB ch.to)) ∧ W.cell? ⟨q1, 3, none⟩ = some (.int .i64 (ch.ix : Int)))
      (with_reducible assumption)
      (first
        | (go_at_call 64; (with_reducible refine HWO.out.mono ?_); rintro e5 w5 ⟨A5, c5, rfl, hown5, hb5⟩; have hB5 : Below w1.heap.size w1 w5 := ((Below.refl w1.heap.size w1).drew).trans hb5; have S5 := (HBX.out w5 hB5).2)
        | (go_at_call 63; (with_reducible refine (HW.out _ _ _ (Row.of_own hown5)).mono ?_); rintro e6 w6 h6; obtain ⟨A6, c6, rfl, hown6, hb6⟩ := h6; have hB6 : Below w1.heap.size w1 w6 := hB5.trans (hb6.mono hB5.size); have S6 := (HBX.out w6 hB6).2))
    all_goals
      have HF := hide (HEND.out w5 w6 D _ hB5 ⟨A6, c6, rfl, hown6, hb6⟩)
      clear a0 a1 a2 a3 S0 S1 S5 S6 hown5 hown6 hb5 hb6 hB5 hB6
      go_wp2
      go_ret
      exact HF.out
  · have k0 : ch.kind ≠ 0 ∧ ch.kind ≠ 1 := by have := H1.out; omega
    have HDE := hide (show D = dDel l (strB ch.nm).data.toList from by rw [HD.out]; unfold madeD; rw [if_neg k0.1, if_neg k0.2]; rfl)
    have HW := hide (without_any A B n c l w1 hn HR.out hB1 (by omega) (strB ch.nm))
    rw [← HDE.out] at HW
    have e0 : (kd == 0) = false := by rw [beq_eq_false_iff_ne]; exact k0_
    have e1 : (kd == 1) = false := by rw [beq_eq_false_iff_ne]; exact k1
    clear k0
    go_enter Try.func58, Try.ntmps58
    go_wp2_with (go_at_call 64; refine halted ?_)
    refine go_on ?_
    rw [← hw1]
    refine HW.out.mono ?_
    intro e w2 h2
    have HF := hide (HEND.out w1 w2 D e (Below.refl _ _) h2)
    obtain ⟨A2, c2, rfl, _, _⟩ := h2
    clear a0 a1 a2 a3 hw1 hq1
    go_wp2
    go_ret
    exact HF.out
end Go.Proofs.Ytpakihbejdpmoaa
namespace Go.Proofs.Ytpakihbejdpmoaa
open Go.RowKit
set_option linter.unusedVariables false

theorem Rm.mk_set {r : Nat} {s' : RS} {w w' : World} (hn : Rn s' w) (hr : Kb w r 63) (hk : Kept (fun k => k = r) w w') (hbox : RsB r s' w') : Rm r s' w' :=
  ⟨hbox, hn.stay hk (fun k e hk2 => hn.ne hk2 hr e)⟩
/-- The plan, the power turned. -/
def RS.met (s : RS) (AP : Option Addr) (cP : Nat) (m : Int × List UInt8 × Bool) : RS := { s with AP := AP, cP := cP, plan := m.2.1, off := m.2.2 }
def MayR (r : Nat) (s : RS) (w : World) (m : Int × List UInt8 × Bool) (e : Ending) (w' : World) : Prop := e = .returned (.int .i64 m.1) ∧ ∃ AP cP, RDid r s w (s.met AP cP m) w'
theorem keptR (w : World) (q i : Nat) (v : Value) : Kept (fun k => k = q) w (w.setCell ⟨q, i, none⟩ v) := Kept.set (S := fun k => k = q) w rfl i v

set_option maxRecDepth 100000 in
set_option maxHeartbeats 4000000 in
theorem may_any (r : Nat) (s : RS) (w : World) (hs : Rm r s w) (na nb : ByteArray) (hna : na.size ≤ maxLen) (hnb : nb.size ≤ maxLen) (hpl : s.plan.length ≤ 1000000000) :
    Calls Try.prog 52 #[.pointer (some ⟨r, 0, none⟩), .string na, .string nb] w (MayR r s w (meetE (isNm na && isNm nb) s.off s.plan)) := by
  have HN1 := hide (isName_any na w hna)
  have HN2 := hide (isName_any nb w hnb)
  have c5 := hs.box.cell 5
  have c6 := hs.box.cell 6
  simp at c5 c6
  obtain ⟨R, HR⟩ : ∃ R, Hid (R = meetE (isNm na && isNm nb) s.off s.plan) := ⟨_, rfl⟩
  rw [← HR.out]
  have hstay : R.2 = (s.plan, s.off) → MayR r s w R (.returned (.int .i64 R.1)) w := fun h => by
    refine ⟨rfl, s.AP, s.cP, ?_⟩
    have e : s.met s.AP s.cP R = s := by unfold RS.met; rw [h]
    rw [e]
    exact RDid.refl hs
  have HST := hide hstay
  have HS := hide hs
  clear hs hstay hna hnb
  go_enter Try.func52, Try.ntmps52
  go_wp2_with (go_at_call 57; refine halted ?_)
  refine go_on ?_
  refine HN1.out.mono ?_
  rintro e w' ⟨rfl, rfl⟩
  clear HN1
  go_wp2_with (go_at_call 57; refine halted ?_)
  refine go_on ?_
  refine HN2.out.mono ?_
  rintro e w' ⟨rfl, rfl⟩
  clear HN2
  cases hn1 : isNm na with
  | false =>
    have HE : Hid (R = (1, s.plan, s.off)) := by show _ = _; rw [HR.out, hn1]; rfl
    have HF := hide (HST.out (by rw [HE.out]))
    rw [HE.out] at HF
    clear hn1
    go_wp2
    go_ret
    rw [HE.out]
    exact HF.out
  | true =>
  cases hn2 : isNm nb with
  | false =>
    have HE : Hid (R = (1, s.plan, s.off)) := by show _ = _; rw [HR.out, hn1, hn2]; rfl
    have HF := hide (HST.out (by rw [HE.out]))
    rw [HE.out] at HF
    clear hn1 hn2
    go_wp2
    go_ret
    rw [HE.out]
    exact HF.out
  | true =>
  cases hoff : s.off with
  | true =>
    have HE : Hid (R = (8, s.plan, s.off)) := by show _ = _; rw [HR.out, hn1, hn2, hoff]; rfl
    have HF := hide (HST.out (by rw [HE.out]))
    rw [HE.out] at HF
    rw [hoff] at c6
    clear hn1 hn2 hoff
    go_wp2
    go_ret
    rw [HE.out]
    exact HF.out
  | false =>
    rw [hoff] at c6
    cases hp : s.plan with
    | nil =>
      have HE : Hid (R = (0, s.plan, s.off)) := by show _ = _; rw [HR.out, hn1, hn2, hoff, hp]; rfl
      have HF := hide (HST.out (by rw [HE.out]))
      rw [HE.out] at HF
      rw [hp] at c5
      clear hn1 hn2 hoff hp
      go_wp2
      go_ret
      rw [HE.out]
      exact HF.out
    | cons x t =>
      have hpb := HS.out.rn.plan
      rw [hp] at hpb c5
      obtain ⟨ad, y, hA, hadb, hy, hcy⟩ := hpb.at_ (k := 0) (by simp)
      have hxy : y = x := by have := hy.out; simp at this; exact this.symm
      subst hxy
      have hcy' : w.cell? ad = some (.int .u8 (y.toNat : Int)) := hcy
      have hpc : t.length + 1 ≤ s.cP := by have := HS.out.rn.pcap; rw [hp] at this; simpa using this
      obtain ⟨A2, hcut, hr2, hin⟩ := cut_fromR (P := Try.prog) (t := 33) elem_bytes size_byte hpb (n := t.length + 1) (by simp) hpc (1 : Int) 1 rfl (by omega) .i64
      simp only [List.length_cons] at c5
      have f5 := HS.out.box.free 5
      have f6 := HS.out.box.free 6
      have hlen : t.length + 1 - 1 = t.length := by omega
      rw [hlen] at hcut
      have j0 : 0 < t.length + 1 := by omega
      have j1 : (0 : Int) < (t.length : Int) + 1 := by omega
      have hpl2 : (t.length : Int) + 1 ≤ 1000000000 := by rw [hp] at hpl; simp at hpl; omega
      rw [hA] at c5 hcut
      have hend : ∀ off : Bool, ∀ W : World, Kept (fun k => k = r) w W → RsB r (s.met A2 (s.cP - 1) (0, t, off)) W → RDid r s w (s.met A2 (s.cP - 1) (0, t, off)) W := by
        intro off W hk hbx
        have hn := HS.out.rn
        have hr2' : Bytes w w.heap.size A2 t := hr2
        have hn2 : Rn (s.met A2 (s.cP - 1) (0, t, off)) w := ⟨hn.rfiles, hn.rnow, hn.rdisk, hn.rkept, hr2', by show t.length ≤ s.cP - 1; omega, fun k hk => hn.planK k (hin k hk), hn.fb, hn.fsure, hn.nnow, hn.ndisk, hn.nkept⟩
        refine ⟨Rm.mk_set hn2 HS.out.box.kb hk hbx, hk.wider fun k _ e => .inl e, fun k hk => .inl ?_⟩
        rcases hk with h | h | h | h | h | h | h
        · exact .inl h
        · exact .inr (.inl h)
        · exact .inr (.inr (.inl h))
        · exact .inr (.inr (.inr (.inl h)))
        · exact .inr (.inr (.inr (.inr (.inl h))))
        · exact .inr (.inr (.inr (.inr (.inr (.inl (hin k h))))))
        · exact .inr (.inr (.inr (.inr (.inr (.inr h)))))
      have HEND := hide hend
      have hb4 : RsB r (s.met A2 (s.cP - 1) (0, t, s.off)) (w.setCell ⟨r, 5, none⟩ (.slice A2 t.length (s.cP - 1))) := HS.out.box.set 5 _ rfl
      have HB4 := hide hb4
      have HNM := hide (And.intro hn1 hn2)
      have HO := hide hoff
      have HP := hide hp
      clear hend hb4 hp hoff hcy hpl hn1 hn2 hr2 hin hpb hA hlen hpl2 hy hadb hpc
      by_cases h1 : y = 1
      · have e1 : ((y.toNat : Int) == 1) = true := by rw [h1]; rfl
        have HE : Hid (R = (7, t, s.off)) := by show _ = _; rw [HR.out, HNM.out.1, HNM.out.2, HO.out, HP.out, h1]; rfl
        clear h1
        go_wp2
        go_ret
        rw [HE.out]
        exact ⟨rfl, A2, s.cP - 1, HEND.out _ _ (keptR w r 5 _) HB4.out⟩
      by_cases h2 : y = 2
      · have e1 : ((y.toNat : Int) == 1) = false := by rw [h2]; rfl
        have e2 : ((y.toNat : Int) == 2) = true := by rw [h2]; rfl
        have HE : Hid (R = (8, t, true)) := by show _ = _; rw [HR.out, HNM.out.1, HNM.out.2, HO.out, HP.out, h2]; rfl
        clear h1 h2
        go_wp2
        go_ret
        rw [HE.out]
        exact ⟨rfl, A2, s.cP - 1, HEND.out _ _ ((keptR w r 5 _).trans (keptR _ r 6 _)) (HB4.out.set 6 _ rfl)⟩
      · have e1 : ((y.toNat : Int) == 1) = false := by rw [beq_eq_false_iff_ne]; intro h; exact h1 (UInt8.toNat_inj.1 (by rw [show (1 : UInt8).toNat = 1 from rfl]; omega))
        have e2 : ((y.toNat : Int) == 2) = false := by rw [beq_eq_false_iff_ne]; intro h; exact h2 (UInt8.toNat_inj.1 (by rw [show (2 : UInt8).toNat = 2 from rfl]; omega))
        have HE : Hid (R = (0, t, s.off)) := by
          show _ = _
          rw [HR.out, HNM.out.1, HNM.out.2, HO.out, HP.out]
          unfold meetE
          simp [h1, h2]
        clear h1 h2
        go_wp2
        go_ret
        rw [HE.out]
        exact ⟨rfl, A2, s.cP - 1, HEND.out _ _ (keptR w r 5 _) HB4.out⟩

/-- A plan given. -/
def RPlanR (r : Nat) (s : RS) (w : World) (l : List UInt8) (e : Ending) (w' : World) : Prop := e = .returned (.tuple #[]) ∧ ∃ AP cP, RDid r s w (s.met AP cP (0, l, s.off)) w'
set_option maxRecDepth 100000 in
set_option maxHeartbeats 4000000 in
theorem rplan_any (r : Nat) (s : RS) (w : World) (hs : Rm r s w) (A : Option Addr) (B c n : Nat) (bs : List UInt8) (hn : bs.length = n) (hr : Bytes w B A bs) (hB : B ≤ w.heap.size) (hl : bs.length ≤ 1000000000) :
    Calls Try.prog 33 #[.pointer (some ⟨r, 0, none⟩), .slice A n c] w (RPlanR r s w bs) := by
  subst hn
  obtain ⟨w1, hw1⟩ : ∃ w1, w1 = w.alloc (.cells #[] 5) := ⟨_, rfl⟩
  have hb1 : Below w.heap.size w w1 := by rw [hw1]; exact below_new _ _
  have hl0 : OwnB w1 w.heap.size 5 (some ⟨w.heap.size, 0, none⟩) 0 [] := by rw [hw1]; exact OwnB.lit w 5 [] (Nat.le_refl _) (by unfold maxLen; simp)
  have HB1 := hide hb1
  have HL0 := hide hl0
  have HR := hide (hr.belowLe hb1 hB)
  have HS := hide hs
  clear hs hr hb1 hl0
  go_enter Try.func33, Try.ntmps33
  go_wp2_with (at_builtin; refine halted ?_)
  refine go_on ?_
  rw [← hw1]
  clear hw1
  refine wpList_append_bytes _ rfl (.tmp 5) (.tmp 6) 33 rfl w.heap.size 5 Try.underlying33 info_u8 (some ⟨w.heap.size, 0, none⟩) 0 0 [] rfl rfl HL0.out B A bs.length c bs rfl rfl HR.out (by simp; omega) HB1.out.size ?_
  intro ds A' c' w2 hds hdl hown hg _
  obtain rfl : ds = bs := by rw [hds.out, List.nil_append]
  have hb2 : Below w.heap.size w w2 := HB1.out.grown hg HB1.out.size (fun k hk => by injection hk with hk; simp at hk; omega)
  have hs2 := HS.out.call hb2
  have f5 := hs2.box.free 5
  have c5 := hs2.box.cell 5
  simp at c5
  have hcap : ds.length ≤ c' := by
    obtain ⟨A2, c2, h1, h2, _⟩ := own_shape hown
    injection h1 with _ _ h1
    omega
  have hend : RPlanR r s w ds (.returned (.tuple #[])) (w2.setCell ⟨r, 5, none⟩ (.slice A' ds.length c')) := by
    have hn := hs2.rn
    have hn2 : Rn (s.met A' c' (0, ds, s.off)) w2 := ⟨hn.rfiles, hn.rnow, hn.rdisk, hn.rkept, hown.bytes, hcap, fun k hk => Kb.of_row hown hk, hn.fb, hn.fsure, hn.nnow, hn.ndisk, hn.nkept⟩
    refine ⟨rfl, A', c', Rm.mk_set hn2 hs2.box.kb (keptR w2 r 5 _) (hs2.box.set 5 _ rfl), (Kept.of_below hb2).trans ((keptR w2 r 5 _).wider fun k _ e => .inl e), fun k hk => ?_⟩
    rcases hk with h | h | h | h | h | h | h
    · exact .inl (.inl h)
    · exact .inl (.inr (.inl h))
    · exact .inl (.inr (.inr (.inl h)))
    · exact .inl (.inr (.inr (.inr (.inl h))))
    · exact .inl (.inr (.inr (.inr (.inr (.inl h)))))
    · exact .inr (hown.le k h)
    · exact .inl (.inr (.inr (.inr (.inr (.inr (.inr h))))))
  have HEND := hide hend
  clear hend hs2 hown hg hb2 hcap hds hdl
  go_wp2
  go_end0
  exact HEND.out
end Go.Proofs.Ytpakihbejdpmoaa
namespace Go.Proofs.Ytpakihbejdpmoaa
open Go.RowKit
set_option linter.unusedVariables false

theorem madeD_ix {l : Dir} {c : Rk} {n : Nat} (hl : ∀ e ∈ l, e.2 < n) (hc : c.kind = 0 ∨ c.kind = 1 → c.ix < n) : ∀ e ∈ madeD l c, e.2 < n := by
  intro e he
  unfold madeD at he
  split at he
  · rename_i h0
    rcases mem_dPut he with rfl | h
    · exact hc (.inl h0)
    · exact hl e h
  · split at he
    · rename_i h1
      rcases mem_dPut he with rfl | h
      · exact hc (.inr h1)
      · exact hl e (mem_dDel h)
    · exact hl e (mem_dDel he)
section
variable {r : Nat} {s : RS} {w w' : World}
/-- The row of the changes kept turned alone. -/
theorem Rn.rekept (h : Rn s w) (hk : Kept (InRow s.AK) w w') {AK : Option Addr} {cK : Nat} {kept : List Rk} (ho : w'.ownsRow 0 88 4 (.slice AK kept.length cK) kept.length (kpCells kept)) (hix : ∀ c ∈ kept, c.kind = 0 ∨ c.kind = 1 → c.ix < s.files.length) :
    Rn { s with AK := AK, cK := cK, kept := kept } w' := by
  have hn : ∀ k t, Kb w k t → t ≠ 88 → ¬ InRow s.AK k := fun k t h1 h2 h3 => h1.ne (Kb.of_row h.rkept h3) h2 rfl
  refine ⟨hk.own h.rfiles (fun k hr => hn k _ (Kb.of_row h.rfiles hr) (by decide)), hk.own h.rnow (fun k hr => hn k _ (Kb.of_row h.rnow hr) (by decide)), hk.own h.rdisk (fun k hr => hn k _ (Kb.of_row h.rdisk hr) (by decide)), ho,
    (hk.bytes h.plan (Nat.le_refl _) ?_).more hk.size, h.pcap, fun k hk' => (h.planK k hk').kept hk (hn k _ (h.planK k hk') (by decide)), fun f hf => hk.own (h.fb f hf) (fun k hr => hn k _ (Kb.of_row (h.fb f hf) hr) (by decide)), h.fsure, h.nnow, h.ndisk, hix⟩
  intro _ a ha
  exact hn _ _ (h.planK a.block (by unfold InRow; rw [ha]; rfl)) (by decide)
/-- The row of the files turned alone. -/
theorem Rn.refiles (h : Rn s w) (hk : Kept (InRow s.AF) w w') {AF : Option Addr} {cF : Nat} {files : List Rf} (ho : w'.ownsRow 0 85 2 (.slice AF files.length cF) files.length (fiCells files)) (hlen : s.files.length ≤ files.length)
    (hfb : ∀ f ∈ files, OwnB w' 0 5 f.A f.c f.bs) (hfs : ∀ f ∈ files, f.sure ≤ f.bs.length) : Rn { s with AF := AF, cF := cF, files := files } w' := by
  have hn : ∀ k t, Kb w k t → t ≠ 85 → ¬ InRow s.AF k := fun k t h1 h2 h3 => h1.ne (Kb.of_row h.rfiles h3) h2 rfl
  refine ⟨ho, hk.own h.rnow (fun k hr => hn k _ (Kb.of_row h.rnow hr) (by decide)), hk.own h.rdisk (fun k hr => hn k _ (Kb.of_row h.rdisk hr) (by decide)), hk.own h.rkept (fun k hr => hn k _ (Kb.of_row h.rkept hr) (by decide)),
    (hk.bytes h.plan (Nat.le_refl _) ?_).more hk.size, h.pcap, fun k hk' => (h.planK k hk').kept hk (hn k _ (h.planK k hk') (by decide)), hfb, hfs, fun e he => Nat.lt_of_lt_of_le (h.nnow e he) hlen, fun e he => Nat.lt_of_lt_of_le (h.ndisk e he) hlen, fun c hc hk => Nat.lt_of_lt_of_le (h.nkept c hc hk) hlen⟩
  intro _ a ha
  exact hn _ _ (h.planK a.block (by unfold InRow; rw [ha]; rfl)) (by decide)
/-- The bytes of the files where the row of the files has turned alone. -/
theorem Rn.fkept (h : Rn s w) (hk : Kept (InRow s.AF) w w') : ∀ f ∈ s.files, OwnB w' 0 5 f.A f.c f.bs := fun f hf =>
  hk.own (h.fb f hf) (fun k hr hs => (Kb.of_row (h.fb f hf) hr).ne (Kb.of_row h.rfiles hs) (by decide) rfl)
end
def RS.chg (s : RS) (AN : Option Addr) (cN : Nat) (AK : Option Addr) (cK : Nat) (c : Rk) : RS := { s with AN := AN, cN := cN, now := madeD s.now c, AK := AK, cK := cK, kept := s.kept ++ [c] }
def RchR (r : Nat) (s : RS) (w : World) (c : Rk) (e : Ending) (w' : World) : Prop := e = .returned (.tuple #[]) ∧ ∃ AN cN AK cK, RDid r s w (s.chg AN cN AK cK c) w'
theorem info_kp : (Try.prog.info? 88).map (fun i => (i.zero, i.size, i.bytes)) = some (some (.agg #[.int .i64 0, .string ⟨#[]⟩, .string ⟨#[]⟩, .int .i64 0]), 4, 48) := by kernel_rfl

set_option maxRecDepth 100000 in
set_option maxHeartbeats 4000000 in
theorem rchange_any (r : Nat) (s : RS) (w : World) (hs : Rm r s w) (ch : Rk) (hch : ch.kind = 0 ∨ ch.kind = 1 → ch.ix < s.files.length) (kd : Int) (nm to : ByteArray) (ix : Int) (h1 : kd = ch.kind) (h2 : nm = strB ch.nm) (h3 : to = strB ch.to) (h4 : ix = ch.ix)
    (hl : s.now.length ≤ 1000000) (hkl : s.kept.length ≤ 1000000) :
    Calls Try.prog 54 #[.pointer (some ⟨r, 0, none⟩), .agg #[.int .i64 kd, .string nm, .string to, .int .i64 ix]] w (RchR r s w ch) := by
  obtain ⟨w1, hw1⟩ : ∃ w1, w1 = w.alloc (.cells #[.int .i64 kd, .string nm, .string to, .int .i64 ix] 88) := ⟨_, rfl⟩
  have hb1 : Below w.heap.size w w1 := by rw [hw1]; exact below_new w _
  have hx1 : w1.heap[w.heap.size]? = some (.cells #[.int .i64 kd, .string nm, .string to, .int .i64 ix] 88 (0, 0)) := by rw [hw1]; exact heap_alloc_new w _
  have hz1 : w.heap.size < w1.heap.size := by rw [hw1]; simp
  obtain ⟨q1, hq1⟩ : ∃ q1, q1 = w.heap.size := ⟨_, rfl⟩
  have HBX := hide (show ∀ W : World, W.heap[q1]? = w1.heap[q1]? → W.cell? ⟨q1, 0, none⟩ = some (.int .i64 kd) ∧ W.cell? ⟨q1, 1, none⟩ = some (.string nm) ∧ W.cell? ⟨q1, 2, none⟩ = some (.string to) ∧ W.cell? ⟨q1, 3, none⟩ = some (.int .i64 ix) from fun W hW => by
    rw [hq1] at hW ⊢
    have h := hW.trans hx1
    exact ⟨Joins.cell_of_block h 0, Joins.cell_of_block h 1, Joins.cell_of_block h 2, Joins.cell_of_block h 3⟩)
  have hs1 := hs.call hb1
  have hrow1 := Row.of_own hs1.rn.rnow
  have HM := hide (made_any s.AN w1.heap.size s.now.length s.cN s.now w1.drew rfl (hrow1.belowLe (Below.refl _ _).drew (Nat.le_refl _)) (Nat.le_refl _) (by omega) ch kd nm to ix h1 h2 h3 h4)
  have c2 := hs1.box.cell 2
  simp at c2
  obtain ⟨x0, x1, x2, x3⟩ := HBX.out w1 rfl
  have HB1 := hide hb1
  have HS1 := hide hs1
  have HQ := hide (show q1 = w.heap.size ∧ q1 < w1.heap.size ∧ r < w.heap.size from ⟨hq1, by omega, hs.box.lt⟩)
  have HS := hide hs
  have HPAR := hide (show ([.int .i64 kd, .string nm, .string to, .int .i64 ix] : List Value) = kpCells [ch] from by rw [h1, h2, h3, h4]; rfl)
  have hD : (madeD s.now ch).length ≤ 1000001 := by have := madeD_len s.now ch; omega
  have HND := hide (madeD_ix hs.rn.nnow hch)
  obtain ⟨i0, hi, hz0, hz1', hz2⟩ := info_parts info_kp
  clear hs hs1 hrow1 hx1 hz1 h1 h2 h3 h4
  obtain ⟨D, hDE⟩ : ∃ D, D = madeD s.now ch := ⟨_, rfl⟩
  rw [← hDE] at HM HND hD
  have HDE := hide hDE
  clear hDE
  go_enter Try.func54, Try.ntmps54
  go_wp2
  rw [← hw1, ← hq1]
  clear hw1 hq1 hb1
  go_region_law
    (first
      | (go_simp; go_at_call 58; (with_reducible refine HM.out.mono ?_); rintro e5 w5 ⟨A5, c5, rfl, hown5, hb5⟩; have hB5 : Below w1.heap.size w1 w5 := ((Below.refl w1.heap.size w1).drew).trans hb5; have hs5 := HS1.out.call hB5; have k2 := hs5.box.cell 2; have f2 := hs5.box.free 2; dsimp only))
  all_goals
    have hBW5 : Below w.heap.size w w5 := HB1.out.trans (hB5.mono HB1.out.size)
    have hn5 : Rn { s with AN := A5, cN := c5, now := D } w5 := ⟨hs5.rn.rfiles, own_more hown5 (Nat.zero_le _), hs5.rn.rdisk, hs5.rn.rkept, hs5.rn.plan, hs5.rn.pcap, hs5.rn.planK, hs5.rn.fb, hs5.rn.fsure, HND.out, hs5.rn.ndisk, hs5.rn.nkept⟩
    obtain ⟨w6, hw6⟩ : ∃ w6, w6 = w5.setCell ⟨r, 2, none⟩ (.slice A5 D.length c5) := ⟨_, rfl⟩
    have hk6 : Kept (fun k => k = r) w5 w6 := by rw [hw6]; exact keptR w5 r 2 _
    have hm6 : Rm r { s with AN := A5, cN := c5, now := D } w6 := Rm.mk_set hn5 hs5.box.kb hk6 (by rw [hw6]; exact hs5.box.set 2 _ rfl)
    have hd6 : RDid r s w { s with AN := A5, cN := c5, now := D } w6 := ⟨hm6, (Kept.of_below hBW5).trans (hk6.wider fun k _ e => .inl e), fun k hk => by
      rcases hk with h | h | h | h | h | h | h
      · exact .inl (.inl h)
      · exact .inl (.inr (.inl h))
      · have h1 := (World.ownsRow.lt hown5 k (by rw [ownBlock_slice]; exact h)).1
        have h2 := HB1.out.size
        exact .inr (Nat.le_trans h2 h1)
      · exact .inl (.inr (.inr (.inr (.inl h))))
      · exact .inl (.inr (.inr (.inr (.inr (.inl h)))))
      · exact .inl (.inr (.inr (.inr (.inr (.inr (.inl h))))))
      · exact .inl (.inr (.inr (.inr (.inr (.inr (.inr h))))))⟩
    have hq6 : w6.heap[q1]? = w1.heap[q1]? := (hk6.block q1 (Nat.lt_of_lt_of_le HQ.out.2.1 hB5.size) (by have := HQ.out; omega)).trans (hB5.block q1 HQ.out.2.1)
    obtain ⟨y0, y1, y2, y3⟩ := HBX.out w6 hq6
    have c4 := hm6.box.cell 4
    simp at c4
    rw [← hw6]
    have hq1lt : q1 < w6.heap.size := by have := hk6.size; have := hB5.size; have := HQ.out; omega
    have hrlt : r < w6.heap.size := hm6.box.lt
    have HM6 := hide hm6
    have HD6 := hide hd6
    have hlow : ∀ j, InRow s.AK j → j < w6.heap.size := fun j hj => (Kb.of_row hm6.rn.rkept hj).lt
    have HNR := hide (show ¬ InRow s.AK r from fun h => (Kb.of_row hm6.rn.rkept h).ne hm6.box.kb (by decide) rfl)
    have HLOW := hide hlow
    clear hw6 hk6 hm6 hd6 hq6 hn5 hBW5 hown5 hb5 hs5 k2 f2 hB5 x0 x1 x2 x3 c2 hlow
    go_wp2
    go_region_law
      (first
        | (refine step_append_own _ rfl (.tmp 17) (.tmp 19) 61 rfl 0 88 i0 _ 4 48 Try.underlying61 hi hz0 hz1' hz2 rfl (by decide) s.AK s.kept.length s.cK (kpCells s.kept) rfl (World.ownsRow.alloc (World.ownsRow.drew HM6.out.rn.rkept) _) _ _ 1 _ [.int .i64 kd, .string nm, .string to, .int .i64 ix] rfl rfl (Row.new w6.drew #[.int .i64 kd, .string nm, .string to, .int .i64 ix] 88 (0, 0)) (by intro u hu; simp at hu; rcases hu with rfl | rfl | rfl | rfl <;> rfl) (by unfold maxLen; omega) (by omega) (Nat.zero_le _) ?_
           intro n7 xs7 A7 c7 w7 hn7 hxs7 _ _ hown7 hg7 hat7
           have hk7 : Kept (InRow s.AK) w6 w7 := ((Kept.of_below ((Below.refl _ _).drew)).alloc _).trans (Kept.of_grown hg7 (fun j e => e))
           have hbx7 : RsB r { s with AN := A5, cN := c5, now := D } w7 := (hk7.block r hrlt HNR.out).trans HM6.out.box
           have k4 : w7.cell? ⟨r, 4, none⟩ = some (.slice s.AK s.kept.length s.cK) := hbx7.cell 4
           have f4 : w7.frozen? ⟨r, 4, none⟩ = false := hbx7.free 4))
    all_goals
      obtain rfl : n7 = s.kept.length + 1 := hn7.out
      have ex : xs7 = kpCells (s.kept ++ [ch]) := by rw [hxs7.out, HPAR.out, kpCells_append]
      rw [ex] at hown7
      have hlen7 : (s.kept ++ [ch]).length = s.kept.length + 1 := by simp
      rw [← hlen7] at hown7
      have hn7' := Rn.rekept HM6.out.rn hk7 hown7 (fun c hc hk => by
        rcases List.mem_append.1 hc with h | h
        · exact HM6.out.rn.nkept c h hk
        · rw [List.mem_singleton.1 h] at hk ⊢
          exact hch hk)
      have hfin : RchR r s w ch (.returned (.tuple #[])) (w7.setCell ⟨r, 4, none⟩ (.slice A7 (s.kept.length + 1) c7)) := by
        refine ⟨rfl, A5, c5, A7, c7, HD6.out.trans ⟨?_, ?_, ?_⟩⟩
        · have := Rm.mk_set (r := r) hn7' hbx7.kb (keptR w7 r 4 (.slice A7 (s.kept.length + 1) c7)) (hbx7.set 4 _ (by rw [← hlen7]; rfl))
          unfold RS.chg
          rw [← HDE.out]
          exact this
        · exact (hk7.wider fun k _ e => .inr (.inr (.inr (.inr (.inl e))))).trans ((keptR w7 r 4 _).wider fun k _ e => .inl e)
        · intro k hk
          unfold RS.chg at hk
          rcases hk with h | h | h | h | h | h | h
          · exact .inl (.inl h)
          · exact .inl (.inr (.inl h))
          · exact .inl (.inr (.inr (.inl h)))
          · exact .inl (.inr (.inr (.inr (.inl h))))
          · have h : A7.map (·.block) = some k := h
            rcases hat7 with h7 | h7
            · rw [h] at h7
              exact .inl (.inr (.inr (.inr (.inr (.inl h7.symm)))))
            · rw [h] at h7
              injection h7 with h7
              right
              rw [h7]
              simp
          · exact .inl (.inr (.inr (.inr (.inr (.inr (.inl h))))))
          · exact .inl (.inr (.inr (.inr (.inr (.inr (.inr h))))))
      have HF := hide hfin
      clear hn7 hxs7 hown7 hg7 hat7 ex hn7' hfin hk7 hbx7 k4 f4 y0 y1 y2 y3 c4
      go_wp2
      go_end0
      exact HF.out
end Go.Proofs.Ytpakihbejdpmoaa
