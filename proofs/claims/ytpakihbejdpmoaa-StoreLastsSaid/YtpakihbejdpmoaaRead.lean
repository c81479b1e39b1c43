/-
  Arguments read: integers, strings, structs, slices of whatever reads as a list of one kind.
-/
import Derived.Test.YtpakihbejdpmoaaBase
import Derived.ProofKit
import Derived.OpenShut
import Derived.ChangeArms
import Derived.Deep.Slices
namespace Go.Proofs.Ytpakihbejdpmoaa
open Go.ChangeShapes Go.WideShapes Go.ChangeAt Go.RowKit
set_option linter.unusedVariables false

section
variable {H : Type} {enc : TypeId × Value → H} {P : Program} {w : World} {base : Nat} {held : Bool}

/-- The cells read as a value of type t. -/
def Rd (enc : TypeId × Value → H) (P : Program) (w : World) (base : Nat) (held : Bool) (t : TypeId) (cs : List Value) : Prop :=
  ∃ n x, DataW.trod enc P w base (fun _ => true) held n t cs = some x

theorem Rd.of_trod {t : TypeId} {v : Value} {d : DataW H} {ps : List MemPlace} (h : DataW.Trod enc P w base (fun _ => true) held t v d ps) : Rd enc P w base held t v.cells.toList := by
  obtain ⟨n, hn⟩ := h
  exact ⟨n, _, hn⟩

theorem Rd.int {t : TypeId} {cs : List Value} {k : IntKind} (ht : P.underlying t = some (.int k)) (h : Rd enc P w base held t cs) : ∃ z, cs = [.int k z] ∧ (Lit.int k z).wf = true := by
  obtain ⟨n, x, hx⟩ := h
  obtain ⟨z, h1, _, h3⟩ := DataW.trod_int ht hx
  exact ⟨z, h1, h3⟩

theorem Rd.string {t : TypeId} {cs : List Value} (ht : P.underlying t = some .string) (h : Rd enc P w base held t cs) : ∃ s : ByteArray, cs = [.string s] ∧ s.size ≤ maxLen := by
  obtain ⟨n, x, hx⟩ := h
  obtain ⟨s, h1, _, h3⟩ := DataW.trod_string ht hx
  exact ⟨s, h1, h3⟩

theorem Rd.struct {t : TypeId} {cs : List Value} {fs : Array Field} (ht : P.underlying t = some (.struct fs)) (h : Rd enc P w base held t cs) :
    cs.length = P.cellsOf t ∧ ∀ (i : Nat) (f : Go.Field), fs[i]? = some f → Rd enc P w base held f.type ((cs.drop f.offset).take (P.cellsOf f.type)) := by
  obtain ⟨n, x, hx⟩ := h
  obtain ⟨xs, m, _, _, hl, hxl, hf⟩ := DataW.trod_struct ht hx
  refine ⟨hl, fun i f hi => ?_⟩
  have hlt : i < fs.size := (Array.getElem?_eq_some_iff.1 hi).1
  have := hf i f hi
  rw [List.getElem?_eq_getElem (by omega)] at this
  exact ⟨m, _, this⟩

/-- One field. -/
theorem Rd.field {t : TypeId} {cs : List Value} {fs : Array Field} (ht : P.underlying t = some (.struct fs)) (h : Rd enc P w base held t cs) (i : Nat) (ty off c : Nat)
    (hi : (fs[i]?).map (fun f => (f.type, f.offset)) = some (ty, off)) (hc : P.cellsOf ty = c) : Rd enc P w base held ty ((cs.drop off).take c) := by
  obtain ⟨f, hf, e⟩ := Option.map_eq_some_iff.1 hi
  simp only [Prod.mk.injEq] at e
  obtain ⟨rfl, rfl⟩ := e
  subst hc
  exact (h.struct ht).2 i f hf
theorem Rd.len {t : TypeId} {cs : List Value} {fs : Array Field} {c : Nat} (ht : P.underlying t = some (.struct fs)) (h : Rd enc P w base held t cs) (hc : P.cellsOf t = c) : cs.length = c := by
  rw [← hc]; exact (h.struct ht).1

theorem flat_of {α : Type} (g : Nat → List Value) (e : α → List Value) (good : α → Prop) : ∀ n, (∀ i, i < n → ∃ a, g i = e a ∧ good a) →
    ∃ l : List α, l.length = n ∧ (∀ a ∈ l, good a) ∧ (List.range n).flatMap g = l.flatMap e := by
  intro n
  induction n with
  | zero => intro _; exact ⟨[], rfl, by simp, rfl⟩
  | succ n ih =>
    intro h
    obtain ⟨l, h1, h2, h3⟩ := ih fun i hi => h i (by omega)
    obtain ⟨a, ha, hg⟩ := h n (by omega)
    refine ⟨l ++ [a], by simp [h1], ?_, ?_⟩
    · intro b hb
      rcases List.mem_append.1 hb with hb | hb
      · exact h2 b hb
      · rw [List.mem_singleton.1 hb]; exact hg
    · rw [List.range_succ, List.flatMap_append, List.flatMap_append, h3, List.flatMap_singleton, List.flatMap_singleton, ha]

theorem getElem?_flat {g : Nat → List Value} {c : Nat} (hc : ∀ i, (g i).length = c) (hc0 : 0 < c) {n j : Nat} {u : Value} (h : ((List.range n).flatMap g)[j]? = some u) : j / c < n ∧ (g (j / c))[j % c]? = some u := by
  induction n with
  | zero => simp at h
  | succ n ih =>
    have hl : ((List.range n).flatMap g).length = n * c := by
      clear h ih
      induction n with
      | zero => simp
      | succ n ih => rw [List.range_succ, List.flatMap_append, List.length_append, ih, List.flatMap_singleton, hc, Nat.succ_mul]
    rw [List.range_succ, List.flatMap_append, List.flatMap_singleton] at h
    by_cases hj : j < n * c
    · rw [List.getElem?_append_left (by omega)] at h
      have := ih h
      exact ⟨by omega, this.2⟩
    · rw [List.getElem?_append_right (by omega), hl] at h
      have hlt : j - n * c < c := by have := lt_of_some h; rw [hc] at this; exact this
      have e1 : j / c = n := by
        rw [Nat.div_eq_iff hc0]
        omega
      have e2 : j % c = j - n * c := by
        rw [Nat.mod_eq_sub, e1, Nat.mul_comm]
      rw [e1, e2]
      exact ⟨by omega, h⟩

theorem Rd.slice {t e : TypeId} {cs : List Value} {α : Type} (ea : α → List Value) (good : α → Prop) {c : Nat} (ht : P.underlying t = some (.slice e)) (hc : P.cellsOf e = c) (hc0 : 0 < c)
    (hel : ∀ l, Rd enc P w base held e l → ∃ a, l = ea a ∧ good a) (h : Rd enc P w base held t cs) :
    ∃ (A : Option Addr) (l : List α) (k : Nat), cs = [.slice A l.length k] ∧ l.length ≤ k ∧ k ≤ maxLen ∧ (∀ a ∈ l, good a) ∧ Row w w.heap.size A (l.flatMap ea) := by
  obtain ⟨n, x, hx⟩ := h
  rcases Go.Deep.open_slice ht hx with ⟨h1, _⟩ | ⟨a, len, cap, m, n', D, Pl, h1, hb, hl, hm, hmm, _, hi⟩
  · exact ⟨none, [], 0, h1, by simp, by unfold maxLen; omega, by simp, Row.nil⟩
  · have hml : len ≤ m := by rw [hmm]; simp; exact hl
    have hg : ∀ i, i < len → ∃ b, ((w.cells? base (a.add (i * P.cellsOf e)) (P.cellsOf e)).getD []) = ea b ∧ good b := by
      intro i hlt
      obtain ⟨cs', h2, h3⟩ := hi i (by omega)
      rw [h2]
      exact hel cs' ⟨_, _, h3⟩
    obtain ⟨l, hll, hgood, hflat⟩ := flat_of _ ea good len hg
    refine ⟨some a, l, cap, by rw [hll]; exact h1, by rw [hll]; exact hl, hm, hgood, ?_⟩
    rw [← hflat]
    intro j u hj
    have hlenc : ∀ i, i < len → ((w.cells? base (a.add (i * P.cellsOf e)) (P.cellsOf e)).getD []).length = c := by
      intro i hlt
      obtain ⟨cs', h2, _⟩ := hi i (by omega)
      rw [h2, Option.getD_some]
      have := (World.cells?_some h2).2.1
      omega
    have hpad : (List.range len).flatMap (fun i => (w.cells? base (a.add (i * P.cellsOf e)) (P.cellsOf e)).getD []) = (List.range len).flatMap (fun i => if i < len then (w.cells? base (a.add (i * P.cellsOf e)) (P.cellsOf e)).getD [] else List.replicate c undef) := by
      rw [List.flatMap_def, List.flatMap_def]
      refine congrArg List.flatten (List.map_congr_left fun i hi => ?_)
      rw [if_pos (List.mem_range.1 hi)]
    rw [hpad] at hj
    have hj2 := getElem?_flat (c := c) (fun i => by
      split
      · rename_i hlt; exact hlenc i hlt
      · simp) hc0 hj
    obtain ⟨hlt, hu⟩ := hj2
    rw [if_pos hlt] at hu
    obtain ⟨cs', h2, _⟩ := hi (j / c) (by omega)
    rw [h2, Option.getD_some] at hu
    obtain ⟨_, hlen', hcell⟩ := World.cells?_some h2
    have hjc := hcell (j % c) (by rw [hc]; exact Nat.mod_lt _ hc0)
    rw [hu, add_add', hc] at hjc
    have ej : j / c * c + j % c = j := Nat.div_add_mod' j c
    rw [ej] at hjc
    exact ⟨a, rfl, by have := lt_of_cell hjc; rwa [add_block] at this, hjc⟩
end
end Go.Proofs.Ytpakihbejdpmoaa
