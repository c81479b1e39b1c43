/-
  A chart: which account has which kind and balance. As a list by rising numbers, and as a map's datum.
-/
import Derived.Test.YtibanikfalfmcaaKept
import Derived.Maps.OwnSet
namespace Go.Proofs.Ytibanikfalfmcaa
open Go.RowKit
set_option linter.unusedVariables false

/-- Accounts: the number, the kind, the balance. -/
abbrev Acs := List (Int × Int × Int)
/-- An account as a map's element. -/
def accR : Value → Option (DataW Unit × List MemPlace)
  | .agg ⟨[.int .i64 k, .int .i64 b]⟩ => some (.agg [.lit (.int .i64 k), .lit (.int .i64 b)], [])
  | _ => none
theorem accR_mk (k b : Int) : accR (.agg #[.int .i64 k, .int .i64 b]) = some (.agg [.lit (.int .i64 k), .lit (.int .i64 b)], []) := rfl
theorem accR_inv {v : Value} {y : DataW Unit × List MemPlace} (h : accR v = some y) : ∃ k b : Int, v = .agg #[.int .i64 k, .int .i64 b] ∧ y = (.agg [.lit (.int .i64 k), .lit (.int .i64 b)], []) := by
  unfold accR at h
  split at h
  · injection h with h; exact ⟨_, _, rfl, h.symm⟩
  · cases h
def accE (e : Int × Int) : DataW Unit := .agg [.lit (.int .i64 e.1), .lit (.int .i64 e.2)]
theorem accR_some {v : Value} {e : Int × Int} {ps : List MemPlace} (h : accR v = some (accE e, ps)) : v = .agg #[.int .i64 e.1, .int .i64 e.2] := by
  obtain ⟨k, b, rfl, h2⟩ := accR_inv h
  injection h2 with h2 _
  unfold accE at h2
  injection h2 with h2
  injection h2 with h3 h4
  injection h3 with h3
  injection h3 with _ h3
  injection h4 with h4 _
  injection h4 with h4
  injection h4 with _ h4
  rw [h3, h4]
def enA (e : Int × Int × Int) : Lit × DataW Unit := (.int .i64 e.1, accE e.2)
def accD (l : Acs) : DataW Unit := .map (l.map enA)
/-- An account put in, behind what was there under its number is gone. -/
def aIns (e : Int × Int × Int) : Acs → Acs
  | [] => [e]
  | y :: r => if e.1 < y.1 then e :: y :: r else y :: aIns e r
def aDel (l : Acs) (n : Int) : Acs := l.filter fun e => !(e.1 == n)
def aPut (l : Acs) (n : Int) (x : Int × Int) : Acs := aIns (n, x) (aDel l n)
def aFind (l : Acs) (n : Int) : Option (Int × Int) := (l.find? fun e => e.1 == n).map (·.2)

theorem int_before (a b : Int) : Lit.before (.int .i64 a) (.int .i64 b) = decide (a < b) := rfl
theorem int_same (a b : Int) : Lit.sameKey (.int .i64 a) (.int .i64 b) = (a == b) := by
  simp only [Lit.sameKey]
  by_cases h : a = b
  · subst h; simp
  · simp [h]
theorem same_enA (n : Int) : (fun p : Lit × DataW Unit => p.1.sameKey (.int .i64 n)) ∘ enA = fun e : Int × Int × Int => e.1 == n := by
  funext e
  exact int_same _ _
theorem nsame_enA (n : Int) : (fun p : Lit × DataW Unit => !p.1.sameKey (.int .i64 n)) ∘ enA = fun e : Int × Int × Int => !(e.1 == n) := by
  funext e
  exact congrArg _ (int_same _ _)
theorem accD_ins (e : Int × Int × Int) (l : Acs) : (aIns e l).map enA = DataW.insert (enA e) (l.map enA) := by
  induction l with
  | nil => rfl
  | cons y r ih =>
    unfold aIns
    rw [List.map_cons, DataW.insert]
    have hb : (enA e).1.before (enA y).1 = decide (e.1 < y.1) := int_before _ _
    rw [hb]
    by_cases h : e.1 < y.1
    · rw [if_pos h, if_pos (by simpa using h)]; rfl
    · rw [if_neg h, if_neg (by simpa using h), List.map_cons, ih]
theorem accD_del (l : Acs) (n : Int) : accD (aDel l n) = (accD l).del (.int .i64 n) := by
  unfold accD aDel DataW.del
  dsimp only
  congr 1
  rw [List.filter_map, nsame_enA]
theorem accD_put (l : Acs) (n : Int) (x : Int × Int) : accD (aPut l n x) = (accD l).put (.int .i64 n) (accE x) := by
  unfold aPut accD DataW.put
  dsimp only
  rw [accD_ins]
  congr 2
  unfold aDel
  rw [List.filter_map, nsame_enA]
theorem accD_has (l : Acs) (n : Int) : Maps.has (accD l) (.int .i64 n) = (aFind l n).isSome := by
  unfold accD aFind
  rw [Maps.has_eq, List.any_map, Option.isSome_map, List.isSome_find?, same_enA]
theorem accD_at (l : Acs) (n : Int) (z : DataW Unit) : (accD l).atKey (.int .i64 n) z = match aFind l n with
    | some x => accE x
    | none => z := by
  unfold accD aFind DataW.atKey
  dsimp only
  rw [List.find?_map]
  rw [same_enA]
  cases l.find? fun e => e.1 == n <;> rfl
theorem accD_size (l : Acs) : Maps.size (accD l) = l.length := by unfold accD; rw [Maps.size_eq, List.length_map]
theorem aFind_mem {l : Acs} {n : Int} {x : Int × Int} (h : aFind l n = some x) : (n, x) ∈ l := by
  unfold aFind at h
  cases hf : l.find? fun e => e.1 == n with
  | none => rw [hf] at h; cases h
  | some e =>
    rw [hf] at h
    injection h with h
    have h1 := List.find?_some hf
    have h2 := List.mem_of_find?_eq_some hf
    simp at h1
    rw [← h1, ← h]
    exact h2
theorem mem_aIns {e y : Int × Int × Int} {l : Acs} : y ∈ aIns e l ↔ y = e ∨ y ∈ l := by
  induction l with
  | nil => simp [aIns]
  | cons z r ih =>
    unfold aIns
    split
    · simp
    · simp [ih]
      constructor
      · rintro (h | h | h)
        · exact .inr (.inl h)
        · exact .inl h
        · exact .inr (.inr h)
      · rintro (h | h | h)
        · exact .inr (.inl h)
        · exact .inl h
        · exact .inr (.inr h)
theorem aIns_len (e : Int × Int × Int) (l : Acs) : (aIns e l).length = l.length + 1 := by
  induction l with
  | nil => rfl
  | cons y r ih =>
    unfold aIns
    split
    · rfl
    · rw [List.length_cons, List.length_cons, ih]
theorem find_aIns (e : Int × Int × Int) (l : Acs) (h : ∀ y ∈ l, y.1 ≠ e.1) (n : Int) : aFind (aIns e l) n = if e.1 = n then some e.2 else aFind l n := by
  unfold aFind
  induction l with
  | nil =>
    unfold aIns
    by_cases hn : e.1 = n
    · simp [hn]
    · simp [hn]
  | cons y r ih =>
    have ih := ih fun z hz => h z (List.mem_cons_of_mem _ hz)
    have hy := h y (List.mem_cons_self ..)
    unfold aIns
    split
    · by_cases hn : e.1 = n
      · simp [hn]
      · rw [List.find?_cons_of_neg (by simpa using hn), if_neg hn]
    · by_cases h2 : y.1 = n
      · rw [List.find?_cons_of_pos (by simpa using h2), List.find?_cons_of_pos (by simpa using h2), if_neg (by rw [← h2]; exact fun e => hy e.symm)]
      · rw [List.find?_cons_of_neg (by simpa using h2), List.find?_cons_of_neg (by simpa using h2)]
        exact ih
theorem find_aDel (l : Acs) (m n : Int) (h : m ≠ n) : aFind (aDel l m) n = aFind l n := by
  unfold aFind aDel
  congr 1
  rw [List.find?_filter]
  congr 1
  funext e
  by_cases hn : e.1 = n
  · have : e.1 ≠ m := fun h2 => h (h2.symm.trans hn)
    simp [hn]
    exact fun h3 => h h3.symm
  · simp [hn]
/-- What is found behind an account was put in. -/
theorem find_aPut (l : Acs) (m : Int) (x : Int × Int) (n : Int) : aFind (aPut l m x) n = if m = n then some x else aFind l n := by
  unfold aPut
  rw [find_aIns]
  · by_cases h : m = n
    · rw [if_pos h, if_pos h]
    · rw [if_neg h, if_neg h, find_aDel _ _ _ h]
  · intro y hy e
    have := (List.mem_filter.1 hy).2
    simp at this
    exact this e
/-- A chart's map. -/
def OwnsAcs (w : World) (b : Nat) (l : Acs) : Prop := w.ownsMap Try.prog 3 accR b l.length (accD l)
theorem OwnsAcs.of {w : World} {b n : Nat} {l : Acs} (h : w.ownsMap Try.prog 3 accR b n (accD l)) : OwnsAcs w b l := by
  obtain ⟨es, clock, hb, F, hs, hD⟩ := h
  refine ⟨es, clock, hb, F, ?_, hD⟩
  have := congrArg Maps.size hD
  rw [accD_size, Maps.size_eq, length_sorted, List.length_map] at this
  rw [this]
  simp
def Km (w : World) (k : Nat) : Prop := ∃ es clock, w.heap[k]? = some (.map es clock)
theorem Km.lt {w : World} {k : Nat} (h : Km w k) : k < w.heap.size := by
  obtain ⟨es, clock, h⟩ := h
  exact (Array.getElem?_eq_some_iff.1 h).1
theorem Km.of_acs {w : World} {b : Nat} {l : Acs} (h : OwnsAcs w b l) : Km w b := by
  obtain ⟨es, clock, hb, _⟩ := h
  exact ⟨es, clock, hb⟩
theorem acs_kept {S : Nat → Prop} {w w' : World} {b : Nat} {l : Acs} (h : OwnsAcs w b l) (hk : Kept S w w') (hs : ¬ S b) : OwnsAcs w' b l := by
  have hlt := (Km.of_acs h).lt
  obtain ⟨es, clock, hb, h⟩ := h
  exact ⟨es, clock, (hk.block b hlt hs).trans hb, h⟩
theorem Kept.trans_in {S T : Nat → Prop} {a w w' : World} (h : Kept S a w) (g : Kept T w w') (hs : ∀ k, k < a.heap.size → T k → S k) : Kept S a w' :=
  ⟨g.os.trans h.os, g.tape.trans h.tape, g.output.trans h.output, Nat.le_trans h.size g.size, fun k hk hn => (g.block k (Nat.lt_of_lt_of_le hk h.size) (fun e => hn (hs k hk e))).trans (h.block k hk hn)⟩
theorem ikeyed : Maps.Keyed Try.prog 3 := Maps.int_keyed Try.underlying3
/-- A chart: its box, its map. -/
structure Ch (q b : Nat) (l : Acs) (w : World) : Prop where
  box : w.heap[q]? = some (.cells #[.map (some b)] 71 (0, 0))
  map : OwnsAcs w b l
theorem Ch.kept {S : Nat → Prop} {w w' : World} {q b : Nat} {l : Acs} (h : Ch q b l w) (hk : Kept S w w') (hs : ¬ S q) (hb : ¬ S b) : Ch q b l w' :=
  ⟨(hk.block q (Array.getElem?_eq_some_iff.1 h.box).1 hs).trans h.box, acs_kept h.map hk hb⟩
theorem Ch.call {w w' : World} {q b : Nat} {l : Acs} (h : Ch q b l w) (hb : Below w.heap.size w w') : Ch q b l w' := h.kept (S := fun _ => False) (Kept.of_below hb) (fun e => e) (fun e => e)
theorem Ch.lt {w : World} {q b : Nat} {l : Acs} (h : Ch q b l w) : q < w.heap.size ∧ b < w.heap.size ∧ q ≠ b := by
  refine ⟨(Array.getElem?_eq_some_iff.1 h.box).1, (Km.of_acs h.map).lt, ?_⟩
  rintro rfl
  obtain ⟨es, c, hb⟩ := Km.of_acs h.map
  rw [h.box] at hb
  cases hb
end Go.Proofs.Ytibanikfalfmcaa
