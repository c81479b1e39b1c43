/-
  A directory: which file has which name. As a list by rising names, and as a map's datum.
-/
import Derived.Test.YtpakihbejdpmoaaKept
import Derived.Maps.OwnSet
namespace Go.Proofs.Ytpakihbejdpmoaa
open Go.RowKit
set_option linter.unusedVariables false

abbrev Dir := List (List UInt8 × Nat)
/-- A file as a map's element: its block. -/
def ptrR : Value → Option (DataW Unit × List MemPlace)
  | .pointer none => some (.lit (.int .i64 (-1)), [])
  | .pointer (some ⟨b, 0, none⟩) => some (.lit (.int .i64 (b : Int)), [])
  | _ => none
theorem ptrR_inv {v : Value} {y : DataW Unit × List MemPlace} (h : ptrR v = some y) : (v = .pointer none ∧ y = (.lit (.int .i64 (-1)), [])) ∨ ∃ b : Nat, v = .pointer (some ⟨b, 0, none⟩) ∧ y = (.lit (.int .i64 (b : Int)), []) := by
  unfold ptrR at h
  split at h
  · injection h with h; exact .inl ⟨rfl, h.symm⟩
  · injection h with h; exact .inr ⟨_, rfl, h.symm⟩
  · cases h
def enD (e : List UInt8 × Nat) : Lit × DataW Unit := (.string e.1, .lit (.int .i64 (e.2 : Int)))
def dirD (l : Dir) : DataW Unit := .map (l.map enD)
/-- A name put in, behind what was there under it is gone. -/
def dIns (e : List UInt8 × Nat) : Dir → Dir
  | [] => [e]
  | y :: r => if bytesBefore e.1 y.1 then e :: y :: r else y :: dIns e r
def dDel (l : Dir) (nm : List UInt8) : Dir := l.filter fun e => !(e.1 == nm)
def dPut (l : Dir) (nm : List UInt8) (q : Nat) : Dir := dIns (nm, q) (dDel l nm)
def dFind (l : Dir) (nm : List UInt8) : Option Nat := (l.find? fun e => e.1 == nm).map (·.2)

theorem dirD_ins (e : List UInt8 × Nat) (l : Dir) : (dIns e l).map enD = DataW.insert (enD e) (l.map enD) := by
  induction l with
  | nil => rfl
  | cons y r ih =>
    unfold dIns
    rw [List.map_cons, DataW.insert]
    have hb : (enD e).1.before (enD y).1 = bytesBefore e.1 y.1 := rfl
    rw [hb]
    split
    · rfl
    · rw [List.map_cons, ih]
theorem dirD_del (l : Dir) (nm : List UInt8) : dirD (dDel l nm) = (dirD l).del (.string nm) := by
  unfold dirD dDel DataW.del
  dsimp only
  congr 1
  rw [List.filter_map]
  congr 1
theorem dirD_put (l : Dir) (nm : List UInt8) (q : Nat) : dirD (dPut l nm q) = (dirD l).put (.string nm) (.lit (.int .i64 (q : Int))) := by
  unfold dPut dirD DataW.put
  dsimp only
  rw [dirD_ins]
  congr 2
  unfold dDel
  rw [List.filter_map]
  congr 1
theorem dirD_has (l : Dir) (nm : List UInt8) : Maps.has (dirD l) (.string nm) = (dFind l nm).isSome := by
  unfold dirD dFind
  rw [Maps.has_eq, List.any_map, Option.isSome_map, List.isSome_find?]
  rfl
theorem dirD_at (l : Dir) (nm : List UInt8) (z : DataW Unit) : (dirD l).atKey (.string nm) z = match dFind l nm with
    | some q => .lit (.int .i64 (q : Int))
    | none => z := by
  unfold dirD dFind DataW.atKey
  dsimp only
  rw [List.find?_map]
  have : (fun p : Lit × DataW Unit => p.1.sameKey (.string nm)) ∘ enD = fun e : List UInt8 × Nat => e.1 == nm := by
    funext e
    rfl
  rw [this]
  cases l.find? fun e => e.1 == nm <;> rfl
theorem dirD_size (l : Dir) : Maps.size (dirD l) = l.length := by unfold dirD; rw [Maps.size_eq, List.length_map]
theorem dFind_mem {l : Dir} {nm : List UInt8} {q : Nat} (h : dFind l nm = some q) : (nm, q) ∈ l := by
  unfold dFind at h
  cases hf : l.find? fun e => e.1 == nm with
  | none => rw [hf] at h; cases h
  | some e =>
    rw [hf] at h
    injection h with h
    have h1 := List.find?_some hf
    have h2 := List.mem_of_find?_eq_some hf
    simp at h1
    rw [← h1, ← h]
    exact h2
theorem mem_dIns {e y : List UInt8 × Nat} {l : Dir} : y ∈ dIns e l ↔ y = e ∨ y ∈ l := by
  induction l with
  | nil => simp [dIns]
  | cons z r ih =>
    unfold dIns
    split
    · simp
    · simp [ih]
      constructor
      · rintro (h | h | h)
        · exact .inr (.inl h)
        · exact .inl h
        · exact .inr (.inr h)
      · rintro (h | h | h)
        · exact .inr (.inl h)
        · exact .inl h
        · exact .inr (.inr h)
theorem mem_dPut {y : List UInt8 × Nat} {l : Dir} {nm : List UInt8} {q : Nat} (h : y ∈ dPut l nm q) : y = (nm, q) ∨ y ∈ l := by
  unfold dPut at h
  rcases mem_dIns.1 h with h | h
  · exact .inl h
  · exact .inr ((List.mem_filter.1 h).1)
theorem mem_dDel {y : List UInt8 × Nat} {l : Dir} {nm : List UInt8} (h : y ∈ dDel l nm) : y ∈ l := (List.mem_filter.1 h).1
end Go.Proofs.Ytpakihbejdpmoaa
