/-
  The plain law of frames: taken, scanned.
-/
import Derived.Test.YtikfiicjgcnljaaCodeLaw
import Derived.Test.YtikfiicjgcnljaaFrameMath
namespace Go.Proofs.Ytikfiicjgcnljaa
set_option linter.unusedVariables false

/-- What four bytes are. -/
def be4 (l : List UInt8) : Nat := l.foldl (fun s c => s * 256 + c.toNat) 0
/-- The frame with which bytes begin: its kind, its bytes, the rest. -/
def takeF : List UInt8 → Option (UInt8 × List UInt8 × List UInt8)
  | [] => none
  | k :: t => match takeT t with
    | none => none
    | some (body, rest) => if body.length ≤ 65536 ∧ 4 ≤ rest.length ∧ be4 (rest.take 4) = addS 0 (k :: textB body) then some (k, body, rest.drop 4) else none
/-- What a taking of a frame answers. -/
def tookF : Option (UInt8 × List UInt8 × List UInt8) → UInt8 × List UInt8 × List UInt8 × Int
  | none => (0, [], [], 3)
  | some (k, b, r) => (k, b, r, 0)

theorem takeF_none {k : UInt8} {t : List UInt8} (h : takeT t = none) : takeF (k :: t) = none := by simp only [takeF, h]
theorem takeF_no {k : UInt8} {t body rest : List UInt8} (h : takeT t = some (body, rest)) (hn : ¬ (body.length ≤ 65536 ∧ 4 ≤ rest.length ∧ be4 (rest.take 4) = addS 0 (k :: textB body))) : takeF (k :: t) = none := by
  simp only [takeF, h]; exact if_neg hn
theorem takeF_yes {k : UInt8} {t body rest : List UInt8} (h : takeT t = some (body, rest)) (hn : body.length ≤ 65536 ∧ 4 ≤ rest.length ∧ be4 (rest.take 4) = addS 0 (k :: textB body)) : takeF (k :: t) = some (k, body, rest.drop 4) := by
  simp only [takeF, h]; exact if_pos hn

theorem be4_snoc (l : List UInt8) (c : UInt8) : be4 (l ++ [c]) = be4 l * 256 + c.toNat := by simp [be4, List.foldl_append]
theorem be4_lt (l : List UInt8) : be4 l < 256 ^ l.length := by
  suffices h : ∀ n, ∀ l : List UInt8, l.length = n → be4 l < 256 ^ n from h _ l rfl
  intro n
  induction n with
  | zero => intro l hl; have := List.eq_nil_of_length_eq_zero hl; subst this; simp [be4]
  | succ n ih =>
    intro l hl
    have hne : l ≠ [] := by intro h; subst h; simp at hl
    obtain ⟨m, b, rfl⟩ : ∃ m b, l = m ++ [b] := ⟨l.dropLast, l.getLast hne, (List.dropLast_concat_getLast hne).symm⟩
    have hm : m.length = n := by simpa using hl
    have := ih m hm
    have hb := b.toNat_lt
    rw [be4_snoc, Nat.pow_succ]
    omega

theorem be4_four {s : Nat} (hs : s < 4294967296) : be4 (four s) = s := by
  have h : ∀ x : Nat, x < 256 → (UInt8.ofNat x).toNat = x := fun x hx => by rw [UInt8.toNat_ofNat']; omega
  simp only [four, be4, List.foldl_cons, List.foldl_nil]
  rw [h _ (by omega), h _ (by omega), h _ (by omega), h _ (by omega)]
  omega
theorem four_be4 {l : List UInt8} (hl : l.length = 4) : four (be4 l) = l := by
  match l, hl with
  | [a, b, c, d], _ =>
    have ha := a.toNat_lt
    have hb := b.toNat_lt
    have hc := c.toNat_lt
    have hd := d.toNat_lt
    have e : be4 [a, b, c, d] = ((a.toNat * 256 + b.toNat) * 256 + c.toNat) * 256 + d.toNat := by simp [be4]
    rw [e]
    unfold four
    have h : ∀ (x : Nat) (y : UInt8), x = y.toNat → UInt8.ofNat x = y := fun x y hx => by rw [hx, UInt8.ofNat_toNat]
    rw [h _ a (by omega), h _ b (by omega), h _ c (by omega), h _ d (by omega)]

/-- What was put is taken. -/
theorem takeF_frame {k : UInt8} {b : List UInt8} (hb : b.length ≤ 65536) (r : List UInt8) : takeF (frameB k b ++ r) = some (k, b, r) := by
  have hs := addS_lt 0 (k :: textB b) (by omega)
  have e : frameB k b ++ r = k :: (textB b ++ (four (addS 0 (k :: textB b)) ++ r)) := by
    unfold frameB
    rw [List.append_assoc]
    rfl
  rw [e, takeF_yes (takeT_text (by omega) _) ⟨hb, by rw [List.length_append, four_len]; omega, ?_⟩]
  · rw [show (four (addS 0 (k :: textB b)) ++ r).drop 4 = r from List.drop_left' (four_len _)]
  · rw [show (four (addS 0 (k :: textB b)) ++ r).take 4 = four (addS 0 (k :: textB b)) from List.take_left' (four_len _), be4_four (by omega)]
/-- What is taken was put. -/
theorem takeF_put {l : List UInt8} {k : UInt8} {b r : List UInt8} (h : takeF l = some (k, b, r)) : l = frameB k b ++ r ∧ b.length ≤ 65536 := by
  cases l with
  | nil => cases h
  | cons x t =>
    cases ht : takeT t with
    | none => rw [takeF_none ht] at h; cases h
    | some y =>
      obtain ⟨body, rest⟩ := y
      by_cases hc : body.length ≤ 65536 ∧ 4 ≤ rest.length ∧ be4 (rest.take 4) = addS 0 (x :: textB body)
      · rw [takeF_yes ht hc] at h
        injection h with h
        simp only [Prod.mk.injEq] at h
        obtain ⟨rfl, rfl, rfl⟩ := h
        refine ⟨?_, hc.1⟩
        have hp := takeT_put ht
        unfold frameB
        rw [← hc.2.2, four_be4 (by rw [List.length_take]; omega), List.append_assoc, List.take_append_drop, hp]
        rfl
      · rw [takeF_no ht hc] at h; cases h
end Go.Proofs.Ytikfiicjgcnljaa
