/-
  The plain law of frames cut off, or with one byte turned.
-/
import Derived.Test.YtikfiicjgcnljaaScanMath
import Derived.Test.YtikfiicjgcnljaaCheckLaw
namespace Go.Proofs.Ytikfiicjgcnljaa
set_option linter.unusedVariables false

theorem takeF_part {k : UInt8} {b r t : List UInt8} (hb : b.length ≤ 65536) (h : frameB k b = r ++ t) (ht : t ≠ []) : takeF r = none := by
  cases h2 : takeF r with
  | none => rfl
  | some x =>
    exfalso
    obtain ⟨k', b', r'⟩ := x
    obtain ⟨hp, hb'⟩ := takeF_put h2
    have A := takeF_frame (k := k) hb []
    rw [List.append_nil, h, hp, List.append_assoc, takeF_frame hb'] at A
    injection A with A
    simp only [Prod.mk.injEq] at A
    exact ht (List.append_eq_nil_iff.1 A.2.2).2

theorem flat_split (fs : List (UInt8 × List UInt8)) (k : Nat) : flat fs = flat (fs.take k) ++ flat (fs.drop k) := by rw [← flat_append, List.take_append_drop]

theorem flat_next {fs : List (UInt8 × List UInt8)} {k : Nat} {f : UInt8 × List UInt8} (h : fs[k]? = some f) : flat (fs.take (k + 1)) = flat (fs.take k) ++ frameB f.1 f.2 ∧ flat (fs.drop k) = frameB f.1 f.2 ++ flat (fs.drop (k + 1)) := by
  have hk : k < fs.length := (List.getElem?_eq_some_iff.1 h).1
  have hx : fs[k] = f := (List.getElem?_eq_some_iff.1 h).2
  constructor
  · rw [List.take_add_one, h, Option.toList_some, flat_append]
    simp [flat]
  · rw [List.drop_eq_getElem_cons hk, hx]
    rfl

theorem scans_cut {fs : List (UInt8 × List UInt8)} (hall : ∀ f ∈ fs, f.2.length ≤ 65536) {at_ k : Nat} (hk : k ≤ fs.length) (h1 : (flat (fs.take k)).length ≤ at_) (h2 : ∀ f, fs[k]? = some f → at_ < (flat (fs.take (k + 1))).length) (h3 : at_ ≤ (flat fs).length) :
    ∃ r, Scans ((flat fs).take at_) (fs.take k) r ∧ (flat (fs.take k)).length + r.length = at_ := by
  refine ⟨(flat (fs.drop k)).take (at_ - (flat (fs.take k)).length), ⟨?_, fun f hf => hall f (List.mem_of_mem_take hf), ?_⟩, ?_⟩
  · conv => lhs; rw [flat_split fs k]
    rw [List.take_append, List.take_of_length_le h1]
  · by_cases hlt : k < fs.length
    · have hg : fs[k]? = some fs[k] := List.getElem?_eq_getElem hlt
      obtain ⟨e1, e2⟩ := flat_next hg
      have h4 := h2 _ hg
      rw [e1, List.length_append] at h4
      rw [e2, List.take_append_of_le_length (by omega)]
      refine takeF_part (k := fs[k].1) (b := fs[k].2) (t := (frameB fs[k].1 fs[k].2).drop (at_ - (flat (fs.take k)).length)) (hall _ (List.getElem_mem hlt)) (List.take_append_drop _ _).symm ?_
      intro e
      have := congrArg List.length e
      rw [List.length_drop, List.length_nil] at this
      omega
    · rw [List.drop_eq_nil_of_le (by omega)]
      simp [flat, takeF]
  · have := congrArg List.length (flat_split fs k)
    rw [List.length_append] at this
    rw [List.length_take]
    omega

theorem frameB_parts (k : UInt8) (b : List UInt8) : frameB k b = k :: (numB b.length ++ (b ++ four (addS 0 (k :: textB b)))) := by
  unfold frameB
  show k :: (textB b ++ _) = _
  conv => lhs; unfold textB
  rw [List.append_assoc]
  rfl

theorem frameB_len' (k : UInt8) (b : List UInt8) : (frameB k b).length = 1 + (numB b.length).length + b.length + 4 := by
  rw [frameB_parts]
  simp [four_len]
  omega

theorem takeF_turned {k : UInt8} {b : List UInt8} (hb : b.length ≤ 65536) (R : List UInt8) {p : Nat} {x d : UInt8} (hx : (frameB k b)[p]? = some x) (hne : x ≠ d) (hp : p = 0 ∨ 1 + (numB b.length).length ≤ p) :
    takeF ((frameB k b ++ R).set p d) = none := by
  have hlt : p < (frameB k b).length := (List.getElem?_eq_some_iff.1 hx).1
  have hs := addS_lt 0 (k :: textB b) (by omega)
  rw [List.set_append_left _ _ hlt]
  have hfl := frameB_len' k b
  rw [frameB_parts] at hx ⊢
  generalize hS : addS 0 (k :: textB b) = s at *
  have h4 : (four s).length = 4 := four_len s
  rcases hp with rfl | hp
  · simp only [List.getElem?_cons_zero, Option.some.injEq] at hx
    subst hx
    rw [List.set_cons_zero]
    have e : (d :: (numB b.length ++ (b ++ four s))) ++ R = d :: (textB b ++ (four s ++ R)) := by unfold textB; simp
    rw [e]
    refine takeF_no (takeT_text (by omega) _) ?_
    rintro ⟨-, -, h⟩
    rw [List.take_left' h4, be4_four (by omega)] at h
    rw [← hS] at h
    exact hne (addS_turned [] (textB b) k d h)
  · by_cases hbody : p < 1 + (numB b.length).length + b.length
    · obtain ⟨q, rfl⟩ : ∃ q, p = q + (numB b.length).length + 1 := ⟨p - 1 - (numB b.length).length, by omega⟩
      rw [List.getElem?_cons_succ, List.getElem?_append_right (by omega), show q + (numB b.length).length - (numB b.length).length = q by omega, List.getElem?_append_left (by omega)] at hx
      rw [List.set_cons_succ, List.set_append_right _ _ (by omega), show q + (numB b.length).length - (numB b.length).length = q by omega, List.set_append_left _ _ (by omega)]
      have e : (k :: (numB b.length ++ (b.set q d ++ four s))) ++ R = k :: (textB (b.set q d) ++ (four s ++ R)) := by unfold textB; rw [List.length_set]; simp
      rw [e]
      refine takeF_no (takeT_text (by rw [List.length_set]; omega) _) ?_
      rintro ⟨-, -, h⟩
      rw [List.take_left' h4, be4_four (by omega), ← hS] at h
      refine hne (addS_set (l := k :: textB b) (k := q + (numB b.length).length + 1) (c := x) ?_ ?_)
      · unfold textB
        rw [List.getElem?_cons_succ, List.getElem?_append_right (by omega), show q + (numB b.length).length - (numB b.length).length = q by omega]
        exact hx
      · rw [h]
        congr 1
        unfold textB
        rw [List.length_set, List.set_cons_succ, List.set_append_right _ _ (by omega), show q + (numB b.length).length - (numB b.length).length = q by omega]
    · obtain ⟨q, rfl⟩ : ∃ q, p = q + b.length + (numB b.length).length + 1 := ⟨p - 1 - (numB b.length).length - b.length, by omega⟩
      rw [List.getElem?_cons_succ, List.getElem?_append_right (by omega), show q + b.length + (numB b.length).length - (numB b.length).length = q + b.length by omega, List.getElem?_append_right (by omega), show q + b.length - b.length = q by omega] at hx
      rw [List.set_cons_succ, List.set_append_right _ _ (by omega), show q + b.length + (numB b.length).length - (numB b.length).length = q + b.length by omega, List.set_append_right _ _ (by omega), show q + b.length - b.length = q by omega]
      have e : (k :: (numB b.length ++ (b ++ (four s).set q d))) ++ R = k :: (textB b ++ ((four s).set q d ++ R)) := by unfold textB; simp
      have h4' : ((four s).set q d).length = 4 := by rw [List.length_set]; exact h4
      rw [e]
      refine takeF_no (takeT_text (by omega) _) ?_
      rintro ⟨-, -, h⟩
      rw [List.take_left' h4', hS] at h
      have h5 := four_be4 h4'
      rw [h] at h5
      have hq : q < (four s).length := (List.getElem?_eq_some_iff.1 hx).1
      rw [h5, List.getElem?_set_self hq] at hx
      injection hx with hx
      exact hne hx.symm

theorem scans_turned {fs : List (UInt8 × List UInt8)} (hall : ∀ f ∈ fs, f.2.length ≤ 65536) {i p : Nat} {f : UInt8 × List UInt8} (hf : fs[i]? = some f) {x d : UInt8} (hx : (flat fs)[(flat (fs.take i)).length + p]? = some x) (hne : x ≠ d)
    (hlt : p < (frameB f.1 f.2).length) (hp : p = 0 ∨ 1 + (numB f.2.length).length ≤ p) :
    ∃ r, Scans ((flat fs).set ((flat (fs.take i)).length + p) d) (fs.take i) r ∧ (flat (fs.take i)).length + r.length = (flat fs).length := by
  obtain ⟨-, e2⟩ := flat_next hf
  have hsp := flat_split fs i
  have hfl : f ∈ fs := List.mem_of_getElem? hf
  refine ⟨(flat (fs.drop i)).set p d, ⟨?_, fun f hf => hall f (List.mem_of_mem_take hf), ?_⟩, ?_⟩
  · conv => lhs; rw [hsp]
    rw [List.set_append_right _ _ (by omega), Nat.add_sub_cancel_left]
  · rw [e2]
    rw [hsp, List.getElem?_append_right (by omega), Nat.add_sub_cancel_left, e2, List.getElem?_append_left hlt] at hx
    exact takeF_turned (hall f hfl) _ hx hne hp
  · have := congrArg List.length hsp
    rw [List.length_append] at this
    rw [List.length_set]
    omega
end Go.Proofs.Ytikfiicjgcnljaa
