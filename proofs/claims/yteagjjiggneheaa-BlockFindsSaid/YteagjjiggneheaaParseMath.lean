/-
  A block's bytes taken apart, in plain Lean: what the document's answer takes, and what the code takes, is the same.
-/
import Derived.Test.YteagjjiggneheaaBlockMath
import Derived.Test.YteagjjiggneheaaCodeLaw
namespace Go.Proofs.Yteagjjiggneheaa
set_option linter.unusedVariables false

theorem comm_comm (a b : List UInt8) : comm a b = comm b a := by
  induction a generalizing b with
  | nil => cases b <;> simp [comm]
  | cons x a ih =>
    cases b with
    | nil => simp [comm]
    | cons y b =>
      unfold comm
      by_cases h : x = y
      · rw [if_pos h, if_pos h.symm, ih b]
      · rw [if_neg h, if_neg (fun e => h e.symm)]

/-- One entry taken: how many bytes of the key ahead; the pair; what is left. -/
def takeE (last b : List UInt8) : Option (Nat × KV × List UInt8) :=
  match takeN b with
  | none => none
  | some (n, r) => if n ≤ last.length then
      match takeT r with
      | none => none
      | some (k, r2) => match takeT r2 with
        | none => none
        | some (v, r3) => some (n, (last.take n ++ k, v), r3)
    else none
theorem takeE_n {last b : List UInt8} (h : takeN b = none) : takeE last b = none := by unfold takeE; rw [h]
theorem takeE_big {last b r : List UInt8} {n : Nat} (h : takeN b = some (n, r)) (hn : ¬ n ≤ last.length) : takeE last b = none := by unfold takeE; rw [h]; exact if_neg hn
theorem takeE_k {last b r : List UInt8} {n : Nat} (h : takeN b = some (n, r)) (hk : takeT r = none) : takeE last b = none := by
  unfold takeE
  rw [h]
  dsimp only
  rw [hk]
  split <;> rfl
theorem takeE_v {last b r r2 k : List UInt8} {n : Nat} (h : takeN b = some (n, r)) (hk : takeT r = some (k, r2)) (hv : takeT r2 = none) : takeE last b = none := by
  unfold takeE
  rw [h]
  dsimp only
  rw [hk]
  dsimp only
  rw [hv]
  split <;> rfl
theorem takeE_yes {last b r r2 r3 k v : List UInt8} {n : Nat} (h : takeN b = some (n, r)) (hn : n ≤ last.length) (hk : takeT r = some (k, r2)) (hv : takeT r2 = some (v, r3)) : takeE last b = some (n, (last.take n ++ k, v), r3) := by
  unfold takeE
  rw [h]
  dsimp only
  rw [hk]
  dsimp only
  rw [hv]
  exact if_pos hn
theorem takeE_of {last b : List UInt8} {n : Nat} {p : KV} {r : List UInt8} (h : takeE last b = some (n, p, r)) :
    ∃ r1 k r2 v, takeN b = some (n, r1) ∧ n ≤ last.length ∧ takeT r1 = some (k, r2) ∧ takeT r2 = some (v, r) ∧ p = (last.take n ++ k, v) := by
  cases h1 : takeN b with
  | none => rw [takeE_n h1] at h; cases h
  | some x =>
    obtain ⟨n', r1⟩ := x
    by_cases hn : n' ≤ last.length
    · cases h2 : takeT r1 with
      | none => rw [takeE_k h1 h2] at h; cases h
      | some y =>
        obtain ⟨k, r2⟩ := y
        cases h3 : takeT r2 with
        | none => rw [takeE_v h1 h2 h3] at h; cases h
        | some z =>
          obtain ⟨v, r3⟩ := z
          rw [takeE_yes h1 hn h2 h3] at h
          injection h with h
          simp only [Prod.mk.injEq] at h
          obtain ⟨rfl, rfl, rfl⟩ := h
          exact ⟨r1, k, r2, v, rfl, hn, h2, h3, rfl⟩
    · rw [takeE_big h1 hn] at h; cases h

theorem textB_pos (t : List UInt8) : 0 < (textB t).length := by unfold textB numB lowFirst; simp; omega
theorem numB_pos (n : Nat) : 0 < (numB n).length := by unfold numB lowFirst; simp
theorem entryB_pos (n : Nat) (p : KV) : 0 < (entryB n p).length := by
  unfold entryB
  have := numB_pos n
  rw [List.length_append]; omega
/-- What was taken, put again. -/
theorem takeE_put {last b : List UInt8} {n : Nat} {p : KV} {r : List UInt8} (h : takeE last b = some (n, p, r)) : b = entryB n p ++ r ∧ n ≤ last.length ∧ p.1.take n = last.take n ∧ n ≤ p.1.length := by
  obtain ⟨r1, k, r2, v, h1, hn, h2, h3, rfl⟩ := takeE_of h
  have e1 := takeN_put h1
  have e2 := takeT_put h2
  have e3 := takeT_put h3
  have hl : (last.take n).length = n := by rw [List.length_take]; omega
  refine ⟨?_, hn, ?_, ?_⟩
  · unfold entryB
    dsimp only
    rw [List.drop_append_of_le_length (by omega), List.drop_of_length_le (by omega : (last.take n).length ≤ n), List.nil_append, e1, e2, e3]
    simp only [List.append_assoc]
  · dsimp only
    rw [List.take_append_of_le_length (by omega), List.take_take, Nat.min_self]
  · dsimp only
    rw [List.length_append]; omega
/-- What was put is taken. -/
theorem takeE_entry {last : List UInt8} {n : Nat} {p : KV} (r : List UInt8) (hn : n ≤ last.length) (ht : p.1.take n = last.take n) (hp : n ≤ p.1.length) (hl : last.length < 18446744073709551616) (h1 : p.1.length < 18446744073709551616) (h2 : p.2.length < 18446744073709551616) :
    takeE last (entryB n p ++ r) = some (n, p, r) := by
  have e1 : takeN (entryB n p ++ r) = some (n, textB (p.1.drop n) ++ (textB p.2 ++ r)) := by
    unfold entryB
    rw [List.append_assoc, List.append_assoc]
    exact takeN_num (by omega) _
  have e2 := takeT_text (t := p.1.drop n) (by rw [List.length_drop]; omega) (textB p.2 ++ r)
  have e3 := takeT_text (t := p.2) h2 r
  rw [takeE_yes e1 hn e2 e3, ← ht, List.take_append_drop]
theorem takeE_lt {last b : List UInt8} {n : Nat} {p : KV} {r : List UInt8} (h : takeE last b = some (n, p, r)) : r.length < b.length := by
  have := (takeE_put h).1
  have h0 := entryB_pos n p
  rw [this, List.length_append]
  omega

/-- All entries taken. -/
def allE (last b : List UInt8) : Option (List (Nat × KV)) :=
  if b = [] then some [] else
    match h : takeE last b with
    | none => none
    | some (n, p, r) => (allE p.1 r).map ((n, p) :: ·)
termination_by b.length
decreasing_by exact takeE_lt h
theorem allE_nil (last : List UInt8) : allE last [] = some [] := by rw [allE]; exact if_pos rfl
theorem allE_none {last b : List UInt8} (hb : b ≠ []) (h : takeE last b = none) : allE last b = none := by
  rw [allE, if_neg hb]
  split
  · rfl
  · rename_i h2; rw [h] at h2; cases h2
theorem allE_some {last b : List UInt8} {n : Nat} {p : KV} {r : List UInt8} (h : takeE last b = some (n, p, r)) : allE last b = (allE p.1 r).map ((n, p) :: ·) := by
  have hb : b ≠ [] := by intro e; have := takeE_lt h; rw [e] at this; simp at this
  rw [allE, if_neg hb]
  split
  · rename_i h2; rw [h] at h2; cases h2
  · rename_i n' p' r' h2
    rw [h] at h2
    injection h2 with h2
    simp only [Prod.mk.injEq] at h2
    obtain ⟨rfl, rfl, rfl⟩ := h2
    rfl

/-- The bytes of entries. -/
def bodyOf (es : List (Nat × KV)) : List UInt8 := es.flatMap fun e => entryB e.1 e.2
/-- Each entry has so many bytes in common with the key ahead. -/
def Chain : List UInt8 → List (Nat × KV) → Prop
  | _, [] => True
  | last, (n, p) :: t => (n ≤ last.length ∧ p.1.take n = last.take n ∧ n ≤ p.1.length) ∧ Chain p.1 t
theorem allE_put {last b : List UInt8} {es : List (Nat × KV)} (h : allE last b = some es) : b = bodyOf es ∧ Chain last es := by
  induction es generalizing last b with
  | nil =>
    by_cases hb : b = []
    · exact ⟨hb, trivial⟩
    · cases ht : takeE last b with
      | none => rw [allE_none hb ht] at h; cases h
      | some x =>
        obtain ⟨n, p, r⟩ := x
        rw [allE_some ht] at h
        cases hr : allE p.1 r with
        | none => rw [hr] at h; cases h
        | some y => rw [hr] at h; simp at h
  | cons e es ih =>
    by_cases hb : b = []
    · subst hb; rw [allE_nil] at h; simp at h
    · cases ht : takeE last b with
      | none => rw [allE_none hb ht] at h; cases h
      | some x =>
        obtain ⟨n, p, r⟩ := x
        rw [allE_some ht] at h
        cases hr : allE p.1 r with
        | none => rw [hr] at h; cases h
        | some y =>
          rw [hr] at h
          simp only [Option.map_some, Option.some.injEq, List.cons.injEq] at h
          obtain ⟨rfl, rfl⟩ := h
          obtain ⟨e1, e2⟩ := ih hr
          obtain ⟨f1, f2⟩ := takeE_put ht
          refine ⟨?_, f2, e2⟩
          rw [f1, e1]
          rfl
theorem allE_body {last : List UInt8} {es : List (Nat × KV)} (hc : Chain last es) (hl : last.length < 18446744073709551616) (hs : ∀ e ∈ es, e.2.1.length < 18446744073709551616 ∧ e.2.2.length < 18446744073709551616) : allE last (bodyOf es) = some es := by
  induction es generalizing last with
  | nil => exact allE_nil last
  | cons e es ih =>
    obtain ⟨n, p⟩ := e
    obtain ⟨⟨h1, h2, h3⟩, h4⟩ := hc
    have hp := hs (n, p) (List.mem_cons_self ..)
    have : bodyOf ((n, p) :: es) = entryB n p ++ bodyOf es := rfl
    rw [this, allE_some (takeE_entry (bodyOf es) h1 h2 h3 hl hp.1 hp.2), ih h4 hp.1 (fun e he => hs e (List.mem_cons_of_mem _ he))]
    rfl
theorem allE_small {last b : List UInt8} {es : List (Nat × KV)} (h : allE last b = some es) : ∀ e ∈ es, e.2.1.length ≤ last.length + b.length ∧ e.2.2.length ≤ b.length := by
  induction es generalizing last b with
  | nil => intro e he; simp at he
  | cons e es ih =>
    by_cases hb : b = []
    · subst hb; rw [allE_nil] at h; simp at h
    · cases ht : takeE last b with
      | none => rw [allE_none hb ht] at h; cases h
      | some x =>
        obtain ⟨n, p, r⟩ := x
        rw [allE_some ht] at h
        cases hr : allE p.1 r with
        | none => rw [hr] at h; cases h
        | some y =>
          rw [hr] at h
          simp only [Option.map_some, Option.some.injEq, List.cons.injEq] at h
          obtain ⟨rfl, rfl⟩ := h
          obtain ⟨f1, f2, f3, f4⟩ := takeE_put ht
          have hlen := congrArg List.length f1
          unfold entryB textB at hlen
          simp only [List.length_append, List.length_drop] at hlen
          intro e he
          rcases List.mem_cons.1 he with rfl | he
          · dsimp only
            omega
          · have := ih hr e he
            omega

/-- The entries of pairs. -/
def entriesOf (every : Nat) : Nat → List UInt8 → List KV → List (Nat × KV)
  | _, _, [] => []
  | i, last, p :: t => ((if i % every = 0 then 0 else comm last p.1), p) :: entriesOf every (i + 1) p.1 t
/-- Where heads begin. -/
def headsOf (every : Nat) : Nat → Nat → List (Nat × KV) → List Nat
  | _, _, [] => []
  | i, off, (n, p) :: t => (if i % every = 0 then [off] else []) ++ headsOf every (i + 1) (off + (entryB n p).length) t
/-- The key of the last one. -/
def lastKey (last : List UInt8) (l : List KV) : List UInt8 := match l.getLast? with
  | some q => q.1
  | none => last
theorem lastKey_cons (last : List UInt8) (p : KV) (t : List KV) : lastKey last (p :: t) = lastKey p.1 t := by
  unfold lastKey
  rw [List.getLast?_cons]
  cases h : t.getLast? <;> simp
theorem entriesOf_snd (every i : Nat) (last : List UInt8) (l : List KV) : (entriesOf every i last l).map (·.2) = l := by
  induction l generalizing i last with
  | nil => rfl
  | cons p t ih => unfold entriesOf; rw [List.map_cons, ih]
theorem entriesOf_snoc (every i : Nat) (last : List UInt8) (l : List KV) (p : KV) : entriesOf every i last (l ++ [p]) = entriesOf every i last l ++ [((if (i + l.length) % every = 0 then 0 else comm (lastKey last l) p.1), p)] := by
  induction l generalizing i last with
  | nil => rfl
  | cons q t ih =>
    rw [List.cons_append]
    unfold entriesOf
    rw [ih, lastKey_cons, List.length_cons, List.cons_append]
    have : i + 1 + t.length = i + (t.length + 1) := by omega
    rw [this]
theorem headsOf_snoc (every i off : Nat) (es : List (Nat × KV)) (n : Nat) (p : KV) : headsOf every i off (es ++ [(n, p)]) = headsOf every i off es ++ (if (i + es.length) % every = 0 then [off + (bodyOf es).length] else []) := by
  induction es generalizing i off with
  | nil => simp [headsOf, bodyOf]
  | cons q t ih =>
    obtain ⟨m, q⟩ := q
    rw [List.cons_append]
    unfold headsOf
    rw [ih, List.append_assoc, List.length_cons]
    have e1 : i + 1 + t.length = i + (t.length + 1) := by omega
    have e2 : off + (entryB m q).length + (bodyOf t).length = off + (bodyOf ((m, q) :: t)).length := by
      show _ = off + (entryB m q ++ bodyOf t).length
      rw [List.length_append]; omega
    rw [e1, e2]
theorem bodyOf_snoc (es : List (Nat × KV)) (n : Nat) (p : KV) : bodyOf (es ++ [(n, p)]) = bodyOf es ++ entryB n p := by unfold bodyOf; simp
theorem entriesOf_len (every i : Nat) (last : List UInt8) (l : List KV) : (entriesOf every i last l).length = l.length := by
  have := congrArg List.length (entriesOf_snd every i last l)
  simpa using this
theorem bodyTo_entries (every : Nat) (l : List KV) (k : Nat) (hk : k ≤ l.length) :
    bodyTo every l k = (bodyOf (entriesOf every 0 [] (l.take k)), (headsOf every 0 0 (entriesOf every 0 [] (l.take k))).flatMap four) := by
  induction k with
  | zero => simp [bodyTo, entriesOf, headsOf, bodyOf]
  | succ k ih =>
    have hlt : k < l.length := by omega
    have hg : l[k]? = some l[k] := List.getElem?_eq_getElem hlt
    have ht : l.take (k + 1) = l.take k ++ [l[k]] := by rw [List.take_succ_eq_append_getElem hlt]
    have hkl : (l.take k).length = k := by rw [List.length_take]; omega
    have ih := ih (by omega)
    rw [ht, entriesOf_snoc, headsOf_snoc, bodyOf_snoc, entriesOf_len, hkl, Nat.zero_add]
    by_cases h0 : k % every = 0
    · rw [bodyTo_head hg h0, ih, if_pos h0, if_pos h0]
      simp
    · rw [bodyTo_next hg h0, ih, if_neg h0, if_neg h0]
      have hk0 : k ≠ 0 := by intro e; rw [e] at h0; simp at h0
      have : prevKey l k = lastKey [] (l.take k) := by
        unfold prevKey lastKey
        rw [List.getLast?_eq_getElem?, hkl, List.getElem?_take_of_lt (by omega : k - 1 < k), List.getElem?_eq_getElem (by omega : k - 1 < l.length)]
      rw [this]
      simp

/-- Keys that rise. -/
def RisesFrom : Nat → List UInt8 → List KV → Prop
  | _, _, [] => True
  | i, last, p :: t => (i = 0 ∨ Op.bytesLess last p.1 = true) ∧ RisesFrom (i + 1) p.1 t
theorem risesFrom_iff (i : Nat) (last : List UInt8) (l : List KV) : RisesFrom i last l ↔ ((i = 0 ∨ ∀ p, l[0]? = some p → Op.bytesLess last p.1 = true) ∧ Rises l l.length) := by
  induction l generalizing i last with
  | nil => simp [RisesFrom, Rises]
  | cons p t ih =>
    unfold RisesFrom
    rw [ih]
    constructor
    · rintro ⟨h1, h2, h3⟩
      refine ⟨h1.imp_right fun h q hq => by simp at hq; subst hq; exact h, ?_⟩
      intro j a b hj ha hb
      cases j with
      | zero =>
        simp at ha
        subst ha
        rcases h2 with h2 | h2
        · omega
        · exact h2 b (by simpa using hb)
      | succ j => exact h3 j a b (by simpa using hj) (by simpa using ha) (by simpa using hb)
    · rintro ⟨h1, h2⟩
      refine ⟨h1.imp_right fun h => h p (by simp), .inr fun q hq => h2 0 p q (by
        have := (List.getElem?_eq_some_iff.1 hq).1
        simp; omega) (by simp) (by simpa using hq), ?_⟩
      intro j a b hj ha hb
      exact h2 (j + 1) a b (by simpa using hj) (by simpa using ha) (by simpa using hb)
theorem rises_from (l : List KV) : RisesFrom 0 [] l ↔ Rises l l.length := by rw [risesFrom_iff]; simp

/-- What the code asks of an entry. -/
def okE (every i : Nat) (last : List UInt8) (n : Nat) (whole : List UInt8) : Prop := n = (if i % every = 0 then 0 else comm last whole) ∧ (i = 0 ∨ Op.bytesLess last whole = true)
instance (every i : Nat) (last : List UInt8) (n : Nat) (whole : List UInt8) : Decidable (okE every i last n whole) := by unfold okE; infer_instance
/-- All entries taken, and asked. -/
def allP (every tot i : Nat) (last b : List UInt8) : Option (List KV × List Nat) :=
  if b = [] then some ([], []) else
    match h : takeE last b with
    | none => none
    | some (n, p, r) => if okE every i last n p.1 then (allP every tot (i + 1) p.1 r).map fun q => (p :: q.1, (if i % every = 0 then [tot - b.length] else []) ++ q.2) else none
termination_by b.length
decreasing_by exact takeE_lt h
theorem allP_nil (every tot i : Nat) (last : List UInt8) : allP every tot i last [] = some ([], []) := by rw [allP]; exact if_pos rfl
theorem allP_none {every tot i : Nat} {last b : List UInt8} (hb : b ≠ []) (h : takeE last b = none) : allP every tot i last b = none := by
  rw [allP, if_neg hb]
  split
  · rfl
  · rename_i h2; rw [h] at h2; cases h2
theorem allP_some {every tot i : Nat} {last b : List UInt8} {n : Nat} {p : KV} {r : List UInt8} (h : takeE last b = some (n, p, r)) :
    allP every tot i last b = if okE every i last n p.1 then (allP every tot (i + 1) p.1 r).map fun q => (p :: q.1, (if i % every = 0 then [tot - b.length] else []) ++ q.2) else none := by
  have hb : b ≠ [] := by intro e; have := takeE_lt h; rw [e] at this; simp at this
  rw [allP, if_neg hb]
  split
  · rename_i h2; rw [h] at h2; cases h2
  · rename_i n' p' r' h2
    rw [h] at h2
    injection h2 with h2
    simp only [Prod.mk.injEq] at h2
    obtain ⟨rfl, rfl, rfl⟩ := h2
    rfl
theorem allP_bad {every tot i : Nat} {last b : List UInt8} {n : Nat} {p : KV} {r : List UInt8} (h : takeE last b = some (n, p, r)) (hok : ¬ okE every i last n p.1) : allP every tot i last b = none := by rw [allP_some h, if_neg hok]
theorem allP_ok {every tot i : Nat} {last b : List UInt8} {n : Nat} {p : KV} {r : List UInt8} (h : takeE last b = some (n, p, r)) (hok : okE every i last n p.1) :
    allP every tot i last b = (allP every tot (i + 1) p.1 r).map fun q => (p :: q.1, (if i % every = 0 then [tot - b.length] else []) ++ q.2) := by rw [allP_some h, if_pos hok]

/-- It is what all taken are, where all may be. -/
theorem allP_iff {every tot i : Nat} {last b : List UInt8} (hb : b.length ≤ tot) (out : List KV) (hs : List Nat) :
    allP every tot i last b = some (out, hs) ↔ ∃ es, allE last b = some es ∧ out = es.map (·.2) ∧ es = entriesOf every i last out ∧ RisesFrom i last out ∧ hs = headsOf every i (tot - b.length) es := by
  induction hn : b.length using Nat.strongRecOn generalizing i last b out hs with
  | _ m ih =>
    by_cases hbn : b = []
    · subst hbn
      rw [allP_nil, allE_nil]
      constructor
      · intro h
        injection h with h
        simp only [Prod.mk.injEq] at h
        obtain ⟨rfl, rfl⟩ := h
        exact ⟨[], rfl, rfl, rfl, trivial, rfl⟩
      · rintro ⟨es, h1, rfl, h2, h3, rfl⟩
        injection h1 with h1
        subst h1
        rfl
    · cases ht : takeE last b with
      | none =>
        rw [allP_none hbn ht, allE_none hbn ht]
        constructor
        · intro h; cases h
        · rintro ⟨es, h, _⟩; cases h
      | some x =>
        obtain ⟨n, p, r⟩ := x
        have hlt := takeE_lt ht
        have hput := (takeE_put ht).1
        rw [allE_some ht]
        have hoff : tot - r.length = tot - b.length + (entryB n p).length := by
          have := congrArg List.length hput
          rw [List.length_append] at this
          omega
        by_cases hok : okE every i last n p.1
        · rw [allP_ok ht hok]
          constructor
          · intro h
            cases hr : allP every tot (i + 1) p.1 r with
            | none => rw [hr] at h; cases h
            | some q =>
              obtain ⟨o2, h2⟩ := q
              rw [hr] at h
              simp only [Option.map_some, Option.some.injEq, Prod.mk.injEq] at h
              obtain ⟨rfl, rfl⟩ := h
              obtain ⟨es, e1, e2, e3, e4, e5⟩ := (ih r.length (by omega) (by omega) o2 h2 rfl).1 hr
              refine ⟨(n, p) :: es, by rw [e1]; rfl, by rw [e2]; rfl, ?_, ⟨hok.2, e4⟩, ?_⟩
              · unfold entriesOf
                rw [← hok.1, ← e3]
              · unfold headsOf
                rw [e5, hoff, hn]
          · rintro ⟨es, e1, rfl, e3, e4, rfl⟩
            cases hr : allE p.1 r with
            | none => rw [hr] at e1; cases e1
            | some y =>
              rw [hr] at e1
              simp only [Option.map_some, Option.some.injEq] at e1
              subst e1
              have := (ih r.length (by omega) (i := i + 1) (last := p.1) (b := r) (by omega) (y.map (·.2)) (headsOf every (i + 1) (tot - r.length) y) rfl).2
                ⟨y, hr, rfl, by
                  rw [List.map_cons] at e3
                  unfold entriesOf at e3
                  injection e3, e4.2, rfl⟩
              rw [this, hoff, ← hn]
              rfl
        · rw [allP_bad ht hok]
          constructor
          · intro h; cases h
          · rintro ⟨es, e1, rfl, e3, e4, rfl⟩
            cases hr : allE p.1 r with
            | none => rw [hr] at e1; cases e1
            | some y =>
              rw [hr] at e1
              simp only [Option.map_some, Option.some.injEq] at e1
              subst e1
              exact absurd ⟨by
                rw [List.map_cons] at e3
                unfold entriesOf at e3
                injection e3 with h1
                simp only [Prod.mk.injEq] at h1
                exact h1.1, e4.1⟩ hok
end Go.Proofs.Yteagjjiggneheaa
