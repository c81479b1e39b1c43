/-
  chart's Trial: the state of its loops; the walk.
-/
import Derived.Test.YtibanikfalfmcaaHeld
import Derived.Test.YtibanikfalfmcaaStepRow
import Derived.Maps.RangeWalk
import Derived.Maps.Ext
namespace Go.Proofs.Ytibanikfalfmcaa
open Go.RowKit Go.Maps
set_option linter.unusedVariables false

/-- The balances of a kind that were met. -/
def gotK : Acs → (Lit → Bool) → Int → List Int
  | [], _, _ => []
  | e :: r, left, i => if left (.int .i64 e.1) = false ∧ e.2.1 = i then e.2.2 :: gotK r left i else gotK r left i
/-- The balances of a kind. -/
def kinds (l : Acs) (i : Int) : List Int := gotK l (fun _ => false) i
def trOne (xs : List Int) : Int := if (sumE xs).2 = 0 then (sumE xs).1 else heldE xs
def trialE (l : Acs) (i : Int) : Int := trOne (kinds l i)
theorem sum_perm {a b : List Int} (h : a.Perm b) : a.sum = b.sum := by
  induction h with
  | nil => rfl
  | cons x _ ih => simp [ih]
  | swap x y l => simp; omega
  | trans _ _ i1 i2 => exact i1.trans i2
theorem sumE_perm {a b : List Int} (h : a.Perm b) : sumE a = sumE b := by
  have e : a.all amt = b.all amt := by
    rw [Bool.eq_iff_iff, List.all_eq_true, List.all_eq_true]
    exact ⟨fun H x hx => H x (h.mem_iff.2 hx), fun H x hx => H x (h.mem_iff.1 hx)⟩
  unfold sumE
  rw [e, sum_perm h]
theorem trOne_perm {a b : List Int} (h : a.Perm b) : trOne a = trOne b := by unfold trOne; rw [sumE_perm h, heldE_perm h]
theorem gotK_none {l : Acs} {left : Lit → Bool} (h : ∀ x ∈ l, left (.int .i64 x.1) = true) (i : Int) : gotK l left i = [] := by
  induction l with
  | nil => rfl
  | cons e r ih =>
    unfold gotK
    rw [if_neg (by rw [h e (List.mem_cons_self ..)]; simp)]
    exact ih fun x hx => h x (List.mem_cons_of_mem _ hx)
theorem gotK_same {l : Acs} {left left' : Lit → Bool} (h : ∀ x ∈ l, left (.int .i64 x.1) = left' (.int .i64 x.1)) (i : Int) : gotK l left i = gotK l left' i := by
  induction l with
  | nil => rfl
  | cons e r ih =>
    unfold gotK
    rw [h e (List.mem_cons_self ..), ih fun x hx => h x (List.mem_cons_of_mem _ hx)]
theorem gotK_all {l : Acs} {left : Lit → Bool} (h : ∀ k, left k = false) (i : Int) : gotK l left i = kinds l i := gotK_same (fun x _ => h _) i
theorem gotK_strike {l : Acs} {left : Lit → Bool} (hd : l.Pairwise fun a b => a.1 < b.1) {n : Int} {a : Int × Int} (hm : (n, a) ∈ l) (hl : left (.int .i64 n) = true) (i : Int) :
    (gotK l (fun z => left z && !z.sameKey (.int .i64 n)) i).Perm (gotK l left i ++ if a.1 = i then [a.2] else []) := by
  induction l with
  | nil => cases hm
  | cons e r ih =>
    rw [List.pairwise_cons] at hd
    rcases List.mem_cons.1 hm with h | h
    · subst h
      have h1 : gotK r (fun z => left z && !z.sameKey (.int .i64 n)) i = gotK r left i := gotK_same (fun x hx => by
        have := hd.1 x hx
        dsimp only at this
        rw [int_same, beq_eq_false_iff_ne.2 (by omega)]
        simp) i
      have h2 : ((fun z : Lit => left z && !z.sameKey (.int .i64 n)) (.int .i64 n)) = false := by
        dsimp only
        rw [int_same]; simp
      show (if (fun z : Lit => left z && !z.sameKey (.int .i64 n)) (.int .i64 n) = false ∧ a.1 = i then a.2 :: gotK r (fun z => left z && !z.sameKey (.int .i64 n)) i else gotK r (fun z => left z && !z.sameKey (.int .i64 n)) i).Perm ((if left (.int .i64 n) = false ∧ a.1 = i then a.2 :: gotK r left i else gotK r left i) ++ _)
      rw [h1, h2, hl]
      by_cases e2 : a.1 = i
      · rw [if_pos ⟨rfl, e2⟩, if_neg (by simp), if_pos e2]
        exact (List.perm_append_singleton _ _).symm
      · rw [if_neg (fun h => e2 h.2), if_neg (by simp), if_neg e2, List.append_nil]
    · have hne : e.1 < n := hd.1 _ h
      have ih' := ih hd.2 h
      have h2 : ((fun z : Lit => left z && !z.sameKey (.int .i64 n)) (.int .i64 e.1)) = left (.int .i64 e.1) := by
        dsimp only
        rw [int_same, beq_eq_false_iff_ne.2 (by omega : e.1 ≠ n)]; simp
      show (if (fun z : Lit => left z && !z.sameKey (.int .i64 n)) (.int .i64 e.1) = false ∧ e.2.1 = i then e.2.2 :: gotK r (fun z => left z && !z.sameKey (.int .i64 n)) i else gotK r (fun z => left z && !z.sameKey (.int .i64 n)) i).Perm ((if left (.int .i64 e.1) = false ∧ e.2.1 = i then e.2.2 :: gotK r left i else gotK r left i) ++ _)
      rw [h2]
      by_cases e2 : left (.int .i64 e.1) = false ∧ e.2.1 = i
      · rw [if_pos e2, if_pos e2]
        exact List.Perm.cons _ ih'
      · rw [if_neg e2, if_neg e2]
        exact ih'

/-- A slice of balances. -/
structure Ow where
  A : Option Addr
  c : Nat
  xs : List Int
def Ow.v (o : Ow) : Value := .slice o.A o.xs.length o.c
structure TrSt (w : World) (base q4 : Nat) (of : List Ow) : Prop where
  len : of.length = 5
  box : w.heap[q4]? = some (.cells (of.map Ow.v).toArray 94 (0, 0))
  row : ∀ (i : Nat) (o : Ow), of[i]? = some o → w.ownsRow base 2 1 o.v o.xs.length (o.xs.map i64v)
  ap : ∀ (i j : Nat) (o1 o2 : Ow), i ≠ j → of[i]? = some o1 → of[j]? = some o2 → Apart o1.A o2.A
  le : q4 < base
theorem TrSt.kept {S : Nat → Prop} {w w' : World} {base q4 : Nat} {of : List Ow} (h : TrSt w base q4 of) (hk : Kept S w w') (hs : ∀ k, S k → k < base ∧ k ≠ q4) : TrSt w' base q4 of :=
  ⟨h.len, (hk.block q4 (Array.getElem?_eq_some_iff.1 h.box).1 (fun e => (hs _ e).2 rfl)).trans h.box, fun i o ho => hk.own (h.row i o ho) (fun k hr e => by
    have h1 := (h.row i o ho).lt k (by unfold Ow.v; rw [ownBlock_slice]; exact hr)
    have h2 := (hs k e).1
    omega), h.ap, h.le⟩
theorem ranges_kept {S : Nat → Prop} {w w' : World} {b r n cnt : Nat} {D : DataW Unit} {left : Lit → Bool} (h : w.ranges Try.prog 3 accR b r n D left cnt) (hk : Kept S w w') (hb : ¬ S b) (hr : ¬ S r) : w'.ranges Try.prog 3 accR b r n D left cnt := by
  have hlt := h.lt
  have hbl := h.owns.lt
  obtain ⟨es, clock, since, seen, c0, h1, h2, h3, h4, h5, h6⟩ := h
  exact ⟨es, clock, since, seen, c0, (hk.block b hbl hb).trans h1, h2, h3, h4, (hk.block r hlt hr).trans h5, h6⟩
/-- One balance more. -/
theorem TrSt.put {w w5 : World} {base q4 : Nat} {of : List Ow} (h : TrSt w base q4 of) {kd : Nat} {o : Ow} (ho : of[kd]? = some o) {A5 : Option Addr} {c5 : Nat} {bal : Int} (hown : w5.ownsRow base 2 1 (.slice A5 (o.xs.length + 1) c5) (o.xs.length + 1) ((o.xs ++ [bal]).map i64v))
    (hk : Kept (InRow o.A) w w5) (hat : ∀ k, InRow A5 k → InRow o.A k ∨ w.heap.size ≤ k) : TrSt (w5.setCell ⟨q4, kd, none⟩ (.slice A5 (o.xs.length + 1) c5)) base q4 (of.set kd ⟨A5, c5, o.xs ++ [bal]⟩) := by
  have hq5 : w5.heap[q4]? = some (.cells (of.map Ow.v).toArray 94 (0, 0)) := (hk.block q4 (Array.getElem?_eq_some_iff.1 h.box).1 (fun e => by
    have h1 := (h.row kd o ho).lt q4 (by unfold Ow.v; rw [ownBlock_slice]; exact e)
    have := h.le
    omega)).trans h.box
  have hks : Kept (fun k => k = q4) w5 (w5.setCell ⟨q4, kd, none⟩ (.slice A5 (o.xs.length + 1) c5)) := Kept.set (S := fun k => k = q4) w5 rfl kd _
  have hne : ∀ (A : Option Addr) (n c : Nat) (ys : List Value), w5.ownsRow base 2 1 (.slice A n c) n ys → ∀ k, InRow A k → ¬ k = q4 := fun A n c ys hr k hk e => by
    have h1 := hr.lt k (by rw [ownBlock_slice]; exact hk)
    have := h.le
    omega
  have hkd : kd < of.length := (List.getElem?_eq_some_iff.1 ho).1
  refine ⟨by rw [List.length_set]; exact h.len, ?_, ?_, ?_, h.le⟩
  · have := Joins.block_setCell (i := kd) hq5 (.slice A5 (o.xs.length + 1) c5)
    rw [this]
    congr 2
    rw [List.map_set]
    simp [Ow.v]
  · intro i x hx
    by_cases hi : i = kd
    · subst hi
      rw [List.getElem?_set_self hkd] at hx
      injection hx with hx
      subst hx
      have e : (o.xs ++ [bal]).length = o.xs.length + 1 := by simp
      unfold Ow.v
      dsimp only
      rw [e]
      exact hks.own hown (hne _ _ _ _ hown)
    · rw [List.getElem?_set_ne (by omega)] at hx
      have hap := h.ap i kd x o hi hx ho
      have hr5 := hk.own (h.row i x hx) (fun k hr e => hap k hr e)
      exact hks.own hr5 (hne _ _ _ _ hr5)
  · have key : ∀ (i : Nat) (x : Ow), i ≠ kd → of[i]? = some x → Apart x.A A5 := by
      intro i x hi hx k h1 h2
      rcases hat k h2 with h3 | h3
      · exact h.ap i kd x o hi hx ho k h1 h3
      · have := (h.row i x hx).lt k (by unfold Ow.v; rw [ownBlock_slice]; exact h1)
        omega
    intro i j o1 o2 hij h1 h2
    by_cases hi : i = kd
    · subst hi
      rw [List.getElem?_set_self hkd] at h1
      rw [List.getElem?_set_ne (by omega)] at h2
      injection h1 with h1
      subst h1
      exact fun k h3 h4 => key j o2 (by omega) h2 k h4 h3
    · rw [List.getElem?_set_ne (by omega)] at h1
      by_cases hj : j = kd
      · subst hj
        rw [List.getElem?_set_self hkd] at h2
        injection h2 with h2
        subst h2
        exact key i o1 hi h1
      · rw [List.getElem?_set_ne (by omega)] at h2
        exact h.ap i j o1 o2 hij h1 h2
end Go.Proofs.Ytibanikfalfmcaa
