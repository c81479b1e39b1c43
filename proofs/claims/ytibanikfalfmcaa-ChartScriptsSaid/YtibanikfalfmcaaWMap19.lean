/-
  Wide numbers as whole ones; a map of them.
-/
import Derived.Test.YtibanikfalfmcaaWAdd19
import Derived.Test.YtibanikfalfmcaaAcc
import Derived.Maps.Views
namespace Go.Proofs.Ytibanikfalfmcaa
open Go.RowKit Go.Maps
set_option linter.unusedVariables false

/-- A wide number's value. -/
def SW (v : Value) (z : Int) : Prop := ∃ (n : Bool) (x : Int), v = wideV n x ∧ 0 ≤ x ∧ (if n = true then -x else x) = z
theorem SW.zero : SW (.agg #[.bool false, .int .u64 0, .int .u64 0, .int .u64 0, .int .u64 0]) 0 := ⟨false, 0, by rfl, by omega, rfl⟩
theorem of_any (a : Int) (h0 : -9223372036854775808 ≤ a) (h1 : a ≤ 9223372036854775807) (w : World) : Calls Try.prog 24 #[.int .i64 a] w fun e w' => (∃ v, e = .returned v ∧ SW v a ∧ ∃ n x0 x1 x2 x3, v = .agg #[.bool n, .int .u64 x0, .int .u64 x1, .int .u64 x2, .int .u64 x3]) ∧ Below w.heap.size w w' := by
  by_cases h : a < 0
  · refine (of_neg a h0 h w).mono ?_
    rintro e w' ⟨rfl, hb⟩
    exact ⟨⟨_, rfl, ⟨true, -a, rfl, by omega, by simp⟩, _, _, _, _, _, rfl⟩, hb⟩
  · refine (of_pos a h1 (by omega) w).mono ?_
    rintro e w' ⟨rfl, hb⟩
    exact ⟨⟨_, rfl, ⟨false, a, rfl, by omega, by simp⟩, _, _, _, _, _, rfl⟩, hb⟩
theorem wadd_any {v1 v2 : Value} {z1 z2 : Int} (h1 : SW v1 z1) (h2 : SW v2 z2) (b1 : -1000000000000000000000000000000 ≤ z1 ∧ z1 ≤ 1000000000000000000000000000000) (b2 : -1000000000000000000000000000000 ≤ z2 ∧ z2 ≤ 1000000000000000000000000000000) (w : World) :
    Calls Try.prog 23 #[v1, v2] w fun e w' => (∃ v, e = .returned v ∧ SW v (z1 + z2) ∧ ∃ n x0 x1 x2 x3, v = .agg #[.bool n, .int .u64 x0, .int .u64 x1, .int .u64 x2, .int .u64 x3]) ∧ Below w.heap.size w w' := by
  obtain ⟨n1, x, rfl, hx, e1⟩ := h1
  obtain ⟨n2, y, rfl, hy, e2⟩ := h2
  have fx : Fit x := ⟨hx, by cases n1 <;> simp at e1 <;> omega⟩
  have fy : Fit y := ⟨hy, by cases n2 <;> simp at e2 <;> omega⟩
  cases hnn : n1 == n2 with
  | true =>
    have hn : n1 = n2 := by simpa using hnn
    refine (wadd_same n1 n2 hnn x y fx fy ⟨by omega, by cases n1 <;> cases n2 <;> simp at e1 e2 <;> omega⟩ w).mono ?_
    rintro e w' ⟨rfl, hb⟩
    refine ⟨⟨_, rfl, ⟨n1, x + y, rfl, by omega, ?_⟩, _, _, _, _, _, rfl⟩, hb⟩
    subst hn
    cases n1 <;> simp at e1 e2 ⊢ <;> omega
  | false =>
    have hn : n1 ≠ n2 := by simpa using hnn
    by_cases hlt : x < y
    · refine (wadd_lt n1 n2 hnn x y fx fy hlt w).mono ?_
      rintro e w' ⟨rfl, hb⟩
      refine ⟨⟨_, rfl, ⟨n2, y - x, rfl, by omega, ?_⟩, _, _, _, _, _, rfl⟩, hb⟩
      cases n1 <;> cases n2 <;> simp at e1 e2 hn ⊢ <;> omega
    · refine (wadd_ge n1 n2 hnn x y fx fy hlt w).mono ?_
      rintro e w' ⟨rfl, hb⟩
      refine ⟨⟨_, rfl, ⟨n1, x - y, rfl, by omega, ?_⟩, _, _, _, _, _, rfl⟩, hb⟩
      cases n1 <;> cases n2 <;> simp at e1 e2 hn ⊢ <;> omega
theorem stold_any {v : Value} {z : Int} (h : SW v z) (b1 : -4611686018427387904 ≤ z ∧ z ≤ 4611686018427387904) (w : World) : Calls Try.prog 25 #[v] w fun e w' => e = .returned (.tuple #[.int .i64 z, .int .i64 0]) ∧ Below w.heap.size w w' := by
  obtain ⟨n, x, rfl, hx, e1⟩ := h
  have hx2 : ¬ 4611686018427387904 < x := by cases n <;> simp at e1 <;> omega
  refine (wtold_any n x ⟨hx, by omega⟩ w).mono ?_
  rintro e w' ⟨rfl, hb⟩
  refine ⟨?_, hb⟩
  cases n with
  | true => rw [toldR_neg hx2]; simp at e1; rw [e1]
  | false => rw [toldR_pos hx2]; simp at e1; rw [e1]

/-- A wide number as a map's element. -/
def wideR : Value → Option (DataW Unit × List MemPlace)
  | .agg ⟨[.bool n, .int .u64 a, .int .u64 b, .int .u64 c, .int .u64 d]⟩ => some (.agg [.lit (.bool n), .lit (.int .u64 a), .lit (.int .u64 b), .lit (.int .u64 c), .lit (.int .u64 d)], [])
  | _ => none
theorem wideR_inj {v v' : Value} {d : DataW Unit} {p p' : List MemPlace} (h : wideR v = some (d, p)) (h' : wideR v' = some (d, p')) : v = v' := by
  unfold wideR at h h'
  split at h
  · split at h'
    · injection h with h
      injection h' with h'
      injection h with h _
      injection h' with h' _
      rw [← h] at h'
      injection h' with h'
      injection h' with a1 h'
      injection h' with a2 h'
      injection h' with a3 h'
      injection h' with a4 h'
      injection h' with a5 _
      injection a1 with a1
      injection a1 with a1
      injection a2 with a2
      injection a2 with _ a2
      injection a3 with a3
      injection a3 with _ a3
      injection a4 with a4
      injection a4 with _ a4
      injection a5 with a5
      injection a5 with _ a5
      rw [a1, a2, a3, a4, a5]
    · cases h'
  · cases h
theorem wideR_form {v : Value} {n : Bool} {x0 x1 x2 x3 : Int} (h : v = .agg #[.bool n, .int .u64 x0, .int .u64 x1, .int .u64 x2, .int .u64 x3]) : ∃ d, wideR v = some (d, []) := by
  subst h
  exact ⟨_, rfl⟩
/-- A map of sums. -/
def WMap (w : World) (b m : Nat) (S : Int → Int) : Prop := ∃ D : DataW Unit, w.ownsMap Try.prog 3 wideR b m D ∧ IsMap D ∧ ∀ k : Int, ∃ v, wideR v = some (D.atKey (.int .i64 k) (.agg [.lit (.bool false), .lit (.int .u64 0), .lit (.int .u64 0), .lit (.int .u64 0), .lit (.int .u64 0)]), []) ∧ SW v (S k)
theorem WMap.lt {w : World} {b m : Nat} {S : Int → Int} (h : WMap w b m S) : b < w.heap.size := by
  obtain ⟨D, ⟨es, c, hb, _⟩, _⟩ := h
  exact (Array.getElem?_eq_some_iff.1 hb).1
theorem WMap.kept {X : Nat → Prop} {w w' : World} {b m : Nat} {S : Int → Int} (h : WMap w b m S) (hk : Kept X w w') (hs : ¬ X b) : WMap w' b m S := by
  have hlt := h.lt
  obtain ⟨D, ⟨es, c, hb, hr⟩, h2⟩ := h
  exact ⟨D, ⟨es, c, (hk.block b hlt hs).trans hb, hr⟩, h2⟩
theorem WMap.call {w w' : World} {b m : Nat} {S : Int → Int} (h : WMap w b m S) (hb : Below w.heap.size w w') : WMap w' b m S := h.kept (X := fun _ => False) (Kept.of_below hb) (fun e => e)
theorem WMap.congr {w : World} {b m : Nat} {S S' : Int → Int} (h : WMap w b m S) (hs : ∀ k, S k = S' k) : WMap w b m S' := by
  obtain ⟨D, h1, h2, h3⟩ := h
  exact ⟨D, h1, h2, fun k => by rw [← hs k]; exact h3 k⟩
theorem zero_wide (w : World) : (zeroValue 55).run Try.prog w = .ok (.agg #[.bool false, .int .u64 0, .int .u64 0, .int .u64 0, .int .u64 0]) w := by kernel_rfl
theorem WMap.look {w : World} {b m : Nat} {S : Int → Int} (h : WMap w b m S) {n : Int} (hn : (Lit.int .i64 n).wf = true) : ∃ v, (∀ W : World, Below w.heap.size w W → (Instr.lookup 49 (.map (some b)) (.int .i64 n) false).run Try.prog W = .ok v W) ∧ SW v (S n) := by
  obtain ⟨D, h1, h2, h3⟩ := h
  obtain ⟨v, hv, hs⟩ := h3 n
  refine ⟨v, fun W hW => ?_, hs⟩
  have hlt := h1.lt
  obtain ⟨es, c, hb, hr⟩ := h1
  have hown : W.ownsMap Try.prog 3 wideR b m D := ⟨es, c, (hW.block b hlt).trans hb, hr⟩
  obtain ⟨u, ps, hrun, hu⟩ := World.ownsMap.lookup (zp := []) hown ikeyed Try.underlying49 (zero_wide W) (show wideR (.agg #[.bool false, .int .u64 0, .int .u64 0, .int .u64 0, .int .u64 0]) = some (.agg [.lit (.bool false), .lit (.int .u64 0), .lit (.int .u64 0), .lit (.int .u64 0), .lit (.int .u64 0)], []) from rfl) (keyOf_int_mk Try.underlying3 hn)
  rw [hrun, wideR_inj hu hv]
theorem WMap.store {w : World} {b m : Nat} {S : Int → Int} (h : WMap w b m S) (hm : m < maxLen) {n z : Int} (hn : (Lit.int .i64 n).wf = true) {v : Value} (hv : ∃ n x0 x1 x2 x3, v = .agg #[.bool n, .int .u64 x0, .int .u64 x1, .int .u64 x2, .int .u64 x3]) (hs : SW v z) :
    ∃ w', (Instr.mapUpdate 49 (.map (some b)) (.int .i64 n) v).run Try.prog w = .ok () w' ∧ WMap w' b (m + 1) (fun k => if n = k then z else S k) ∧ w.grownBy w' (some b) := by
  obtain ⟨D, h1, h2, h3⟩ := h
  obtain ⟨b0, x0, x1, x2, x3, hvv⟩ := hv
  obtain ⟨d, hd⟩ := wideR_form hvv
  obtain ⟨w', hrun, hown, hturn⟩ := World.ownsMap.store h1 ikeyed Try.underlying49 hm (keyOf_int_mk Try.underlying3 hn) hd
  refine ⟨w', hrun, ⟨D.put (.int .i64 n) d, hown, h2.put _ _, fun k => ?_⟩, hturn.grown⟩
  show ∃ v, _ ∧ SW v (if n = k then z else S k)
  by_cases e : n = k
  · subst e
    rw [atKey_put_same h2 (show WideAt.IsKeyLit (.int .i64 n) from trivial), if_pos rfl]
    exact ⟨v, hd, hs⟩
  · have hne : Lit.int .i64 k ≠ .int .i64 n := by
      intro h
      injection h with _ h
      exact e h.symm
    rw [atKey_put_other hne, if_neg e]
    exact h3 k
theorem WMap.made (w : World) : WMap (w.alloc (.map #[] 0)) w.heap.size 0 (fun _ => 0) := ⟨.map [], World.ownsMap_made w _ _ _, ⟨[], rfl⟩, fun k => ⟨_, rfl, SW.zero⟩⟩
end Go.Proofs.Ytibanikfalfmcaa
