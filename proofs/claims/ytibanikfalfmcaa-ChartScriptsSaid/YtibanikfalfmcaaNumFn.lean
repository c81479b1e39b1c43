/-
  num: is, told, Add, Sum.
-/
import Derived.Test.YtibanikfalfmcaaAcc
import Derived.Shelf.Spec.BitsCarry
import Derived.IntWalk
namespace Go.Proofs.Ytibanikfalfmcaa
open Go.RowKit
set_option linter.unusedVariables false

/-- Is a number an amount? -/
def amt (a : Int) : Bool := decide (-4611686018427387904 ≤ a) && decide (a ≤ 4611686018427387904)
theorem amt_iff (a : Int) : amt a = true ↔ -4611686018427387904 ≤ a ∧ a ≤ 4611686018427387904 := by simp [amt]
theorem amt_no (a : Int) : amt a = false ↔ a < -4611686018427387904 ∨ 4611686018427387904 < a := by
  simp [amt]
  omega
def i64v (a : Int) : Value := .int .i64 a

set_option maxRecDepth 100000 in
set_option maxHeartbeats 2000000 in
theorem is_any (A : Option Addr) (B n c : Nat) (l : List Int) (w : World) (hn : l.length = n) (hr : Row w B A (l.map i64v)) (hl : n ≤ 1000000000) :
    Calls Try.prog 80 #[.slice A n c] w fun e w' => e = .returned (.bool (l.all amt)) ∧ w = w' := by
  subst hn
  go_enter Try.func80, Try.ntmps80
  go_wp2
  go_loop [7] (fun i => ∃ k : Nat, k ≤ l.length ∧ i = .int .i64 (k : Int) ∧ Hid ((l.take k).all amt = true)) (fun i => l.length - (intOf i).toNat)
  case atStart => exact ⟨0, Nat.zero_le _, rfl, rfl⟩
  case round =>
    obtain ⟨k, hk, rfl, H⟩ := hrel
    by_cases hlt : k < l.length
    · obtain ⟨ad, u, rfl, _, hu, hc⟩ := hr.at_ (k := k) (by simpa using hlt)
      obtain ⟨x, rfl, hxk⟩ : ∃ x, u = .int .i64 x ∧ Hid (l[k]? = some x) := by
        have h1 := hu.out
        rw [List.getElem?_map, List.getElem?_eq_getElem hlt] at h1
        simp only [Option.map_some, Option.some.injEq] at h1
        exact ⟨l[k], h1.symm, List.getElem?_eq_getElem hlt⟩
      clear hu hr
      by_cases h1 : x < -4611686018427387904
      · have hf : l.all amt = false := by
          rw [List.all_eq_false]
          exact ⟨x, List.mem_of_getElem? hxk.out, by rw [(amt_no x).2 (.inl h1)]; simp⟩
        have Hf := hide hf
        clear hf
        go_wp2
        go_ret
        exact ⟨by rw [Hf.out]; rfl, rfl⟩
      by_cases h2 : 4611686018427387904 < x
      · have hf : l.all amt = false := by
          rw [List.all_eq_false]
          exact ⟨x, List.mem_of_getElem? hxk.out, by rw [(amt_no x).2 (.inr h2)]; simp⟩
        have Hf := hide hf
        clear hf
        go_wp2
        go_ret
        exact ⟨by rw [Hf.out]; rfl, rfl⟩
      · have hok : amt x = true := (amt_iff x).2 ⟨by omega, by omega⟩
        have HO := hide hok
        clear hok
        go_wp2
        go_round
        case rel => exact ⟨k + 1, by omega, by go_num, by
          show _ = _
          rw [take_next hxk.out, List.all_append, H.out, Bool.true_and, List.all_cons, List.all_nil, HO.out]; rfl⟩
        case measure => simp [intOf]; omega
    · have hf : l.all amt = true := by
        have := H.out
        rw [List.take_of_length_le (by omega)] at this
        exact this
      have Hf := hide hf
      clear hf hr
      go_wp2
      go_ret
      exact ⟨by rw [Hf.out]; rfl, rfl⟩

theorem below_new (w : World) (o : Obj) : Below w.heap.size w (w.alloc o) := (Below.refl _ _).alloc (Nat.le_refl _) o
theorem row_new1 (w : World) (a : Int) (t : TypeId) : Row (w.alloc (.cells #[.int .i64 a] t)) (w.heap.size + 1) (some ⟨w.heap.size, 0, none⟩) ([a].map i64v) := Row.new w #[.int .i64 a] t (0, 0)
theorem row_new2 (w : World) (a b : Int) (t : TypeId) : Row (w.alloc (.cells #[.int .i64 a, .int .i64 b] t)) (w.heap.size + 1) (some ⟨w.heap.size, 0, none⟩) ([a, b].map i64v) := Row.new w #[.int .i64 a, .int .i64 b] t (0, 0)

def toldE (a : Int) : Int × Int := if amt a = true then (a, 0) else (0, 2)
def NumR (w : World) (r : Int × Int) (e : Ending) (w' : World) : Prop := e = .returned (.tuple #[.int .i64 r.1, .int .i64 r.2]) ∧ Below w.heap.size w w'

set_option maxRecDepth 100000 in
set_option maxHeartbeats 2000000 in
theorem told_any (a : Int) (w : World) : Calls Try.prog 82 #[.int .i64 a] w (NumR w (toldE a)) := by
  obtain ⟨r, HR⟩ : ∃ r, Hid (r = toldE a) := ⟨_, rfl⟩
  rw [← HR.out]
  have hb := below_new w (.cells #[.int .i64 a] 2)
  have HI := hide (is_any _ _ 1 1 [a] _ rfl (row_new1 w a 2) (by omega))
  have HB := hide hb
  clear hb
  go_enter Try.func82, Try.ntmps82
  go_wp2_with (go_at_call 80; refine halted ?_)
  refine go_on ?_
  refine HI.out.mono ?_
  clear HI
  rintro e w1 ⟨rfl, rfl⟩
  cases hm : amt a with
  | true =>
    have hE : r = (a, 0) := by rw [HR.out]; unfold toldE; rw [if_pos hm]
    have HE := hide hE
    have h2 : [a].all amt = true := by simp [hm]
    clear hE hm
    go_wp2
    go_ret2
    exact ⟨by rw [HE.out]; rfl, HB.out⟩
  | false =>
    have hE : r = (0, 2) := by rw [HR.out]; unfold toldE; rw [if_neg (by rw [hm]; simp)]
    have HE := hide hE
    have h2 : [a].all amt = false := by simp [hm]
    clear hE hm
    go_wp2
    go_ret2
    exact ⟨by rw [HE.out]; rfl, HB.out⟩

def addE (a b : Int) : Int × Int := if amt a = true ∧ amt b = true then (if amt (a + b) = true then (a + b, 0) else (0, 2)) else (0, 1)

set_option maxRecDepth 100000 in
set_option maxHeartbeats 2000000 in
theorem add_any (a b : Int) (w : World) : Calls Try.prog 60 #[.int .i64 a, .int .i64 b] w (NumR w (addE a b)) := by
  obtain ⟨r, HR⟩ : ∃ r, Hid (r = addE a b) := ⟨_, rfl⟩
  rw [← HR.out]
  have hb := below_new w (.cells #[.int .i64 a, .int .i64 b] 2)
  have HI := hide (is_any _ _ 2 2 [a, b] _ rfl (row_new2 w a b 2) (by omega))
  have HB := hide hb
  clear hb
  go_enter Try.func60, Try.ntmps60
  go_wp2_with (go_at_call 80; refine halted ?_)
  refine go_on ?_
  refine HI.out.mono ?_
  clear HI
  rintro e w1 ⟨rfl, rfl⟩
  by_cases hm : amt a = true ∧ amt b = true
  · have h2 : [a, b].all amt = true := by simp [hm.1, hm.2]
    have ha := (amt_iff a).1 hm.1
    have hb := (amt_iff b).1 hm.2
    obtain ⟨a1, a2⟩ := ha
    obtain ⟨b1, b2⟩ := hb
    have HM := hide hm
    clear hm
    by_cases hs : amt (a + b) = true
    · have hE : r = (a + b, 0) := by rw [HR.out]; unfold addE; rw [if_pos HM.out, if_pos hs]
      have HE := hide hE
      obtain ⟨s1, s2⟩ := (amt_iff _).1 hs
      have h3 : ¬ (0 < a ∧ 4611686018427387904 - a < b) := by omega
      have h4 : ¬ (a < 0 ∧ b < -4611686018427387904 - a) := by omega
      clear hE hs
      by_cases p1 : 0 < a
      · have p2 : b ≤ 4611686018427387904 - a := by omega
        have p3 : ¬ a < 0 := by omega
        clear h3 h4
        go_wp2
        go_ret2
        exact ⟨by rw [HE.out]; rfl, HB.out⟩
      · by_cases p3 : a < 0
        · have p2 : -4611686018427387904 - a ≤ b := by omega
          clear h3 h4
          go_wp2
          go_ret2
          exact ⟨by rw [HE.out]; rfl, HB.out⟩
        · clear h3 h4
          go_wp2
          go_ret2
          exact ⟨by rw [HE.out]; rfl, HB.out⟩
    · have hE : r = (0, 2) := by rw [HR.out]; unfold addE; rw [if_pos HM.out, if_neg hs]
      have HE := hide hE
      have hs2 : amt (a + b) = false := by simpa using hs
      have hs3 := (amt_no _).1 hs2
      clear hE hs hs2
      by_cases p1 : 0 < a
      · have p2 : 4611686018427387904 - a < b := by omega
        clear hs3
        go_wp2
        go_ret2
        exact ⟨by rw [HE.out]; rfl, HB.out⟩
      · have p3 : a < 0 := by omega
        have p2 : b < -4611686018427387904 - a := by omega
        clear hs3
        go_wp2
        go_ret2
        exact ⟨by rw [HE.out]; rfl, HB.out⟩
  · have h2 : [a, b].all amt = false := by
      cases h1 : amt a with
      | false => simp [h1]
      | true =>
        cases h2 : amt b with
        | false => simp [h2]
        | true => exact absurd ⟨h1, h2⟩ hm
    have hE : r = (0, 1) := by rw [HR.out]; unfold addE; rw [if_neg hm]
    have HE := hide hE
    clear hE hm
    go_wp2
    go_ret2
    exact ⟨by rw [HE.out]; rfl, HB.out⟩
end Go.Proofs.Ytibanikfalfmcaa
