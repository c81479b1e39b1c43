/-
  The plain law of the check sum: joined, cut, turned, moved.
-/
import Derived.Test.YtnmgbhpmmbhgoaaMathCheck
namespace Go.Proofs.Ytnmgbhpmmbhgoaa
set_option linter.unusedVariables false

theorem mod_mul (a b : Nat) : a % 2147483647 * b % 2147483647 = a * b % 2147483647 := Nat.mod_mul_mod a b 2147483647
theorem mul_mod' (a b : Nat) : a * (b % 2147483647) % 2147483647 = a * b % 2147483647 := Nat.mul_mod_mod a b 2147483647

/-- The sum behind another one is that one's, raised, and its own. -/
theorem addS_lin (s : Nat) (hs : s < 2147483647) (bs : List UInt8) : addS s bs = (s * 16807 ^ bs.length + addS 0 bs) % 2147483647 := by
  suffices h : ∀ n, ∀ l : List UInt8, l.length = n → addS s l = (s * 16807 ^ l.length + addS 0 l) % 2147483647 from h _ bs rfl
  intro n
  induction n with
  | zero =>
    intro l hl
    have : l = [] := List.eq_nil_of_length_eq_zero hl
    subst this
    simp [addS]
    omega
  | succ n ih =>
    intro l hl
    have hne : l ≠ [] := by intro h; subst h; simp at hl
    obtain ⟨m, b, rfl⟩ : ∃ m b, l = m ++ [b] := ⟨l.dropLast, l.getLast hne, (List.dropLast_concat_getLast hne).symm⟩
    have hm : m.length = n := by simpa using hl
    rw [addS_snoc, addS_snoc, ih m hm, List.length_append, List.length_singleton, Nat.pow_succ]
    generalize 16807 ^ m.length = q
    generalize addS 0 m = t
    have e1 : ((s * q + t) % 2147483647 * 16807 + b.toNat + 1) % 2147483647 = ((s * q + t) * 16807 + b.toNat + 1) % 2147483647 := by omega
    rw [e1]
    have e2 : (s * (q * 16807) + (t * 16807 + b.toNat + 1) % 2147483647) % 2147483647 = (s * (q * 16807) + (t * 16807 + b.toNat + 1)) % 2147483647 := by omega
    rw [e2, Nat.add_mul, Nat.mul_assoc, Nat.add_assoc, Nat.add_assoc, ← Nat.add_assoc (t * 16807)]

theorem inv_one (n : Nat) : 16807 ^ n * 1407677000 ^ n % 2147483647 = 1 := by
  rw [← Nat.mul_pow, Nat.pow_mod]
  have : 16807 * 1407677000 % 2147483647 = 1 := by decide +kernel
  rw [this, Nat.one_pow]

/-- Cut: what stands ahead is had again. -/
theorem addS_cut (s : Nat) (hs : s < 2147483647) (bs : List UInt8) : (addS s bs + 2147483647 - addS 0 bs) % 2147483647 * powM 1407677000 bs.length % 2147483647 = s := by
  have h0 := addS_lt 0 bs (by omega)
  rw [addS_lin s hs bs]
  generalize addS 0 bs = y at *
  unfold powM
  rw [mod_mul, mul_mod']
  have hi := inv_one bs.length
  generalize hq : 16807 ^ bs.length = q at *
  generalize 1407677000 ^ bs.length = r at *
  have e1 : ((s * q + y) % 2147483647 + 2147483647 - y) % 2147483647 = s * q % 2147483647 := by omega
  rw [← mod_mul, e1, mod_mul, Nat.mul_assoc, ← mul_mod', hi]
  omega

/-- What follows is one: what is ahead is one. -/
theorem addS_inj {s t : Nat} (hs : s < 2147483647) (ht : t < 2147483647) (bs : List UInt8) (h : addS s bs = addS t bs) : s = t := by
  rw [← addS_cut s hs bs, ← addS_cut t ht bs, h]

theorem addS_join (a b : List UInt8) : addS 0 (a ++ b) = (addS 0 a * powM 16807 b.length + addS 0 b) % 2147483647 := by
  rw [addS_append, addS_lin _ (addS_lt 0 a (by omega))]
  unfold powM
  have := mul_mod' (addS 0 a) (16807 ^ b.length)
  omega

/-- Unlike in one byte: unlike sums. -/
theorem addS_turned (u v : List UInt8) (c d : UInt8) (h : addS 0 (u ++ c :: v) = addS 0 (u ++ d :: v)) : c = d := by
  rw [addS_append, addS_append, addS_cons, addS_cons] at h
  have h1 := addS_inj (Nat.mod_lt _ (by omega)) (Nat.mod_lt _ (by omega)) v h
  have hc := c.toNat_lt
  have hd := d.toNat_lt
  apply UInt8.toNat_inj.1
  omega

theorem addS_set {l : List UInt8} {k : Nat} {c d : UInt8} (h : l[k]? = some c) (hs : addS 0 l = addS 0 (l.set k d)) : c = d := by
  have hk : k < l.length := (List.getElem?_eq_some_iff.1 h).1
  have hx : l[k] = c := (List.getElem?_eq_some_iff.1 h).2
  have e1 : l = l.take k ++ c :: l.drop (k + 1) := by rw [← hx, ← List.drop_eq_getElem_cons hk, List.take_append_drop]
  have e2 : l.set k d = l.take k ++ d :: l.drop (k + 1) := List.set_eq_take_append_cons_drop .. |>.trans (by simp [hk])
  refine addS_turned (l.take k) (l.drop (k + 1)) c d ?_
  rw [← e1, ← e2]
  exact hs

theorem addS_moved (u v : List UInt8) (c d : UInt8) : addS 0 (u ++ c :: d :: v) = addS 0 (u ++ d :: c :: v) ↔ c = d := by
  constructor
  · intro h
    rw [addS_append, addS_append, addS_cons, addS_cons, addS_cons, addS_cons] at h
    have h1 := addS_inj (Nat.mod_lt _ (by omega)) (Nat.mod_lt _ (by omega)) v h
    have hc := c.toNat_lt
    have hd := d.toNat_lt
    apply UInt8.toNat_inj.1
    generalize addS 0 u = t at h1
    generalize c.toNat = x at *
    generalize d.toNat = y at *
    clear h
    omega
  · rintro rfl; rfl
end Go.Proofs.Ytnmgbhpmmbhgoaa
