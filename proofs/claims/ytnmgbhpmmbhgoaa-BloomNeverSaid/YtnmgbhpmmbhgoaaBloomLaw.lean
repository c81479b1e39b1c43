/-
  Filters in plain Lean: what is built, and what the laws ask of it.
-/
import Derived.Test.YtnmgbhpmmbhgoaaBloomMath
namespace Go.Proofs.Ytnmgbhpmmbhgoaa
set_option linter.unusedVariables false

/-- A bit set. -/
def orBit (f : List UInt8) (j : Nat) : List UInt8 := f.set (1 + j / 8) (f.getD (1 + j / 8) 0 ||| UInt8.ofNat (2 ^ (j % 8)))
/-- A key's first p probes set. -/
def orKey (m : Nat) (key : List UInt8) : Nat → List UInt8 → List UInt8
  | 0, f => f
  | p + 1, f => orBit (orKey m key p f) (posK key m p)
/-- All keys'. -/
def orKeys (m p : Nat) : List (List UInt8) → List UInt8 → List UInt8
  | [], f => f
  | key :: l, f => orKeys m p l (orKey m key p f)
theorem orKeys_snoc (m p : Nat) (l : List (List UInt8)) (key f : List UInt8) : orKeys m p (l ++ [key]) f = orKey m key p (orKeys m p l f) := by
  induction l generalizing f with
  | nil => rfl
  | cons k l ih => exact ih _

theorem orBit_len (f : List UInt8) (j : Nat) : (orBit f j).length = f.length := List.length_set ..
theorem orKey_len (m : Nat) (key : List UInt8) (p : Nat) (f : List UInt8) : (orKey m key p f).length = f.length := by
  induction p with
  | zero => rfl
  | succ p ih => unfold orKey; rw [orBit_len, ih]
theorem orKeys_len (m p : Nat) (l : List (List UInt8)) (f : List UInt8) : (orKeys m p l f).length = f.length := by
  induction l generalizing f with
  | nil => rfl
  | cons k l ih => unfold orKeys; rw [ih, orKey_len]
theorem orBit_head (f : List UInt8) (j : Nat) : (orBit f j).headD 0 = f.headD 0 := by
  unfold orBit
  cases f with
  | nil => rfl
  | cons a r => rw [show 1 + j / 8 = j / 8 + 1 by omega, List.set_cons_succ]; rfl
theorem orKey_head (m : Nat) (key : List UInt8) (p : Nat) (f : List UInt8) : (orKey m key p f).headD 0 = f.headD 0 := by
  induction p with
  | zero => rfl
  | succ p ih => unfold orKey; rw [orBit_head, ih]
theorem orKeys_head (m p : Nat) (l : List (List UInt8)) (f : List UInt8) : (orKeys m p l f).headD 0 = f.headD 0 := by
  induction l generalizing f with
  | nil => rfl
  | cons k l ih => unfold orKeys; rw [ih, orKey_head]

theorem bitB_or (b : UInt8) {k m : Nat} (hk : k < 8) (hm : m < 8) : bitB (b ||| UInt8.ofNat (2 ^ k)) m = (bitB b m || decide (m = k)) := by
  have hp : 2 ^ k < 256 := by have := Nat.pow_le_pow_right (show 0 < 2 by omega) (show k ≤ 7 by omega); omega
  have h := bit_or_all b.toNat b.toNat_lt k hk m hm
  unfold bitB
  have e1 : (UInt8.ofNat (2 ^ k)).toNat = 2 ^ k := by rw [UInt8.toNat_ofNat']; exact Nat.mod_eq_of_lt hp
  rw [UInt8.toNat_or, e1, h.2]
  by_cases e : m = k
  · simp [e]
  · simp [e]
/-- The bits of a filter behind the setting of one. -/
theorem bitF_or {f : List UInt8} {j : Nat} (hj : j < 8 * (f.length - 1)) (i : Nat) : bitF (orBit f j) i = (bitF f i || decide (i = j)) := by
  have hk : 1 + j / 8 < f.length := by omega
  unfold bitF orBit
  by_cases e : 1 + i / 8 = 1 + j / 8
  · have h1 : (f.set (1 + j / 8) (f.getD (1 + j / 8) 0 ||| UInt8.ofNat (2 ^ (j % 8)))).getD (1 + i / 8) 0 = f.getD (1 + j / 8) 0 ||| UInt8.ofNat (2 ^ (j % 8)) := by
      rw [e, List.getD_eq_getElem?_getD, List.getElem?_set_self hk]; rfl
    rw [h1, bitB_or _ (Nat.mod_lt _ (by omega)) (Nat.mod_lt _ (by omega)), e]
    congr 1
    rw [decide_eq_decide]
    omega
  · have h1 : (f.set (1 + j / 8) (f.getD (1 + j / 8) 0 ||| UInt8.ofNat (2 ^ (j % 8)))).getD (1 + i / 8) 0 = f.getD (1 + i / 8) 0 := by
      rw [List.getD_eq_getElem?_getD, List.getElem?_set_ne (fun h => e h.symm), ← List.getD_eq_getElem?_getD]
    rw [h1]
    have : ¬ i = j := fun h => e (by rw [h])
    simp [this]
def hits (m p : Nat) (key : List UInt8) (i : Nat) : Bool := (List.range p).any fun k => decide (i = posK key m k)
theorem bitF_key {m p : Nat} {key f : List UInt8} (hm : m = 8 * (f.length - 1)) (h2 : 2 ≤ f.length) (i : Nat) : bitF (orKey m key p f) i = (bitF f i || hits m p key i) := by
  induction p with
  | zero => simp [orKey, hits]
  | succ p ih =>
    unfold orKey
    have hp : posK key m p < m := Nat.mod_lt _ (by omega)
    rw [bitF_or (by rw [orKey_len, ← hm]; exact hp), ih]
    unfold hits
    rw [List.range_succ, List.any_append, Bool.or_assoc]
    simp
theorem bitF_keys {m p : Nat} {l : List (List UInt8)} {f : List UInt8} (hm : m = 8 * (f.length - 1)) (h2 : 2 ≤ f.length) (i : Nat) : bitF (orKeys m p l f) i = (bitF f i || l.any fun key => hits m p key i) := by
  induction l generalizing f with
  | nil => simp [orKeys]
  | cons k l ih =>
    unfold orKeys
    rw [ih (by rw [orKey_len]; exact hm) (by rw [orKey_len]; exact h2), bitF_key hm h2, List.any_cons, Bool.or_assoc]

/-- A filter is its head and its bits. -/
theorem byte_ext : ∀ a, a < 256 → ∀ b, b < 256 → (∀ k, k < 8 → (a / 2 ^ k % 2 = 1 ↔ b / 2 ^ k % 2 = 1)) → a = b := by
  intro a ha b hb h
  have e : ∀ k, k < 8 → a / 2 ^ k % 2 = b / 2 ^ k % 2 := by
    intro k hk
    have h0 := h k hk
    rcases Nat.mod_two_eq_zero_or_one (a / 2 ^ k) with h1 | h1 <;> rcases Nat.mod_two_eq_zero_or_one (b / 2 ^ k) with h2 | h2
    · rw [h1, h2]
    · have := h0.2 h2; omega
    · have := h0.1 h1; omega
    · rw [h1, h2]
  have h0 := e 0 (by omega)
  have h1 := e 1 (by omega)
  have h2 := e 2 (by omega)
  have h3 := e 3 (by omega)
  have h4 := e 4 (by omega)
  have h5 := e 5 (by omega)
  have h6 := e 6 (by omega)
  have h7 := e 7 (by omega)
  clear e h
  simp only [Nat.pow_zero, Nat.div_one, Nat.reducePow] at h0 h1 h2 h3 h4 h5 h6 h7
  omega
theorem filter_ext {f g : List UInt8} (hl : f.length = g.length) (hh : f.headD 0 = g.headD 0) (hb : ∀ i, i < 8 * (f.length - 1) → bitF f i = bitF g i) : f = g := by
  apply List.ext_getElem hl
  intro n h1 h2
  cases n with
  | zero =>
    cases f with
    | nil => simp at h1
    | cons a r => cases g with
      | nil => simp at h2
      | cons b s => simpa using hh
  | succ n =>
    apply UInt8.toNat_inj.1
    refine byte_ext _ (UInt8.toNat_lt _) _ (UInt8.toNat_lt _) ?_
    intro k hk
    have h := hb (8 * n + k) (by omega)
    unfold bitF bitB at h
    rw [show 1 + (8 * n + k) / 8 = n + 1 by omega, show (8 * n + k) % 8 = k by omega, List.getD_eq_getElem?_getD, List.getD_eq_getElem?_getD, List.getElem?_eq_getElem h1, List.getElem?_eq_getElem h2, decide_eq_decide] at h
    exact h
/-- The order of the keys says nothing. -/
theorem orKeys_rev {m p : Nat} {l : List (List UInt8)} {f : List UInt8} (hm : m = 8 * (f.length - 1)) (h2 : 2 ≤ f.length) : orKeys m p l.reverse f = orKeys m p l f := by
  refine filter_ext (by rw [orKeys_len, orKeys_len]) (by rw [orKeys_head, orKeys_head]) ?_
  intro i _
  rw [bitF_keys hm h2, bitF_keys hm h2, List.any_reverse]

theorem isF_same {f g : List UInt8} (hl : f.length = g.length) (hh : f.headD 0 = g.headD 0) : isF f = isF g := by unfold isF; rw [hl, hh]
/-- A filter of no keys: its head, and zero bytes. -/
def zeroF (p : UInt8) (n : Nat) : List UInt8 := p :: List.replicate n 0
theorem zeroF_bit (p : UInt8) (n i : Nat) : bitF (zeroF p n) i = false := by
  have h : (zeroF p n).getD (1 + i / 8) 0 = 0 := by
    unfold zeroF
    rw [List.getD_eq_getElem?_getD, show 1 + i / 8 = i / 8 + 1 by omega, List.getElem?_cons_succ, List.getElem?_replicate]
    split <;> rfl
  unfold bitF bitB
  rw [h]
  simp
theorem zeroF_is {p : UInt8} {n : Nat} (hn : 8 ≤ n) (h1 : 1 ≤ p.toNat) (h2 : p.toNat ≤ 12) : isF (zeroF p n) = true := by
  unfold isF zeroF
  simp [h1, h2]
  omega
theorem zeroF_may {p : UInt8} {n : Nat} (hn : 8 ≤ n) (h1 : 1 ≤ p.toNat) (h2 : p.toNat ≤ 12) (key : List UInt8) : mayF (zeroF p n) key = false := by
  rw [mayF_yes (zeroF_is hn h1 h2)]
  exact allF_false (i := 0) (by unfold zeroF; exact h1) (zeroF_bit _ _ _)
theorem sumO_zero (n : Nat) : sumO (List.replicate n 0) = 0 := by
  induction n with
  | zero => rfl
  | succ n ih => rw [List.replicate_succ']; rw [sumO_snoc, ih]; rfl
theorem zeroF_count (p : UInt8) (n : Nat) : countF (zeroF p n) = 0 := by
  unfold countF
  split
  · exact sumO_zero n
  · rfl
/-- A key that a filter was built of may be one of its keys. -/
theorem may_keys {l : List (List UInt8)} {f key : List UInt8} (hf : isF f = true) (hk : key ∈ l) : mayF (orKeys (8 * (f.length - 1)) (f.headD 0).toNat l f) key = true := by
  have h9 := (isF_len hf).1
  rw [mayF_yes (by rw [isF_same (orKeys_len ..) (orKeys_head ..)]; exact hf), orKeys_head]
  unfold allF
  rw [List.all_eq_true]
  intro i hi
  rw [orKeys_len, bitF_keys rfl (by omega), Bool.or_eq_true]
  right
  rw [List.any_eq_true]
  refine ⟨key, hk, ?_⟩
  unfold hits
  rw [List.any_eq_true]
  exact ⟨i, hi, by simp⟩

theorem orL_len {a b : List UInt8} (h : a.length = b.length) : (orL a b).length = a.length := by unfold orL; rw [List.length_zipWith]; omega
theorem orL_get {a b : List UInt8} {n : Nat} (ha : n < a.length) (hb : n < b.length) : (orL a b)[n]? = some (a[n] ||| b[n]) := by
  unfold orL
  rw [List.getElem?_zipWith, List.getElem?_eq_getElem ha, List.getElem?_eq_getElem hb]
theorem orL_head {a b : List UInt8} (h : a.length = b.length) (hh : a.headD 0 = b.headD 0) : (orL a b).headD 0 = a.headD 0 := by
  cases a with
  | nil => rfl
  | cons x r => cases b with
    | nil => simp at h
    | cons y s =>
      have e : x = y := by simpa using hh
      subst e
      show (x ||| x) = x
      exact UInt8.or_self
theorem bitB_orB (x y : UInt8) (k : Nat) : bitB (x ||| y) k = (bitB x k || bitB y k) := by
  unfold bitB
  rw [UInt8.toNat_or, ← Nat.testBit_eq_decide_div_mod_eq, ← Nat.testBit_eq_decide_div_mod_eq, ← Nat.testBit_eq_decide_div_mod_eq, Nat.testBit_or]
theorem bitF_orL {a b : List UInt8} (h : a.length = b.length) {j : Nat} (hj : j < 8 * (a.length - 1)) : bitF (orL a b) j = (bitF a j || bitF b j) := by
  have hk : 1 + j / 8 < a.length := by omega
  unfold bitF
  rw [List.getD_eq_getElem?_getD, orL_get hk (by omega), List.getD_eq_getElem?_getD, List.getElem?_eq_getElem hk, List.getD_eq_getElem?_getD, List.getElem?_eq_getElem (by omega : 1 + j / 8 < b.length)]
  exact bitB_orB _ _ _
theorem bothOk_of {a b : List UInt8} (h : bothOk a b = true) : isF a = true ∧ isF b = true ∧ a.length = b.length ∧ a.headD 0 = b.headD 0 := by
  unfold bothOk at h
  simp only [Bool.and_eq_true, decide_eq_true_eq] at h
  exact ⟨h.1, h.2.1, h.2.2.1, h.2.2.2⟩
theorem may_both {a b key : List UInt8} (h : bothOk a b = true) (hk : mayF a key = true ∨ mayF b key = true) : mayF (orL a b) key = true := by
  obtain ⟨h1, h2, h3, h4⟩ := bothOk_of h
  have h9 := (isF_len h1).1
  rw [mayF_yes (by rw [isF_same (orL_len h3) (orL_head h3 h4)]; exact h1), orL_head h3 h4]
  unfold allF
  rw [List.all_eq_true]
  intro i hi
  rw [orL_len h3, bitF_orL h3 (pos_in (by omega) key i).1, Bool.or_eq_true]
  rcases hk with hk | hk
  · left
    rw [mayF_yes h1] at hk
    unfold allF at hk
    exact List.all_eq_true.1 hk i hi
  · right
    rw [mayF_yes h2] at hk
    unfold allF at hk
    rw [h3]
    rw [h4] at hi
    exact List.all_eq_true.1 hk i hi
theorem ones_or (x y : UInt8) : onesB (x ||| y).toNat ≤ onesB x.toNat + onesB y.toNat := by
  have hk : ∀ k, (x ||| y).toNat / 2 ^ k % 2 ≤ x.toNat / 2 ^ k % 2 + y.toNat / 2 ^ k % 2 := by
    intro k
    have h := bitB_orB x y k
    unfold bitB at h
    rcases Nat.mod_two_eq_zero_or_one ((x ||| y).toNat / 2 ^ k) with h1 | h1
    · omega
    · rw [h1] at h
      have h2 : (decide (x.toNat / 2 ^ k % 2 = 1) || decide (y.toNat / 2 ^ k % 2 = 1)) = true := by rw [← h]; rfl
      simp only [Bool.or_eq_true, decide_eq_true_eq] at h2
      omega
  have h0 := hk 0
  have h1 := hk 1
  have h2 := hk 2
  have h3 := hk 3
  have h4 := hk 4
  have h5 := hk 5
  have h6 := hk 6
  have h7 := hk 7
  simp only [Nat.pow_zero, Nat.div_one, Nat.reducePow] at h0 h1 h2 h3 h4 h5 h6 h7
  unfold onesB
  clear hk
  generalize (x ||| y).toNat % 2 = a0 at *
  generalize (x ||| y).toNat / 2 % 2 = a1 at *
  generalize (x ||| y).toNat / 4 % 2 = a2 at *
  generalize (x ||| y).toNat / 8 % 2 = a3 at *
  generalize (x ||| y).toNat / 16 % 2 = a4 at *
  generalize (x ||| y).toNat / 32 % 2 = a5 at *
  generalize (x ||| y).toNat / 64 % 2 = a6 at *
  generalize (x ||| y).toNat / 128 % 2 = a7 at *
  generalize x.toNat % 2 = b0 at *
  generalize x.toNat / 2 % 2 = b1 at *
  generalize x.toNat / 4 % 2 = b2 at *
  generalize x.toNat / 8 % 2 = b3 at *
  generalize x.toNat / 16 % 2 = b4 at *
  generalize x.toNat / 32 % 2 = b5 at *
  generalize x.toNat / 64 % 2 = b6 at *
  generalize x.toNat / 128 % 2 = b7 at *
  generalize y.toNat % 2 = c0 at *
  generalize y.toNat / 2 % 2 = c1 at *
  generalize y.toNat / 4 % 2 = c2 at *
  generalize y.toNat / 8 % 2 = c3 at *
  generalize y.toNat / 16 % 2 = c4 at *
  generalize y.toNat / 32 % 2 = c5 at *
  generalize y.toNat / 64 % 2 = c6 at *
  generalize y.toNat / 128 % 2 = c7 at *
  omega
theorem sumO_or (a b : List UInt8) : sumO (List.zipWith (fun x y => x ||| y) a b) ≤ sumO a + sumO b := by
  induction a generalizing b with
  | nil => simp [sumO]
  | cons x r ih =>
    cases b with
    | nil => simp [sumO]
    | cons y s =>
      have h1 := ones_or x y
      have h2 := ih s
      have e1 : ∀ (z : UInt8) (l : List UInt8), sumO (z :: l) = onesB z.toNat + sumO l := fun z l => by simp [sumO]
      rw [List.zipWith_cons_cons, e1, e1, e1]
      omega
theorem count_both {a b : List UInt8} (h : bothOk a b = true) : countF (orL a b) ≤ countF a + countF b := by
  obtain ⟨h1, h2, h3, h4⟩ := bothOk_of h
  unfold countF
  rw [if_pos h1, if_pos h2]
  split
  · have e : (orL a b).drop 1 = List.zipWith (fun x y => x ||| y) (a.drop 1) (b.drop 1) := by unfold orL; rw [List.drop_zipWith]
    rw [e]
    exact sumO_or _ _
  · omega
end Go.Proofs.Ytnmgbhpmmbhgoaa
