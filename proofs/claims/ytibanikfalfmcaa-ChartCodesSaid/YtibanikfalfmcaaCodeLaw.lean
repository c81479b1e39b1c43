/-
  The plain law of codes: what is taken is what was put, and the other way round.
-/
import Derived.Test.YtibanikfalfmcaaTakeMath
namespace Go.Proofs.Ytibanikfalfmcaa
set_option linter.unusedVariables false

theorem moreLE_fuel {f m : Nat} (h : m < 128 ^ f) : moreLE f m = moreLE (f + 1) m := by
  induction f generalizing m with
  | zero =>
    have : m = 0 := by simpa using h
    subst this
    rfl
  | succ f ih =>
    by_cases hm : m = 0
    · subst hm; rw [moreLE_zero, moreLE_zero]
    · rw [moreLE_step hm, moreLE_step hm, ih (div_lt_pow h)]

/-- The digits ahead of the last one. -/
def preB (n : Nat) : List UInt8 := (moreLE 10 n).reverse

theorem numB_pre (n : Nat) : numB n = preB (n / 128) ++ [UInt8.ofNat (n % 128)] := by
  unfold numB lowFirst preB
  rw [List.reverse_cons]
theorem preB_zero : preB 0 = [] := by unfold preB; rw [moreLE_zero]; rfl
theorem preB_step {n : Nat} (h : n ≠ 0) (hn : n < 18446744073709551616) : preB n = preB (n / 128) ++ [UInt8.ofNat (n % 128 + 128)] := by
  unfold preB
  have e : moreLE 10 n = UInt8.ofNat (n % 128 + 128) :: moreLE 9 (n / 128) := moreLE_step h
  have hd : n / 128 < 128 ^ 9 := by
    have : (128 : Nat) ^ 9 = 9223372036854775808 := by decide
    omega
  rw [e, moreLE_fuel hd, List.reverse_cons]

theorem preB_head {n : Nat} (h : n ≠ 0) (hn : n < 18446744073709551616) (r : List UInt8) : (preB n ++ r).headD 0 ≠ 128 := by
  induction n using Nat.strongRecOn generalizing r with
  | _ n ih =>
    rw [preB_step h hn, List.append_assoc]
    by_cases hq : n / 128 = 0
    · rw [hq, preB_zero]
      show UInt8.ofNat (n % 128 + 128) ≠ 128
      intro e
      have := congrArg UInt8.toNat e
      rw [UInt8.toNat_ofNat', show (128 : UInt8).toNat = 128 from rfl] at this
      omega
    · exact ih (n / 128) (by omega) hq (by omega) _

theorem ofNat_high (x : Nat) (h : x < 128) : (UInt8.ofNat (x + 128)).toNat = x + 128 := by rw [UInt8.toNat_ofNat']; omega
theorem ofNat_low (x : Nat) (h : x < 256) : (UInt8.ofNat x).toNat = x := by rw [UInt8.toNat_ofNat']; omega

theorem take_pre {f : UInt8} {q : Nat} (hq : q < 144115188075855872) (hf : q ≠ 0 → f ≠ 128) (r : List UInt8) : takeLoop f 0 0 (preB q ++ r) = takeLoop f (preB q).length q r := by
  induction q using Nat.strongRecOn generalizing r with
  | _ q ih =>
    by_cases h0 : q = 0
    · subst h0; rw [preB_zero]; rfl
    · rw [preB_step h0 (by omega), List.append_assoc, ih (q / 128) (by omega) (by omega) (fun _ => hf h0)]
      have hno : ¬ (144115188075855872 ≤ q / 128 ∨ (0 < (preB (q / 128)).length ∧ f = 128)) := by
        rintro (h | h)
        · omega
        · exact hf h0 h.2
      have hx : (UInt8.ofNat (q % 128 + 128)).toNat = q % 128 + 128 := ofNat_high _ (Nat.mod_lt _ (by omega))
      show takeLoop f _ _ (UInt8.ofNat (q % 128 + 128) :: r) = _
      rw [takeLoop_next hno (by rw [hx]; omega), hx, List.length_append, List.length_singleton]
      congr 1
      omega

/-- What was put is taken. -/
theorem takeN_num {n : Nat} (hn : n < 18446744073709551616) (r : List UInt8) : takeN (numB n ++ r) = some (n, r) := by
  unfold takeN
  rw [numB_pre, List.append_assoc]
  have hx : (UInt8.ofNat (n % 128)).toNat = n % 128 := ofNat_low _ (by omega)
  have hf : n / 128 ≠ 0 → (preB (n / 128) ++ ([UInt8.ofNat (n % 128)] ++ r)).headD 0 ≠ 128 := fun h => preB_head h (by omega) _
  generalize hfd : (preB (n / 128) ++ ([UInt8.ofNat (n % 128)] ++ r)).headD 0 = f at *
  rw [take_pre (by omega) hf]
  have hno : ¬ (144115188075855872 ≤ n / 128 ∨ (0 < (preB (n / 128)).length ∧ f = 128)) := by
    rintro (h | h)
    · omega
    · by_cases hz : n / 128 = 0
      · rw [hz, preB_zero] at h; simp at h
      · exact hf hz h.2
  show takeLoop f _ _ (UInt8.ofNat (n % 128) :: r) = _
  rw [takeLoop_end hno (by rw [hx]; omega), hx]
  have : n / 128 * 128 + n % 128 % 128 = n := by omega
  rw [this]

/-- What is taken was put. -/
theorem takeLoop_put {f : UInt8} {i n : Nat} {b : List UInt8} {m : Nat} {r : List UInt8} (h : takeLoop f i n b = some (m, r)) (hi : (i = 0 ∧ n = 0 ∧ b.headD 0 = f) ∨ (0 < i ∧ n ≠ 0)) :
    preB n ++ b = numB m ++ r := by
  induction b generalizing i n with
  | nil => cases h
  | cons c t ih =>
    by_cases hno : 144115188075855872 ≤ n ∨ (0 < i ∧ f = 128)
    · rw [takeLoop_none hno] at h; cases h
    · have hn : n < 144115188075855872 := by
        rcases Nat.lt_or_ge n 144115188075855872 with h' | h'
        · exact h'
        · exact absurd (.inl h') hno
      have hc := c.toNat_lt
      by_cases hlow : c.toNat < 128
      · rw [takeLoop_end hno hlow] at h
        injection h with h
        simp only [Prod.mk.injEq] at h
        obtain ⟨hm, rfl⟩ := h
        have e1 : m / 128 = n := by omega
        have e2 : m % 128 = c.toNat := by omega
        rw [numB_pre, e1, e2, List.append_assoc, UInt8.ofNat_toNat]
        rfl
      · rw [takeLoop_next hno hlow] at h
        have hz : n * 128 + c.toNat % 128 ≠ 0 := by
          intro hz
          have hc128 : c = 128 := UInt8.toNat_inj.1 (by rw [show (128 : UInt8).toNat = 128 from rfl]; omega)
          have hf : f = 128 := by
            rcases hi with ⟨_, _, h3⟩ | ⟨_, h2⟩
            · have : c = f := h3
              rw [← this, hc128]
            · omega
          rw [takeLoop_none (.inr ⟨by omega, hf⟩)] at h
          cases h
        have := ih h (.inr ⟨by omega, hz⟩)
        rw [← this, preB_step hz (by omega)]
        have e1 : (n * 128 + c.toNat % 128) / 128 = n := by omega
        have e2 : (n * 128 + c.toNat % 128) % 128 + 128 = c.toNat := by omega
        rw [e1, e2, UInt8.ofNat_toNat, List.append_assoc]
        rfl
theorem takeN_put {b : List UInt8} {m : Nat} {r : List UInt8} (h : takeN b = some (m, r)) : b = numB m ++ r := by
  have := takeLoop_put h (.inl ⟨rfl, rfl, rfl⟩)
  rw [preB_zero] at this
  exact this

theorem takeT_text {t : List UInt8} (ht : t.length < 18446744073709551616) (r : List UInt8) : takeT (textB t ++ r) = some (t, r) := by
  unfold textB
  rw [List.append_assoc, takeT_some (takeN_num ht (t ++ r)) (by simp), List.take_left, List.drop_left]
theorem takeT_put {b t r : List UInt8} (h : takeT b = some (t, r)) : b = textB t ++ r := by
  unfold takeT at h
  cases hn : takeN b with
  | none => rw [hn] at h; cases h
  | some x =>
    obtain ⟨n, r0⟩ := x
    rw [hn] at h
    dsimp only at h
    split at h
    · rename_i hle
      injection h with h
      simp only [Prod.mk.injEq] at h
      obtain ⟨rfl, rfl⟩ := h
      have hb := takeN_put hn
      unfold textB
      rw [List.length_take, Nat.min_eq_left hle, List.append_assoc, List.take_append_drop]
      exact hb
    · cases h
end Go.Proofs.Ytibanikfalfmcaa
