/-
  sort.Search at block's Seek; Seek and the reference's.
-/
import Derived.Test.YteagjjiggneheaaSame10
import Derived.Laws.Cover1
namespace Go.Proofs.Yteagjjiggneheaa
open Go.RowKit
set_option linter.unusedVariables false

/-- Is a key not less than one? -/
def notLess (key : List UInt8) (p : KV) : Bool := !Op.bytesLess p.1 key
/-- The first pair whose key is not less. -/
def firstAt (key : List UInt8) (l : List KV) : Nat := (l.takeWhile fun p => Op.bytesLess p.1 key).length

/-- The boxes of Seek: the pairs, the key. -/
structure SeekBox (w : World) (bl bk : Nat) (A : Option Addr) (c : Nat) (l : List Pr) (AK : Option Addr) (cK : Nat) (key : List UInt8) : Prop where
  lc : w.cell? ⟨bl, 0, none⟩ = some (.slice A l.length c)
  kc : w.cell? ⟨bk, 0, none⟩ = some (.slice AK key.length cK)
  row : PrRow w w.heap.size A l
  kb : Bytes w w.heap.size AK key

set_option maxRecDepth 100000 in
set_option maxHeartbeats 1000000 in
theorem seekFn_any (w : World) (bl bk : Nat) (A : Option Addr) (c : Nat) (l : List Pr) (AK : Option Addr) (cK : Nat) (key : List UInt8) (h : SeekBox w bl bk A c l AK cK key) (i : Nat) (hi : i < l.length) (hl : l.length ≤ 1000000000) :
    Calls Try.prog 34 #[.int .i64 (i : Int), .pointer (some ⟨bl, 0, none⟩), .pointer (some ⟨bk, 0, none⟩)] w fun e w' => e = .returned (.bool (match l[i]? with | some p => notLess key p.pair | none => false)) ∧ ∃ n, w' = w.drewN n := by
  obtain ⟨ad, p, hA, hb, hp, hc1, hd1, ho⟩ := h.row.get hi
  subst hA
  rw [hp.out]
  have hcm := fun m => compare_any (w := w.drewN m) (c1 := p.c) (c2 := cK) (drewN_bytes ho.k) rfl (drewN_bytes h.kb) rfl
  have HCM := hide hcm
  have k0 := h.lc
  have k1 := h.kc
  have hv : (decide (0 ≤ Lib.compareBytes p.k key)) = notLess key p.pair := by
    have h2 := (compare_less p.k key).2.1
    show _ = !Op.bytesLess p.k key
    cases hb : Op.bytesLess p.k key
    · rw [hb] at h2
      simp
      rcases Int.lt_or_le (Lib.compareBytes p.k key) 0 with h | h
      · have := h2.1 h; cases this
      · exact h
    · have := h2.2 hb
      simp
      omega
  have HV := hide hv
  have j1 : (i : Int) < (l.length : Int) := by omega
  clear hcm ho h hp hv
  go_enter Try.func34, Try.ntmps34
  go_wp2
  go_quiet ((go_at_call 18; exact Calls.quiet_of_same (HCM.out _)))
  go_wp2
  go_ret
  exact ⟨by rw [← HV.out]; rfl, _, rfl⟩

theorem less_trans {a b c : List UInt8} (h1 : Op.bytesLess a b = true) (h2 : Op.bytesLess b c = true) : Op.bytesLess a c = true := by
  induction a generalizing b c with
  | nil =>
    cases c with
    | nil => cases b <;> simp [Op.bytesLess] at h2
    | cons z c => simp [Op.bytesLess]
  | cons x a ih =>
    cases b with
    | nil => simp [Op.bytesLess] at h1
    | cons y b =>
      cases c with
      | nil => simp [Op.bytesLess] at h2
      | cons z c =>
        unfold Op.bytesLess at h1 h2 ⊢
        have hx := x.toNat_lt
        simp only [Bool.or_eq_true, Bool.and_eq_true, decide_eq_true_eq, beq_iff_eq] at h1 h2 ⊢
        rcases h1 with h1 | ⟨h1, h3⟩
        · rcases h2 with h2 | ⟨h2, h4⟩
          · exact .inl (Nat.lt_trans h1 h2)
          · exact .inl (by rw [← h2]; exact h1)
        · rcases h2 with h2 | ⟨h2, h4⟩
          · exact .inl (by rw [h1]; exact h2)
          · exact .inr ⟨h1.trans h2, ih h3 h4⟩
/-- Where the first one stands. -/
def IsFirst (key : List UInt8) (l : List KV) (m : Nat) : Prop := m ≤ l.length ∧ (∀ (k : Nat) (p : KV), k < m → l[k]? = some p → notLess key p = false) ∧ ∀ p, l[m]? = some p → notLess key p = true
def Mono (key : List UInt8) (l : List KV) : Prop := ∀ (a b : Nat) (p q : KV), a ≤ b → l[a]? = some p → l[b]? = some q → notLess key p = true → notLess key q = true
def SearchTo (key : List UInt8) (l : List KV) (i j : Nat) : Prop := (∀ (k : Nat) (p : KV), k < i → l[k]? = some p → notLess key p = false) ∧ ∀ (k : Nat) (p : KV), j ≤ k → l[k]? = some p → notLess key p = true

set_option maxRecDepth 100000 in
set_option maxHeartbeats 1000000 in
theorem search_any (w : World) (bl bk : Nat) (A : Option Addr) (c : Nat) (l : List Pr) (AK : Option Addr) (cK : Nat) (key : List UInt8) (h : SeekBox w bl bk A c l AK cK key) (hl : l.length ≤ 1000000000) (hm : Mono key (l.map Pr.pair)) :
    Calls Try.prog 33 #[.int .i64 (l.length : Int), .func (.func 34) #[] #[.pointer (some ⟨bl, 0, none⟩), .pointer (some ⟨bk, 0, none⟩)]] w fun e w' => (∃ m : Nat, e = .returned (.int .i64 (m : Int)) ∧ IsFirst key (l.map Pr.pair) m) ∧ ∃ n, w' = w.drewN n := by
  have HM := hide hm
  have HF := hide fun m i hi => seekFn_any (w.drewN m) bl bk A c l AK cK key ⟨h.lc, h.kc, ⟨h.row.1, h.row.2⟩, h.kb⟩ i hi hl
  clear h hm
  go_enter Try.func33, Try.ntmps33
  go_wp2
  go_loopw [5, 6] (fun i j wr => ∃ a b n : Nat, a ≤ b ∧ b ≤ l.length ∧ i = .int .i64 (a : Int) ∧ j = .int .i64 (b : Int) ∧ wr = w.drewN n ∧ Hid (SearchTo key (l.map Pr.pair) a b)) (fun i j _ => (intOf j - intOf i).toNat)
  case atStart => exact ⟨0, l.length, 0, Nat.zero_le _, Nat.le_refl _, rfl, rfl, rfl, ⟨fun k p hk => by omega, fun k p hk hp => by have := (List.getElem?_eq_some_iff.1 hp).1; rw [List.length_map] at this; omega⟩⟩
  case round =>
    obtain ⟨a, b, n, hab, hbl, rfl, rfl, rfl, HS⟩ := hrel
    by_cases hlt : a < b
    · obtain ⟨m, hm⟩ : ∃ m, m = (a + b) / 2 := ⟨_, rfl⟩
      have hmi : (m : Int) = ((a : Int) + (b : Int)) / 2 := by omega
      have hm1 : a ≤ m := by omega
      have hm2 : m < b := by omega
      have HMI := hide hmi
      obtain ⟨q, hp⟩ : ∃ q, l[m]? = some q := ⟨_, List.getElem?_eq_getElem (by omega)⟩
      have hff := HF.out n m (by omega)
      rw [hp] at hff
      dsimp only at hff
      have hpm : (l.map Pr.pair)[m]? = some q.pair := by rw [List.getElem?_map, hp]; rfl
      have HFF := hide hff
      have HP := hide hpm
      clear hm hmi hp hff hpm
      go_wp2_with fail
      rw [← HMI.out]
      refine HFF.out.mono ?_
      clear HFF
      cases hv : notLess key q.pair with
      | false =>
        rintro e w' ⟨rfl, n2, rfl⟩
        have HS2 : Hid (SearchTo key (l.map Pr.pair) (m + 1) b) := by
          refine ⟨fun k p hk hq' => ?_, HS.out.2⟩
          rcases hn : notLess key p with _ | _
          · rfl
          · have := HM.out k m p _ (by omega) hq' HP.out hn
            rw [hv] at this
            cases this
        clear hv HP HS HMI
        go_wp2
        go_roundw
        case rel => exact ⟨m + 1, b, n + n2, by omega, hbl, by go_num, rfl, rfl, HS2.out⟩
        case measure => simp [intOf]; omega
      | true =>
        rintro e w' ⟨rfl, n2, rfl⟩
        have HS2 : Hid (SearchTo key (l.map Pr.pair) a m) := by
          refine ⟨HS.out.1, fun k p hk hq => ?_⟩
          exact HM.out m k _ p hk HP.out hq hv
        clear hv HP HS HMI
        go_wp2
        go_roundw
        case rel => exact ⟨a, m, n + n2, hm1, by omega, rfl, rfl, rfl, HS2.out⟩
        case measure => simp [intOf]; omega
    · obtain rfl : a = b := by omega
      have HI : Hid (IsFirst key (l.map Pr.pair) a) := ⟨by rw [List.length_map]; exact hbl, HS.out.1, fun p hp => HS.out.2 a p (Nat.le_refl _) hp⟩
      clear HS
      go_wp2
      go_ret
      exact ⟨⟨a, rfl, HI.out⟩, n, rfl⟩
end Go.Proofs.Yteagjjiggneheaa
