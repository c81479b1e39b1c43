/-
  The laws of chapter 4, walked: one byte turned, two neighbours moved.
-/
import Derived.Test.YtmcmooggcphelaaLaws04
import Derived.Deep.RegionHeld3
namespace Go.Proofs.Ytmcmooggcphelaa
open Go.RowKit
set_option linter.unusedVariables false

theorem checkTurned_any (A : Option Addr) (c : Nat) (us : List UInt8) (at_ : Int) (t : UInt8) (w : World) (hra : Bytes w w.heap.size A us) (hla : us.length ≤ 9223372036854775807) (hat0 : -9223372036854775808 ≤ at_) (hat1 : at_ ≤ 9223372036854775807) :
    Calls Try.prog 4 #[.slice A us.length c, .int .i64 at_, .int .u8 (t.toNat : Int)] w fun e w' => e = .returned (.bool true) ∧ Below w.heap.size w w' := by
  by_cases hL0 : us.length = 0
  · have hz : ((us.length : Int) == 0) = true := by simp [hL0]
    have HL := hide hL0
    clear hL0
    go_enter Try.func4, Try.ntmps4
    go_wp2_with (go_at_call 9; refine (awake_any _).mono ?_; rintro e w1 ⟨rfl, hb1⟩)
    go_ret
    exact ⟨rfl, hb1⟩
  have hz : ((us.length : Int) == 0) = false := by simp; intro h; exact hL0 (by simp [h])
  by_cases hL : 1000000 < us.length
  · go_enter Try.func4, Try.ntmps4
    go_wp2_with (go_at_call 9; refine (awake_any _).mono ?_; rintro e w1 ⟨rfl, hb1⟩)
    go_ret
    exact ⟨rfl, hb1⟩
  by_cases hn : at_ < 0
  · go_enter Try.func4, Try.ntmps4
    go_wp2_with (go_at_call 9; refine (awake_any _).mono ?_; rintro e w1 ⟨rfl, hb1⟩)
    go_ret
    exact ⟨rfl, hb1⟩
  by_cases ht : t = 0
  · subst ht
    go_enter Try.func4, Try.ntmps4
    go_wp2_with (go_at_call 9; refine (awake_any _).mono ?_; rintro e w1 ⟨rfl, hb1⟩)
    go_ret
    exact ⟨rfl, hb1⟩
  have htz : ((t.toNat : Int) == 0) = false := by
    simp
    intro h
    exact ht (UInt8.toNat_inj.1 (by rw [show (0 : UInt8).toNat = 0 from rfl]; omega))
  have Ht := hide ht
  clear ht
  obtain ⟨n, rfl⟩ := Int.eq_ofNat_of_zero_le (show 0 ≤ at_ by omega)
  go_enter Try.func4, Try.ntmps4
  go_wp2_with (first
    | (go_at_call 9; refine (awake_any _).mono ?_; rintro e w1 ⟨rfl, hb1⟩)
    | (at_builtin; refine halted ?_))
  refine go_on ?_
  refine wpList_append_bytes _ rfl (.tmp 27) (.tmp 28) 23 rfl w.heap.size 5 Try.underlying23 info_u8 _ _ _ [] rfl rfl (OwnB.lit w1 _ [] hb1.size (by simp)) _ A _ c us rfl rfl ((hra.below hb1).alloc hb1.size _) (by simp; omega) (by have := hb1.size; simp; omega) ?_
  intro d1 A1 c1' w2 hd1 hdl1 hown1 hg1 hat1
  have q1 : Below w.heap.size w (w1.alloc (.cells #[] 5)) := hb1.alloc hb1.size _
  have hb2 : Below w.heap.size w w2 := q1.grown hg1 (by have := hb1.size; simp; omega) (by intro k hk; simp at hk; have := hb1.size; omega)
  have hd1e : d1 = us := by rw [hd1.out]; rfl
  subst hd1e
  obtain ⟨g, rfl, hbg, hgl⟩ := hown1.form (by omega)
  have hk : n % d1.length < d1.length := Nat.mod_lt _ (by omega)
  obtain ⟨b, hb⟩ : ∃ b, Hid (d1[n % d1.length]? = some b) := ⟨_, List.getElem?_eq_getElem hk⟩
  have hcell := hown1.cellAt hb.out
  have hfro := hown1.frozenAt (n % d1.length)
  obtain ⟨b', hb'⟩ : ∃ b', Hid (b' = b ^^^ t) := ⟨_, rfl⟩
  have hstored := hown1.stored (n % d1.length) b'
  have hx : bits .xor .u8 (b.toNat : Int) (t.toNat : Int) = (b'.toNat : Int) := by
    rw [u8_xor_nat _ _ b.toNat_lt t.toNat_lt, hb'.out]; simp
  have hne : d1 ≠ [] := by intro h; subst h; simp at hk
  have hsum : addS 0 d1 ≠ addS 0 (d1.set (n % d1.length) b') := by
    intro h
    have h1 := addS_set hb.out h
    have h2 : b ^^^ b = b ^^^ (b ^^^ t) := by rw [← hb'.out, ← h1]
    rw [← UInt8.xor_assoc, UInt8.xor_self, UInt8.zero_xor] at h2
    exact Ht.out h2.symm
  have hsum := hide hsum
  have hkI : (n : Int) % (d1.length : Int) < (d1.length : Int) := by omega
  have hkI0 : 0 ≤ (n : Int) % (d1.length : Int) := by omega
  have HD := hide hd1
  have HS := hide hstored
  clear hg1 hat1 q1 hd1 hstored hown1 hL0 hb1
  go_wp2_with (go_at_call 12; refine halted ?_)
  refine go_on ?_
  have hb3 : Below w.heap.size w (w2.setCell ⟨g, n % d1.length, none⟩ (.int .u8 (b'.toNat : Int))) := hb2.setCell (p := ⟨g, n % d1.length, none⟩) hbg _
  generalize w2.setCell ⟨g, n % d1.length, none⟩ (.int .u8 (b'.toNat : Int)) = w3 at *
  clear hcell hfro hb2
  refine (sum_any A _ c d1 _ (hra.below hb3) hb3.size (by omega)).mono ?_
  rintro e w4 ⟨rfl, hb4⟩
  have hb04 := hb3.trans (hb4.mono hb3.size)
  have hr4 := (HS.out.bytes).below hb4
  go_wp2_with (go_at_call 12; refine halted ?_)
  refine go_on ?_
  refine (sum_n _ _ _ _ _ _ (by simp) hr4 hb4.size (by simp; omega)).mono ?_
  rintro e w5 ⟨rfl, hb5⟩
  have hb05 := hb04.trans (hb5.mono hb04.size)
  have hbo : ((addS 0 d1 : Int) != (addS 0 (d1.set (n % d1.length) b') : Int)) = true := by rw [bne_iff_ne]; intro h; exact hsum.out (by omega)
  go_wp2_with fail
  go_ret
  exact ⟨rfl, hb05⟩

/-- Two neighbours, moved. -/
def swapped (l : List UInt8) (k : Nat) (x y : UInt8) : List UInt8 := (l.set k y).set (k + 1) x

theorem swapped_len (l : List UInt8) (k : Nat) (x y : UInt8) : (swapped l k x y).length = l.length := by simp [swapped]

theorem swapped_sum {l : List UInt8} {k : Nat} {x y : UInt8} (h : l[k]? = some x) (h' : l[k + 1]? = some y) : addS 0 l = addS 0 (swapped l k x y) ↔ x = y := by
  have hk : k + 1 < l.length := lt_of_some h'
  have e0 := split_at h
  have e1 : l.drop (k + 1) = y :: l.drop (k + 2) := by
    rw [List.drop_eq_getElem_cons hk]
    rw [List.getElem?_eq_getElem hk] at h'
    injection h' with h'
    rw [h']
  rw [e1] at e0
  have e2 : swapped l k x y = l.take k ++ y :: x :: l.drop (k + 2) := by
    unfold swapped
    rw [set_at y (by omega), e1, List.set_append_right _ _ (by simp; omega)]
    have : k + 1 - (l.take k).length = 1 := by simp; omega
    rw [this]
    rfl
  rw [e2]
  conv => lhs; lhs; rw [e0]
  exact addS_moved _ _ _ _

theorem keepS {w3 w' w4 : World} {p q : Addr} {u v : Value} (hp : p.block < w3.heap.size) (hq : q.block < w3.heap.size)
    (h : w'.cell? p = some u ∧ w'.cell? q = some v ∧ Below w3.heap.size w3 w') (hb : Below w'.heap.size w' w4) : w4.cell? p = some u ∧ w4.cell? q = some v ∧ Below w3.heap.size w3 w4 :=
  ⟨(hb.cell (Nat.lt_of_lt_of_le hp h.2.2.size)).trans h.1, (hb.cell (Nat.lt_of_lt_of_le hq h.2.2.size)).trans h.2.1, h.2.2.trans (hb.mono h.2.2.size)⟩

theorem checkMoved_any (A : Option Addr) (c : Nat) (us : List UInt8) (at_ : Int) (w : World) (hra : Bytes w w.heap.size A us) (hla : us.length ≤ 9223372036854775807) (hat0 : -9223372036854775808 ≤ at_) (hat1 : at_ ≤ 9223372036854775807) :
    Calls Try.prog 5 #[.slice A us.length c, .int .i64 at_] w fun e w' => e = .returned (.bool true) ∧ Below w.heap.size w w' := by
  by_cases hL0 : us.length < 2
  · go_enter Try.func5, Try.ntmps5
    go_wp2_with (go_at_call 9; refine (awake_any _).mono ?_; rintro e w1 ⟨rfl, hb1⟩)
    go_ret
    exact ⟨rfl, hb1⟩
  by_cases hL : 1000000 < us.length
  · go_enter Try.func5, Try.ntmps5
    go_wp2_with (go_at_call 9; refine (awake_any _).mono ?_; rintro e w1 ⟨rfl, hb1⟩)
    go_ret
    exact ⟨rfl, hb1⟩
  by_cases hn : at_ < 0
  · go_enter Try.func5, Try.ntmps5
    go_wp2_with (go_at_call 9; refine (awake_any _).mono ?_; rintro e w1 ⟨rfl, hb1⟩)
    go_ret
    exact ⟨rfl, hb1⟩
  obtain ⟨n, rfl⟩ := Int.eq_ofNat_of_zero_le (show 0 ≤ at_ by omega)
  go_enter Try.func5, Try.ntmps5
  go_wp2_with (first
    | (go_at_call 9; refine (awake_any _).mono ?_; rintro e w1 ⟨rfl, hb1⟩)
    | (at_builtin; refine halted ?_))
  refine go_on ?_
  refine wpList_append_bytes _ rfl (.tmp 23) (.tmp 24) 23 rfl w.heap.size 5 Try.underlying23 info_u8 _ _ _ [] rfl rfl (OwnB.lit w1 _ [] hb1.size (by simp)) _ A _ c us rfl rfl ((hra.below hb1).alloc hb1.size _) (by simp; omega) (by have := hb1.size; simp; omega) ?_
  intro d1 A1 c1' w2 hd1 hdl1 hown1 hg1 hat1
  have q1 : Below w.heap.size w (w1.alloc (.cells #[] 5)) := hb1.alloc hb1.size _
  have hb2 : Below w.heap.size w w2 := q1.grown hg1 (by have := hb1.size; simp; omega) (by intro k hk; simp at hk; have := hb1.size; omega)
  have hd1e : d1 = us := by rw [hd1.out]; rfl
  subst hd1e
  obtain ⟨g, rfl, hbg, hgl⟩ := hown1.form (by omega)
  have hk : n % (d1.length - 1) + 1 < d1.length := by have := Nat.mod_lt n (show 0 < d1.length - 1 by omega); omega
  have hkI : (n : Int) % ((d1.length : Int) - 1) + 1 < (d1.length : Int) := by
    have e1 : ((d1.length : Int) - 1) = ((d1.length - 1 : Nat) : Int) := by omega
    rw [e1]; omega
  have hkI0 : 0 ≤ (n : Int) % ((d1.length : Int) - 1) := Int.emod_nonneg _ (by omega)
  have hkN : ((n : Int) % ((d1.length : Int) - 1)) = ((n % (d1.length - 1) : Nat) : Int) := by
    have e1 : ((d1.length : Int) - 1) = ((d1.length - 1 : Nat) : Int) := by omega
    rw [e1]; omega
  generalize hm : n % (d1.length - 1) = m at *
  obtain ⟨x, hx⟩ : ∃ b, Hid (d1[m]? = some b) := ⟨_, List.getElem?_eq_getElem (by omega)⟩
  obtain ⟨y, hy⟩ : ∃ b, Hid (d1[m + 1]? = some b) := ⟨_, List.getElem?_eq_getElem (by omega)⟩
  have hcx := hown1.cellAt hx.out
  have hcy := hown1.cellAt hy.out
  have hfx := hown1.frozenAt m
  have hfy := hown1.frozenAt (m + 1)
  have hst1 := hown1.stored m y
  have hst := hst1.stored (m + 1) x
  have hd : (d1.set m y).set (m + 1) x = swapped d1 m x y := rfl
  rw [hd] at hst
  have HD := hide hd1
  have HS := hide hst
  have HM := hide hm
  clear hg1 hat1 q1 hd1 hst hst1 hown1 hL0 hb1 hm hd
  go_wp2_with fail
  have hb3 : Below w.heap.size w ((w2.setCell ⟨g, m, none⟩ (.int .u8 (y.toNat : Int))).setCell ⟨g, m + 1, none⟩ (.int .u8 (x.toNat : Int))) := (hb2.setCell (p := ⟨g, m, none⟩) hbg _).setCell (p := ⟨g, m + 1, none⟩) hbg _
  obtain ⟨ad, x', rfl, hadb, hx', hax⟩ := hra.at_ (k := m) (by omega)
  obtain ⟨ad', y', had, _, hy', hay⟩ := hra.at_ (k := m + 1) (by omega)
  injection had with had
  subst had
  obtain rfl : x = x' := by have := hx.out.symm.trans hx'.out; injection this
  obtain rfl : y = y' := by have := hy.out.symm.trans hy'.out; injection this
  generalize (w2.setCell ⟨g, m, none⟩ (.int .u8 (y.toNat : Int))).setCell ⟨g, m + 1, none⟩ (.int .u8 (x.toNat : Int)) = w3 at *
  clear hcx hcy hfx hfy hb2
  have hax3 : w3.cell? (ad.add m) = some (.int .u8 (x.toNat : Int)) := (hb3.cell (by rw [add_block]; exact hadb)).trans hax
  have hae : ad.add (m + 1) = ⟨ad.block, ad.off + (m + 1), none⟩ := by unfold Addr.add; rw [if_neg (by omega)]
  rw [hae] at hay
  have hay3 : w3.cell? ⟨ad.block, ad.off + (m + 1), none⟩ = some (.int .u8 (y.toNat : Int)) := (hb3.cell (p := ⟨ad.block, ad.off + (m + 1), none⟩) hadb).trans hay
  clear hae
  clear hax hay
  have hap : (ad.add m).block < w3.heap.size := by rw [add_block]; exact Nat.lt_of_lt_of_le hadb hb3.size
  have haq : (⟨ad.block, ad.off + (m + 1), none⟩ : Addr).block < w3.heap.size := Nat.lt_of_lt_of_le hadb hb3.size
  have hr3 := hra.below hb3
  have hs3 := HS.out.bytes
  have hm0 : (0 : Int) ≤ (m : Int) := by omega
  have hm1 : (m : Int) < (d1.length : Int) := by omega
  have hm2 : (m : Int) + 1 < (d1.length : Int) := by omega
  have hm3 : (0 : Int) ≤ (m : Int) + 1 := by omega
  have hm4 : IntKind.i64.wrap ((m : Int) + 1) = (m : Int) + 1 := IntWalk.i64_in _ (by omega)
  have hm5 : ((m : Int) + 1).toNat = m + 1 := by omega
  clear hkI hkI0 hk
  go_region_held3 (fun w' => w'.cell? (ad.add m) = some (.int .u8 (x.toNat : Int)) ∧ w'.cell? ⟨ad.block, ad.off + (m + 1), none⟩ = some (.int .u8 (y.toNat : Int)) ∧ Below w3.heap.size w3 w')
    (first | assumption | exact ⟨hax3, hay3, (Below.refl _ _).drew⟩)
    (first
      | (go_at_call_of 12 (Value.slice (some ad) d1.length c); refine (sum_any (some ad) w.heap.size c d1 _ ?_ ?_ ?_).mono ?_; exact hr3.belowLe (And.right (And.right (by assumption))) hb3.size; exact Nat.le_trans hb3.size (Below.size (And.right (And.right (by assumption)))); omega; rintro e w4 ⟨rfl, hb4⟩; have hS4 := keepS (q := ⟨ad.block, ad.off + (m + 1), none⟩) hap haq (by assumption) hb4)
      | (go_at_call_of 12 (Value.slice (some ⟨g, 0, none⟩) d1.length c1'); refine (sum_n (some ⟨g, 0, none⟩) w3.heap.size c1' _ (swapped d1 m x y) _ (swapped_len _ _ _ _) ?_ ?_ ?_).mono ?_; exact hs3.below (And.right (And.right (by assumption))); exact Below.size (And.right (And.right (by assumption))); (rw [swapped_len]; omega); rintro e w4 ⟨rfl, hb4⟩; have hS4 := keepS (q := ⟨ad.block, ad.off + (m + 1), none⟩) hap haq (by assumption) hb4))
  have hsw := swapped_sum hx.out hy.out
  have hfin : (((addS 0 d1 : Int) == (addS 0 (swapped d1 m x y) : Int)) == ((x.toNat : Int) == (y.toNat : Int))) = true := by
    by_cases hxy : x = y
    · have h1 := hsw.2 hxy
      rw [← h1, hxy]
      simp
    · have h1 : ¬ addS 0 d1 = addS 0 (swapped d1 m x y) := fun h => hxy (hsw.1 h)
      have h2 : ¬ x.toNat = y.toNat := fun h => hxy (UInt8.toNat_inj.1 h)
      have e1 : ((addS 0 d1 : Int) == (addS 0 (swapped d1 m x y) : Int)) = false := by simp; omega
      have e2 : ((x.toNat : Int) == (y.toNat : Int)) = false := by simp; intro h; exact h2 (by omega)
      rw [e1, e2]
      rfl
  have hbel := hb3.trans ((And.right (And.right (by assumption : _ ∧ _ ∧ Below w3.heap.size w3 w4))).mono hb3.size)
  clear hsw
  go_wp2
  go_ret
  exact ⟨congrArg (fun b => Ending.returned (.bool b)) hfin, hbel⟩
end Go.Proofs.Ytmcmooggcphelaa
