/-
  block's and its reference's small functions: what they compute.
-/
import Derived.Test.YteagjjiggneheaaRTake
import Derived.Test.YteagjjiggneheaaCode
import Derived.Test.YteagjjiggneheaaBlockMath
import Derived.Lib.BytesEntry
import Derived.Lib.Bytealg
namespace Go.Proofs.Yteagjjiggneheaa
open Go.RowKit
set_option linter.unusedVariables false

theorem run_bytesOf {P : Program} {w : World} {B : Nat} {A : Option Addr} {n c : Nat} {bs : List UInt8} (hr : Bytes w B A bs) (hn : bs.length = n) : (Extern.Bytes.bytesOf (.slice A n c)).run P w = .ok ⟨bs.toArray⟩ w := by
  subst hn
  cases A with
  | none =>
    have hb : bs = [] := by simpa using Row.eq_nil_of_none hr
    subst hb
    rfl
  | some ad =>
    have hl := Lib.run_loadBytesX (P := P) w (bs.map fun b => (b.toNat : Int)) ad .empty (fun j x hj => by
      rw [List.getElem?_map] at hj
      cases hb : bs[j]? with
      | none => rw [hb] at hj; cases hj
      | some b =>
        rw [hb] at hj
        injection hj with hj
        subst hj
        obtain ⟨ad', h, _, hc⟩ := hr j (byv b) (by rw [List.getElem?_map, hb]; rfl)
        injection h with h
        subst h
        exact hc)
    rw [List.length_map] at hl
    have e : Lib.bytesOf (bs.map fun b => (b.toNat : Int)) = bs := by
      unfold Lib.bytesOf
      rw [List.map_map]
      conv => rhs; rw [← List.map_id bs]
      refine List.map_congr_left fun b _ => ?_
      simp
    rw [e] at hl
    show (Extern.Bytes.loadBytes ad bs.length .empty).run P w = _
    rw [hl]
    congr 1
    simp [ByteArray.empty, ByteArray.emptyWithCapacity]
    rfl

theorem run_compare {P : Program} {w : World} {B1 B2 : Nat} {A1 A2 : Option Addr} {n1 c1 n2 c2 : Nat} {a b : List UInt8} (h1 : Bytes w B1 A1 a) (hn1 : a.length = n1) (h2 : Bytes w B2 A2 b) (hn2 : b.length = n2) :
    (Extern.BytealgCompare.compare #[.slice A1 n1 c1, .slice A2 n2 c2]).run P w = .ok (.int .i64 (Lib.compareBytes a b)) w := by
  change Sem.run P (do pure (goInt (Extern.BytealgCompare.cmp (← Extern.Bytes.bytesOf (.slice A1 n1 c1)) (← Extern.Bytes.bytesOf (.slice A2 n2 c2))))) w = _
  simp only [Sem.run_bind, run_bytesOf h1 hn1, run_bytesOf h2 hn2, Sem.run_pure, Result.andThen]
  rw [Lib.cmp_eq]
  rfl

set_option maxHeartbeats 1000000 in
set_option maxRecDepth 100000 in
theorem compare_any {w : World} {B1 B2 : Nat} {A1 A2 : Option Addr} {n1 c1 n2 c2 : Nat} {a b : List UInt8} (h1 : Bytes w B1 A1 a) (hn1 : a.length = n1) (h2 : Bytes w B2 A2 b) (hn2 : b.length = n2) :
    Calls Try.prog 18 #[.slice A1 n1 c1, .slice A2 n2 c2] w fun e w' => e = .returned (.int .i64 (Lib.compareBytes a b)) ∧ w' = w := by
  have hx := run_compare (P := Try.prog) (c1 := c1) (c2 := c2) h1 hn1 h2 hn2
  clear h1 h2
  go_enter Try.func18, Try.ntmps18
  go_wp2
  rw [run_callFunc_extern Try.func35 (by kernel_rfl) (by kernel_rfl) (by kernel_rfl) (e := Extern.BytealgCompare.compare) (by kernel_rfl), hx]
  simp only [Result.andThen]
  rw [Oper.upon_value]
  go_wp2
  go_ret
  exact ⟨rfl, rfl⟩

/-- Alike ahead of k. -/
def AlikeTo (a b : List UInt8) (k : Nat) : Prop := ∀ j, j < k → a[j]? = b[j]?
theorem AlikeTo.next {a b : List UInt8} {k : Nat} (h : AlikeTo a b k) {x y : UInt8} (hx : a[k]? = some x) (hy : b[k]? = some y) (e : x = y) : AlikeTo a b (k + 1) := by
  intro j hj
  by_cases hjk : j < k
  · exact h j hjk
  · have : j = k := by omega
    subst this
    rw [hx, hy, e]
theorem AlikeTo.comm_len {a b : List UInt8} {k : Nat} (h : AlikeTo a b k) (ha : k ≤ a.length) (hb : k ≤ b.length) (hk : k = a.length ∨ k = b.length) : comm a b = k := comm_of h ha hb (by rcases hk with h | h; exact .inl h; exact .inr (.inl h))
theorem AlikeTo.comm_at {a b : List UInt8} {k : Nat} (h : AlikeTo a b k) {x y : UInt8} (hx : a[k]? = some x) (hy : b[k]? = some y) (e : x ≠ y) : comm a b = k :=
  comm_of h (Nat.le_of_lt (List.getElem?_eq_some_iff.1 hx).1) (Nat.le_of_lt (List.getElem?_eq_some_iff.1 hy).1) (.inr (.inr (by rw [hx, hy]; simpa using e)))

theorem Bytes.below' {w w' : World} {B : Nat} {A : Option Addr} {bs : List UInt8} (h : Bytes w B A bs) (hb : Below w.heap.size w w') (hB : B ≤ w.heap.size) : Bytes w' B A bs := h.belowLe hb hB
set_option maxHeartbeats 1000000 in
theorem common_any {w : World} {B1 B2 : Nat} {A1 A2 : Option Addr} {n1 c1 n2 c2 : Nat} {a b : List UInt8} (h1 : Bytes w B1 A1 a) (hn1 : a.length = n1) (h2 : Bytes w B2 A2 b) (hn2 : b.length = n2) (hB1 : B1 ≤ w.heap.size) (hB2 : B2 ≤ w.heap.size) (hl1 : a.length ≤ 9223372036854775807) (hl2 : b.length ≤ 9223372036854775807) :
    Calls Try.prog 20 #[.slice A1 n1 c1, .slice A2 n2 c2] w fun e w' => e = .returned (.int .i64 (comm a b : Int)) ∧ Below w.heap.size w w' := by
  subst hn1 hn2
  go_enter Try.func20, Try.ntmps20
  rcases Nat.lt_or_ge b.length a.length with hle | hle
  all_goals
    go_wp2
    go_loopw [13] (fun i wr => ∃ k : Nat, k ≤ a.length ∧ k ≤ b.length ∧ i = .int .i64 (k : Int) ∧ Hid (AlikeTo a b k) ∧ Below w.heap.size w wr) (fun i _ => a.length - (intOf i).toNat)
    case atStart => exact ⟨0, by omega, by omega, rfl, (by show AlikeTo a b 0; intro j hj; omega), Below.refl _ _⟩
    case round =>
      obtain ⟨k, hka, hkb, rfl, HA, hb⟩ := hrel
      have h1' := h1.below' hb hB1
      have h2' := h2.below' hb hB2
      by_cases hlt : k < a.length ∧ k < b.length
      · obtain ⟨hlt1, hlt2⟩ := hlt
        obtain ⟨ad1, x, rfl, _, hx, hcx⟩ := h1'.at_ hlt1
        obtain ⟨ad2, y, rfl, _, hy, hcy⟩ := h2'.at_ hlt2
        by_cases hxy : x = y
        · subst hxy
          have HN := hide (HA.out.next hx.out hy.out rfl)
          clear HA h1 h2 h1' h2'
          go_wp2
          go_quiet (fail)
          go_wp2
          go_roundw
          case rel => exact ⟨k + 1, by omega, by omega, by go_num, HN.out, below_drewN' hb _⟩
          case measure => simp [intOf]; omega
        · have hne : (x.toNat : Int) ≠ (y.toNat : Int) := fun h => hxy (UInt8.toNat_inj.1 (by omega))
          have HC := hide (HA.out.comm_at hx.out hy.out hxy)
          have hb1 : ((x.toNat : Int) != (y.toNat : Int)) = true := by rw [bne_iff_ne]; exact hne
          have hb2 : ((x.toNat : Int) == (y.toNat : Int)) = false := by simpa using hne
          clear HA h1 h2 h1' h2' hxy hne
          go_wp2
          go_quiet (fail)
          go_wp2
          go_ret
          exact ⟨by rw [HC.out]; rfl, below_drewN' hb _⟩
      · have HC := hide (HA.out.comm_len hka hkb (by omega))
        clear HA
        go_wp2
        go_ret
        exact ⟨by rw [HC.out]; exact ret_int (by omega), hb⟩
set_option maxHeartbeats 1000000 in
theorem rcommon_any {w : World} {B1 B2 : Nat} {A1 A2 : Option Addr} {n1 c1 n2 c2 : Nat} {a b : List UInt8} (h1 : Bytes w B1 A1 a) (hn1 : a.length = n1) (h2 : Bytes w B2 A2 b) (hn2 : b.length = n2) (hB1 : B1 ≤ w.heap.size) (hB2 : B2 ≤ w.heap.size) (hl1 : a.length ≤ 9223372036854775807) (hl2 : b.length ≤ 9223372036854775807) :
    Calls Try.prog 25 #[.slice A1 n1 c1, .slice A2 n2 c2] w fun e w' => e = .returned (.int .i64 (comm a b : Int)) ∧ Below w.heap.size w w' := by
  subst hn1 hn2
  go_enter Try.func25, Try.ntmps25
  go_wp2
  go_loopw [5] (fun i wr => ∃ k : Nat, k ≤ a.length ∧ k ≤ b.length ∧ i = .int .i64 (k : Int) ∧ Hid (AlikeTo a b k) ∧ Below w.heap.size w wr) (fun i _ => a.length - (intOf i).toNat)
  case atStart => exact ⟨0, by omega, by omega, rfl, (by show AlikeTo a b 0; intro j hj; omega), Below.refl _ _⟩
  case round =>
    obtain ⟨k, hka, hkb, rfl, HA, hb⟩ := hrel
    have h1' := h1.below' hb hB1
    have h2' := h2.below' hb hB2
    by_cases hlt : k < a.length ∧ k < b.length
    · obtain ⟨hlt1, hlt2⟩ := hlt
      obtain ⟨ad1, x, rfl, _, hx, hcx⟩ := h1'.at_ hlt1
      obtain ⟨ad2, y, rfl, _, hy, hcy⟩ := h2'.at_ hlt2
      by_cases hxy : x = y
      · subst hxy
        have HN := hide (HA.out.next hx.out hy.out rfl)
        clear HA h1 h2 h1' h2'
        go_wp2
        go_quiet (fail)
        go_wp2
        go_roundw
        case rel => exact ⟨k + 1, by omega, by omega, by go_num, HN.out, below_drewN' hb _⟩
        case measure => simp [intOf]; omega
      · have hne : (x.toNat : Int) ≠ (y.toNat : Int) := fun h => hxy (UInt8.toNat_inj.1 (by omega))
        have HC := hide (HA.out.comm_at hx.out hy.out hxy)
        have hb1 : ((x.toNat : Int) != (y.toNat : Int)) = true := by rw [bne_iff_ne]; exact hne
        have hb2 : ((x.toNat : Int) == (y.toNat : Int)) = false := by simpa using hne
        clear HA h1 h2 h1' h2' hxy hne
        go_wp2
        go_quiet (fail)
        go_wp2
        go_ret
        exact ⟨by rw [HC.out]; rfl, below_drewN' hb _⟩
    · have HC := hide (HA.out.comm_len hka hkb (by omega))
      clear HA
      by_cases hlt1 : k < a.length
      · have hge : ¬ k < b.length := fun h => hlt ⟨hlt1, h⟩
        clear hlt
        go_wp2
        go_quiet (fail)
        go_wp2
        go_ret
        exact ⟨by rw [HC.out]; rfl, below_drewN' hb _⟩
      · clear hlt
        go_wp2
        go_quiet (fail)
        go_wp2
        go_ret
        exact ⟨by rw [HC.out]; rfl, below_drewN' hb _⟩

theorem four_byte (n d : Nat) : byv (UInt8.ofNat (n / d % 256)) = .int .u8 ((n / d % 256 : Nat) : Int) := by
  unfold byv
  congr 1
  rw [UInt8.toNat_ofNat']
  omega
theorem four_cells (n : Nat) : (four n).map byv = [.int .u8 ((n : Int) / 16777216 % 256), .int .u8 ((n : Int) / 65536 % 256), .int .u8 ((n : Int) / 256 % 256), .int .u8 ((n : Int) % 256)] := by
  have h1 := four_byte n 1
  rw [Nat.div_one] at h1
  unfold four
  simp only [List.map_cons, List.map_nil, four_byte, h1]
  rfl
theorem word_any (n : Nat) (w : World) (hn : n ≤ 9223372036854775807) :
    Calls Try.prog 19 #[.int .i64 (n : Int)] w fun e w' => NewB w w' e (four n) := by
  go_enter Try.func19, Try.ntmps19
  have HN := hide (OwnB.lit w 5 (four n) (Nat.le_refl _) (by rw [four_len]; unfold maxLen; omega))
  go_wp2
  go_ret
  refine ⟨some ⟨w.heap.size, 0, none⟩, 4, rfl, ?_, (Below.refl w.heap.size w).alloc (Nat.le_refl _) _⟩
  have h := HN.out
  rw [four_cells] at h
  exact h
theorem rfour_any (n : Nat) (w : World) (hn : n ≤ 9223372036854775807) :
    Calls Try.prog 24 #[.int .i64 (n : Int)] w fun e w' => NewB w w' e (four n) := by
  go_enter Try.func24, Try.ntmps24
  have HN := hide (OwnB.lit w 5 (four n) (Nat.le_refl _) (by rw [four_len]; unfold maxLen; omega))
  go_wp2
  go_ret
  refine ⟨some ⟨w.heap.size, 0, none⟩, 4, rfl, ?_, (Below.refl w.heap.size w).alloc (Nat.le_refl _) _⟩
  have h := HN.out
  rw [four_cells] at h
  exact h
end Go.Proofs.Yteagjjiggneheaa
