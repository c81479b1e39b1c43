/-
  Filters: two in one: what they compute.
-/
import Derived.Test.YtnmgbhpmmbhgoaaBloomFn
import Derived.Test.YtnmgbhpmmbhgoaaRev
import Derived.Deep.Cut
import Derived.Deep.RegionLaw
namespace Go.Proofs.Ytnmgbhpmmbhgoaa
open Go.RowKit Go.BigFrame
set_option linter.unusedVariables false

theorem below_drewM {B : Nat} {a w : World} (h : Below B a w) (n : Nat) : Below B a (w.drewN n) := ⟨h.os, h.tape, h.output, h.size, h.block⟩
/-- New bytes and an error. -/
def NewF (w w' : World) (e : Ending) (r : List UInt8 × Int) : Prop :=
  ∃ (A : Option Addr) (c : Nat), e = .returned (.tuple #[.slice A r.1.length c, .int .i64 r.2]) ∧ OwnB w' w.heap.size 5 A c r.1 ∧ Below w.heap.size w w'
theorem newF_no {w w' : World} (h : Below w.heap.size w w') {r : List UInt8 × Int} (hr : r = ([], 1)) : NewF w w' (.returned (.tuple #[.slice none 0 0, .int .i64 1])) r := by
  subst hr; exact ⟨none, 0, rfl, OwnB.nil _ _ _, h⟩

def curB (a b : List UInt8) (k : Nat) : List UInt8 := List.zipWith (fun x y => x ||| y) (a.take (k + 1)) (b.take (k + 1)) ++ a.drop (k + 1)
theorem curB_len {a b : List UInt8} (h : a.length = b.length) (k : Nat) : (curB a b k).length = a.length := by
  unfold curB; simp [List.length_zipWith]; omega
theorem curB_zero {a b : List UInt8} {x : UInt8} (ha : a[0]? = some x) (hb : b[0]? = some x) : curB a b 0 = a := by
  cases a with
  | nil => simp at ha
  | cons u l =>
    cases b with
    | nil => simp at hb
    | cons v m =>
      simp at ha hb
      subst ha hb
      unfold curB
      simp
theorem curB_get {a b : List UInt8} (h : a.length = b.length) {k : Nat} {x : UInt8} (ha : a[k + 1]? = some x) : (curB a b k)[k + 1]? = some x := by
  have hk : k + 1 < a.length := lt_of_some ha
  unfold curB
  rw [List.getElem?_append_right (by simp [List.length_zipWith]; omega)]
  rw [List.getElem?_drop, ← ha]
  congr 1
  simp [List.length_zipWith]
  omega
theorem curB_next {a b : List UInt8} (h : a.length = b.length) {k : Nat} {x y : UInt8} (ha : a[k + 1]? = some x) (hb : b[k + 1]? = some y) : curB a b (k + 1) = (curB a b k).set (k + 1) (x ||| y) := by
  have hk : k + 1 < a.length := lt_of_some ha
  have hlen : (List.zipWith (fun x y => x ||| y) (a.take (k + 1)) (b.take (k + 1))).length = k + 1 := by simp [List.length_zipWith]; omega
  unfold curB
  rw [take_next ha, take_next hb, List.zipWith_append (by simp; omega), drop_get' ha]
  rw [List.set_append_right _ _ (by omega), hlen]
  simp
where
  drop_get' {l : List UInt8} {j : Nat} {x : UInt8} (h : l[j]? = some x) : l.drop j = x :: l.drop (j + 1) := by
    have hk : j < l.length := (List.getElem?_eq_some_iff.1 h).1
    have hx : l[j] = x := (List.getElem?_eq_some_iff.1 h).2
    rw [← hx, ← List.drop_eq_getElem_cons hk]
theorem curB_all {a b : List UInt8} (h : a.length = b.length) {k : Nat} (hk : a.length ≤ k + 1) : curB a b k = orL a b := by
  unfold curB orL
  rw [List.take_of_length_le hk, List.take_of_length_le (by omega), List.drop_eq_nil_of_le hk, List.append_nil]
theorem or_u8 (x y : UInt8) : bits .or .u8 (x.toNat : Int) (y.toNat : Int) = (((x ||| y).toNat : Nat) : Int) := by
  rw [u8_or_nat _ _ x.toNat_lt y.toNat_lt, UInt8.toNat_or]

/-- The ways of the refusals. -/
theorem both_ways (a b : List UInt8) : (isF a = false ∧ Hid (bothOk a b = false)) ∨ (isF a = true ∧ isF b = false ∧ Hid (bothOk a b = false)) ∨ (isF a = true ∧ isF b = true ∧ a.length ≠ b.length ∧ Hid (bothOk a b = false)) ∨
    (isF a = true ∧ isF b = true ∧ a.length = b.length ∧ ∃ x y, Hid (a[0]? = some x) ∧ Hid (b[0]? = some y) ∧ ((Hid (x = y) ∧ Hid (bothOk a b = true)) ∨ (((x.toNat : Int) != (y.toNat : Int)) = true ∧ Hid (bothOk a b = false)))) := by
  cases ha : isF a with
  | false => exact .inl ⟨rfl, by show _ = _; unfold bothOk; rw [ha]; rfl⟩
  | true =>
    cases hb : isF b with
    | false => exact .inr (.inl ⟨rfl, rfl, by show _ = _; unfold bothOk; rw [hb]; simp⟩)
    | true =>
      by_cases hl : a.length = b.length
      · obtain ⟨_, x, hx, hx2, _⟩ := isF_len ha
        obtain ⟨_, y, hy, hy2, _⟩ := isF_len hb
        refine .inr (.inr (.inr ⟨rfl, rfl, hl, x, y, hx, hy, ?_⟩))
        by_cases hxy : x = y
        · exact .inl ⟨hxy, by show _ = _; unfold bothOk; rw [ha, hb, hx2, hy2]; simp [hl, hxy]⟩
        · refine .inr ⟨?_, by show _ = _; unfold bothOk; rw [hx2, hy2]; simp [hxy]⟩
          rw [bne_iff_ne]
          intro h
          exact hxy (UInt8.toNat_inj.1 (by omega))
      · exact .inr (.inr (.inl ⟨rfl, rfl, hl, by show _ = _; unfold bothOk; simp [hl]⟩))

set_option maxRecDepth 100000 in
set_option maxHeartbeats 4000000 in
theorem both_any (A1 A2 : Option Addr) (c1 c2 : Nat) (a b : List UInt8) (w : World) (hr1 : Bytes w w.heap.size A1 a) (hr2 : Bytes w w.heap.size A2 b) (hl1 : a.length ≤ 1000000000) (hl2 : b.length ≤ 1000000000) (hc1 : a.length ≤ c1) (hc2 : b.length ≤ c2) :
    Calls Try.prog 11 #[.slice A1 a.length c1, .slice A2 b.length c2] w fun e w' => NewF w w' e (bothR a b) := by
  have HA : Hid (∀ n, Calls Try.prog 16 #[.slice A1 a.length c1] (w.drewN n) fun e w' => e = .returned (.bool (isF a)) ∧ w' = w.drewN n) := fun n => (isf_any (w.drewN n) A1 c1 a hr1 (by omega)).mono fun _ _ h => ⟨h.1, h.2.symm⟩
  have HB : Hid (∀ n, Calls Try.prog 16 #[.slice A2 b.length c2] (w.drewN n) fun e w' => e = .returned (.bool (isF b)) ∧ w' = w.drewN n) := fun n => (isf_any (w.drewN n) A2 c2 b hr2 (by omega)).mono fun _ _ h => ⟨h.1, h.2.symm⟩
  obtain ⟨R, HR⟩ : ∃ R, Hid (R = bothR a b) := ⟨_, rfl⟩
  rw [← HR.out]
  rcases both_ways a b with ⟨h1, HO⟩ | ⟨h1, h2, HO⟩ | ⟨h1, h2, h3, HO⟩ | ⟨h1, h2, h3, x, y, HX, HY, ⟨HXY, HO⟩ | ⟨h4, HO⟩⟩
  · have HN := hide (HR.out.trans (bothR_no HO.out))
    rw [h1] at HA
    clear hr1 hr2 HB h1
    go_enter Try.func11, Try.ntmps11
    go_wp2
    go_big_quiet ((go_at_call 16; with_reducible exact Calls.quiet_of_same (HA.out _)))
    go_wp2
    go_ret2
    exact newF_no (below_drewM (Below.refl _ _) _) HN.out
  · have HN := hide (HR.out.trans (bothR_no HO.out))
    rw [h1] at HA
    rw [h2] at HB
    clear hr1 hr2 h1 h2
    go_enter Try.func11, Try.ntmps11
    go_wp2
    go_big_quiet ((first | (go_at_call 16; with_reducible exact Calls.quiet_of_same (HA.out _)) | (go_at_call 16; with_reducible exact Calls.quiet_of_same (HB.out _))))
    go_wp2
    go_ret2
    exact newF_no (below_drewM (Below.refl _ _) _) HN.out
  · have HN := hide (HR.out.trans (bothR_no HO.out))
    rw [h1] at HA
    rw [h2] at HB
    have hne : ((a.length : Int) != (b.length : Int)) = true := by rw [bne_iff_ne]; omega
    clear hr1 hr2 h1 h2 h3
    go_enter Try.func11, Try.ntmps11
    go_wp2
    go_big_quiet ((first | (go_at_call 16; with_reducible exact Calls.quiet_of_same (HA.out _)) | (go_at_call 16; with_reducible exact Calls.quiet_of_same (HB.out _))))
    go_wp2
    go_ret2
    exact newF_no (below_drewM (Below.refl _ _) _) HN.out
  · have HXO := hide (HR.out.trans (bothR_ok HO.out))
    have HA9 := hide h1
    rw [h1] at HA
    rw [h2] at HB
    rw [← h3] at HB hl2 hc2 ⊢
    obtain ⟨ad1, u1, rfl, hb1, e1, k1⟩ := hr1.at_ (k := 0) (by have := lt_of_some HX.out; omega)
    obtain ⟨ad2, u2, rfl, hb2, e2, k2⟩ := hr2.at_ (k := 0) (by have := lt_of_some HY.out; omega)
    have g1 : w.cell? ad1 = some (.int .u8 (u1.toNat : Int)) := k1
    have g2 : w.cell? ad2 = some (.int .u8 (u2.toNat : Int)) := k2
    obtain rfl : u1 = x := by have := e1.out.symm.trans HX.out; injection this
    obtain rfl : u2 = y := by have := e2.out.symm.trans HY.out; injection this
    have hpos : 0 < a.length := lt_of_some HX.out
    have hxy : u1 = u2 := HXY.out
    subst hxy
    have H3 := hide h3
    clear k1 k2 e1 e2 h1 h2 h3 HXY HO
    go_enter Try.func11, Try.ntmps11
    go_wp2
    go_big_quiet ((first | (go_at_call 16; with_reducible exact Calls.quiet_of_same (HA.out _)) | (go_at_call 16; with_reducible exact Calls.quiet_of_same (HB.out _))))
    generalize hW : w.drewN nq = W at *
    have hbW : Below w.heap.size w W := by rw [← hW]; exact below_drewM (Below.refl _ _) _
    have hsW : W.heap.size = w.heap.size := by rw [← hW]; rfl
    clear hW g1 g2
    have hcl := clone_any (some ad1) W.heap.size c1 a.length a W rfl ((hr1.below hbW).more (by omega)) (Nat.le_refl _) (by omega)
    have HCL := hide hcl
    clear hcl
    go_wp2_with (go_at_call 18; refine halted ?_)
    refine go_on ?_
    refine HCL.out.mono ?_
    rintro e w1 ⟨A3, c3, rfl, hown, hb3⟩
    obtain ⟨g, rfl, hg1, hg2⟩ := hown.form hpos
    have hbw := hbW.trans (hb3.mono (by omega))
    rw [hsW] at hown hg1
    have hcut := cut_row (ad := ad2) (n := a.length) (c := c2) (k := 1) (l := 1) elem_u8s size_u8 rfl (by omega) hc2 (by have h := isF_len HA9.out; omega) .i64
    have h9 := (isF_len HA9.out).1
    have hd : Bytes w w.heap.size (some (ad2.add 1)) (b.drop 1) := Row.drop hr2 1 |> fun h => by unfold Bytes; rw [List.map_drop]; exact h
    have hcz : curB a b 0 = a := curB_zero HX.out HY.out
    rw [← hcz] at hown
    have HDG : Hid (∀ k y, b[k + 1]? = some y → (b.drop 1)[k]? = some y) := by show ∀ _, _; intro k y h; rw [List.getElem?_drop, Nat.add_comm]; exact h
    generalize ad2.add 1 = RB at *
    generalize b.drop 1 = gb at *
    have HOWN := hide hown
    have hLe : a.length - 1 + 1 = a.length := by omega
    have hLc : a.length - 1 ≤ c2 - 1 := by omega
    generalize hL : a.length - 1 = L at *
    have HL := hide hL
    have HLE := hide hLe
    clear hcz hr1 hr2 HCL hb3 hbW hown hL hLe
    go_wp2
    go_loopw [38] (fun i wr => ∃ k : Nat, k ≤ L ∧ i = .int .i64 (k : Int) ∧ OwnB wr w.heap.size 5 (some ⟨g, 0, none⟩) c3 (curB a b k) ∧ Below w.heap.size w wr) (fun i _ => L - (intOf i).toNat)
    case atStart => exact ⟨0, Nat.zero_le _, rfl, HOWN.out, hbw⟩
    case round =>
      obtain ⟨k, hk, rfl, ho, hb⟩ := hrel
      by_cases hlt : k < L
      · obtain ⟨x, hx⟩ : ∃ x, a[k + 1]? = some x := ⟨_, List.getElem?_eq_getElem (by have := HLE.out; omega)⟩
        obtain ⟨y, hy⟩ : ∃ y, b[k + 1]? = some y := ⟨_, List.getElem?_eq_getElem (by have := HLE.out; have := H3.out; omega)⟩
        obtain ⟨ad3, e3, hlt3, hc⟩ := (hd.below hb) k (byv y) (by rw [List.getElem?_map, HDG.out k y hy]; rfl)
        injection e3 with e3
        subst e3
        have hcell := ho.cellAt (curB_get H3.out hx)
        have hfro := ho.frozenAt (k + 1)
        have hor := or_u8 x y
        have hst := ho.stored (k + 1) (x ||| y)
        rw [← curB_next H3.out hx hy] at hst
        have hbs := hb.setCell (p := ⟨g, k + 1, none⟩) hg1 (.int .u8 ((x ||| y).toNat : Int))
        have hgw : g < wr.heap.size := lt_of_cell hcell
        have hlen := curB_len H3.out k
        have HST := hide hst
        have HBS := hide hbs
        have hxb := x.toNat_lt
        have hyb := y.toNat_lt
        have hka : k + 1 < a.length := by have := HLE.out; omega
        have hc' : wr.cell? (RB.add k) = some (.int .u8 (y.toNat : Int)) := hc
        clear hx hy ho hb hst hbs hd hcut hc
        go_wp2
        go_roundw
        case rel => exact ⟨k + 1, by omega, by go_num, HST.out, HBS.out⟩
        case measure => simp [intOf]; omega
      · have hkl : curB a b k = orL a b := curB_all H3.out (by have := HLE.out; omega)
        have hol : (orL a b).length = a.length := by unfold orL; rw [List.length_zipWith]; have := H3.out; omega
        rw [hkl] at ho
        have HO := hide ho
        have HOL := hide hol
        clear ho hkl hol hd hcut
        go_wp2
        go_ret2
        rw [HXO.out]
        exact ⟨some ⟨g, 0, none⟩, c3, by rw [HOL.out]; rfl, HO.out, hb⟩
  · have HN := hide (HR.out.trans (bothR_no HO.out))
    rw [h1] at HA
    rw [h2] at HB
    rw [← h3] at HB hl2 hc2 ⊢
    obtain ⟨ad1, u1, rfl, hb1, e1, k1⟩ := hr1.at_ (k := 0) (by have := lt_of_some HX.out; omega)
    obtain ⟨ad2, u2, rfl, hb2, e2, k2⟩ := hr2.at_ (k := 0) (by have := lt_of_some HY.out; omega)
    have g1 : w.cell? ad1 = some (.int .u8 (u1.toNat : Int)) := k1
    have g2 : w.cell? ad2 = some (.int .u8 (u2.toNat : Int)) := k2
    obtain rfl : u1 = x := by have := e1.out.symm.trans HX.out; injection this
    obtain rfl : u2 = y := by have := e2.out.symm.trans HY.out; injection this
    have hpos : 0 < a.length := lt_of_some HX.out
    clear hr1 hr2 k1 k2 e1 e2 h1 h2 h3
    go_enter Try.func11, Try.ntmps11
    go_wp2
    go_big_quiet ((first | (go_at_call 16; with_reducible exact Calls.quiet_of_same (HA.out _)) | (go_at_call 16; with_reducible exact Calls.quiet_of_same (HB.out _))))
    go_wp2
    go_ret2
    exact newF_no (below_drewM (Below.refl _ _) _) HN.out
end Go.Proofs.Ytnmgbhpmmbhgoaa
