/-
  rates.Encode's put: what it does.
-/
import Derived.Test.YtedaajilmeplnaaRRight
import Derived.Test.YtedaajilmeplnaaNum
import Derived.Test.YtedaajilmeplnaaRTake
import Derived.Test.YtedaajilmeplnaaSt
import Derived.RangeFuncBox
import Derived.Test.YtedaajilmeplnaaStep
namespace Go.Proofs.Ytedaajilmeplnaa
open Go.RowKit
set_option linter.unusedVariables false

/-- Numbers as bytes. -/
def numsB (l : List Int) : List UInt8 := l.flatMap fun x => numB x.toNat
theorem numsB_append (a b : List Int) : numsB (a ++ b) = numsB a ++ numsB b := by unfold numsB; rw [List.flatMap_append]
theorem numsB_next {l : List Int} {k : Nat} {x : Int} (h : l[k]? = some x) : numsB (l.take (k + 1)) = numsB (l.take k) ++ numB x.toNat := by
  rw [List.take_add_one, h, Option.toList_some, numsB_append]
  simp [numsB]
theorem numsB_len (l : List Int) : (numsB l).length ≤ 11 * l.length := by
  induction l with
  | nil => simp [numsB]
  | cons x l ih =>
    have h1 := numB_len x.toNat
    have h2 : numsB (x :: l) = numB x.toNat ++ numsB l := rfl
    rw [h2, List.length_append, List.length_cons]
    omega

/-- The box holds bytes of the call's own; what lies ahead of it is as it was. -/
def PutP (q : Nat) (ds : List UInt8) (W W' : World) : Prop :=
  ∃ (A' : Option Addr) (c' : Nat), Boxed W' q 37 (.slice A' ds.length c') ∧ OwnB W' (q + 1) 5 A' c' ds ∧ Below q W W'

def PutRel (q g : Nat) (xs : List Int) (us : List UInt8) (W : World) (i : Value) (wr : World) : Prop :=
  ∃ (k : Nat) (ds : List UInt8) (A : Option Addr) (c : Nat), k ≤ xs.length ∧ i = .int .i64 (k : Int) ∧ Hid (ds = us ++ numsB (xs.take k)) ∧ Boxed wr q 37 (.slice A ds.length c) ∧ OwnB wr (q + 1) 5 A c ds ∧ ¬ InRow A g ∧ g < wr.heap.size ∧
    (∀ j x, xs[j]? = some x → wr.cell? ⟨g, j, none⟩ = some (.int .i64 x)) ∧ Below q W wr

set_option maxRecDepth 100000 in
set_option maxHeartbeats 2000000 in
theorem put_any (q g n : Nat) (xs : List Int) (us : List UInt8) (A0 : Option Addr) (c0 : Nat) (W : World) (hn : xs.length = n) (hbox : Boxed W q 37 (.slice A0 us.length c0)) (hown : OwnB W (q + 1) 5 A0 c0 us) (hq : q < g) (hg : g < W.heap.size) (hna : ¬ InRow A0 g)
    (hcells : ∀ j x, xs[j]? = some x → W.cell? ⟨g, j, none⟩ = some (.int .i64 x)) (hpos : ∀ x ∈ xs, 0 ≤ x ∧ x ≤ 9223372036854775807) (hlen : us.length + 11 * xs.length ≤ 100000) :
    Calls Try.prog 29 #[.slice (some ⟨g, 0, none⟩) n n, .pointer (some ⟨q, 0, none⟩)] W fun e W' => (∃ v, e = .returned v) ∧ PutP q (us ++ numsB xs) W W' := by
  subst hn
  have HPOS := hide hpos
  clear hpos
  go_enter Try.func29, Try.ntmps29
  go_wp2
  go_loopw [7] (fun i wr => PutRel q g xs us W i wr) (fun i _ => xs.length - (intOf i).toNat)
  case atStart => exact ⟨0, us, A0, c0, by omega, rfl, by show _ = _; simp [numsB], hbox, hown, hna, hg, hcells, Below.refl _ _⟩
  case round =>
    clear hbox hown hna hg hcells
    obtain ⟨k, ds, A, c, hk, rfl, HD, hbox, hown, hna, hg, hcells, hb⟩ := hrel
    by_cases hlt : k < xs.length
    · obtain ⟨x, hx⟩ : ∃ x, xs[k]? = some x := ⟨_, List.getElem?_eq_getElem hlt⟩
      have hcx := hcells k x hx
      obtain ⟨hx0, hx1⟩ := HPOS.out x (List.mem_of_getElem? hx)
      obtain ⟨m, rfl⟩ := Int.eq_ofNat_of_zero_le hx0
      have HX := hide hx
      have HCELLS := hide hcells
      have hbc := hbox.cell
      have hdl : ds.length ≤ 100000 := by
        rw [HD.out, List.length_append]
        have h1 := numsB_len (xs.take k)
        rw [List.length_take] at h1
        omega
      have hnl := hide (numB_len m)
      clear hx hcells
      have HBOX := hide hbox
      have HOWN := hide hown
      have hqg : q + 1 ≤ wr.heap.size := hbox.lt
      have hw : IntKind.u64.wrap (m : Int) = (m : Int) := by unfold IntKind.wrap; simp [IntKind.signed, IntKind.bits]; omega
      go_wp2
      go_region_law (first
        | (go_simp; go_at_call 30; refine (number_any m _ (by omega)).mono ?_; rintro e w1 ⟨A1, c1, rfl, hown1, hb1⟩
           have hbox1 : Boxed w1 q 37 (.slice A ds.length c) := (hb1.block q HBOX.out.lt).trans HBOX.out
           have hbc1 := hbox1.cell
           have o1 := (HOWN.out.drew).below hb1 (Nat.le_refl _)
           dsimp only)
        | (refine step_append_bytes _ rfl (.tmp 11) (.tmp 14) 37 rfl (q + 1) 5 Try.underlying37 info_u8 _ _ _ ds rfl rfl o1 _ A1 _ c1 (numB m) rfl rfl hown1.bytes (by have := hnl.out; omega) hbox1.lt ?_
           intro ds2 A2 c2 w2 hds2 hdl2 hown2 hg2 hat2
           have hqr : some q ≠ A.map (·.block) := fun e => by have := o1.lt e.symm; omega
           have hbox2 := hbox1.kept hg2 hqr
           have hbc2 := hbox2.cell
           have hfz := hbox2.frozen))
      all_goals
        have hbox3 := hbox2.set (.slice A2 ds2.length c2)
        have g3 := grownBy_setCell' w2 q (.slice A2 ds2.length c2)
        have hown3 := hown2.kept g3 (by
          cases hA2 : A2 with
          | none => exact .inl rfl
          | some a =>
            refine .inr fun e => ?_
            have := hown2.lt (k := q) (by rw [hA2]; exact e)
            omega)
        have hna2 : ¬ InRow A2 g := by
          intro hq2
          unfold InRow at hq2
          rcases hat2 with e | e
          · rw [e] at hq2; exact hna hq2
          · rw [e] at hq2; injection hq2 with hq2; have := hb1.size; have e3 : wr.drew.heap.size = wr.heap.size := rfl; omega
        have hgs : g < w2.heap.size := Nat.lt_of_lt_of_le (Nat.lt_of_lt_of_le hg hb1.size) hg2.size
        have hcells3 : Hid (∀ j x, xs[j]? = some x → (w2.setCell ⟨q, 0, none⟩ (.slice A2 ds2.length c2)).cell? ⟨g, j, none⟩ = some (.int .i64 x)) := by
          show ∀ j x, _
          intro j x hj
          rw [World.cell?_of_block (w := w2) (g3.block g hgs (fun e => by injection e with e; omega)), grown_cell hg2 (p := ⟨g, j, none⟩) (Nat.lt_of_lt_of_le hg hb1.size) hna, hb1.cell (p := ⟨g, j, none⟩) hg]
          show wr.cell? _ = _
          exact HCELLS.out j x hj
        have hb3 : Below q W (w2.setCell ⟨q, 0, none⟩ (.slice A2 ds2.length c2)) := by
          have hqw : q ≤ wr.heap.size := Nat.le_of_lt hbox.lt
          refine (((below_drewN' hb 1).trans (hb1.mono hqw)).grown hg2 (by have := hbox1.lt; omega) (fun k hk => by have := o1.lt hk; omega)).grown g3 (by have := hbox2.lt; omega) (fun k hk => by injection hk with hk; omega)
        have HD2 : Hid (ds2 = us ++ numsB (xs.take (k + 1))) := by
          show _ = _
          rw [hds2.out, HD.out, numsB_next HX.out, List.append_assoc]
          rfl
        have hgs3 : g < (w2.setCell ⟨q, 0, none⟩ (.slice A2 ds2.length c2)).heap.size := Nat.lt_of_lt_of_le hgs g3.size
        clear hbox1 o1 hown1 hb1 hg2 hat2 hds2 hown2 hdl2 hb hbox hown HCELLS hqr g3 HBOX HOWN hbc1 hbc2
        go_wp2
        go_roundw
        case rel => exact ⟨k + 1, ds2, A2, c2, by omega, by go_num, HD2.out, hbox3, hown3, hna2, hgs3, hcells3.out, hb3⟩
        case measure => simp [intOf]; omega
    · have hkl : k = xs.length := by omega
      subst hkl
      have hds : ds = us ++ numsB xs := by rw [HD.out, List.take_length]
      have HN := hide (show PutP q (us ++ numsB xs) W wr from by rw [← hds]; exact ⟨A, c, hbox, hown, hb⟩)
      clear hds hk hcells hbox hown
      go_wp2
      exact ⟨rfl, .tuple #[], by simp [results, Try.results29, go_sem], ⟨_, rfl⟩, HN.out⟩
end Go.Proofs.Ytedaajilmeplnaa
