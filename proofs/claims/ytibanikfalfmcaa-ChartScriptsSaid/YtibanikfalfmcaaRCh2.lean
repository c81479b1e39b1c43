/-
  The reference's chart: Open.
-/
import Derived.Test.YtibanikfalfmcaaRCh1
import Derived.Test.YtibanikfalfmcaaZeroLaw
import Derived.Test.YtibanikfalfmcaaRevC
namespace Go.Proofs.Ytibanikfalfmcaa
open Go.RowKit Go.Maps Go.Shelf
set_option linter.unusedVariables false

theorem elem_acc : Try.prog.underlying 65 = some (.slice (Try.prog.elem 65)) := by kernel_rfl
theorem size_acc (w : World) : (sizeOf (Try.prog.elem 65)).run Try.prog w = .ok 3 w := by kernel_rfl
theorem info_acc : (Try.prog.info? 98).map (fun i => (i.zero, i.size, i.bytes)) = some (some (.agg #[.int .i64 0, .int .i64 0, .int .i64 0]), 3, 24) := by kernel_rfl
theorem cutA_to {A : Option Addr} {n c k : Nat} (hk : k ≤ c) : ∀ w' : World, (Instr.slice 65 (.slice A n c) none (some (.int .i64 (k : Int))) none).run Try.prog w' = .ok (.slice A k c) w' := by
  intro w'
  rw [run_slice_h w' 65 A n c elem_acc .i64 (k : Int) (by omega) (by omega), size_acc]
  simp only [Result.andThen, sliced, Int.toNat_natCast, Nat.zero_mul, Nat.sub_zero]
  congr 2
  split
  · rfl
  · cases A <;> rfl
theorem cutA_from {w : World} {B n c k : Nat} {A : Option Addr} {l : Acs} (hr : Row w B A (acCells l)) (hn : l.length = n) (hc : n ≤ c) (hk : k ≤ n) :
    ∃ A', (∀ w' : World, (Instr.slice 65 (.slice A n c) (some (.int .i64 (k : Int))) none none).run Try.prog w' = .ok (.slice A' (n - k) (c - k)) w') ∧ ∀ w', Row w' B A (acCells l) → Row w' B A' (acCells (l.drop k)) := by
  have e : acCells (l.drop k) = (acCells l).drop (k * 3) := by
    have h := acCells_append (l.take k) (l.drop k)
    rw [List.take_append_drop] at h
    rw [h, List.drop_left' (by rw [acCells_len, List.length_take]; omega)]
  refine ⟨if c = k then A else A.map (·.add (k * 3)), fun w' => ?_, fun w' hr' => ?_⟩
  · rw [run_slice_l w' 65 A n c elem_acc .i64 (k : Int) (by omega) (by omega), size_acc]
    simp only [Result.andThen, sliced, Int.toNat_natCast]
  · rw [e]
    exact hr'.cut (m := c) (k := k) (fun e2 => List.drop_eq_nil_of_le (by rw [acCells_len]; omega))

/-- Where an account is put in. -/
theorem ins_at : ∀ {l : Acs} {k : Nat} {n : Int} (x : Int × Int), (∀ j e, j < k → l[j]? = some e → e.1 < n) → k ≤ l.length → (∀ e, l[k]? = some e → n < e.1) → aIns (n, x) l = l.take k ++ (n, x) :: l.drop k
  | [], k, n, x, _, hk, _ => by
    have : k = 0 := by simpa using hk
    subst this
    rfl
  | y :: r, 0, n, x, _, _, h2 => by
    unfold aIns
    rw [if_pos (h2 y rfl)]
    rfl
  | y :: r, k + 1, n, x, h1, hk, h2 => by
    have hy := h1 0 y (by omega) rfl
    unfold aIns
    rw [if_neg (by show ¬ n < y.1; omega)]
    have ih := ins_at (l := r) (k := k) (n := n) x (fun j e hj he => h1 (j + 1) e (by omega) (by simpa using he)) (by simpa using hk) (fun e he => h2 e (by simpa using he))
    rw [ih]
    rfl
theorem del_none {l : Acs} {n : Int} (h : aFind l n = none) : aDel l n = l := by
  unfold aDel
  rw [List.filter_eq_self]
  intro e he
  unfold aFind at h
  rw [Option.map_eq_none_iff, List.find?_eq_none] at h
  have := h e he
  simpa using this
theorem find_ne {l : Acs} {n : Int} {k : Nat} {e : Int × Int × Int} (h : aFind l n = none) (he : l[k]? = some e) : e.1 ≠ n := by
  unfold aFind at h
  rw [Option.map_eq_none_iff, List.find?_eq_none] at h
  have := h e (List.mem_of_getElem? he)
  simpa using this

def ROpenR (r base : Nat) (w : World) (l : Acs) (n kind : Int) (e : Ending) (w' : World) : Prop := e = .returned (.int .i64 (openE l n kind)) ∧ (∃ A c, Rc r base A c (openL l n kind) w') ∧ Kept (fun k => k = r) w w'
def RoRel (l : Acs) (n : Int) (i : Value) : Prop := ∃ k : Nat, k ≤ l.length ∧ i = .int .i64 (k : Int) ∧ Hid (∀ j e, j < k → l[j]? = some e → e.1 < n)

set_option maxRecDepth 100000 in
set_option maxHeartbeats 4000000 in
theorem ropen_any (r base : Nat) (A : Option Addr) (c : Nat) (l : Acs) (w : World) (h : Rc r base A c l w) (hbase : base ≤ w.heap.size) (n kind : Int) (hl : l.length ≤ 1000000) :
    Calls Try.prog 27 #[.pointer (some ⟨r, 0, none⟩), .int .i64 n, .int .i64 kind] w (ROpenR r base w l n kind) := by
  have c0 := h.cell
  have HPL := hide (place_any r base A c l w h n (by omega))
  obtain ⟨E, HE⟩ : ∃ E, Hid (E = openE l n kind) := ⟨_, rfl⟩
  have hfin : E ≠ 0 → ROpenR r base w l n kind (.returned (.int .i64 E)) w := fun h0 => by
    refine ⟨by rw [HE.out], ⟨A, c, ?_⟩, Kept.refl _⟩
    unfold openL
    rw [if_neg (by rw [← HE.out]; exact h0)]
    exact h
  have HF := hide hfin
  have H := hide h
  clear hfin h
  by_cases h1 : n < 1
  · have hE : E = 1 := by rw [HE.out]; unfold openE; rw [if_pos (.inl h1)]
    subst hE
    go_enter Try.func27, Try.ntmps27
    go_wp2
    go_ret
    exact HF.out (by decide)
  by_cases h2 : 99999 < n
  · have hE : E = 1 := by rw [HE.out]; unfold openE; rw [if_pos (.inr (.inl h2))]
    subst hE
    go_enter Try.func27, Try.ntmps27
    go_wp2
    go_ret
    exact HF.out (by decide)
  by_cases h3 : kind < 1
  · have hE : E = 1 := by rw [HE.out]; unfold openE; rw [if_pos (.inr (.inr (.inl h3)))]
    subst hE
    go_enter Try.func27, Try.ntmps27
    go_wp2
    go_ret
    exact HF.out (by decide)
  by_cases h4 : 4 < kind
  · have hE : E = 1 := by rw [HE.out]; unfold openE; rw [if_pos (.inr (.inr (.inr h4)))]
    subst hE
    go_enter Try.func27, Try.ntmps27
    go_wp2
    go_ret
    exact HF.out (by decide)
  have hno : ¬ (n < 1 ∨ 99999 < n ∨ kind < 1 ∨ 4 < kind) := by omega
  cases hf : aFind l n with
  | some x =>
    have hE : E = 5 := by rw [HE.out]; unfold openE; rw [if_neg hno, if_pos (by rw [hf]; rfl)]
    subst hE
    obtain ⟨j, hj, -, -⟩ := placeE_some hf
    rw [hj] at HPL
    have hj0 : (0 : Int) ≤ (j : Int) := by omega
    clear hno hf hj
    go_enter Try.func27, Try.ntmps27
    go_wp2_with (go_at_call 58; refine halted ?_)
    refine go_on ?_
    refine HPL.out.mono ?_
    rintro e w' ⟨rfl, rfl⟩
    go_wp2
    go_ret
    exact HF.out (by decide)
  | none =>
    rw [placeE_none hf] at HPL
    have HFN := hide hf
    by_cases h5 : 1000 ≤ l.length
    · have hE : E = 2 := by rw [HE.out]; unfold openE; rw [if_neg hno, if_neg (by rw [hf]; simp), if_pos h5]
      subst hE
      have h5' : (1000 : Int) ≤ (l.length : Int) := by omega
      clear hno hf h5
      go_enter Try.func27, Try.ntmps27
      go_wp2_with (go_at_call 58; refine halted ?_)
      refine go_on ?_
      refine HPL.out.mono ?_
      rintro e w' ⟨rfl, rfl⟩
      go_wp2
      go_ret
      exact HF.out (by decide)
    have hE : E = 0 := by rw [HE.out]; unfold openE; rw [if_neg hno, if_neg (by rw [hf]; simp), if_neg h5]
    have HE0 := hide (show openE l n kind = 0 from by rw [← HE.out]; exact hE)
    have h5' : (l.length : Int) < 1000 := by omega
    clear hno hf h5 HF HE hE
    have HR := hide H.out.row
    obtain ⟨i0, hi, hz0, hz1, hz2⟩ := info_parts info_acc
    go_enter Try.func27, Try.ntmps27
    go_wp2_with (go_at_call 58; refine halted ?_)
    refine go_on ?_
    refine HPL.out.mono ?_
    rintro e w' ⟨rfl, rfl⟩
    go_wp2
    go_loop [7] (fun i => RoRel l n i) (fun i => l.length - (intOf i).toNat)
    case atStart => exact ⟨0, Nat.zero_le _, rfl, by show ∀ _, _; intro j e hj; omega⟩
    case round =>
      obtain ⟨k, hk, rfl, HI⟩ := hrel
      by_cases hgo : ∃ e, l[k]? = some e ∧ e.1 < n
      · obtain ⟨e, he, hen⟩ := hgo
        have hlt := (List.getElem?_eq_some_iff.1 he).1
        obtain ⟨ad, rfl, hadb, ha, -, -⟩ := HR.out.acc he
        have HI2 := hide (show ∀ j e', j < k + 1 → l[j]? = some e' → e'.1 < n from fun j e' hj he' => by
          rcases Nat.lt_or_ge j k with h0 | h0
          · exact HI.out j e' h0 he'
          · have : j = k := by omega
            subst this
            rw [he] at he'
            injection he' with he'
            rw [← he']
            exact hen)
        obtain ⟨a, x⟩ := e
        dsimp only at ha hen
        have hlt' : (k : Int) < (l.length : Int) := by omega
        clear he HI
        go_wp2
        go_round
        case rel => exact ⟨k + 1, hlt, by go_num, HI2.out⟩
        case measure => simp [intOf]; omega
      · have hafter : ∀ e, l[k]? = some e → n < e.1 := fun e he => by
          have h1 := find_ne HFN.out he
          rcases Int.lt_or_le e.1 n with h2 | h2
          · exact (hgo ⟨e, he, h2⟩).elim
          · omega
        have HOL := hide (show openL l n kind = l.take k ++ (n, (kind, 0)) :: l.drop k from by
          unfold openL
          rw [if_pos HE0.out]
          unfold aPut
          rw [del_none HFN.out]
          exact ins_at (kind, 0) HI.out hk hafter)
        have hor : (l.length : Int) ≤ (k : Int) ∨ ∃ ad m, A = some ad ∧ (k : Int) < (l.length : Int) ∧ (k < l.length) ∧ w.cell? (ad.add (k * 3)) = some (.int .i64 m) ∧ n ≤ m := by
          rcases Nat.lt_or_ge k l.length with h0 | h0
          · have he := List.getElem?_eq_getElem h0
            obtain ⟨ad, hA, _, ha, -, -⟩ := HR.out.acc he
            exact .inr ⟨ad, _, hA, by omega, h0, ha, by have := hafter _ he; omega⟩
          · exact .inl (by omega)
        obtain ⟨A2, hcf, hrf⟩ := cutA_from (k := k) HR.out rfl (show l.length ≤ c from by obtain ⟨_, c2, e2, h1, _⟩ := own_shape H.out.own; injection e2 with _ _ e3; omega) hk
        have hct := cutA_to (A := A) (n := l.length) (c := c) (k := k) (by obtain ⟨_, c2, e2, h1, _⟩ := own_shape H.out.own; injection e2 with _ _ e3; omega)
        have HRF := hide hrf
        clear hgo hafter HI hrf
        obtain ⟨w1, hw1⟩ : ∃ w1, w1 = w.alloc (.cells #[] 98) := ⟨_, rfl⟩
        have hl0 := World.ownsRow_lit (base := w.heap.size) (e := 98) (size := 3) w #[] 0 (Nat.le_refl _) (by unfold maxLen; omega) (by simp)
        have hb1 : Below w.heap.size w w1 := by rw [hw1]; exact below_new _ _
        have c1 : w1.cell? ⟨r, 0, none⟩ = some (.slice A l.length c) := (H.out.call hb1).cell
        have HB1 := hide hb1
        have hrt : Row w1 w.heap.size A (acCells (l.take k)) := by
          have h := (HR.out.below hb1).take (k * 3)
          have e : acCells (l.take k) = (acCells l).take (k * 3) := by
            have h := acCells_append (l.take k) (l.drop k)
            rw [List.take_append_drop] at h
            rw [h, List.take_left' (by rw [acCells_len, List.length_take]; omega)]
          rw [e]
          exact h
        have HRT := hide hrt
        rw [hw1] at c1
        clear hb1 hrt
        have hrest : ∀ (W : World), True := fun _ => trivial
        rcases hor with hke | ⟨ad, m, rfl, hlt', hlt, ha, hnm⟩
        all_goals
          go_wp2_with (at_builtin; refine halted ?_)
          refine go_on ?_
          rw [← hw1] at hl0 ⊢
          refine wpList_append_own _ rfl (.tmp 54) (.tmp 60) 65 rfl w.heap.size 98 i0 _ 3 24 Try.underlying65 hi hz0 hz1 hz2 rfl (by decide) (some ⟨w.heap.size, 0, none⟩) 0 0 [] rfl hl0 _ _ k c (acCells (l.take k)) rfl (by rw [acCells_len, List.length_take, Nat.min_eq_left hk]) HRT.out (acCells_one _) (by unfold maxLen; omega) (by omega) HB1.out.size ?_
          intro n2 xs2 A3 c3 w2 hn2 hxs2 _ _ hown2 hg2 _
          obtain rfl : n2 = k := by rw [hn2.out]; omega
          obtain rfl : xs2 = acCells (l.take n2) := hxs2.out
          have hb2 : Below w.heap.size w w2 := HB1.out.grown hg2 HB1.out.size (fun q hq => by simp at hq; omega)
          have HB2 := hide hb2
          have HOW2 := hide hown2
          have c2 := (H.out.call hb2).cell
          clear hn2 hxs2 hg2 hown2 hb2 hl0 c1 hct
          go_wp2_with (at_builtin; refine halted ?_)
          refine go_on ?_
          refine wpList_append_own _ rfl (.tmp 62) (.tmp 66) 65 rfl w.heap.size 98 i0 _ 3 24 Try.underlying65 hi hz0 hz1 hz2 rfl (by decide) A3 n2 c3 (acCells (l.take n2)) rfl (World.ownsRow.alloc HOW2.out _) _ _ 1 _ [.int .i64 n, .int .i64 kind, .int .i64 0] rfl rfl (Row.new w2 #[.int .i64 n, .int .i64 kind, .int .i64 0] 98 (0, 0)) (by intro u hu; simp at hu; rcases hu with rfl | rfl | rfl <;> rfl) (by unfold maxLen; omega) (by omega) (by have := HB2.out.size; simp; omega) ?_
          intro n4 xs4 A4 c4 w4 hn4 hxs4 _ _ hown4 hg4 _
          have hb4 : Below w.heap.size w w4 := (HB2.out.alloc HB2.out.size _).grown hg4 (by have := HB2.out.size; simp; omega) (fun q hq => (World.ownsRow.lt HOW2.out q (by rw [ownBlock_slice]; exact hq)).1)
          obtain rfl : n4 = n2 + 1 := hn4.out
          have hx4 : xs4 = acCells (l.take n2 ++ [(n, (kind, 0))]) := by rw [hxs4.out, acCells_append]; rfl
          have c4' := (H.out.call hb4).cell
          have hrd : Row w4 w.heap.size A2 (acCells (l.drop n2)) := HRF.out _ (HR.out.below hb4)
          have HX4 := hide hx4
          have HOW4 := hide hown4
          have HB4 := hide hb4
          have HRD := hide hrd
          clear hn4 hxs4 hown4 hg4 hb4 hx4 hrd HOW2 c2
          go_wp2_with (at_builtin; refine halted ?_)
          refine go_on ?_
          refine wpList_append_own _ rfl (.tmp 69) (.tmp 75) 65 rfl w.heap.size 98 i0 _ 3 24 Try.underlying65 hi hz0 hz1 hz2 rfl (by decide) A4 (n2 + 1) c4 xs4 rfl HOW4.out _ A2 (l.length - n2) (c - n2) (acCells (l.drop n2)) rfl (by rw [acCells_len, List.length_drop]) HRD.out (acCells_one _) (by unfold maxLen; omega) (by omega) HB4.out.size ?_
          intro n5 xs5 A5 c5 w5 hn5 hxs5 _ _ hown5 hg5 _
          have hb5 : Below w.heap.size w w5 := HB4.out.grown hg5 HB4.out.size (fun q hq => (World.ownsRow.lt HOW4.out q (by rw [ownBlock_slice]; exact hq)).1)
          have hlen : (openL l n kind).length = n5 := by
            rw [HOL.out, hn5.out]
            simp
            omega
          have hx5 : xs5 = acCells (openL l n kind) := by
            rw [hxs5.out, HX4.out, HOL.out, acCells_append, acCells_append]
            rw [show ((n, kind, (0 : Int)) :: l.drop n2 : Acs) = [(n, kind, 0)] ++ l.drop n2 from rfl, acCells_append, List.append_assoc]
          have hrc5 := H.out.call hb5
          have f5 : w5.frozen? ⟨r, 0, none⟩ = false := Joins.unfrozen_of_block hrc5.box 0
          have k5 := hrc5.cell
          have hbx := Joins.block_setCell (i := 0) hrc5.box (.slice A5 n5 c5)
          have hk5 : Kept (fun j => j = r) w5 (w5.setCell ⟨r, 0, none⟩ (.slice A5 n5 c5)) := Kept.set (S := fun j => j = r) w5 rfl 0 _
          have hfin : ROpenR r base w l n kind (.returned (.int .i64 0)) (w5.setCell ⟨r, 0, none⟩ (.slice A5 n5 c5)) := by
            refine ⟨by rw [HE0.out], ⟨A5, c5, ?_, ?_, H.out.lt⟩, (Kept.of_below hb5).trans hk5⟩
            · rw [hlen]; exact hbx
            · rw [hlen, ← hx5]
              have ho := hk5.own hown5 (fun j hj e => by
                have h1 := (World.ownsRow.lt hown5 j (by rw [ownBlock_slice]; exact hj)).1
                have h2 := (Array.getElem?_eq_some_iff.1 H.out.box).1
                omega)
              refine ⟨ho.1, ho.2.imp id ?_⟩
              rintro ⟨g, cap, cur, h1, h2, h3⟩
              exact ⟨g, cap, cur, h1, by omega, h3⟩
          have HFI := hide hfin
          clear hn5 hxs5 hown5 hg5 hb5 hlen hx5 hrc5 hbx hk5 hfin HOW4 c4'
          go_wp2
          go_ret
          exact HFI.out
end Go.Proofs.Ytibanikfalfmcaa
