/-
  chart: New, Open, Balance.
-/
import Derived.Test.YtibanikfalfmcaaSumFn
import Derived.Test.YtibanikfalfmcaaAcc
import Derived.Lib.SmallJoins
import Derived.Maps.RangeWalk
namespace Go.Proofs.Ytibanikfalfmcaa
open Go.RowKit Go.Maps
set_option linter.unusedVariables false

theorem zero_acc (w : World) : (zeroValue 73).run Try.prog w = .ok (.agg #[.int .i64 0, .int .i64 0]) w := by kernel_rfl
/-- What stands under a number, or nothing. -/
def lookA (l : Acs) (n : Int) : Int × Int := (aFind l n).getD (0, 0)
theorem look_acs {w : World} {b : Nat} {l : Acs} (h : OwnsAcs w b l) {n : Int} (hn : (Lit.int .i64 n).wf = true) :
    (Instr.lookup 69 (.map (some b)) (.int .i64 n) true).run Try.prog w = .ok (.tuple #[.agg #[.int .i64 (lookA l n).1, .int .i64 (lookA l n).2], .bool (aFind l n).isSome]) w := by
  obtain ⟨v, ps, hrun, hv⟩ := World.ownsMap.look_ok (zp := []) h ikeyed Try.underlying69 (zero_acc w) (show accR (.agg #[.int .i64 0, .int .i64 0]) = some (accE (0, 0), []) from rfl) (keyOf_int_mk Try.underlying3 hn)
  rw [hrun, accD_has]
  rw [accD_at] at hv
  unfold lookA
  cases hf : aFind l n with
  | none =>
    rw [hf] at hv
    rw [accR_some hv]
    rfl
  | some x =>
    rw [hf] at hv
    rw [accR_some hv]
    rfl
theorem look_acs0 {w : World} {b : Nat} {l : Acs} (h : OwnsAcs w b l) {n : Int} (hn : (Lit.int .i64 n).wf = true) :
    (Instr.lookup 69 (.map (some b)) (.int .i64 n) false).run Try.prog w = .ok (.agg #[.int .i64 (lookA l n).1, .int .i64 (lookA l n).2]) w := by
  obtain ⟨v, ps, hrun, hv⟩ := World.ownsMap.lookup (zp := []) h ikeyed Try.underlying69 (zero_acc w) (show accR (.agg #[.int .i64 0, .int .i64 0]) = some (accE (0, 0), []) from rfl) (keyOf_int_mk Try.underlying3 hn)
  rw [hrun]
  rw [accD_at] at hv
  unfold lookA
  cases hf : aFind l n with
  | none =>
    rw [hf] at hv
    rw [accR_some hv]
    rfl
  | some x =>
    rw [hf] at hv
    rw [accR_some hv]
    rfl

def NewC (w : World) (e : Ending) (w' : World) : Prop := ∃ q b, e = .returned (.pointer (some ⟨q, 0, none⟩)) ∧ Ch q b [] w' ∧ Below w.heap.size w w' ∧ w.heap.size ≤ q ∧ w.heap.size ≤ b
set_option maxRecDepth 100000 in
set_option maxHeartbeats 4000000 in
theorem newC_any (w : World) : Calls Try.prog 10 #[] w (NewC w) := by
  have hmm := @run_makeMap Try.prog
  go_enter Try.func10, Try.ntmps10
  go_wp2
  go_ret
  have n1 : OwnsAcs (w.alloc (.map #[] 0)) w.heap.size [] := OwnsAcs.of (World.ownsMap_made w _ _ _)
  have n2 := acs_kept n1 ((Kept.refl (S := fun _ => False) (w.alloc (.map #[] 0))).alloc (.cells #[.map (some w.heap.size)] 71)) (fun e => e)
  have hb := heap_alloc_new (w.alloc (.map #[] 0)) (.cells #[.map (some w.heap.size)] 71)
  rw [World.size_alloc] at hb
  exact ⟨w.heap.size + 1, w.heap.size, rfl, ⟨hb, n2⟩, ((Below.refl _ _).alloc (Nat.le_refl _) _).alloc (by simp) _, by omega, by omega⟩

def openE (l : Acs) (n kind : Int) : Int := if n < 1 ∨ 99999 < n ∨ kind < 1 ∨ 4 < kind then 1 else if (aFind l n).isSome = true then 5 else if 1000 ≤ l.length then 2 else 0
def openL (l : Acs) (n kind : Int) : Acs := if openE l n kind = 0 then aPut l n (kind, 0) else l
def OpenR (q b : Nat) (w : World) (l : Acs) (n kind : Int) (e : Ending) (w' : World) : Prop := e = .returned (.int .i64 (openE l n kind)) ∧ Ch q b (openL l n kind) w' ∧ Kept (fun k => k = b) w w'

set_option maxRecDepth 100000 in
set_option maxHeartbeats 4000000 in
theorem open_any (q b : Nat) (l : Acs) (w : World) (hs : Ch q b l w) (n kind : Int) (hn : (Lit.int .i64 n).wf = true) (hl : l.length ≤ 1000000000) :
    Calls Try.prog 12 #[.pointer (some ⟨q, 0, none⟩), .int .i64 n, .int .i64 kind] w (OpenR q b w l n kind) := by
  have c0 := Joins.cell_of_block hs.box 0
  simp at c0
  have hlook := look_acs hs.map hn
  obtain ⟨x, hx⟩ : ∃ x, x = lookA l n := ⟨_, rfl⟩
  rw [← hx] at hlook
  obtain ⟨x1, x2⟩ := x
  dsimp only at hlook
  obtain ⟨E, HE⟩ : ∃ E, Hid (E = openE l n kind) := ⟨_, rfl⟩
  obtain ⟨fd, hfd⟩ : ∃ fd, (aFind l n).isSome = fd := ⟨_, rfl⟩
  rw [hfd] at hlook
  have HFD := hide hfd
  have HS := hide hs
  have hq := hs.lt
  have HQ := hide hq
  clear hs hx hfd hq
  have hfin : ∀ w', E ≠ 0 → Below w.heap.size w w' → OpenR q b w l n kind (.returned (.int .i64 E)) w' := fun w' h hb => by
    refine ⟨by rw [HE.out], ?_, Kept.of_below hb⟩
    unfold openL
    rw [if_neg (by rw [← HE.out]; exact h)]
    exact HS.out.call hb
  have HF := hide hfin
  clear hfin
  go_enter Try.func12, Try.ntmps12
  have hb1 : Below w.heap.size w (w.alloc (.cells #[.int .i64 x1, .int .i64 x2] 73)) := below_new w _
  have c1 : (w.alloc (.cells #[.int .i64 x1, .int .i64 x2] 73)).cell? ⟨q, 0, none⟩ = some (.map (some b)) := (hb1.cell (p := ⟨q, 0, none⟩) HQ.out.1).trans c0
  have HB1 := hide hb1
  clear hb1
  by_cases h1 : n < 1
  · have hE : E = 1 := by rw [HE.out]; unfold openE; rw [if_pos (.inl h1)]
    subst hE
    go_wp2
    go_ret
    exact HF.out _ (by decide) HB1.out
  by_cases h2 : 99999 < n
  · have hE : E = 1 := by rw [HE.out]; unfold openE; rw [if_pos (.inr (.inl h2))]
    subst hE
    go_wp2
    go_ret
    exact HF.out _ (by decide) HB1.out
  by_cases h3 : kind < 1
  · have hE : E = 1 := by rw [HE.out]; unfold openE; rw [if_pos (.inr (.inr (.inl h3)))]
    subst hE
    go_wp2
    go_ret
    exact HF.out _ (by decide) HB1.out
  by_cases h4 : 4 < kind
  · have hE : E = 1 := by rw [HE.out]; unfold openE; rw [if_pos (.inr (.inr (.inr h4)))]
    subst hE
    go_wp2
    go_ret
    exact HF.out _ (by decide) HB1.out
  have hno : ¬ (n < 1 ∨ 99999 < n ∨ kind < 1 ∨ 4 < kind) := by omega
  cases fd with
  | true =>
    have hE : E = 5 := by rw [HE.out]; unfold openE; rw [if_neg hno, if_pos HFD.out]
    subst hE
    clear hno
    go_wp2
    go_ret
    exact HF.out _ (by decide) HB1.out
  | false =>
    have HNO := hide hno
    clear hno
    go_wp2_with (at_len; refine halted ?_)
    refine go_on ?_
    have hs1 := HS.out.call HB1.out
    have HS1 := hide hs1
    refine wpList_len_own _ rfl _ 69 rfl 3 73 Try.underlying69 accR b l.length (accD l) rfl hs1.map ?_
    rw [accD_size]
    clear hs1
    by_cases h5 : 1000 ≤ l.length
    · have hE : E = 2 := by rw [HE.out]; unfold openE; rw [if_neg HNO.out, if_neg (by rw [HFD.out]; simp), if_pos h5]
      subst hE
      go_wp2
      go_ret
      exact HF.out _ (by decide) HB1.out
    · have hE : E = 0 := by rw [HE.out]; unfold openE; rw [if_neg HNO.out, if_neg (by rw [HFD.out]; simp), if_neg h5]
      have HE0 := hide hE
      clear hE
      generalize w.alloc (.cells #[.int .i64 x1, .int .i64 x2] 73) = w1 at *
      go_wp2_with (at_mapUpdate; refine halted ?_)
      refine go_on ?_
      refine wpList_mapUpdate_own _ rfl (.tmp 45) (.tmp 46) (.tmp 48) 69 rfl 3 73 ikeyed Try.underlying69 accR b l.length (accD l) rfl HS1.out.map (by unfold maxLen; omega) _ _ (.int .i64 n) rfl rfl (keyOf_int_mk Try.underlying3 hn) (accE (kind, 0)) [] rfl ?_
      intro w2 hown2 hg2
      have hd2 : OwnsAcs w2 b (aPut l n (kind, 0)) := OwnsAcs.of (by rw [accD_put]; exact hown2)
      have hk2 : Kept (fun k => k = b) w1 w2 := Kept.of_grown hg2 (fun k hk => by injection hk with hk; exact hk.symm)
      have hfin : OpenR q b w l n kind (.returned (.int .i64 0)) w2 := by
        have h0 : openE l n kind = 0 := HE.out.symm.trans HE0.out
        refine ⟨by rw [h0], ?_, (Kept.of_below HB1.out).trans_in hk2 (fun k _ e => e)⟩
        unfold openL
        rw [if_pos h0]
        exact ⟨(hk2.block q (Nat.lt_of_lt_of_le HQ.out.1 HB1.out.size) HQ.out.2.2).trans HS1.out.box, hd2⟩
      have HFN := hide hfin
      clear hown2 hg2 hd2 hk2 hfin
      go_wp2
      go_ret
      exact HFN.out

/-- What a chart tells of an account's balance. -/
def balE (l : Acs) (n : Int) : Int × Int := match aFind l n with
  | some x => (x.2, 0)
  | none => (0, 4)
set_option maxRecDepth 100000 in
set_option maxHeartbeats 4000000 in
theorem balance_any (q b : Nat) (l : Acs) (w : World) (hs : Ch q b l w) (n : Int) (hn : (Lit.int .i64 n).wf = true) :
    Calls Try.prog 15 #[.pointer (some ⟨q, 0, none⟩), .int .i64 n] w (NumR w (balE l n)) := by
  have c0 := Joins.cell_of_block hs.box 0
  simp at c0
  have hlook := look_acs hs.map hn
  obtain ⟨E, HE⟩ : ∃ E, Hid (E = balE l n) := ⟨_, rfl⟩
  rw [← HE.out]
  cases hfd : aFind l n with
  | none =>
    have hE : E = (0, 4) := by rw [HE.out]; unfold balE; rw [hfd]
    have HE0 := hide hE
    have hx : lookA l n = (0, 0) := by unfold lookA; rw [hfd]; rfl
    rw [hfd, hx] at hlook
    dsimp only [Option.isSome] at hlook
    have HB := hide (below_new w (.cells #[.int .i64 0, .int .i64 0] 73))
    clear hE hx hfd hs
    go_enter Try.func15, Try.ntmps15
    go_wp2
    go_ret2
    exact ⟨by rw [HE0.out]; rfl, HB.out⟩
  | some x =>
    have hE : E = (x.2, 0) := by rw [HE.out]; unfold balE; rw [hfd]
    have HE0 := hide hE
    have hx : lookA l n = x := by unfold lookA; rw [hfd]; rfl
    rw [hfd, hx] at hlook
    dsimp only [Option.isSome] at hlook
    have HB := hide (below_new w (.cells #[.int .i64 x.1, .int .i64 x.2] 73))
    clear hE hx hfd hs
    go_enter Try.func15, Try.ntmps15
    go_wp2
    go_ret2
    exact ⟨by rw [HE0.out]; rfl, HB.out⟩
end Go.Proofs.Ytibanikfalfmcaa
