/-
  chart's Trial, walked.
-/
import Derived.Test.YtibanikfalfmcaaTrial
namespace Go.Proofs.Ytibanikfalfmcaa
open Go.RowKit Go.Maps
set_option linter.unusedVariables false

theorem blocks3 (w : World) (o0 o1 o2 : Obj) :
  (((w.alloc o0).alloc o1).alloc o2).heap[w.heap.size]? = some o0 ∧
  (((w.alloc o0).alloc o1).alloc o2).heap[w.heap.size + 1]? = some o1 ∧
  (((w.alloc o0).alloc o1).alloc o2).heap[w.heap.size + 1 + 1]? = some o2 := by
  have h0 := heap_alloc_new w o0
  have h1 := heap_alloc_new (w.alloc o0) o1
  have h2 := heap_alloc_new ((w.alloc o0).alloc o1) o2
  simp only [World.size_alloc] at h1 h2
  refine ⟨?_, ?_, h2⟩
  · exact (Below.heap_alloc _ _ _ (by simp only [World.size_alloc]; omega)).trans ((Below.heap_alloc _ _ _ (by simp only [World.size_alloc]; omega)).trans h0)
  · exact (Below.heap_alloc _ _ _ (by simp only [World.size_alloc]; omega)).trans h1
theorem add_at0 (q j : Nat) : (⟨q, 0, none⟩ : Addr).add j = ⟨q, j, none⟩ := by
  unfold Addr.add
  split
  · rename_i h; subst h; rfl
  · simp
def TrRel (l : Acs) (b r q4 base : Nat) (w0 wr : World) : Prop :=
  ∃ (left : Lit → Bool) (cnt : Nat) (of : List Ow), wr.ranges Try.prog 3 accR b r l.length (accD l) left cnt ∧ TrSt wr base q4 of ∧ (∀ (i : Nat) (o : Ow), of[i]? = some o → o.xs.Perm (gotK l left (i : Int))) ∧ Kept (fun k => k = q4 ∨ k = r) w0 wr
theorem acs_entry {l : Acs} {n : Int} {y : DataW Unit} (h : ∀ zd, (accD l).atKey (.int .i64 n) zd = y) : ∃ a, aFind l n = some a ∧ y = accE a := by
  cases hf : aFind l n with
  | some a =>
    have := h (.map [])
    rw [accD_at, hf] at this
    exact ⟨a, rfl, this.symm⟩
  | none =>
    have h1 := h (.lit (.bool true))
    have h2 := h (.lit (.bool false))
    rw [accD_at, hf] at h1 h2
    dsimp only at h1 h2
    rw [← h2] at h1
    injection h1 with h1
    injection h1 with h1
    cases h1
theorem find_mem {l : Acs} (h : l.Pairwise fun x y => x.1 < y.1) {n : Int} {a : Int × Int} (hm : (n, a) ∈ l) : aFind l n = some a := by
  induction l with
  | nil => cases hm
  | cons e r ih =>
    rw [List.pairwise_cons] at h
    rw [find_cons]
    rcases List.mem_cons.1 hm with h1 | h1
    · subst h1
      rw [if_pos rfl]
    · have := h.1 _ h1
      dsimp only at this
      rw [if_neg (by omega)]
      exact ih h.2 h1
theorem kinds_mem {l : Acs} {i y : Int} (h : y ∈ kinds l i) : ∃ n k, (n, k, y) ∈ l := by
  unfold kinds at h
  induction l with
  | nil => cases h
  | cons e r ih =>
    unfold gotK at h
    split at h
    · rcases List.mem_cons.1 h with h1 | h1
      · exact ⟨e.1, e.2.1, by rw [h1]; exact List.mem_cons_self ..⟩
      · obtain ⟨n, k, h2⟩ := ih h1
        exact ⟨n, k, List.mem_cons_of_mem _ h2⟩
    · obtain ⟨n, k, h2⟩ := ih h
      exact ⟨n, k, List.mem_cons_of_mem _ h2⟩
theorem kinds_amt {l : Acs} (hg : Good l) (h : l.Pairwise fun x y => x.1 < y.1) {i y : Int} (hy : y ∈ kinds l i) : -9223372036854775808 ≤ y ∧ y ≤ 9223372036854775807 := by
  obtain ⟨n, k, hm⟩ := kinds_mem hy
  have := (amt_iff y).1 (hg n (k, y) (find_mem h hm)).1
  omega
theorem idx5 (A0 A1 A2 A3 A4 : Option Addr) (n0 c0 n1 c1 n2 c2 n3 c3 n4 c4 : Nat) :
    (∀ w : World, (Instr.index 94 (.agg #[.slice A0 n0 c0, .slice A1 n1 c1, .slice A2 n2 c2, .slice A3 n3 c3, .slice A4 n4 c4]) (.int .i64 0)).run Try.prog w = .ok (.slice A0 n0 c0) w) ∧ (∀ w : World, (Instr.index 94 (.agg #[.slice A0 n0 c0, .slice A1 n1 c1, .slice A2 n2 c2, .slice A3 n3 c3, .slice A4 n4 c4]) (.int .i64 1)).run Try.prog w = .ok (.slice A1 n1 c1) w) ∧ (∀ w : World, (Instr.index 94 (.agg #[.slice A0 n0 c0, .slice A1 n1 c1, .slice A2 n2 c2, .slice A3 n3 c3, .slice A4 n4 c4]) (.int .i64 2)).run Try.prog w = .ok (.slice A2 n2 c2) w) ∧ (∀ w : World, (Instr.index 94 (.agg #[.slice A0 n0 c0, .slice A1 n1 c1, .slice A2 n2 c2, .slice A3 n3 c3, .slice A4 n4 c4]) (.int .i64 3)).run Try.prog w = .ok (.slice A3 n3 c3) w) ∧ (∀ w : World, (Instr.index 94 (.agg #[.slice A0 n0 c0, .slice A1 n1 c1, .slice A2 n2 c2, .slice A3 n3 c3, .slice A4 n4 c4]) (.int .i64 4)).run Try.prog w = .ok (.slice A4 n4 c4) w) := by
  refine ⟨fun w => ?_, fun w => ?_, fun w => ?_, fun w => ?_, fun w => ?_⟩ <;> kernel_rfl
theorem below5 {B : Nat} {a w : World} (h : Below B a w) {q : Nat} (hq : B ≤ q) (u0 u1 u2 u3 u4 : Value) :
    Below B a (((((w.setCell ⟨q, 0, none⟩ u0).setCell ⟨q, 1, none⟩ u1).setCell ⟨q, 2, none⟩ u2).setCell ⟨q, 3, none⟩ u3).setCell ⟨q, 4, none⟩ u4) :=
  ((((h.setCell (p := ⟨q, 0, none⟩) hq _).setCell (p := ⟨q, 1, none⟩) hq _).setCell (p := ⟨q, 2, none⟩) hq _).setCell (p := ⟨q, 3, none⟩) hq _).setCell (p := ⟨q, 4, none⟩) hq _
/-- What Trial has written. -/
def outs (t : Nat → Int) (k : Nat) : Array Value := #[.int .i64 (if 0 < k then t 0 else 0), .int .i64 (if 1 < k then t 1 else 0), .int .i64 (if 2 < k then t 2 else 0), .int .i64 (if 3 < k then t 3 else 0), .int .i64 (if 4 < k then t 4 else 0)]
def Tr2Rel (t : Nat → Int) (q3 : Nat) (wr : World) (i : Value) (wq : World) : Prop := ∃ k : Nat, k ≤ 5 ∧ i = .int .i64 (k : Int) ∧ wq.heap[q3]? = some (.cells (outs t k) 61 (0, 0)) ∧ Kept (fun k => k = q3) wr wq
theorem Tr2Rel.next {t : Nat → Int} {q3 k : Nat} {wr wq w5 : World} (hk : k < 5) (hx : wq.heap[q3]? = some (.cells (outs t k) 61 (0, 0))) (hkp : Kept (fun k => k = q3) wr wq) (hb : Below wq.heap.size wq w5) : Tr2Rel t q3 wr (.int .i64 ((k : Int) + 1)) (w5.setCell ⟨q3, k, none⟩ (.int .i64 (t k))) := by
  have hx5 := (hb.block q3 (Array.getElem?_eq_some_iff.1 hx).1).trans hx
  refine ⟨k + 1, hk, by simp, ?_, (hkp.call hb).trans (Kept.set (S := fun k => k = q3) w5 rfl k _)⟩
  rw [Joins.block_setCell (i := k) hx5 (.int .i64 (t k))]
  congr 2
  have : k = 0 ∨ k = 1 ∨ k = 2 ∨ k = 3 ∨ k = 4 := by omega
  rcases this with rfl | rfl | rfl | rfl | rfl <;> rfl
/-- A round of Trial's first loop. -/
theorem tr_step {l : Acs} {b rr q4 base kd cnt2 : Nat} {w0 w2 w3 w5 : World} {left : Lit → Bool} {of : List Ow} {o : Ow} {x e2 : Int} {A5 : Option Addr} {c5 : Nat}
    (hw0 : base = w0.heap.size) (hbs : base ≤ w2.heap.size) (hrb : rr < base) (hrq : rr ≠ q4) (hbb : b ≠ q4) (hbl : b < base) (hrg : w2.ranges Try.prog 3 accR b rr l.length (accD l) (fun z => left z && !z.sameKey (.int .i64 x)) cnt2) (hts : TrSt w3 base q4 of) (hts2 : TrSt w2 base q4 of) (hb3 : Below w2.heap.size w2 w3)
    (hpm : ∀ (i : Nat) (o : Ow), of[i]? = some o → o.xs.Perm (gotK l left (i : Int))) (hsk : ∀ i, (gotK l (fun z => left z && !z.sameKey (.int .i64 x)) i).Perm (gotK l left i ++ if (kd : Int) = i then [e2] else [])) (ho : of[kd]? = some o)
    (hk02 : Kept (fun k => k = q4 ∨ k = rr) w0 w2) (hk5 : Kept (InRow o.A) w3 w5) (hown : w5.ownsRow base 2 1 (.slice A5 (o.xs.length + 1) c5) (o.xs.length + 1) ((o.xs ++ [e2]).map i64v)) (hat : ∀ k, InRow A5 k → InRow o.A k ∨ w3.heap.size ≤ k) :
    TrRel l b rr q4 base w0 (w5.setCell ⟨q4, kd, none⟩ (.slice A5 (o.xs.length + 1) c5)) ∧ (w5.setCell ⟨q4, kd, none⟩ (.slice A5 (o.xs.length + 1) c5)).rangeLeft b rr = cnt2 := by
  have hkd : kd < of.length := (List.getElem?_eq_some_iff.1 ho).1
  have hrow : ∀ k, InRow o.A k → base ≤ k := fun k hk => ((hts2.row kd o ho).lt k (by unfold Ow.v; rw [ownBlock_slice]; exact hk)).1
  have hk6 : Kept (fun k => InRow o.A k ∨ k = q4) w2 (w5.setCell ⟨q4, kd, none⟩ (.slice A5 (o.xs.length + 1) c5)) :=
    ((Kept.of_below hb3).trans (hk5.wider (fun k _ h => .inl h))).trans (Kept.set (S := fun k => InRow o.A k ∨ k = q4) w5 (.inr rfl) kd _)
  have hrg6 := ranges_kept hrg hk6 (fun e => by rcases e with e | e; have := hrow b e; omega; exact hbb e) (fun e => by rcases e with e | e; have := hrow rr e; omega; exact hrq e)
  refine ⟨⟨_, cnt2, _, hrg6, hts.put ho hown hk5 hat, fun i o' ho' => ?_, ?_⟩, hrg6.left_eq⟩
  · by_cases hi : i = kd
    · subst hi
      rw [List.getElem?_set_self hkd] at ho'
      injection ho' with ho'
      subst ho'
      have h1 := hsk (i : Int)
      rw [if_pos rfl] at h1
      exact ((hpm i o ho).append_right [e2]).trans h1.symm
    · rw [List.getElem?_set_ne (by omega)] at ho'
      have h1 := hsk (i : Int)
      rw [if_neg (by omega), List.append_nil] at h1
      exact (hpm i o' ho').trans h1.symm
  · exact hk02.trans_in hk6 (fun k hk e => by
      rcases e with e | e
      · have := hrow k e; omega
      · exact .inl e)
theorem gotK_len (l : Acs) (left : Lit → Bool) (i : Int) : (gotK l left i).length ≤ l.length := by
  induction l with
  | nil => exact Nat.le_refl _
  | cons e r ih =>
    unfold gotK
    split
    · simp; omega
    · simp; omega

set_option maxRecDepth 100000 in
set_option maxHeartbeats 4000000 in
theorem trial_any (q b : Nat) (l : Acs) (w : World) (hs : Ch q b l w) (hg : Good l) (hl : l.length ≤ 1000000) :
    Calls Try.prog 26 #[.pointer (some ⟨q, 0, none⟩)] w fun e w' => e = .returned (.agg #[.int .i64 (trialE l 0), .int .i64 (trialE l 1), .int .i64 (trialE l 2), .int .i64 (trialE l 3), .int .i64 (trialE l 4)]) ∧ Below w.heap.size w w' := by
  obtain ⟨i0, hi, hz0, hz1, hz2⟩ := info_parts info_i64
  have HRS := hide (acs_rises hs.map)
  obtain ⟨w1, hw1⟩ : ∃ w1, w1 = ((w.alloc (.cells #[.int .i64 0, .int .i64 0, .int .i64 0, .int .i64 0, .int .i64 0] 61)).alloc (.cells #[.int .i64 0, .int .i64 0, .int .i64 0, .int .i64 0, .int .i64 0] 61)).alloc (.cells #[.slice none 0 0, .slice none 0 0, .slice none 0 0, .slice none 0 0, .slice none 0 0] 94) := ⟨_, rfl⟩
  have hb1 : Below w.heap.size w w1 := by rw [hw1]; exact (((Below.refl _ _).alloc (Nat.le_refl _) _).alloc (by simp) _).alloc (by simp; omega) _
  have hz1 : w1.heap.size = w.heap.size + 3 := by rw [hw1]; simp
  obtain ⟨hx2, hx3, hx4⟩ := blocks3 w (.cells #[.int .i64 0, .int .i64 0, .int .i64 0, .int .i64 0, .int .i64 0] 61) (.cells #[.int .i64 0, .int .i64 0, .int .i64 0, .int .i64 0, .int .i64 0] 61) (.cells #[.slice none 0 0, .slice none 0 0, .slice none 0 0, .slice none 0 0, .slice none 0 0] 94)
  rw [← hw1] at hx2 hx3 hx4
  have hs1 := hs.call hb1
  have c0 : w1.cell? ⟨q, 0, none⟩ = some (.map (some b)) := Joins.cell_of_block hs1.box 0
  rw [hw1] at c0
  have HS1 := hide hs1
  have HB1 := hide hb1
  have HX := hide (And.intro hx2 (And.intro hx3 hx4))
  have HG := hide hg
  have HZ1 := hide hz1
  have hq := hs.lt
  have HQ := hide hq
  clear hs hb1 hs1 hx2 hx3 hx4 hg hz1 hq
  go_enter Try.func26, Try.ntmps26
  go_wp2_with (at_range; refine halted ?_)
  refine go_on ?_
  rw [← hw1]
  refine wpList_range_own _ rfl (.tmp 14) 69 rfl 3 73 ikeyed Try.underlying69 accR b l.length (accD l) rfl HS1.out.map ?_
  intro w0 hrg0 hg0 hs0
  rw [HZ1.out] at hrg0 ⊢
  have hk0 : Kept (fun _ => False) w1 w0 := Kept.of_grown hg0 (fun k hk => by cases hk)
  have hz0' : w0.heap.size = w.heap.size + 4 := by rw [hs0, HZ1.out]
  have HZ0 := hide hz0'
  have HRG := hide hrg0
  have hb0 : Below w.heap.size w w0 := HB1.out.grown hg0 (by rw [HZ1.out]; omega) (fun k hk => by cases hk)
  have HB0 := hide hb0
  have hx20 := (hk0.block _ (by rw [HZ1.out]; omega) (fun e => e)).trans HX.out.1
  have hx30 := (hk0.block _ (by rw [HZ1.out]; omega) (fun e => e)).trans HX.out.2.1
  have hx40 := (hk0.block _ (by rw [HZ1.out]; omega) (fun e => e)).trans HX.out.2.2
  have HX0 := hide (And.intro hx20 hx30)
  have hst0 : TrSt w0 (w.heap.size + 4) (w.heap.size + 1 + 1) [⟨none, 0, []⟩, ⟨none, 0, []⟩, ⟨none, 0, []⟩, ⟨none, 0, []⟩, ⟨none, 0, []⟩] := by
    have nm : ∀ (i : Nat) (o : Ow), ([⟨none, 0, []⟩, ⟨none, 0, []⟩, ⟨none, 0, []⟩, ⟨none, 0, []⟩, ⟨none, 0, []⟩] : List Ow)[i]? = some o → o = ⟨none, 0, []⟩ := by
      intro i o h
      have := List.mem_of_getElem? h
      simpa using this
    refine ⟨rfl, hx40, fun i o ho => ?_, fun i j o1 o2 _ h1 _ k hk => ?_, by omega⟩
    · rw [nm i o ho]
      exact World.ownsRow_nil _ _ _ _
    · rw [nm i o1 h1] at hk
      unfold InRow at hk
      simp at hk
  have hrel0 : TrRel l b (w.heap.size + 3) (w.heap.size + 1 + 1) (w.heap.size + 4) w0 w0 := by
    refine ⟨_, _, _, hrg0, hst0, fun i o ho => ?_, Kept.refl _⟩
    have e : o = ⟨none, 0, []⟩ := by
      have := List.mem_of_getElem? ho
      simpa using this
    rw [e, gotK_none]
    intro x hx
    rw [accD_has]
    unfold aFind
    rw [Option.isSome_map, List.isSome_find?]
    exact List.any_eq_true.2 ⟨x, hx, by simp⟩
  have HR0 := hide hrel0
  have HHS := HS1.out.map
  clear hrg0 hg0 hs0 hk0 hz0' hb0 hx20 hx30 hx40 hst0 hrel0 c0 hw1 HHS
  go_wp2
  obtain ⟨rr, hrr⟩ : ∃ rr, rr = w.heap.size + 3 := ⟨_, rfl⟩
  obtain ⟨q4, hq4⟩ : ∃ q4, q4 = w.heap.size + 1 + 1 := ⟨_, rfl⟩
  obtain ⟨q3, hq3⟩ : ∃ q3, q3 = w.heap.size + 1 := ⟨_, rfl⟩
  obtain ⟨q2, hq2⟩ : ∃ q2, q2 = w.heap.size := ⟨_, rfl⟩
  obtain ⟨base, hbase⟩ : ∃ base, base = w.heap.size + 4 := ⟨_, rfl⟩
  rw [← hq3, ← hq2] at HX0
  rw [← hrr, ← hq4, ← hbase] at HR0
  rw [← hrr, ← hq4, ← hq3]
  have HN := hide (And.intro hrr (And.intro hq4 (And.intro hq3 (And.intro hq2 hbase))))
  rw [← hq2]
  clear hrr hq4 hq3 hq2 hbase
  go_frame
  go_loopw [6] (fun _ wr => TrRel l b rr q4 base w0 wr) (fun _ wr => wr.rangeLeft b rr)
  case atStart => exact HR0.out
  case round =>
    obtain ⟨left, cnt, of, hrg, hst, hpm, hkp⟩ := hrel
    go_wp2_with (at_next; refine halted ?_)
    refine go_on ?_
    have HRG1 := hide hrg
    have HST := hide hst
    have HPM := hide hpm
    have HKP := hide hkp
    clear hrg hst hpm hkp
    refine wpList_next_ranges _ rfl (.tmp 15) rfl 3 ikeyed accR (fun a : Int => .int .i64 a) (fun e : Int × Int => .agg #[.int .i64 e.1, .int .i64 e.2]) (fun key kl hk => by obtain ⟨x, rfl, _⟩ := Maps.keyOf_int_inv Try.underlying3 hk; exact ⟨x, rfl⟩)
      (fun v y hv => by obtain ⟨k, b, rfl, _⟩ := accR_inv hv; exact ⟨(k, b), rfl⟩) b rr l.length (accD l) left cnt rfl HRG1.out ?_ ?_
    · intro hc0 hl0
      have hpm2 : ∀ (i : Nat) (o : Ow), of[i]? = some o → o.xs.Perm (kinds l (i : Int)) := fun i o ho => by
        have := HPM.out i o ho
        rw [gotK_all hl0] at this
        exact this
      have HP2 := hide hpm2
      clear hc0 hl0 HPM hpm2 HRG1
      match of, HST.out.len, HST.out, HP2.out with
      | [o0, o1, o2, o3, o4], _, hst, hp2 =>
        have HST2 := hide hst
        have HP2 := hide hp2
        clear hst hp2
        have c0 : wr.cell? ⟨q4, 0, none⟩ = some (.slice o0.A o0.xs.length o0.c) := Joins.cell_of_block HST2.out.box 0
        have c1 : wr.cell? ⟨q4, 1, none⟩ = some (.slice o1.A o1.xs.length o1.c) := Joins.cell_of_block HST2.out.box 1
        have c2 : wr.cell? ⟨q4, 2, none⟩ = some (.slice o2.A o2.xs.length o2.c) := Joins.cell_of_block HST2.out.box 2
        have c3 : wr.cell? ⟨q4, 3, none⟩ = some (.slice o3.A o3.xs.length o3.c) := Joins.cell_of_block HST2.out.box 3
        have c4 : wr.cell? ⟨q4, 4, none⟩ = some (.slice o4.A o4.xs.length o4.c) := Joins.cell_of_block HST2.out.box 4
        have hx3 : wr.heap[q3]? = some (.cells (outs (fun i => trialE l (i : Int)) 0) 61 (0, 0)) := (HKP.out.block q3 (by have := HN.out; have := HZ0.out; omega) (by have := HN.out; omega)).trans HX0.out.2
        have hx2 := (HKP.out.block q2 (by have := HN.out; have := HZ0.out; omega) (by have := HN.out; omega)).trans HX0.out.1
        have HX3 := hide hx3
        have HX2 := hide hx2
        clear hx3 hx2
        go_wp2
        clear c0 c1 c2 c3 c4
        generalize wr = wo at *
        go_loopw [32] (fun i wq => Tr2Rel (fun i => trialE l (i : Int)) q3 wo i wq) (fun i _ => 5 - (intOf i).toNat)
        case atStart => exact ⟨0, by omega, rfl, HX3.out, Kept.refl _⟩
        case round =>
          obtain ⟨j, hj, rfl, hxq, hkq⟩ := hrel
          have hix := idx5 o0.A o1.A o2.A o3.A o4.A o0.xs.length o0.c o1.xs.length o1.c o2.xs.length o2.c o3.xs.length o3.c o4.xs.length o4.c
          obtain ⟨hix0, hix1, hix2, hix3, hix4⟩ := hix
          have hjj : j = 0 ∨ j = 1 ∨ j = 2 ∨ j = 3 ∨ j = 4 ∨ j = 5 := by omega
          rcases hjj with rfl | rfl | rfl | rfl | rfl | rfl
          · rw [show ((0 : Nat) : Int) = 0 from rfl]
            have hpk := HP2.out 0 o0 rfl
            have hown := (HST2.out.row 0 o0 rfl)
            have hownq := hkq.own hown (fun j hj e => by have h1 := (HST2.out.row 0 o0 rfl).lt j (by unfold Ow.v; rw [ownBlock_slice]; exact hj); have h2 := HN.out; omega)
            have hxl : o0.xs.length ≤ 1000000 := by
              have h1 := hpk.length_eq
              have h2 := gotK_len l (fun _ => false) 0
              unfold kinds at h1
              simp at h1 h2
              omega
            have hrowr := Row.of_own hownq
            have HSM := hide (sum_any o0.A wr.heap.size o0.xs.length o0.c o0.xs wr rfl hrowr (Nat.le_refl _) hxl)
            have HHD := hide (fun w5 (hb : Below wr.heap.size wr w5) => held_any o0.A wr.heap.size o0.xs.length o0.c o0.xs w5 rfl (hrowr.below hb) hxl (fun y hy => kinds_amt HG.out HRS.out (hpk.mem_iff.1 hy)))
            have htk : trialE l (0 : Nat) = trOne o0.xs := (trOne_perm hpk).symm
            have HTK := hide htk
            have HNX := hide (fun w5 (hb : Below wr.heap.size wr w5) => Tr2Rel.next (k := 0) (by omega) hxq hkq hb)
            have HBO := hide (fun w5 (hb : Below wr.heap.size wr w5) => (hb.block q3 (Array.getElem?_eq_some_iff.1 hxq).1).trans hxq)
            obtain ⟨sv, hsv⟩ : ∃ sv, sv = sumE o0.xs := ⟨_, rfl⟩
            obtain ⟨hv, hhv⟩ : ∃ hv, hv = heldE o0.xs := ⟨_, rfl⟩
            obtain ⟨tv, htv⟩ : ∃ tv, tv = trialE l (0 : Nat) := ⟨_, rfl⟩
            have hcase : (sv.2 = 0 ∧ tv = sv.1) ∨ (sv.2 ≠ 0 ∧ tv = hv) := by
              rw [htv, htk, hsv, hhv]
              unfold trOne
              by_cases h : (sumE o0.xs).2 = 0
              · rw [if_pos h]; exact .inl ⟨h, rfl⟩
              · rw [if_neg h]; exact .inr ⟨h, rfl⟩
            rw [← hsv] at HSM
            rw [← hhv] at HHD
            rw [← htv] at HNX
            clear hpk hown hownq hrowr htk hsv hhv htv hxq hkq hj
            obtain ⟨s1, s2⟩ := sv
            dsimp only at hcase
            go_wp2_with (go_at_call 56; refine halted ?_)
            refine go_on ?_
            refine HSM.out.mono ?_
            rintro e w5 ⟨rfl, hb5⟩
            have hx5 := HBO.out w5 hb5
            have f5 := Joins.unfrozen_of_block hx5 0
            have g5 := Joins.cell_of_block hx5 0
            have HNX5 := hide (HNX.out w5 hb5)
            have HC5 := hide (HHD.out w5 hb5)
            clear HSM hx5 hb5 HNX HHD HBO
            unfold outs at g5
            simp at g5
            rcases hcase with ⟨h0, rfl⟩ | ⟨h0, rfl⟩
            · subst h0
              go_wp2
              case roundEnd => exact ⟨by have := HNX5.out; simpa using this, by simp [intOf]⟩
            · have h0' : (s2 != 0) = true := by rw [bne_iff_ne]; exact h0
              clear h0
              go_wp2_with (go_at_call 57; refine halted ?_)
              refine go_on ?_
              refine HC5.out.mono ?_
              rintro e w6 ⟨rfl, rfl⟩
              go_wp2
              case roundEnd => exact ⟨by have := HNX5.out; simpa using this, by simp [intOf]⟩
          · rw [show ((1 : Nat) : Int) = 1 from rfl]
            have hpk := HP2.out 1 o1 rfl
            have hown := (HST2.out.row 1 o1 rfl)
            have hownq := hkq.own hown (fun j hj e => by have h1 := (HST2.out.row 1 o1 rfl).lt j (by unfold Ow.v; rw [ownBlock_slice]; exact hj); have h2 := HN.out; omega)
            have hxl : o1.xs.length ≤ 1000000 := by
              have h1 := hpk.length_eq
              have h2 := gotK_len l (fun _ => false) 1
              unfold kinds at h1
              simp at h1 h2
              omega
            have hrowr := Row.of_own hownq
            have HSM := hide (sum_any o1.A wr.heap.size o1.xs.length o1.c o1.xs wr rfl hrowr (Nat.le_refl _) hxl)
            have HHD := hide (fun w5 (hb : Below wr.heap.size wr w5) => held_any o1.A wr.heap.size o1.xs.length o1.c o1.xs w5 rfl (hrowr.below hb) hxl (fun y hy => kinds_amt HG.out HRS.out (hpk.mem_iff.1 hy)))
            have htk : trialE l (1 : Nat) = trOne o1.xs := (trOne_perm hpk).symm
            have HTK := hide htk
            have HNX := hide (fun w5 (hb : Below wr.heap.size wr w5) => Tr2Rel.next (k := 1) (by omega) hxq hkq hb)
            have HBO := hide (fun w5 (hb : Below wr.heap.size wr w5) => (hb.block q3 (Array.getElem?_eq_some_iff.1 hxq).1).trans hxq)
            obtain ⟨sv, hsv⟩ : ∃ sv, sv = sumE o1.xs := ⟨_, rfl⟩
            obtain ⟨hv, hhv⟩ : ∃ hv, hv = heldE o1.xs := ⟨_, rfl⟩
            obtain ⟨tv, htv⟩ : ∃ tv, tv = trialE l (1 : Nat) := ⟨_, rfl⟩
            have hcase : (sv.2 = 0 ∧ tv = sv.1) ∨ (sv.2 ≠ 0 ∧ tv = hv) := by
              rw [htv, htk, hsv, hhv]
              unfold trOne
              by_cases h : (sumE o1.xs).2 = 0
              · rw [if_pos h]; exact .inl ⟨h, rfl⟩
              · rw [if_neg h]; exact .inr ⟨h, rfl⟩
            rw [← hsv] at HSM
            rw [← hhv] at HHD
            rw [← htv] at HNX
            clear hpk hown hownq hrowr htk hsv hhv htv hxq hkq hj
            obtain ⟨s1, s2⟩ := sv
            dsimp only at hcase
            go_wp2_with (go_at_call 56; refine halted ?_)
            refine go_on ?_
            refine HSM.out.mono ?_
            rintro e w5 ⟨rfl, hb5⟩
            have hx5 := HBO.out w5 hb5
            have f5 := Joins.unfrozen_of_block hx5 1
            have g5 := Joins.cell_of_block hx5 1
            have HNX5 := hide (HNX.out w5 hb5)
            have HC5 := hide (HHD.out w5 hb5)
            clear HSM hx5 hb5 HNX HHD HBO
            unfold outs at g5
            simp at g5
            rcases hcase with ⟨h0, rfl⟩ | ⟨h0, rfl⟩
            · subst h0
              go_wp2
              case roundEnd => exact ⟨by have := HNX5.out; simpa using this, by simp [intOf]⟩
            · have h0' : (s2 != 0) = true := by rw [bne_iff_ne]; exact h0
              clear h0
              go_wp2_with (go_at_call 57; refine halted ?_)
              refine go_on ?_
              refine HC5.out.mono ?_
              rintro e w6 ⟨rfl, rfl⟩
              go_wp2
              case roundEnd => exact ⟨by have := HNX5.out; simpa using this, by simp [intOf]⟩
          · rw [show ((2 : Nat) : Int) = 2 from rfl]
            have hpk := HP2.out 2 o2 rfl
            have hown := (HST2.out.row 2 o2 rfl)
            have hownq := hkq.own hown (fun j hj e => by have h1 := (HST2.out.row 2 o2 rfl).lt j (by unfold Ow.v; rw [ownBlock_slice]; exact hj); have h2 := HN.out; omega)
            have hxl : o2.xs.length ≤ 1000000 := by
              have h1 := hpk.length_eq
              have h2 := gotK_len l (fun _ => false) 2
              unfold kinds at h1
              simp at h1 h2
              omega
            have hrowr := Row.of_own hownq
            have HSM := hide (sum_any o2.A wr.heap.size o2.xs.length o2.c o2.xs wr rfl hrowr (Nat.le_refl _) hxl)
            have HHD := hide (fun w5 (hb : Below wr.heap.size wr w5) => held_any o2.A wr.heap.size o2.xs.length o2.c o2.xs w5 rfl (hrowr.below hb) hxl (fun y hy => kinds_amt HG.out HRS.out (hpk.mem_iff.1 hy)))
            have htk : trialE l (2 : Nat) = trOne o2.xs := (trOne_perm hpk).symm
            have HTK := hide htk
            have HNX := hide (fun w5 (hb : Below wr.heap.size wr w5) => Tr2Rel.next (k := 2) (by omega) hxq hkq hb)
            have HBO := hide (fun w5 (hb : Below wr.heap.size wr w5) => (hb.block q3 (Array.getElem?_eq_some_iff.1 hxq).1).trans hxq)
            obtain ⟨sv, hsv⟩ : ∃ sv, sv = sumE o2.xs := ⟨_, rfl⟩
            obtain ⟨hv, hhv⟩ : ∃ hv, hv = heldE o2.xs := ⟨_, rfl⟩
            obtain ⟨tv, htv⟩ : ∃ tv, tv = trialE l (2 : Nat) := ⟨_, rfl⟩
            have hcase : (sv.2 = 0 ∧ tv = sv.1) ∨ (sv.2 ≠ 0 ∧ tv = hv) := by
              rw [htv, htk, hsv, hhv]
              unfold trOne
              by_cases h : (sumE o2.xs).2 = 0
              · rw [if_pos h]; exact .inl ⟨h, rfl⟩
              · rw [if_neg h]; exact .inr ⟨h, rfl⟩
            rw [← hsv] at HSM
            rw [← hhv] at HHD
            rw [← htv] at HNX
            clear hpk hown hownq hrowr htk hsv hhv htv hxq hkq hj
            obtain ⟨s1, s2⟩ := sv
            dsimp only at hcase
            go_wp2_with (go_at_call 56; refine halted ?_)
            refine go_on ?_
            refine HSM.out.mono ?_
            rintro e w5 ⟨rfl, hb5⟩
            have hx5 := HBO.out w5 hb5
            have f5 := Joins.unfrozen_of_block hx5 2
            have g5 := Joins.cell_of_block hx5 2
            have HNX5 := hide (HNX.out w5 hb5)
            have HC5 := hide (HHD.out w5 hb5)
            clear HSM hx5 hb5 HNX HHD HBO
            unfold outs at g5
            simp at g5
            rcases hcase with ⟨h0, rfl⟩ | ⟨h0, rfl⟩
            · subst h0
              go_wp2
              case roundEnd => exact ⟨by have := HNX5.out; simpa using this, by simp [intOf]⟩
            · have h0' : (s2 != 0) = true := by rw [bne_iff_ne]; exact h0
              clear h0
              go_wp2_with (go_at_call 57; refine halted ?_)
              refine go_on ?_
              refine HC5.out.mono ?_
              rintro e w6 ⟨rfl, rfl⟩
              go_wp2
              case roundEnd => exact ⟨by have := HNX5.out; simpa using this, by simp [intOf]⟩
          · rw [show ((3 : Nat) : Int) = 3 from rfl]
            have hpk := HP2.out 3 o3 rfl
            have hown := (HST2.out.row 3 o3 rfl)
            have hownq := hkq.own hown (fun j hj e => by have h1 := (HST2.out.row 3 o3 rfl).lt j (by unfold Ow.v; rw [ownBlock_slice]; exact hj); have h2 := HN.out; omega)
            have hxl : o3.xs.length ≤ 1000000 := by
              have h1 := hpk.length_eq
              have h2 := gotK_len l (fun _ => false) 3
              unfold kinds at h1
              simp at h1 h2
              omega
            have hrowr := Row.of_own hownq
            have HSM := hide (sum_any o3.A wr.heap.size o3.xs.length o3.c o3.xs wr rfl hrowr (Nat.le_refl _) hxl)
            have HHD := hide (fun w5 (hb : Below wr.heap.size wr w5) => held_any o3.A wr.heap.size o3.xs.length o3.c o3.xs w5 rfl (hrowr.below hb) hxl (fun y hy => kinds_amt HG.out HRS.out (hpk.mem_iff.1 hy)))
            have htk : trialE l (3 : Nat) = trOne o3.xs := (trOne_perm hpk).symm
            have HTK := hide htk
            have HNX := hide (fun w5 (hb : Below wr.heap.size wr w5) => Tr2Rel.next (k := 3) (by omega) hxq hkq hb)
            have HBO := hide (fun w5 (hb : Below wr.heap.size wr w5) => (hb.block q3 (Array.getElem?_eq_some_iff.1 hxq).1).trans hxq)
            obtain ⟨sv, hsv⟩ : ∃ sv, sv = sumE o3.xs := ⟨_, rfl⟩
            obtain ⟨hv, hhv⟩ : ∃ hv, hv = heldE o3.xs := ⟨_, rfl⟩
            obtain ⟨tv, htv⟩ : ∃ tv, tv = trialE l (3 : Nat) := ⟨_, rfl⟩
            have hcase : (sv.2 = 0 ∧ tv = sv.1) ∨ (sv.2 ≠ 0 ∧ tv = hv) := by
              rw [htv, htk, hsv, hhv]
              unfold trOne
              by_cases h : (sumE o3.xs).2 = 0
              · rw [if_pos h]; exact .inl ⟨h, rfl⟩
              · rw [if_neg h]; exact .inr ⟨h, rfl⟩
            rw [← hsv] at HSM
            rw [← hhv] at HHD
            rw [← htv] at HNX
            clear hpk hown hownq hrowr htk hsv hhv htv hxq hkq hj
            obtain ⟨s1, s2⟩ := sv
            dsimp only at hcase
            go_wp2_with (go_at_call 56; refine halted ?_)
            refine go_on ?_
            refine HSM.out.mono ?_
            rintro e w5 ⟨rfl, hb5⟩
            have hx5 := HBO.out w5 hb5
            have f5 := Joins.unfrozen_of_block hx5 3
            have g5 := Joins.cell_of_block hx5 3
            have HNX5 := hide (HNX.out w5 hb5)
            have HC5 := hide (HHD.out w5 hb5)
            clear HSM hx5 hb5 HNX HHD HBO
            unfold outs at g5
            simp at g5
            rcases hcase with ⟨h0, rfl⟩ | ⟨h0, rfl⟩
            · subst h0
              go_wp2
              case roundEnd => exact ⟨by have := HNX5.out; simpa using this, by simp [intOf]⟩
            · have h0' : (s2 != 0) = true := by rw [bne_iff_ne]; exact h0
              clear h0
              go_wp2_with (go_at_call 57; refine halted ?_)
              refine go_on ?_
              refine HC5.out.mono ?_
              rintro e w6 ⟨rfl, rfl⟩
              go_wp2
              case roundEnd => exact ⟨by have := HNX5.out; simpa using this, by simp [intOf]⟩
          · rw [show ((4 : Nat) : Int) = 4 from rfl]
            have hpk := HP2.out 4 o4 rfl
            have hown := (HST2.out.row 4 o4 rfl)
            have hownq := hkq.own hown (fun j hj e => by have h1 := (HST2.out.row 4 o4 rfl).lt j (by unfold Ow.v; rw [ownBlock_slice]; exact hj); have h2 := HN.out; omega)
            have hxl : o4.xs.length ≤ 1000000 := by
              have h1 := hpk.length_eq
              have h2 := gotK_len l (fun _ => false) 4
              unfold kinds at h1
              simp at h1 h2
              omega
            have hrowr := Row.of_own hownq
            have HSM := hide (sum_any o4.A wr.heap.size o4.xs.length o4.c o4.xs wr rfl hrowr (Nat.le_refl _) hxl)
            have HHD := hide (fun w5 (hb : Below wr.heap.size wr w5) => held_any o4.A wr.heap.size o4.xs.length o4.c o4.xs w5 rfl (hrowr.below hb) hxl (fun y hy => kinds_amt HG.out HRS.out (hpk.mem_iff.1 hy)))
            have htk : trialE l (4 : Nat) = trOne o4.xs := (trOne_perm hpk).symm
            have HTK := hide htk
            have HNX := hide (fun w5 (hb : Below wr.heap.size wr w5) => Tr2Rel.next (k := 4) (by omega) hxq hkq hb)
            have HBO := hide (fun w5 (hb : Below wr.heap.size wr w5) => (hb.block q3 (Array.getElem?_eq_some_iff.1 hxq).1).trans hxq)
            obtain ⟨sv, hsv⟩ : ∃ sv, sv = sumE o4.xs := ⟨_, rfl⟩
            obtain ⟨hv, hhv⟩ : ∃ hv, hv = heldE o4.xs := ⟨_, rfl⟩
            obtain ⟨tv, htv⟩ : ∃ tv, tv = trialE l (4 : Nat) := ⟨_, rfl⟩
            have hcase : (sv.2 = 0 ∧ tv = sv.1) ∨ (sv.2 ≠ 0 ∧ tv = hv) := by
              rw [htv, htk, hsv, hhv]
              unfold trOne
              by_cases h : (sumE o4.xs).2 = 0
              · rw [if_pos h]; exact .inl ⟨h, rfl⟩
              · rw [if_neg h]; exact .inr ⟨h, rfl⟩
            rw [← hsv] at HSM
            rw [← hhv] at HHD
            rw [← htv] at HNX
            clear hpk hown hownq hrowr htk hsv hhv htv hxq hkq hj
            obtain ⟨s1, s2⟩ := sv
            dsimp only at hcase
            go_wp2_with (go_at_call 56; refine halted ?_)
            refine go_on ?_
            refine HSM.out.mono ?_
            rintro e w5 ⟨rfl, hb5⟩
            have hx5 := HBO.out w5 hb5
            have f5 := Joins.unfrozen_of_block hx5 4
            have g5 := Joins.cell_of_block hx5 4
            have HNX5 := hide (HNX.out w5 hb5)
            have HC5 := hide (HHD.out w5 hb5)
            clear HSM hx5 hb5 HNX HHD HBO
            unfold outs at g5
            simp at g5
            rcases hcase with ⟨h0, rfl⟩ | ⟨h0, rfl⟩
            · subst h0
              go_wp2
              case roundEnd => exact ⟨by have := HNX5.out; simpa using this, by simp [intOf]⟩
            · have h0' : (s2 != 0) = true := by rw [bne_iff_ne]; exact h0
              clear h0
              go_wp2_with (go_at_call 57; refine halted ?_)
              refine go_on ?_
              refine HC5.out.mono ?_
              rintro e w6 ⟨rfl, rfl⟩
              go_wp2
              case roundEnd => exact ⟨by have := HNX5.out; simpa using this, by simp [intOf]⟩
          · rw [show ((5 : Nat) : Int) = 5 from rfl]
            have hx2q := (hkq.block q2 (by have h1 := HN.out; have h2 := HZ0.out; have h3 := HKP.out.size; omega) (by have := HN.out; omega)).trans HX2.out
            have hbw : Below w.heap.size w wr := (HB0.out.trans (HKP.out.below (fun k hk => by have := HN.out; omega) HB0.out.size)).trans (hkq.below (fun k hk => by have := HN.out; omega) (by have h1 := HKP.out.size; have h2 := HB0.out.size; omega))
            have HBW := hide hbw
            have r0 : wr.cell? ⟨q3, 0, none⟩ = some (.int .i64 (trialE l 0)) := Joins.cell_of_block hxq 0
            have r1 : wr.cell? ⟨q3, 1, none⟩ = some (.int .i64 (trialE l 1)) := Joins.cell_of_block hxq 1
            have r2 : wr.cell? ⟨q3, 2, none⟩ = some (.int .i64 (trialE l 2)) := Joins.cell_of_block hxq 2
            have r3 : wr.cell? ⟨q3, 3, none⟩ = some (.int .i64 (trialE l 3)) := Joins.cell_of_block hxq 3
            have r4 : wr.cell? ⟨q3, 4, none⟩ = some (.int .i64 (trialE l 4)) := Joins.cell_of_block hxq 4
            have HX2Q := hide hx2q
            have z0 : wr.cell? ⟨q2, 0, none⟩ = some (.int .i64 0) := Joins.cell_of_block hx2q 0
            have z1 : wr.cell? ⟨q2, 1, none⟩ = some (.int .i64 0) := Joins.cell_of_block hx2q 1
            have z2 : wr.cell? ⟨q2, 2, none⟩ = some (.int .i64 0) := Joins.cell_of_block hx2q 2
            have z3 : wr.cell? ⟨q2, 3, none⟩ = some (.int .i64 0) := Joins.cell_of_block hx2q 3
            have z4 : wr.cell? ⟨q2, 4, none⟩ = some (.int .i64 0) := Joins.cell_of_block hx2q 4
            have u0 := Joins.unfrozen_of_block hx2q 0
            have u1 := Joins.unfrozen_of_block hx2q 1
            have u2 := Joins.unfrozen_of_block hx2q 2
            have u3 := Joins.unfrozen_of_block hx2q 3
            have u4 := Joins.unfrozen_of_block hx2q 4
            clear hxq hkq hj hbw hx2q
            go_wp2
            have q1 := Joins.block_setCell (i := 4) (Joins.block_setCell (i := 3) (Joins.block_setCell (i := 2) (Joins.block_setCell (i := 1) (Joins.block_setCell (i := 0) HX2Q.out (.int .i64 (trialE l 0))) (.int .i64 (trialE l 1))) (.int .i64 (trialE l 2))) (.int .i64 (trialE l 3))) (.int .i64 (trialE l 4))
            have hbN : Below w.heap.size w (((((wr.setCell ⟨q2, 0, none⟩ (.int .i64 (trialE l 0))).setCell ⟨q2, 1, none⟩ (.int .i64 (trialE l 1))).setCell ⟨q2, 2, none⟩ (.int .i64 (trialE l 2))).setCell ⟨q2, 3, none⟩ (.int .i64 (trialE l 3))).setCell ⟨q2, 4, none⟩ (.int .i64 (trialE l 4))) := below5 HBW.out (by have := HN.out; omega) _ _ _ _ _
            generalize (((((wr.setCell ⟨q2, 0, none⟩ (.int .i64 (trialE l 0))).setCell ⟨q2, 1, none⟩ (.int .i64 (trialE l 1))).setCell ⟨q2, 2, none⟩ (.int .i64 (trialE l 2))).setCell ⟨q2, 3, none⟩ (.int .i64 (trialE l 3))).setCell ⟨q2, 4, none⟩ (.int .i64 (trialE l 4))) = W5 at *
            have v0 : W5.cell? ⟨q2, 0, none⟩ = some (.int .i64 (trialE l 0)) := Joins.cell_of_block q1 0
            have v1 : W5.cell? ⟨q2, 1, none⟩ = some (.int .i64 (trialE l 1)) := Joins.cell_of_block q1 1
            have v2 : W5.cell? ⟨q2, 2, none⟩ = some (.int .i64 (trialE l 2)) := Joins.cell_of_block q1 2
            have v3 : W5.cell? ⟨q2, 3, none⟩ = some (.int .i64 (trialE l 3)) := Joins.cell_of_block q1 3
            have v4 : W5.cell? ⟨q2, 4, none⟩ = some (.int .i64 (trialE l 4)) := Joins.cell_of_block q1 4
            clear q1 r0 r1 r2 r3 r4 z0 z1 z2 z3 z4 u0 u1 u2 u3 u4
            refine bodyPost_ret (v := .agg #[.int .i64 (trialE l 0), .int .i64 (trialE l 1), .int .i64 (trialE l 2), .int .i64 (trialE l 3), .int .i64 (trialE l 4)]) (by simp [results, Try.results26, go_sem, v0, v1, v2, v3, v4]) rfl ⟨rfl, hbN⟩
    · intro x ee kl y w2 cnt2 hkey hlk hv2 hat hrg2 hlt hg2 hs2 hen
      obtain ⟨x', ex, hkl, _⟩ := Maps.keyOf_int_inv Try.underlying3 hkey
      injection ex with _ ex
      subst ex hkl
      obtain ⟨a, hfa, hy⟩ := acs_entry hat
      have hva : Value.agg #[.int .i64 ee.1, .int .i64 ee.2] = .agg #[.int .i64 a.1, .int .i64 a.2] := by
        obtain ⟨y1, y2⟩ := y
        dsimp only at hy
        subst hy
        exact accR_some hv2
      obtain ⟨e1, e2⟩ := ee
      obtain ⟨kz, bal⟩ := a
      have hab : e1 = kz ∧ e2 = bal := by
        injection hva with hva
        injection hva with hva
        injection hva with h1 h2
        injection h2 with h2 _
        injection h1 with _ h1
        injection h2 with _ h2
        exact ⟨h1, h2⟩
      obtain ⟨rfl, rfl⟩ := hab
      obtain ⟨hamt, hk1, hk4, _⟩ := HG.out x _ hfa
      dsimp only at hamt hk1 hk4
      obtain ⟨kd, hkd⟩ : ∃ kd : Nat, (kd : Int) = e1 := ⟨e1.toNat, by omega⟩
      subst hkd
      have hkd5 : kd < 5 := by omega
      have hst2 : ∀ i, (gotK l (fun z => left z && !z.sameKey (.int .i64 x)) i).Perm (gotK l left i ++ if (kd : Int) = i then [e2] else []) := fun i => gotK_strike HRS.out (aFind_mem hfa) hlk i
      have HSK := hide hst2
      have hk2 : Kept (fun k => k = rr) wr w2 := Kept.of_grown hg2 (fun k hk => by injection hk with hk; exact hk.symm)
      have hnn := HN.out
      have hts2 := HST.out.kept hk2 (fun k hk => by omega)
      have HTS2 := hide hts2
      have HNN := hide hnn
      clear hnn
      have HK2 := hide hk2
      have HRG2 := hide hrg2
      have HLT : Hid (w2.rangeLeft b rr < wr.rangeLeft b rr) := by show _ < _; rw [hrg2.left_eq, HRG1.out.left_eq]; exact hlt
      have HE := hide hen
      have hsz2 : w2.heap.size = wr.heap.size := hs2
      have hszr : base ≤ wr.heap.size := by have h1 := HKP.out.size; have h2 := HZ0.out; have h3 := HNN.out; omega
      have HSZ := hide (And.intro hsz2 hszr)
      clear hkey hlk hv2 hat hy hva hfa hst2 hk2 hts2 hrg2 hlt hg2 hs2 hen hsz2 hszr hamt
      have hen2 := HE.out
      obtain ⟨o, ho⟩ : ∃ o, of[kd]? = some o := ⟨_, List.getElem?_eq_getElem (by rw [HTS2.out.len]; exact hkd5)⟩
      have HO := hide ho
      obtain ⟨w3, hw3⟩ : ∃ w3, w3 = w2.alloc (.cells #[.int .i64 (kd : Int), .int .i64 e2] 73) := ⟨_, rfl⟩
      obtain ⟨ab, hab⟩ : ∃ ab, ab = w2.heap.size := ⟨_, rfl⟩
      have hb3 : Below w2.heap.size w2 w3 := by rw [hw3]; exact below_new _ _
      have hts3 := HTS2.out.kept (S := fun _ => False) (Kept.of_below hb3) (fun k h => h.elim)
      have hbx3 : w3.heap[ab]? = some (.cells #[.int .i64 (kd : Int), .int .i64 e2] 73 (0, 0)) := by rw [hw3, hab]; exact heap_alloc_new _ _
      have HTS3 := hide hts3
      have HBX3 := hide hbx3
      have HB3 := hide hb3
      have c4 : w3.cell? ⟨q4, kd, none⟩ = some (.slice o.A o.xs.length o.c) := by
        rw [Joins.cell_of_block hts3.box kd]
        simp [ho, Ow.v]
      have c0 : w3.cell? ⟨ab, 0, none⟩ = some (.int .i64 (kd : Int)) := Joins.cell_of_block hbx3 0
      have c1 : w3.cell? ⟨ab, 1, none⟩ = some (.int .i64 e2) := Joins.cell_of_block hbx3 1
      have d4 : w3.drew.cell? ⟨q4, kd, none⟩ = some (.slice o.A o.xs.length o.c) := c4
      have d0 : w3.drew.cell? ⟨ab, 0, none⟩ = some (.int .i64 (kd : Int)) := c0
      have d1 : w3.drew.cell? ⟨ab, 1, none⟩ = some (.int .i64 e2) := c1
      have hal := below_new w3 (.cells #[.int .i64 e2] 2)
      have g4 : (w3.alloc (.cells #[.int .i64 e2] 2)).cell? ⟨q4, kd, none⟩ = some (.slice o.A o.xs.length o.c) := (hal.cell (p := ⟨q4, kd, none⟩) (lt_of_cell c4)).trans c4
      have g0 : (w3.alloc (.cells #[.int .i64 e2] 2)).cell? ⟨ab, 0, none⟩ = some (.int .i64 (kd : Int)) := (hal.cell (p := ⟨ab, 0, none⟩) (lt_of_cell c0)).trans c0
      have g1 : (w3.alloc (.cells #[.int .i64 e2] 2)).cell? ⟨ab, 1, none⟩ = some (.int .i64 e2) := (hal.cell (p := ⟨ab, 1, none⟩) (lt_of_cell c1)).trans c1
      have hq4 : (⟨q4, 0, none⟩ : Addr).add kd = ⟨q4, kd, none⟩ := add_at0 q4 kd
      have hkd5' : (kd : Int) < 5 := by omega
      have hxl : o.xs.length ≤ 1000000 := by
        have h1 := (HPM.out kd o ho).length_eq
        have h2 := gotK_len l left (kd : Int)
        omega
      have hrn := Row.new w3 #[.int .i64 e2] 2 (0, 0)
      have HRN := hide hrn
      have hbz : base ≤ w3.heap.size := by have h1 := HSZ.out; have h2 := hb3.size; omega
      have habl : ab < w3.heap.size := by have h1 : w2.heap.size < w3.heap.size := by rw [hw3]; simp
                                          omega
      have HABL := hide (And.intro habl hab)
      have haft : ∀ w5, ((w3.alloc (.cells #[.int .i64 e2] 2)).drew).grownBy w5 (o.A.map (·.block)) → w5.heap[ab]? = some (.cells #[.int .i64 (kd : Int), .int .i64 e2] 73 (0, 0)) ∧ w5.heap[q4]? = some (.cells (of.map Ow.v).toArray 94 (0, 0)) ∧ Kept (InRow o.A) w3 w5 := by
        intro w5 hg
        have hk5 : Kept (InRow o.A) w3 w5 := (Kept.of_below (below_dN hal 1)).trans (Kept.of_grown hg (fun k e => e))
        have hrow : ∀ k, InRow o.A k → base ≤ k ∧ k < w2.heap.size := fun k hk => (HTS2.out.row kd o ho).lt k (by unfold Ow.v; rw [ownBlock_slice]; exact hk)
        refine ⟨(hk5.block ab habl (fun e => by have := hrow ab e; omega)).trans hbx3, (hk5.block q4 (Array.getElem?_eq_some_iff.1 hts3.box).1 (fun e => by have h1 := hrow q4 e; have h2 := hts3.le; omega)).trans hts3.box, hk5⟩
      have HAFT := hide haft
      clear hts3 hbx3 hb3 hal ho hrn habl haft
      go_wp2
      rw [← hw3]
      rw [← hab]
      clear hw3 hab hen2
      go_region_law
        (first
          | (refine step_append_own _ rfl (.tmp 25) (.tmp 28) 37 rfl base 2 i0 _ 1 8 Try.underlying37 hi hz0 hz1 hz2 rfl (by decide) o.A o.xs.length o.c (o.xs.map i64v) rfl (World.ownsRow.alloc (World.ownsRow.drew (HTS3.out.row kd o HO.out)) _) _ _ 1 _ [.int .i64 e2] rfl rfl HRN.out (by intro u hu; simp at hu; subst hu; rfl) (by unfold maxLen; omega) (by omega) (by simp; omega) ?_
             intro n' xs' A5 c5 w5 hn' hxs' hnc _ hown5 hg5 hat5
             obtain ⟨hbx5, hbq5, hk5⟩ := HAFT.out w5 hg5
             have h50 : w5.cell? ⟨ab, 0, none⟩ = some (.int .i64 (kd : Int)) := Joins.cell_of_block hbx5 0
             have h51 : w5.cell? ⟨q4, kd, none⟩ = some (.slice o.A o.xs.length o.c) := by
               rw [Joins.cell_of_block hbq5 kd]
               simp [HO.out, Ow.v]
             have h52 : w5.frozen? ⟨q4, kd, none⟩ = false := Joins.unfrozen_of_block hbq5 kd))
      all_goals
        have en : n' = o.xs.length + 1 := hn'.out
        subst en
        have ex : xs' = (o.xs ++ [e2]).map i64v := by rw [hxs'.out, List.map_append]; rfl
        rw [ex] at hown5
        have hz3 := HABL.out
        have hat6 : ∀ k, InRow A5 k → InRow o.A k ∨ w3.heap.size ≤ k := by
          intro k hk
          rcases hat5 with e | e
          · exact .inl (by unfold InRow at hk ⊢; rw [← e]; exact hk)
          · refine .inr ?_
            unfold InRow at hk
            rw [e] at hk
            injection hk with hk
            rw [← hk]
            exact (below_new w3 (.cells #[.int .i64 e2] 2)).size
        have hnn := HNN.out
        have hz0 := HZ0.out
        have hsz := HSZ.out
        have hqq := HQ.out
        have hst6 := tr_step (l := l) (b := b) (rr := rr) (q4 := q4) (base := base) (w0 := w0) (by omega) (by omega) (by omega) (by omega) (by omega) (by omega) HRG2.out HTS3.out HTS2.out HB3.out HPM.out HSK.out HO.out (HKP.out.trans (HK2.out.wider fun k _ e => .inr e)) hk5 hown5 hat6
        have HS6 := hide hst6
        have HLE : Hid (w2.rangeLeft b rr = cnt2) := HRG2.out.left_eq
        clear hnn hz0 hsz hqq hst6 hk5 hown5 hat6 hat5 ex hxs' hg5 hbx5 hbq5 h50 h51 h52 hz3
        go_wp2
        case roundEnd => exact ⟨HS6.out.1, by rw [HS6.out.2, ← HLE.out]; exact HLT.out⟩
end Go.Proofs.Ytibanikfalfmcaa
