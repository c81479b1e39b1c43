/-
  store's meet: what a change meets.
-/
import Derived.Test.YtpakihbejdpmoaaStM
import Derived.Test.YtpakihbejdpmoaaNamed
namespace Go.Proofs.Ytpakihbejdpmoaa
open Go.RowKit
set_option linter.unusedVariables false

/-- 's[l:]', and its block. -/
theorem cut_fromR {P : Program} {w : World} {B : Nat} {A : Option Addr} {n c : Nat} {bs : List UInt8} {t : TypeId} (ht : P.underlying t = some (.slice (P.elem t))) (hsz : ∀ w' : World, (sizeOf (P.elem t)).run P w' = .ok 1 w') (hr : Bytes w B A bs) (hn : bs.length = n) (hc : n ≤ c) (l : Int) (k : Nat) (hl : l = (k : Int)) (hk : k ≤ n) (kd : IntKind) :
    ∃ A', (∀ w' : World, (Instr.slice t (.slice A n c) (some (.int kd l)) none none).run P w' = .ok (.slice A' (n - k) (c - k)) w') ∧ Bytes w B A' (bs.drop k) ∧ ∀ j, InRow A' j → InRow A j := by
  subst hl
  refine ⟨if c = k then A else A.map (·.add k), fun w' => ?_, hr.cut (m := c) (k := k) (fun e => by omega), fun j hj => ?_⟩
  · rw [run_slice_l w' t A n c ht kd (k : Int) (by omega) (by omega), hsz]
    simp only [Result.andThen, sliced, Int.toNat_natCast, Nat.mul_one]
  · split at hj
    · exact hj
    · unfold InRow at hj ⊢
      cases A with
      | none => simp at hj
      | some a =>
        simp only [Option.map_some, add_block] at hj ⊢
        exact hj
/-- What a change meets: an error, the plan and the power behind it. -/
def meetE (ok off : Bool) (plan : List UInt8) : Int × List UInt8 × Bool :=
  if ok = false then (1, plan, off) else if off = true then (8, plan, off) else
    match plan with
    | [] => (0, [], off)
    | c :: r => if c = 1 then (7, r, off) else if c = 2 then (8, r, true) else (0, r, off)
theorem keptQ (w : World) (q i : Nat) (v : Value) : Kept (fun k => k = q) w (w.setCell ⟨q, i, none⟩ v) := Kept.set (S := fun k => k = q) w rfl i v
theorem StB.cell {q : Nat} {s : SS} {w : World} (h : StB q s w) (i : Nat) : w.cell? ⟨q, i, none⟩ = (#[.int .i64 s.room, .map (some s.bn), .map (some s.bd), .slice s.AK s.kept.length s.cK, .slice s.AP s.plan.length s.cP, .bool s.off] : Array Value)[i]? := Joins.cell_of_block h i
theorem StB.free {q : Nat} {s : SS} {w : World} (h : StB q s w) (i : Nat) : w.frozen? ⟨q, i, none⟩ = false := Joins.unfrozen_of_block h i
theorem StB.set {q : Nat} {s : SS} {w : World} (h : StB q s w) (i : Nat) (v : Value) : (w.setCell ⟨q, i, none⟩ v).heap[q]? = some (.cells ((#[.int .i64 s.room, .map (some s.bn), .map (some s.bd), .slice s.AK s.kept.length s.cK, .slice s.AP s.plan.length s.cP, .bool s.off] : Array Value).setIfInBounds i v) 58 (0, 0)) := Joins.block_setCell h v
section
variable {q : Nat} {s : SS} {w w' : World}
/-- The plan, the power turned. -/
theorem Sm.rebox (h : Sm q s w) (hk : Kept (fun k => k = q) w w') {AP : Option Addr} {cP : Nat} {plan : List UInt8} {off : Bool} (hbox : StB q { s with AP := AP, cP := cP, plan := plan, off := off } w') (hp : Bytes w w.heap.size AP plan) (hc : plan.length ≤ cP)
    (hK : ∀ k, InRow AP k → Kb w k 5) (hf : ∀ f ∈ s.files, ∀ k, InRow AP k → ¬ InRow f.A k) : Sm q { s with AP := AP, cP := cP, plan := plan, off := off } w' := by
  have n1 : ¬ s.bn = q := fun e => (h.kq.nem h.kn) e.symm
  have n2 : ¬ s.bd = q := fun e => (h.kq.nem h.kd) e.symm
  refine ⟨hbox, dir_kept h.mnow hk n1, dir_kept h.mdisk hk n2, h.ne, hk.own h.row (fun k hr e => (h.kk hr).ne h.kq (by decide) e), (hk.bytes hp (Nat.le_refl _) ?_).more hk.size, hc, fun k hr => (hK k hr).kept hk (fun e => (hK k hr).ne h.kq (by decide) e),
    fun f hf => (hk.block f.q (h.kf hf).lt (fun e => (h.kf hf).ne h.kq (by decide) e)).trans (h.fbox f hf), fun f hf => hk.own (h.frow f hf) (fun k hr e => (h.kr hf hr).ne h.kq (by decide) e), h.fsure, h.fap, hf, h.nnow, h.ndisk, fun p hp => ⟨(h.kp p hp).1.kept hk (fun k hb => (h.kp p hp).1.ne hb h.kq (by decide) (by decide)), (h.kp p hp).2⟩⟩
  intro _ a ha e
  exact (hK a.block (by unfold InRow; rw [ha]; rfl)).ne h.kq (by decide) e
end

set_option maxRecDepth 100000 in
set_option maxHeartbeats 2000000 in
theorem meet_any (q : Nat) (s : SS) (w : World) (hs : Sm q s w) (A : Option Addr) (B n c : Nat) (l : List ByteArray) (hn : l.length = n) (hr : Row w B A (l.map strV)) (hB : B ≤ w.heap.size) (hl : n ≤ 1000000000) (hpl : s.plan.length ≤ 1000000000) :
    Calls Try.prog 39 #[.pointer (some ⟨q, 0, none⟩), .slice A n c] w fun e w' => e = .returned (.int .i64 (meetE (l.all isNm) s.off s.plan).1) ∧
      ∃ AP cP, Did q s w { s with AP := AP, cP := cP, plan := (meetE (l.all isNm) s.off s.plan).2.1, off := (meetE (l.all isNm) s.off s.plan).2.2 } w' := by
  have HN := hide (named_any A B n c l w hn hr hB hl)
  obtain ⟨R, HR⟩ : ∃ R, Hid (R = meetE (l.all isNm) s.off s.plan) := ⟨_, rfl⟩
  rw [← HR.out]
  go_enter Try.func39, Try.ntmps39
  go_wp2_with (go_at_call 47; refine halted ?_)
  refine go_on ?_
  refine HN.out.mono ?_
  clear HN
  cases hnm : l.all isNm with
  | false =>
    rintro e w1 ⟨rfl, hb1⟩
    have HD := hide (Did.call hs hb1)
    have HE : Hid (R = (1, s.plan, s.off)) := by show _ = _; rw [HR.out, hnm]; rfl
    clear hs hr
    go_wp2
    go_ret
    rw [HE.out]
    exact ⟨rfl, s.AP, s.cP, HD.out⟩
  | true =>
    rintro e w1 ⟨rfl, hb1⟩
    have hs1 := hs.call hb1
    have HD := hide (Did.call hs hb1)
    have c4 := hs1.box.cell 4
    have c5 := hs1.box.cell 5
    simp at c4 c5
    clear hs hr
    cases hoff : s.off with
    | true =>
      rw [hoff] at c5
      have HE : Hid (R = (8, s.plan, s.off)) := by show _ = _; rw [HR.out, hnm, hoff]; rfl
      clear hs1 hoff
      go_wp2
      go_ret
      rw [HE.out]
      exact ⟨rfl, s.AP, s.cP, HD.out⟩
    | false =>
      rw [hoff] at c5
      cases hp : s.plan with
      | nil =>
        have HE : Hid (R = (0, s.plan, s.off)) := by show _ = _; rw [HR.out, hnm, hoff, hp]; rfl
        rw [hp] at c4
        clear hs1 hoff
        go_wp2
        go_ret
        rw [HE.out]
        exact ⟨rfl, s.AP, s.cP, HD.out⟩
      | cons x r =>
        have hpb := hs1.plan
        rw [hp] at hpb c4
        obtain ⟨ad, y, hA, hadb, hy, hcy⟩ := hpb.at_ (k := 0) (by simp)
        have hxy : y = x := by have := hy.out; simp at this; exact this.symm
        subst hxy
        have hcy' : w1.cell? ad = some (.int .u8 (y.toNat : Int)) := hcy
        have hpc : r.length + 1 ≤ s.cP := by have := hs1.pcap; rw [hp] at this; simpa using this
        obtain ⟨A2, hcut, hr2, hin⟩ := cut_fromR (P := Try.prog) (t := 33) elem_bytes size_byte hpb (n := r.length + 1) (by simp) hpc (1 : Int) 1 rfl (by omega) .i64
        simp only [List.length_cons] at c4
        have f4 := hs1.box.free 4
        have f5 := hs1.box.free 5
        have hlen : r.length + 1 - 1 = r.length := by omega
        rw [hlen] at hcut
        have j0 : 0 < r.length + 1 := by omega
        have j1 : (0 : Int) < (r.length : Int) + 1 := by omega
        have hpl2 : (r.length : Int) + 1 ≤ 1000000000 := by rw [hp] at hpl; simp at hpl; omega
        rw [hA] at c4 hcut
        have HA := hide hA
        have HS1 := hide hs1
        have HP := hide hp
        have HO := hide hoff
        clear hs1 hp hoff hcy hpl
        have hr2' : Bytes w1 w1.heap.size A2 r := hr2
        have HPL := hide (And.intro hr2' (And.intro (show r.length ≤ s.cP - 1 by omega) hin))
        have HNM := hide hnm
        clear hlen hpl2 hy hnm hb1 hadb hpc hr2 hr2' hin
        have hend : ∀ off : Bool, ∀ W : World, Kept (fun k => k = q) w1 W → StB q { s with AP := A2, cP := s.cP - 1, plan := r, off := off } W → Did q s w { s with AP := A2, cP := s.cP - 1, plan := r, off := off } W := by
          intro off W hk hbx
          obtain ⟨g1, g2, g3⟩ := HPL.out
          refine ⟨HS1.out.rebox hk hbx g1 g2 (fun k hk => HS1.out.planK k (g3 k hk)) (fun f hf k hk => HS1.out.fplan f hf k (g3 k hk)), HD.out.kept.trans (hk.wider fun k _ e => .inl e), fun k hk => .inl ?_⟩
          rcases hk with h | h | h | h | h | h
          · exact .inl h
          · exact .inr (.inl h)
          · exact .inr (.inr (.inl h))
          · exact .inr (.inr (.inr (.inl h)))
          · exact .inr (.inr (.inr (.inr (.inl (g3 k h)))))
          · exact .inr (.inr (.inr (.inr (.inr h))))
        have HEND := hide hend
        have hb4 : (w1.setCell ⟨q, 4, none⟩ (.slice A2 r.length (s.cP - 1))).heap[q]? = some (.cells #[.int .i64 s.room, .map (some s.bn), .map (some s.bd), .slice s.AK s.kept.length s.cK, .slice A2 r.length (s.cP - 1), .bool s.off] 58 (0, 0)) := HS1.out.box.set 4 _
        have HB4 := hide hb4
        clear hend hb4
        by_cases h1 : y = 1
        · have e1 : ((y.toNat : Int) == 1) = true := by rw [h1]; rfl
          have HE : Hid (R = (7, r, s.off)) := by show _ = _; rw [HR.out, HNM.out, HO.out, HP.out, h1]; rfl
          clear h1
          go_wp2
          go_ret
          rw [HE.out]
          exact ⟨rfl, A2, s.cP - 1, HEND.out _ _ (keptQ w1 q 4 _) HB4.out⟩
        by_cases h2 : y = 2
        · have e1 : ((y.toNat : Int) == 1) = false := by rw [h2]; rfl
          have e2 : ((y.toNat : Int) == 2) = true := by rw [h2]; rfl
          have HE : Hid (R = (8, r, true)) := by show _ = _; rw [HR.out, HNM.out, HO.out, HP.out, h2]; rfl
          clear h1 h2
          go_wp2
          go_ret
          rw [HE.out]
          exact ⟨rfl, A2, s.cP - 1, HEND.out _ _ ((keptQ w1 q 4 _).trans (keptQ _ q 5 _)) (Joins.block_setCell HB4.out _)⟩
        · have e1 : ((y.toNat : Int) == 1) = false := by rw [beq_eq_false_iff_ne]; intro h; exact h1 (UInt8.toNat_inj.1 (by rw [show (1 : UInt8).toNat = 1 from rfl]; omega))
          have e2 : ((y.toNat : Int) == 2) = false := by rw [beq_eq_false_iff_ne]; intro h; exact h2 (UInt8.toNat_inj.1 (by rw [show (2 : UInt8).toNat = 2 from rfl]; omega))
          have HE : Hid (R = (0, r, s.off)) := by
            show _ = _
            rw [HR.out, HNM.out, HO.out, HP.out]
            unfold meetE
            simp [h1, h2]
          clear h1 h2
          go_wp2
          go_ret
          rw [HE.out]
          exact ⟨rfl, A2, s.cP - 1, HEND.out _ _ (keptQ w1 q 4 _) HB4.out⟩
end Go.Proofs.Ytpakihbejdpmoaa
