/-
  whole: frames one behind the other, and where each ends.
-/
import Derived.Test.YtikfiicjgcnljaaLawAgain
import Derived.Test.YtikfiicjgcnljaaFrameTurn
namespace Go.Proofs.Ytikfiicjgcnljaa
open Go.RowKit
set_option linter.unusedVariables false

/-- Where the first k frames end. -/
def endsTo (fs : List (UInt8 × List UInt8)) (k : Nat) : List Value := (List.range k).map fun i => .int .i64 ((flat (fs.take (i + 1))).length : Int)
theorem endsTo_succ (fs : List (UInt8 × List UInt8)) (k : Nat) : endsTo fs (k + 1) = endsTo fs k ++ [.int .i64 ((flat (fs.take (k + 1))).length : Int)] := by
  unfold endsTo
  rw [List.range_succ, List.map_append, List.map_singleton]
theorem endsTo_len (fs : List (UInt8 × List UInt8)) (k : Nat) : (endsTo fs k).length = k := by simp [endsTo]
theorem endsTo_at (fs : List (UInt8 × List UInt8)) {k j : Nat} (h : j < k) : (endsTo fs k)[j]? = some (.int .i64 ((flat (fs.take (j + 1))).length : Int)) := by
  simp [endsTo, List.getElem?_map, List.getElem?_range h]

theorem info_int : (Try.prog.info? 3).map (fun i => (i.zero, i.size, i.bytes)) = some (some (.int .i64 0), 1, 8) := by kernel_rfl

/-- Two own rows lie apart. -/
def Apart (A A2 : Option Addr) : Prop := ∀ q, InRow A q → ¬ InRow A2 q
theorem Apart.none {A : Option Addr} : Apart none A := fun q h => by unfold InRow at h; simp at h
theorem Apart.symm {A A2 : Option Addr} (h : Apart A A2) : Apart A2 A := fun q h1 h2 => h q h2 h1
theorem Apart.ne {A A2 : Option Addr} (h : Apart A A2) : A2.map (·.block) = Option.none ∨ A2.map (·.block) ≠ A.map (·.block) := by
  cases A2 with
  | none => exact .inl rfl
  | some b =>
    refine .inr fun e => ?_
    exact h b.block e.symm rfl
/-- Behind a growth of the first row. -/
theorem Apart.next {A A2 A' : Option Addr} {n : Nat} (h : Apart A A2) (hat : A'.map (·.block) = A.map (·.block) ∨ A'.map (·.block) = some n) (hlt : ∀ q, InRow A2 q → q < n) : Apart A' A2 := by
  intro q h1 h2
  unfold InRow at h1
  rcases hat with e | e
  · rw [e] at h1; exact h q h1 h2
  · rw [e] at h1; injection h1 with h1; have := hlt q h2; omega

/-- The loop. -/
def WholeRel (l : List Fr) (w : World) (v u i : Value) (wr : World) : Prop :=
  ∃ (k : Nat) (us : List UInt8) (A : Option Addr) (c : Nat) (A2 : Option Addr) (c2 : Nat), k ≤ l.length ∧ i = .int .i64 (k : Int) ∧ v = .slice A us.length c ∧ u = .slice A2 k c2 ∧ Hid (us = flat ((l.map Fr.pair).take k)) ∧ us.length ≤ k * 2016 ∧
    OwnB wr w.heap.size 5 A c us ∧ wr.ownsRow w.heap.size 3 1 (.slice A2 k c2) k (endsTo (l.map Fr.pair) k) ∧ Apart A A2 ∧ Hid (∀ j f, j < k → l[j]? = some f → f.b.length ≤ 2000) ∧ Below w.heap.size w wr

/-- What it answers. -/
def WholeP (l : List Fr) (w : World) (e : Ending) (w' : World) : Prop :=
  Below w.heap.size w w' ∧ (e = .returned (.tuple #[.slice none 0 0, .slice none 0 0, .bool false]) ∨
    ∃ (us : List UInt8) (A : Option Addr) (c : Nat) (A2 : Option Addr) (c2 : Nat), e = .returned (.tuple #[.slice A us.length c, .slice A2 l.length c2, .bool true]) ∧ l.length ≤ 200 ∧ Hid (us = flat (l.map Fr.pair)) ∧ us.length ≤ 403200 ∧ us.length ≤ c ∧ l.length ≤ c2 ∧
      Bytes w' w'.heap.size A us ∧ Row w' w'.heap.size A2 (endsTo (l.map Fr.pair) l.length) ∧ Hid (∀ f ∈ l, f.b.length ≤ 2000))

set_option maxRecDepth 100000 in
set_option maxHeartbeats 2000000 in
theorem whole_any (A : Option Addr) (c : Nat) (l : List Fr) (w : World) (hrow : FrRow w w.heap.size A l) (hll : l.length ≤ 9223372036854775807) :
    Calls Try.prog 17 #[.slice A l.length c] w fun e w' => WholeP l w e w' := by
  by_cases hL : 200 < l.length
  · go_enter Try.func17, Try.ntmps17
    go_wp2
    refine bodyPost_ret (results_tmp3 rfl _ _ _) rfl ?_
    exact ⟨Below.refl _ _, .inl rfl⟩
  obtain ⟨i0, hi, hz0, hz1, hz2⟩ := info_parts info_int
  go_enter Try.func17, Try.ntmps17
  go_wp2
  go_loopw [5, 6, 7] (fun v u i wr => WholeRel l w v u i wr) (fun _ _ i _ => l.length - (intOf i).toNat)
  case atStart => exact ⟨0, [], none, 0, none, 0, by omega, rfl, rfl, rfl, rfl, by simp, OwnB.nil _ _ _, World.ownsRow_nil _ _ _ _, Apart.none, (by show ∀ _ _, _; intro j f h; omega), Below.refl _ _⟩
  case round =>
    obtain ⟨k, us, A3, c3, A4, c4, hk, rfl, rfl, rfl, HU, hul, hown, hown4, hdis, HF, hb⟩ := hrel
    by_cases hlt : k < l.length
    · obtain ⟨ad, f, rfl, hadb, hg, hc1, hd1, hf1, hf2⟩ := hrow.at_ hlt
      have hc1' := (hb.cell (p := ad.add (k * 2)) (by rw [add_block]; exact hadb)).trans hc1
      have hd1' := (hb.cell (p := ⟨(ad.add (k * 2)).block, (ad.add (k * 2)).off + 1, none⟩) (by show (ad.add (k * 2)).block < _; rw [add_block]; exact hadb)).trans hd1
      by_cases hbig : 2000 < f.b.length
      · clear hc1 hd1
        go_wp2
        refine bodyPost_ret (results_tmp3 rfl _ _ _) rfl ?_
        exact ⟨hb, .inl rfl⟩
      · have hput := fun n => put_any f.k f.A w.heap.size f.c _ f.b (wr.drewN n) rfl (drewN_bytes (hf1.belowLe hb (Nat.le_refl _))) (by exact hb.size) (by omega)
        rw [putR_ok (by omega)] at hput
        have HPUT := hide hput
        clear hput hc1 hd1 hf1 hf2
        have HFB : Hid (f.b.length ≤ 2000) := by show _ ≤ _; omega
        go_wp2
        go_region_with (go_at_call 10; refine (HPUT.out _).mono ?_; rintro e w3 ⟨A7, c7, rfl, hown7, hb7⟩)
        all_goals
          have hb07 : Below wr.heap.size wr w3 := (below_drewN' (Below.refl wr.heap.size wr) _).trans hb7
          have hown3 := hown.below hb07 (Nat.le_refl _)
          have hown43 := own_below hown4 hb07
          have hb3 := hb.trans (hb07.mono hb.size)
          have hfl7 := hide (frameB_len f.k f.b)
          clear hb7 hown hb HPUT hown4
          go_wp2_with (at_builtin; refine halted ?_)
          refine go_on ?_
          refine wpList_append_bytes _ rfl (.tmp 42) (.tmp 43) 22 rfl w.heap.size 5 Try.underlying22 info_u8 _ _ _ us rfl rfl hown3 _ A7 _ c7 (frameB f.k f.b) rfl rfl hown7.bytes (by have := hfl7.out; have := HFB.out; omega) hb3.size ?_
          intro ds A8 c8 w8 hds hdl hown8 hg8 hat8
          have hb8 := hown3.below_grown hb3 hg8 (Nat.le_refl _) hb3.size
          have hown48 := World.ownsRow.kept hown43 hg8 (by rw [ownBlock_slice]; exact hdis.ne)
          have hdis8 : Apart A8 A4 := hdis.next hat8 (fun q hq => (own_in hown43 hq).2)
          have HU2 : Hid (ds = flat ((l.map Fr.pair).take (k + 1))) := by
            show _ = _
            have hgp : (l.map Fr.pair)[k]? = some f.pair := by rw [List.getElem?_map, hg.out]; rfl
            rw [hds.out, HU.out, (flat_next hgp).1]
            rfl
          have HDL : Hid (ds.length ≤ (k + 1) * 2016) := by
            show _ ≤ _
            have h1 := congrArg List.length hds.out
            have h2 := hfl7.out
            have h3 := HFB.out
            rw [List.length_append] at h1
            omega
          have HF2 : Hid (∀ j f', j < k + 1 → l[j]? = some f' → f'.b.length ≤ 2000) := by
            show ∀ _ _, _
            intro j f' hj hf'
            by_cases e : j = k
            · subst e
              rw [hg.out] at hf'
              injection hf' with hf'
              subst hf'
              exact HFB.out
            · exact HF.out j f' (by omega) hf'
          have hrow8 := Row.new w8 #[.int .i64 (ds.length : Int)] 3 (0, 0)
          have hal8 := hown48.alloc (.cells #[.int .i64 (ds.length : Int)] 3)
          have hob8 := hown8.alloc (.cells #[.int .i64 (ds.length : Int)] 3)
          have hbb8 := hb8.alloc hb8.size (.cells #[.int .i64 (ds.length : Int)] 3)
          clear hown3 hb3 hg8 hds hdl hown7 hown43 hown48 hown8 hat8 hdis hrow HF
          go_wp2_with (at_builtin; refine halted ?_)
          refine go_on ?_
          refine wpList_append_own _ rfl (.tmp 45) (.tmp 48) 44 rfl w.heap.size 3 i0 _ 1 8 Try.underlying44 hi hz0 hz1 hz2 rfl (by decide) A4 k c4 _ rfl hal8 _ _ 1 _ _ rfl rfl hrow8 ?_ ?_ ?_ hbb8.size ?_
          · intro u hu
            simp at hu
            subst hu
            rfl
          · unfold maxLen; omega
          · omega
          intro n' xs' A9 c9 w9 hn' hxs' hnc _ hown9 hg9 hat9
          have hob9 := hob8.kept hg9 hdis8.symm.ne
          have hb9 := hbb8.grown hg9 hbb8.size (fun q hq => (own_in hal8 hq).1)
          have hdis9 : Apart A8 A9 := (hdis8.symm.next hat9 (fun q hq => (hob8.lt hq).2)).symm
          have en : n' = k + 1 := hn'.out
          have ex : xs' = endsTo (l.map Fr.pair) (k + 1) := by rw [hxs'.out, endsTo_succ, ← HU2.out]
          subst en ex
          clear hob8 hbb8 hg9 hat9 hal8 hrow8 hdis8 hn' hxs'
          go_wp2
          go_roundw
          case rel => exact ⟨k + 1, ds, A8, c8, A9, c9, by omega, by go_num, rfl, rfl, HU2.out, HDL.out, hob9, hown9, hdis9, HF2, hb9⟩
          case measure => simp [intOf]; omega
    · have hk' : k = l.length := by omega
      subst hk'
      have hus : us = flat (l.map Fr.pair) := by rw [HU.out, List.take_of_length_le (by simp)]
      have hcc := own_cap hown4
      have hcu : us.length ≤ c3 := own_cap hown
      have HR := hide (show WholeP l w (.returned (.tuple #[.slice A3 us.length c3, .slice A4 l.length c4, .bool true])) wr from
        ⟨hb, .inr ⟨us, A3, c3, A4, c4, rfl, by omega, hus, by omega, hcu, hcc, hown.bytes, Row.of_own hown4, by
          show ∀ _, _
          intro f hf
          obtain ⟨j, hj⟩ := List.mem_iff_getElem?.1 hf
          exact HF.out j f (List.getElem?_eq_some_iff.1 hj).1 hj⟩⟩)
      clear hus hown hown4 hrow
      go_wp2
      refine bodyPost_ret (results_tmp3 rfl _ _ _) rfl ?_
      exact HR.out
end Go.Proofs.Ytikfiicjgcnljaa
