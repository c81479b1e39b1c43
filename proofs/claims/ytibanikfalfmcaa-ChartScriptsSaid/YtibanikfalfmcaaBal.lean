/-
  chart's postings: balanced.
-/
import Derived.Test.YtibanikfalfmcaaLegs
namespace Go.Proofs.Ytibanikfalfmcaa
open Go.RowKit Go.Maps
set_option linter.unusedVariables false

theorem info_i64 : (Try.prog.info? 2).map (fun i => (i.zero, i.size, i.bytes)) = some (some (.int .i64 0), 1, 8) := by kernel_rfl
def balB (ls : List (Int × Int)) : Bool := decide ((sumE (ls.map (·.2))).2 = 0) && decide ((sumE (ls.map (·.2))).1 = 0)
def amts (ls : List (Int × Int)) : List Int := ls.map (·.2)
/-- The state of 'balanced' ahead of the k-th leg. -/
def BlRel (ls : List (Int × Int)) (w1 : World) (i o : Value) (wr : World) : Prop :=
  ∃ (k : Nat) (A : Option Addr) (c : Nat), k ≤ ls.length ∧ i = .int .i64 (k : Int) ∧ o = .slice A k c ∧ wr.ownsRow w1.heap.size 2 1 (.slice A k c) k ((amts (ls.take k)).map i64v) ∧ Below w1.heap.size w1 wr

set_option maxRecDepth 100000 in
set_option maxHeartbeats 4000000 in
theorem balanced_any (day : Int) (tx : ByteArray) (A : Option Addr) (B n c : Nat) (ls : List (Int × Int)) (w : World) (hn : ls.length = n) (hr : Row w B A (legCells ls)) (hB : B ≤ w.heap.size) (hl : n ≤ 1000) :
    Calls Try.prog 59 #[.agg #[.int .i64 day, .string tx, .slice A n c]] w fun e w' => e = .returned (.bool (balB ls)) ∧ Below w.heap.size w w' := by
  subst hn
  obtain ⟨i0, hi, hz0, hz1, hz2⟩ := info_parts info_i64
  obtain ⟨w1, hw1⟩ : ∃ w1, w1 = w.alloc (.cells #[.int .i64 day, .string tx, .slice A ls.length c] 79) := ⟨_, rfl⟩
  have hb1 : Below w.heap.size w w1 := by rw [hw1]; exact below_new w _
  go_enter Try.func59, Try.ntmps59
  go_wp2
  rw [← hw1]
  have HR := hide (hr.belowLe hb1 hB)
  have HB1 := hide hb1
  clear hr hw1 hb1
  obtain ⟨q1, hq1⟩ : ∃ q1, q1 = w.heap.size := ⟨_, rfl⟩
  have HQ1 := hide hq1
  rw [← hq1]
  clear hq1
  go_loopw [11, 3] (fun i o wr => BlRel ls w1 i o wr) (fun i _ _ => ls.length - (intOf i).toNat)
  case atStart => exact ⟨0, none, 0, Nat.zero_le _, rfl, rfl, World.ownsRow_nil _ _ _ _, Below.refl _ _⟩
  case round =>
    obtain ⟨k, A', c', hk, rfl, rfl, hown, hb⟩ := hrel
    by_cases hlt : k < ls.length
    · have hrow : Row wr B A (legCells ls) := HR.out.belowLe hb (Nat.le_trans hB HB1.out.size)
      obtain ⟨ad, a, m, rfl, hadb, hx, ha, hm⟩ := hrow.leg hlt
      have HOWN := hide hown
      have HB := hide hb
      have hrn := Row.new (wr.alloc (.cells #[.int .i64 a, .int .i64 m] 51)) #[.int .i64 m] 2 (0, 0)
      rw [World.size_alloc] at hrn
      have HRN := hide hrn
      clear hrow hown hb hadb hrn
      go_wp2_with (at_builtin; refine halted ?_)
      refine go_on ?_
      refine wpList_append_own _ rfl (.tmp 15) (.tmp 18) 37 rfl w1.heap.size 2 i0 _ 1 8 Try.underlying37 hi hz0 hz1 hz2 rfl (by decide) A' k c' ((amts (ls.take k)).map i64v) rfl (World.ownsRow.alloc (World.ownsRow.alloc HOWN.out _) _) _ _ 1 _ [.int .i64 m] rfl rfl HRN.out (by intro u hu; simp at hu; subst hu; rfl) (by unfold maxLen; omega) (by omega) (by have := HB.out.size; simp; omega) ?_
      intro n' xs' A5 c5 w5 hn' hxs' hnc _ hown5 hg5 hat5
      have hb5 : Below w1.heap.size w1 w5 := ((HB.out.alloc HB.out.size _).alloc (by have := HB.out.size; simp; omega) _).grown hg5 (by have := HB.out.size; simp; omega) (fun q hq => (World.ownsRow.lt HOWN.out q (by rw [ownBlock_slice]; exact hq)).1)
      have en : n' = k + 1 := hn'.out
      subst en
      have ex : xs' = (amts (ls.take (k + 1))).map i64v := by rw [hxs'.out, take_next hx.out]; unfold amts; simp [i64v]
      have hrel2 : BlRel ls w1 (.int .i64 ((k : Int) + 1)) (.slice A5 (k + 1) c5) w5 := by
        rw [ex] at hown5
        exact ⟨k + 1, A5, c5, hlt, by simp, rfl, hown5, hb5⟩
      have HN5 := hide hrel2
      clear hown5 hg5 hat5 hb5 ex hxs' hrel2
      go_wp2
      case roundEnd => exact ⟨HN5.out, by simp [intOf]; omega⟩
    · have hk' : k = ls.length := by omega
      subst hk'
      rw [List.take_of_length_le (Nat.le_refl _)] at hown
      have HS := hide (sum_any A' wr.heap.size ls.length c' (amts ls) wr (by unfold amts; rw [List.length_map]) (Row.of_own hown) (Nat.le_refl _) (by omega))
      have hE : balB ls = (decide ((sumE (amts ls)).2 = 0) && decide ((sumE (amts ls)).1 = 0)) := rfl
      obtain ⟨sv, hsv⟩ : ∃ sv, sv = sumE (amts ls) := ⟨_, rfl⟩
      rw [← hsv] at hE HS
      have HE := hide hE
      have HB := hide (HB1.out.trans (hb.mono HB1.out.size))
      clear hown hb hE hlt hk hsv
      go_wp2_with (go_at_call 56; refine halted ?_)
      refine go_on ?_
      refine HS.out.mono ?_
      obtain ⟨s1, s2⟩ := sv
      rintro e w3 ⟨rfl, hb3⟩
      have HB3 := hide (HB.out.trans (hb3.mono HB.out.size))
      clear HS hb3
      dsimp only at HE ⊢
      by_cases h2 : s2 = 0
      · subst h2
        by_cases h1 : s1 = 0
        · subst h1
          go_wp2
          go_ret
          exact ⟨by rw [HE.out]; rfl, HB3.out⟩
        · have h1' : (s1 == 0) = false := by simpa using h1
          have hf : balB ls = false := by rw [HE.out]; simp [h1]
          have HF := hide hf
          clear hf h1
          go_wp2
          go_ret
          exact ⟨by rw [HF.out]; rfl, HB3.out⟩
      · have h2' : (s2 == 0) = false := by simpa using h2
        have hf : balB ls = false := by rw [HE.out]; simp [h2]
        have HF := hide hf
        clear hf h2
        go_wp2
        go_ret
        exact ⟨by rw [HF.out]; rfl, HB3.out⟩
end Go.Proofs.Ytibanikfalfmcaa
