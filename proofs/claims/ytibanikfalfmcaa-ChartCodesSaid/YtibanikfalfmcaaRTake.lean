/-
  The reference's TakeNumber: what it does.
-/
import Derived.Test.YtibanikfalfmcaaTake
namespace Go.Proofs.Ytibanikfalfmcaa
open Go.RowKit
set_option linter.unusedVariables false

/-- The loop of the reference's taking. -/
def RTakeRel (bs : List UInt8) (t i : Value) : Prop :=
  ∃ (k : Nat) (y : Int) (m : Nat), k ≤ bs.length ∧ k ≤ 10 ∧ i = .int .i64 (k : Int) ∧ t = .int .u64 y ∧ 0 ≤ y ∧ y ≤ 18446744073709551615 ∧ Hid (y = (m : Int)) ∧ Hid (takeN bs = takeLoop (bs.headD 0) k m (bs.drop k)) ∧
    Hid (k = 0 ∨ (bs.headD 0 = 128 ∨ 128 ≤ (bs.headD 0).toNat) ∧ (bs.headD 0 = 128 ∨ 128 ^ (k - 1) ≤ m))

theorem drewN_bytes {w : World} {B n : Nat} {A : Option Addr} {bs : List UInt8} (h : Bytes w B A bs) : Bytes (w.drewN n) B A bs := h
theorem below_drewN' {B : Nat} {a w : World} (h : Below B a w) (n : Nat) : Below B a (w.drewN n) := ⟨h.os, h.tape, h.output, h.size, h.block⟩

set_option maxRecDepth 100000 in
set_option maxHeartbeats 2000000 in
theorem rtakeNumber_any (A : Option Addr) (B c n : Nat) (bs : List UInt8) (w : World) (hn : bs.length = n) (hr : Bytes w B A bs) (hB : B ≤ w.heap.size) (hl : bs.length ≤ 140737488355000) (hc : bs.length ≤ c) {X : Nat → Prop} (haw : Away X A bs) (hX : ∀ k, X k → k < w.heap.size) :
    Calls Try.prog 49 #[.slice A n c] w fun e w' => TookN X w w' e (tookR (takeN bs)) := by
  subst hn
  have HX := hide hX
  have HAW := hide haw
  clear hX haw
  go_enter Try.func49, Try.ntmps49
  go_wp2
  go_loop [5, 6] (fun t i => RTakeRel bs t i) (fun _ i => bs.length - (intOf i).toNat)
  case atStart => exact ⟨0, 0, 0, Nat.zero_le _, by omega, rfl, rfl, by omega, by omega, rfl, rfl, .inl rfl⟩
  case round =>
    obtain ⟨k, y, m, hk, hk10, rfl, rfl, y0, y1, HY, HT, HI⟩ := hrel
    by_cases hlt : k < bs.length
    · by_cases hten : k < 10
      · obtain ⟨ad, b, rfl, hadb, hb, hcell⟩ := hr.at_ hlt
        obtain ⟨ad', f, had', _, hf, hcf⟩ := hr.at_ (k := 0) (by omega)
        injection had' with had'
        subst had'
        have hcf0 : w.cell? ad = some (.int .u8 (f.toNat : Int)) := hcf
        have hhd : bs.headD 0 = f := by
          have := hf.out
          cases bs with
          | nil => simp at this
          | cons x r => simpa using this
        have hb1 := b.toNat_lt
        have hdr := drop_at hb.out
        have HTk : Hid (takeN bs = takeLoop f k m (b :: bs.drop (k + 1))) := by rw [← hhd, ← hdr]; exact HT
        have HI' : Hid (k = 0 ∨ (f = 128 ∨ 128 ≤ f.toNat) ∧ (f = 128 ∨ 128 ^ (k - 1) ≤ m)) := by rw [← hhd]; exact HI
        have HH := hide hhd
        obtain ⟨A', hcut, hrest, hac⟩ := cut_from' (k := k + 1) (l := (k : Int) + 1) elem_bytes size_byte hr rfl hc rfl (by omega) .i64
        have HAC := hide hac
        clear HT hdr hhd HI hcf hac
        by_cases hbig : 144115188075855871 < y
        · have HN : Hid (takeN bs = none) := by show _ = _; rw [HTk.out, takeLoop_big (by have := HY.out; omega)]
          clear hcut hrest HTk
          go_wp2
          refine bodyPost_ret (results_tmp3 rfl _ _ _) rfl ?_
          rw [HN.out]
          exact ⟨none, 0, rfl, Bytes.nil, by simp [tookR], Below.refl _ _, Away.none⟩
        · have hsmall : y < 144115188075855872 := by omega
          clear hbig
          have hz : y * 128 + (b.toNat : Int) % 128 = ((m * 128 + b.toNat % 128 : Nat) : Int) := by rw [HY.out]; omega
          generalize hzz : y * 128 + (b.toNat : Int) % 128 = z at *
          have z0 : 0 ≤ z := by omega
          have z1 : z ≤ 18446744073709551615 := by have := HY.out; omega
          have HZ := hide hz
          have HZZ := hide hzz
          clear hz hzz
          by_cases hlow : b.toNat < 128
          · have hlow' : (b.toNat : Int) < 128 := by omega
            by_cases hlead : 0 < k ∧ f = 128
            · have HN : Hid (takeN bs = none) := by show _ = _; rw [HTk.out, takeLoop_lead hlead]
              obtain ⟨hk0, rfl⟩ := hlead
              clear hcut hrest HTk hlow
              go_wp2
              refine bodyPost_ret (results_tmp3 rfl _ _ _) rfl ?_
              rw [HN.out]
              exact ⟨none, 0, rfl, Bytes.nil, by simp [tookR], Below.refl _ _, Away.none⟩
            · have hno : ¬ (144115188075855872 ≤ m ∨ (0 < k ∧ f = 128)) := by
                intro h
                rcases h with h | h
                · have := HY.out; omega
                · exact hlead h
              have HR : Hid (takeN bs = some (m * 128 + b.toNat % 128, bs.drop (k + 1))) := by show _ = _; rw [HTk.out, takeLoop_end hno hlow]
              have hk' : (k : Int) ≤ 0 ∨ (0 < (k : Int) ∧ ((f.toNat : Int) == 128) = false) := by
                by_cases hk0 : k = 0
                · exact .inl (by omega)
                · refine .inr ⟨by omega, ?_⟩
                  simp
                  intro h
                  exact hlead ⟨by omega, UInt8.toNat_inj.1 (by rw [show (128 : UInt8).toNat = 128 from rfl]; omega)⟩
              clear hno hlead HTk hlow
              rcases hk' with hk' | ⟨hk', hf8⟩
              all_goals
                go_wp2
                go_quiet (fail)
                go_wp2
                refine bodyPost_ret (results_tmp3 rfl _ _ _) rfl ?_
                rw [HR.out]
                refine ⟨A', c - (k + 1), ?_, drewN_bytes (hrest.more hB), ?_, below_drewN' (Below.refl _ _) _, HAC.out X HAW.out⟩
                · show _ = Ending.returned (.tuple #[.int .u64 ((m * 128 + b.toNat % 128 : Nat) : Int), .slice A' (bs.drop (k + 1)).length (c - (k + 1)), .int .i64 0])
                  rw [← HZ.out, ← HZZ.out, List.length_drop]
                  rfl
                · show (bs.drop (k + 1)).length ≤ _
                  rw [List.length_drop]; omega
          · have hlow' : 128 ≤ (b.toNat : Int) := by omega
            have hnext : takeN bs = takeLoop f (k + 1) (m * 128 + b.toNat % 128) (bs.drop (k + 1)) := by
              rw [HTk.out]
              by_cases hlead : 0 < k ∧ f = 128
              · rw [takeLoop_lead hlead, takeLoop_none (.inr ⟨by omega, hlead.2⟩)]
              · exact takeLoop_next (by intro h; rcases h with h | h; have := HY.out; omega; exact hlead h) hlow
            have hinv : (f = 128 ∨ 128 ≤ f.toNat) ∧ (f = 128 ∨ 128 ^ (k + 1 - 1) ≤ m * 128 + b.toNat % 128) := by
              rcases HI'.out with h | ⟨h1, h2⟩
              · have hbf : b = f := by
                  have := hb.out
                  rw [h, hf.out] at this
                  injection this with this
                  exact this.symm
                subst hbf
                rw [h]
                refine ⟨.inr (by omega), ?_⟩
                by_cases h8 : b.toNat = 128
                · exact .inl (UInt8.toNat_inj.1 h8)
                · refine .inr ?_
                  show 1 ≤ _
                  omega
              · refine ⟨h1, h2.imp id fun h => ?_⟩
                by_cases hk0 : k = 0
                · subst hk0
                  show 1 ≤ _
                  have : 1 ≤ m := h
                  omega
                · have e : k + 1 - 1 = (k - 1) + 1 := by omega
                  rw [e, Nat.pow_succ]
                  omega
            have HNX := hide hnext
            have HINV := hide hinv
            clear hcut hrest HTk hnext hinv hlow HI'
            go_wp2
            go_round
            case rel =>
              refine ⟨k + 1, z, m * 128 + b.toNat % 128, by omega, by omega, by go_num, ?_, z0, z1, HZ.out, ?_, ?_⟩
              · rw [← HZZ.out]
              · show _ = _
                rw [HNX.out, HH.out]
              · rw [HH.out]; exact .inr HINV.out
            case measure => simp [intOf]; omega
      · have hk' : k = 10 := by omega
        have hN : takeN bs = none := by
          rw [HT.out]
          refine takeLoop_none ?_
          rcases HI.out with h | ⟨_, h2⟩
          · omega
          · rcases h2 with h2 | h2
            · exact .inr ⟨by omega, h2⟩
            · refine .inl ?_
              rw [hk'] at h2
              have : (128 : Nat) ^ (10 - 1) = 9223372036854775808 := by decide
              omega
        have HN := hide hN
        clear hN HT HI
        go_wp2
        refine bodyPost_ret (results_tmp3 rfl _ _ _) rfl ?_
        rw [HN.out]
        exact ⟨none, 0, rfl, Bytes.nil, by simp [tookR], Below.refl _ _, Away.none⟩
    · have HN : Hid (takeN bs = none) := by
        show _ = _
        rw [HT.out, List.drop_eq_nil_of_le (by omega), takeLoop_nil]
      clear HT HI
      go_wp2
      refine bodyPost_ret (results_tmp3 rfl _ _ _) rfl ?_
      rw [HN.out]
      exact ⟨none, 0, rfl, Bytes.nil, by simp [tookR], Below.refl _ _, Away.none⟩
end Go.Proofs.Ytibanikfalfmcaa
