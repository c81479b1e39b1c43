/-
  code.TakeNumber and the reference's: what they do.
-/
import Derived.Test.YtibanikfalfmcaaRev
import Derived.Test.YtibanikfalfmcaaTakeMath
import Derived.Test.YtibanikfalfmcaaCut
import Derived.BigQuiet
import Derived.Deep.QuietTactic
namespace Go.Proofs.Ytibanikfalfmcaa
open Go.RowKit
set_option linter.unusedVariables false

theorem results_tmp3 {fn : Func} {t u v : Tmp} (h : fn.results = #[.tmp t, .tmp u, .tmp v]) (tmps : Array Value) (P : Program) (w : World) :
    (results fn tmps).run P w = .ok (.tuple #[tmps.getD t undef, tmps.getD u undef, tmps.getD v undef]) w := by simp [results, h]

theorem Away.of_own {w : World} {X : Nat → Prop} {base : Nat} {e : TypeId} {A : Option Addr} {c : Nat} {bs : List UInt8} (h : OwnB w base e A c bs) (hX : ∀ k, X k → k < base) : Away X A bs := fun _ a ha hx => by
  have h1 := h.le a.block (by rw [ha]; rfl)
  have h2 := hX _ hx
  omega

/-- A number taken, and the rest. -/
def TookN (X : Nat → Prop) (w w' : World) (e : Ending) (r : Nat × List UInt8 × Int) : Prop :=
  ∃ A c, e = .returned (.tuple #[.int .u64 (r.1 : Int), .slice A r.2.1.length c, .int .i64 r.2.2]) ∧ Bytes w' w'.heap.size A r.2.1 ∧ r.2.1.length ≤ c ∧ Below w.heap.size w w' ∧ Away X A r.2.1

/-- The loop of a taking. -/
def TakeRel (bs : List UInt8) (t i : Value) : Prop :=
  ∃ (k : Nat) (y : Int) (m : Nat), k ≤ bs.length ∧ i = .int .i64 (k : Int) ∧ t = .int .u64 y ∧ 0 ≤ y ∧ y ≤ 18446744073709551615 ∧ Hid (y = (m : Int)) ∧ Hid (takeN bs = takeLoop (bs.headD 0) k m (bs.drop k))

theorem drop_at {α : Type} {l : List α} {k : Nat} {x : α} (h : l[k]? = some x) : l.drop k = x :: l.drop (k + 1) := by
  have hk : k < l.length := (List.getElem?_eq_some_iff.1 h).1
  have hx : l[k] = x := (List.getElem?_eq_some_iff.1 h).2
  rw [← hx, ← List.drop_eq_getElem_cons hk]

theorem andNot_128 (b : UInt8) : bits .andNot .u8 (b.toNat : Int) 128 = ((b.toNat % 128 : Nat) : Int) := by
  have e := u8_andNot_nat b.toNat 128 b.toNat_lt (by omega)
  rw [show ((128 : Nat) : Int) = 128 from rfl] at e
  rw [e]
  have : b.toNat &&& (255 - 128) = b.toNat % 128 := nat_mask7 b.toNat
  rw [this]

set_option maxRecDepth 100000 in
set_option maxHeartbeats 1000000 in
theorem takeNumber_any (A : Option Addr) (B c n : Nat) (bs : List UInt8) (w : World) (hn : bs.length = n) (hr : Bytes w B A bs) (hB : B ≤ w.heap.size) (hl : bs.length ≤ 140737488355000) (hc : bs.length ≤ c) {X : Nat → Prop} (haw : Away X A bs) (hX : ∀ k, X k → k < w.heap.size) :
    Calls Try.prog 40 #[.slice A n c] w fun e w' => TookN X w w' e (tookR (takeN bs)) := by
  subst hn
  have HX := hide hX
  clear hX
  go_enter Try.func40, Try.ntmps40
  go_wp2
  go_loop [5, 10] (fun t i => TakeRel bs t i) (fun _ i => bs.length - (intOf i).toNat)
  case atStart => exact ⟨0, 0, 0, Nat.zero_le _, rfl, rfl, by omega, by omega, rfl, rfl⟩
  case round =>
    obtain ⟨k, y, m, hk, rfl, rfl, y0, y1, HY, HT⟩ := hrel
    by_cases hlt : k < bs.length
    · obtain ⟨ad, b, rfl, hadb, hb, hcell⟩ := hr.at_ hlt
      obtain ⟨ad', f, had', _, hf, hcf⟩ := hr.at_ (k := 0) (by omega)
      injection had' with had'
      subst had'
      have hcf0 : w.cell? ad = some (.int .u8 (f.toNat : Int)) := hcf
      have hhd : bs.headD 0 = f := by
        have := hf.out
        cases bs with
        | nil => simp at this
        | cons x r => simpa using this
      have hb1 := b.toNat_lt
      have hba := andNot_128 b
      have hdr := drop_at hb.out
      have HTk : Hid (takeN bs = takeLoop f k m (b :: bs.drop (k + 1))) := by rw [← hhd, ← hdr]; exact HT
      have hcut := cut_from (k := k + 1) (l := (k : Int) + 1) elem_bytes size_byte hr rfl hc rfl (by omega) .i64
      obtain ⟨A', hcut, hrest⟩ := hcut
      have hmf : (f == 128) = decide (f.toNat = 128) := by
        rw [Bool.eq_iff_iff]; simp; constructor
        · rintro rfl; rfl
        · intro h; exact UInt8.toNat_inj.1 h
      clear HT hdr hhd
      by_cases hbig : 144115188075855872 ≤ y
      · have HN : Hid (takeN bs = none) := by show _ = _; rw [HTk.out, takeLoop_big (by have := HY.out; omega)]
        clear hcut hrest HTk hba
        go_wp2
        refine bodyPost_ret (results_tmp3 rfl _ _ _) rfl ?_
        rw [HN.out]
        exact ⟨none, 0, rfl, Bytes.nil, by simp [tookR], Below.refl _ _, Away.none⟩
      · have hsmall : y < 144115188075855872 := by omega
        clear hbig
        by_cases hlead : 0 < k ∧ f = 128
        · have HN : Hid (takeN bs = none) := by show _ = _; rw [HTk.out, takeLoop_lead hlead]
          obtain ⟨hk0, rfl⟩ := hlead
          clear hcut hrest HTk hba
          go_wp2
          refine bodyPost_ret (results_tmp3 rfl _ _ _) rfl ?_
          rw [HN.out]
          exact ⟨none, 0, rfl, Bytes.nil, by simp [tookR], Below.refl _ _, Away.none⟩
        · have hno : ¬ (144115188075855872 ≤ m ∨ (0 < k ∧ f = 128)) := by
            intro h
            rcases h with h | h
            · have := HY.out; omega
            · exact hlead h
          have HNO := hide hno
          have hor : bits .or .u64 (y * 128) ((b.toNat : Int) % 128) = ((m * 128 + b.toNat % 128 : Nat) : Int) := by
            rw [HY.out, show (m : Int) * 128 = ((m * 128 : Nat) : Int) by omega, show (b.toNat : Int) % 128 = ((b.toNat % 128 : Nat) : Int) by omega, u64_or_nat _ _ (by have := HY.out; omega) (by omega)]
            rw [nat_join 7 _ _ (by omega) (by omega)]
          have hor0 : 0 ≤ bits .or .u64 (y * 128) ((b.toNat : Int) % 128) ∧ bits .or .u64 (y * 128) ((b.toNat : Int) % 128) ≤ 18446744073709551615 := by
            rw [hor]; have := HY.out; omega
          generalize hz : bits .or .u64 (y * 128) ((b.toNat : Int) % 128) = z at *
          have z0 := hor0.1
          have z1 := hor0.2
          have HZ := hide hor
          clear hno hor hor0
          have hk' : (k : Int) ≤ 0 ∨ (0 < (k : Int) ∧ ((f.toNat : Int) == 128) = false) := by
            by_cases hk0 : k = 0
            · exact .inl (by omega)
            · refine .inr ⟨by omega, ?_⟩
              simp
              intro h
              exact hlead ⟨by omega, UInt8.toNat_inj.1 (by rw [show (128 : UInt8).toNat = 128 from rfl]; omega)⟩
          clear hlead
          by_cases hlow : b.toNat < 128
          · have hlow' : (b.toNat : Int) < 128 := by omega
            have HR : Hid (takeN bs = some (m * 128 + b.toNat % 128, bs.drop (k + 1))) := by show _ = _; rw [HTk.out, takeLoop_end HNO.out hlow]
            clear hlow HTk
            have hcl := fun (w0 : World) => clone_any A' B (c - (k + 1)) (bs.length - (k + 1)) (bs.drop (k + 1)) w (by simp) hrest hB (by simp; omega)
            have HCL := hide hcl
            clear hcl
            rcases hk' with hk' | ⟨hk', hf8⟩
            all_goals
              go_wp2_with (go_at_call 74; refine halted ?_)
              refine go_on ?_
              refine (HCL.out w).mono ?_
              rintro e w1 ⟨A1, c1, rfl, hown, hb1⟩
              go_wp2
              refine bodyPost_ret (results_tmp3 rfl _ _ _) rfl ?_
              rw [HR.out]
              refine ⟨A1, c1, ?_, hown.bytes, ?_, hb1, Away.of_own hown HX.out⟩
              · show _ = Ending.returned (.tuple #[.int .u64 ((m * 128 + b.toNat % 128 : Nat) : Int), .slice A1 (bs.drop (k + 1)).length c1, .int .i64 0])
                rw [← HZ.out, List.length_drop]
                rfl
              · obtain ⟨_, c2, e2, h1, _⟩ := own_shape hown
                injection e2 with _ _ e3
                subst e3
                exact h1
          · have hlow' : 128 ≤ (b.toNat : Int) := by omega
            have HTn : Hid (takeN bs = takeLoop f (k + 1) (m * 128 + b.toNat % 128) (bs.drop (k + 1))) := by show _ = _; rw [HTk.out, takeLoop_next HNO.out hlow]
            clear hlow HTk hcut hrest
            rcases hk' with hk' | ⟨hk', hf8⟩
            all_goals
              go_wp2
              go_round
              case rel =>
                refine ⟨k + 1, z, m * 128 + b.toNat % 128, by omega, by go_num, rfl, z0, z1, HZ.out, ?_⟩
                show _ = _
                rw [HTn.out]
                congr 1
                have := hf.out
                cases bs with
                | nil => simp at this
                | cons x r => simp at this; rw [this]; rfl
              case measure => simp [intOf]; omega
    · have HN : Hid (takeN bs = none) := by
        show _ = _
        rw [HT.out, List.drop_eq_nil_of_le (by omega), takeLoop_nil]
      clear HT
      go_wp2
      refine bodyPost_ret (results_tmp3 rfl _ _ _) rfl ?_
      rw [HN.out]
      exact ⟨none, 0, rfl, Bytes.nil, by simp [tookR], Below.refl _ _, Away.none⟩
end Go.Proofs.Ytibanikfalfmcaa
