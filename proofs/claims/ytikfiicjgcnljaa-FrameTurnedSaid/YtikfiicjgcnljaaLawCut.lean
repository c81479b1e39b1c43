/-
  FrameCut, walked.
-/
import Derived.Test.YtikfiicjgcnljaaWhole
namespace Go.Proofs.Ytikfiicjgcnljaa
open Go.RowKit
set_option linter.unusedVariables false

theorem cut_to_n {P : Program} {A : Option Addr} {n c s : Nat} {t : TypeId} (ht : P.underlying t = some (.slice (P.elem t))) (hsz : ∀ w' : World, (sizeOf (P.elem t)).run P w' = .ok s w') (h : Int) (k : Nat) (hl : h = (k : Int)) (hk : k ≤ c) (kd : IntKind) :
    ∀ w' : World, (Instr.slice t (.slice A n c) none (some (.int kd h)) none).run P w' = .ok (.slice A k c) w' := by
  intro w'
  subst hl
  rw [run_slice_h w' t A n c ht kd (k : Int) (by omega) (by omega), hsz]
  simp only [Result.andThen, sliced, Int.toNat_natCast, Nat.zero_mul, Nat.sub_zero]
  congr 2
  split
  · rfl
  · cases A <;> simp [Addr.add]
theorem elem_rfr : Try.prog.underlying 39 = some (.slice (Try.prog.elem 39)) := by kernel_rfl
theorem size_rfr (w : World) : (sizeOf (Try.prog.elem 39)).run Try.prog w = .ok 2 w := by kernel_rfl

theorem FrRow.take {w : World} {B : Nat} {A : Option Addr} {l : List Fr} (h : FrRow w B A l) (k : Nat) : FrRow w B A (l.take k) := by
  refine ⟨?_, fun f hf => h.2 f (List.mem_of_mem_take hf)⟩
  have := Row.take h.1 (k * 2)
  have e : (l.flatMap Fr.cells).take (k * 2) = (l.take k).flatMap Fr.cells := by
    clear this h
    induction l generalizing k with
    | nil => simp
    | cons f l ih =>
      cases k with
      | zero => simp
      | succ k =>
        rw [show (k + 1) * 2 = k * 2 + 2 by omega]
        simp [Fr.cells]
        exact ih k
  rw [e] at this
  exact this

/-- Of which frames a cut leaves the whole. -/
def CutRel (w : World) (en : Nat → Nat) (N m : Nat) (k s : Value) (wr : World) : Prop :=
  ∃ kk : Nat, kk ≤ N ∧ k = .int .i64 (kk : Int) ∧ s = .int .i64 (en kk : Int) ∧ en kk ≤ m ∧ Below w.heap.size w wr

set_option maxRecDepth 100000 in
set_option maxHeartbeats 2000000 in
theorem frameCut_any (A : Option Addr) (c : Nat) (l : List Fr) (at_ : Int) (w : World) (hrow : FrRow w w.heap.size A l) (hll : l.length ≤ 9223372036854775807) (hlc : l.length ≤ c) (h0 : -9223372036854775808 ≤ at_) (h1 : at_ ≤ 9223372036854775807) :
    Calls Try.prog 6 #[.slice A l.length c, .int .i64 at_] w fun e w' => e = .returned (.bool true) ∧ Below w.heap.size w w' := by
  have HLC := hide hlc
  clear hlc
  go_enter Try.func6, Try.ntmps6
  go_wp2_with (first | (go_at_call 9; refine (awake_any _).mono ?_; rintro e w1 ⟨rfl, hb1⟩) | (go_at_call 17; refine halted ?_))
  refine go_on ?_
  refine (whole_any A c l w1 (hrow.below hb1) hll).mono ?_
  rintro e w2 ⟨hb12, hr⟩
  have hb2 := hb1.trans (hb12.mono hb1.size)
  rcases hr with rfl | ⟨us, A1, c1, A2, c2, rfl, h200, HU, hul, hcu, hc2, hby, hen, H2⟩
  · clear hrow
    go_wp2
    go_ret
    exact ⟨rfl, hb2⟩
  by_cases hat : at_ < 0
  · clear hrow
    go_wp2
    go_ret
    exact ⟨rfl, hb2⟩
  obtain ⟨n, rfl⟩ := Int.eq_ofNat_of_zero_le (show 0 ≤ at_ by omega)
  have h6 : 6 * l.length ≤ us.length := by
    rw [HU.out]
    have := flat_len (l.map Fr.pair)
    rwa [List.length_map] at this
  obtain ⟨m, hm⟩ : ∃ m, m = n % (us.length + 1) := ⟨_, rfl⟩
  have hmle : m ≤ us.length := by have := Nat.mod_lt n (show 0 < us.length + 1 by omega); omega
  have hmI : (n : Int) % ((us.length : Int) + 1) = (m : Int) := by rw [hm]; exact_mod_cast rfl
  have HM := hide hm
  obtain ⟨en, hen0⟩ : ∃ en : Nat → Nat, en = fun k => (flat ((l.map Fr.pair).take k)).length := ⟨_, rfl⟩
  have hz : en 0 = 0 := by rw [hen0]; simp [flat]
  have hrow2 := hrow.below hb2
  have HEN := hide hen0
  clear hm hen0 hrow hb1 hb12 hat
  go_wp2
  go_loopw [9, 10] (fun k s wr => CutRel w2 en l.length m k s wr) (fun k _ _ => l.length - (intOf k).toNat)
  case atStart => exact ⟨0, by omega, rfl, by rw [hz]; rfl, by rw [hz]; omega, Below.refl _ _⟩
  case round =>
    obtain ⟨kk, hkk, rfl, rfl, hem, hb⟩ := hrel
    have hexit : (kk < l.length → m < en (kk + 1)) → Hid (∃ r, Scans (us.take m) ((l.take kk).map Fr.pair) r ∧ en kk + r.length = m) := by
      intro hlt
      obtain ⟨r, hr1, hr2⟩ := scans_cut (fs := l.map Fr.pair) (at_ := m) (k := kk) (fun f hf => by
        obtain ⟨x, hx, rfl⟩ := List.mem_map.1 hf
        have := H2.out x hx
        show x.b.length ≤ _
        omega) (by simpa using hkk) (by have := HEN.out; rw [this] at hem; exact hem) (fun f hf => by
          have h1 := (List.getElem?_eq_some_iff.1 hf).1
          rw [List.length_map] at h1
          have h2 := hlt h1
          have := HEN.out
          rw [this] at h2
          exact h2) (by rw [← HU.out]; exact hmle)
      refine ⟨r, ?_, ?_⟩
      · rw [HU.out, List.map_take]; exact hr1
      · rw [HEN.out]; exact hr2
    by_cases hgo : kk < l.length ∧ en (kk + 1) ≤ m
    · obtain ⟨hlt, hle⟩ := hgo
      have hcl := (hen.below hb).more hb.size kk _ (endsTo_at _ hlt)
      obtain ⟨ad, rfl, hadb, hcell⟩ := hcl
      have hee : (flat ((l.map Fr.pair).take (kk + 1))).length = en (kk + 1) := by rw [HEN.out]
      rw [hee] at hcell
      clear hee hen hexit hrow2
      go_wp2
      go_roundw
      case rel => exact ⟨kk + 1, by omega, by go_num, rfl, hle, hb⟩
      case measure => simp [intOf]; omega
    · have hx : kk < l.length → m < en (kk + 1) := fun h => by
        rcases Nat.lt_or_ge m (en (kk + 1)) with h2 | h2
        · exact h2
        · exact absurd ⟨h, h2⟩ hgo
      have HX := hexit hx
      obtain ⟨r, hr1, hr2⟩ := HX.out
      have HR1 := hide hr1
      have hcut1 := cut_to (A := A1) (n := us.length) (c := c1) (k := m) (h := (n : Int) % ((us.length : Int) + 1)) elem_bytes size_byte hmI (by omega) .i64
      have hcut2 := cut_to_n (A := A) (n := l.length) (c := c) (k := kk) (h := (kk : Int)) elem_rfr size_rfr rfl (by have := HLC.out; omega) .i64
      have hbw := hb2.trans (hb.mono hb2.size)
      have hbyw := ((hby.below hb).more hb.size).take m
      have hrow3 := (hrow2.below hb).take kk
      have hlast : kk < l.length → ∃ ad, A2 = some ad ∧ wr.cell? (ad.add kk) = some (.int .i64 (en (kk + 1) : Int)) := fun h => by
        obtain ⟨ad, h1, _, h2⟩ := (hen.below hb).more hb.size kk _ (endsTo_at _ h)
        exact ⟨ad, h1, by rw [h2, HEN.out]⟩
      clear hexit hgo HX hr1 hen hby hrow2
      have hmt : (us.take m).length = m := by rw [List.length_take]; omega
      have HMT := hide hmt
      have hkt : (l.take kk).length = kk := by rw [List.length_take]; omega
      have HKT := hide hkt
      clear hmt hkt
      have hways : (∃ ad, A2 = some ad ∧ kk < l.length ∧ m < en (kk + 1) ∧ wr.cell? (ad.add kk) = some (.int .i64 (en (kk + 1) : Int))) ∨ l.length ≤ kk := by
        rcases Nat.lt_or_ge kk l.length with h | h
        · obtain ⟨ad, h1, h2⟩ := hlast h
          exact .inl ⟨ad, h1, h, hx h, h2⟩
        · exact .inr h
      clear hlast hx
      rcases hways with ⟨ad, rfl, hlt, hgt, hcell⟩ | hge
      all_goals
        go_wp2_with (go_at_call 14; refine halted ?_)
        refine go_on ?_
        refine (scan_any A1 c1 m (us.take m) _ HMT.out hbyw (by rw [HMT.out]; omega) (by rw [HMT.out]; omega)).mono ?_
        rintro e w3 ⟨xs, r', A6, c6, he, HS, n1, n2, n3, n4⟩
        obtain ⟨hfs, hrr⟩ := HS.out.unique HR1.out
        have e1 : ((us.take m).length : Int) - (r'.length : Int) = (en kk : Int) := by rw [HMT.out, hrr]; omega
        rw [e1] at he
        subst he
        have hb3 := hbw.trans (n4.mono hbw.size)
        have q1 : FrRow w3 w3.heap.size A6 xs := ⟨n1, fun f hf => ⟨(n3 f hf).1, (n3 f hf).2.1⟩⟩
        have hxl : xs.length = kk := by have := congrArg List.length hfs; rw [List.length_map, List.length_map, HKT.out] at this; exact this
        have HSM := hide (same_any A6 A c6 c _ kk xs (l.take kk) w3 q1 (hrow3.below n4) rfl HKT.out hfs (by omega))
        clear q1 n1 n2 n3 n4 hbyw hrow3 hfs hrr e1 hxl
        go_wp2_with (go_at_call 16; refine halted ?_)
        refine go_on ?_
        refine HSM.out.mono ?_
        rintro e w4 ⟨rfl, hb4⟩
        have hbN := hb3.trans (hb4.mono hb3.size)
        go_wp2
        go_ret
        exact ⟨rfl, hbN⟩
end Go.Proofs.Ytikfiicjgcnljaa
