/-
  The reference's Crash.
-/
import Derived.Test.YtpakihbejdpmoaaRs6
import Derived.Test.YtpakihbejdpmoaaCrash0
import Derived.BigQuiet
import Derived.BigRegion
namespace Go.Proofs.Ytpakihbejdpmoaa
open Go.RowKit
set_option linter.unusedVariables false

def madesD (l : List Rk) (d : Dir) : Dir := l.foldl madeD d
theorem madesD_succ {l : List Rk} {k : Nat} {c : Rk} (h : l[k]? = some c) (d : Dir) : madesD (l.take (k + 1)) d = madeD (madesD (l.take k) d) c := by
  unfold madesD
  rw [List.take_add_one, h, List.foldl_append]
  rfl
theorem madesD_len (l : List Rk) (d : Dir) : (madesD l d).length ≤ d.length + l.length := by
  unfold madesD
  induction l generalizing d with
  | nil => simp
  | cons p r ih =>
    have h1 := ih (madeD d p)
    have h2 := madeD_len d p
    rw [List.foldl_cons, List.length_cons]
    omega
theorem madesD_ix {l : List Rk} {d : Dir} {n : Nat} (hd : ∀ e ∈ d, e.2 < n) (hl : ∀ c ∈ l, c.kind = 0 ∨ c.kind = 1 → c.ix < n) : ∀ e ∈ madesD l d, e.2 < n := by
  unfold madesD
  induction l generalizing d with
  | nil => exact hd
  | cons p r ih =>
    rw [List.foldl_cons]
    exact ih (madeD_ix hd (hl p (List.mem_cons_self ..))) (fun c hc => hl c (List.mem_cons_of_mem _ hc))
/-- How many bytes of a file stay that were not synced. -/
def keepP (kl : List Int) (i : Nat) (f : List UInt8 × Nat) : Nat := match kl[i]? with
  | some v => (min (max v 0) ((f.1.length : Int) - (f.2 : Int))).toNat
  | none => 0
def cutP (kl : List Int) (i : Nat) (f : List UInt8 × Nat) : List UInt8 × Nat := (f.1.take (f.2 + keepP kl i f), f.2 + keepP kl i f)
def pCutN (kl : List Int) (d : Dir) (fs : List (List UInt8 × Nat)) : Nat → List (List UInt8 × Nat)
  | 0 => fs
  | k + 1 => match d[k]? with
    | some e => updAt (pCutN kl d fs k) e.2 (cutP kl k)
    | none => pCutN kl d fs k
def pCraD (p : PS) (ch : Int) : Dir := madesD (p.kept.take (nCh ch p.kept.length)) p.disk
def pCrash (p : PS) (ch : Int) (kl : List Int) : PS := { p with files := pCutN kl (pCraD p ch) p.files (pCraD p ch).length, now := pCraD p ch, disk := pCraD p ch, kept := [], plan := [], off := false }
def RcrR (r : Nat) (s : RS) (w : World) (ch : Int) (kl : List Int) (e : Ending) (w' : World) : Prop := e = .returned (.tuple #[]) ∧ ∃ s', RDid r s w s' w' ∧ s'.abs = pCrash s.abs ch kl
def RcRel (s : RS) (w : World) (m : Nat) (l i : Value) (wr : World) : Prop :=
  ∃ (k n : Nat) (A' : Option Addr) (c' : Nat), k ≤ m ∧ i = .int .i64 (k : Int) ∧ l = .slice A' n c' ∧ Hid (n = (madesD (s.kept.take k) s.disk).length) ∧ wr.ownsRow 0 92 2 (.slice A' n c') n (enCells (madesD (s.kept.take k) s.disk)) ∧ Below w.heap.size w wr
def RcRel2 (r : Nat) (s : RS) (w wl : World) (D : Dir) (kl : List Int) (i : Value) (wr : World) : Prop :=
  ∃ (k : Nat) (fl : List Rf), k ≤ D.length ∧ i = .int .i64 (k : Int) ∧ Hid (fl.length = s.files.length) ∧ Hid (fl.map (fun f => (f.bs, f.sure)) = pCutN kl D s.abs.files k) ∧ Hid (∀ f ∈ fl, f.bs.length ≤ 1000000000) ∧ RDid r s w { s with files := fl } wr ∧ Kept (InRow s.AF) wl wr

theorem cutB_to {A : Option Addr} {n c k : Nat} (hk : k ≤ c) : ∀ w' : World, (Instr.slice 33 (.slice A n c) none (some (.int .i64 (k : Int))) none).run Try.prog w' = .ok (.slice A k c) w' := by
  intro w'
  rw [run_slice_h w' 33 A n c elem_bytes .i64 (k : Int) (by omega) (by omega), size_byte]
  simp only [Result.andThen, sliced, Int.toNat_natCast, Nat.zero_mul, Nat.sub_zero]
  congr 2
  split
  · rfl
  · cases A <;> rfl
set_option maxRecDepth 100000 in
set_option maxHeartbeats 8000000 in
theorem rcrash_any (r : Nat) (s : RS) (w : World) (hs : Rm r s w) (hsm : s.small) (ch : Int) (A : Option Addr) (n c : Nat) (kl : List Int) (hkn : kl.length = n) (hrk : ∀ wr, Kept (s.own r) w wr → Row wr wr.heap.size A (kl.map (Value.int .i64))) (hkb : n ≤ 9223372036854775807) :
    Calls Try.prog 34 #[.pointer (some ⟨r, 0, none⟩), .int .i64 ch, .slice A n c] w (RcrR r s w ch kl) := by
  obtain ⟨m, hm⟩ : ∃ m, m = nCh ch s.kept.length := ⟨_, rfl⟩
  have hmk : m ≤ s.kept.length := by rw [hm]; unfold nCh; omega
  have hmc : ∀ k : Nat, k < m → (k : Int) < ch := by intro k hk; rw [hm] at hk; unfold nCh at hk; omega
  have hmo : (s.kept.length : Int) ≤ (m : Int) ∨ (m : Int) < (s.kept.length : Int) ∧ ch ≤ (m : Int) := by rw [hm]; unfold nCh; omega
  have HM := hide hm
  have HMC := hide hmc
  have HS := hide hs
  have HSM := hide hsm
  have c3 := hs.box.cell 3
  simp at c3
  have hdl := hsm.disk
  have hkl' := hsm.kept
  clear hs hsm hm hmc
  go_enter Try.func34, Try.ntmps34
  go_wp2
  go_loopw [6, 7] (fun l i wr => RcRel s w m l i wr) (fun _ i _ => m - (intOf i).toNat)
  case atStart => exact ⟨0, s.disk.length, s.AD, s.cD, Nat.zero_le _, rfl, rfl, rfl, HS.out.rn.rdisk, Below.refl _ _⟩
  case round =>
    obtain ⟨k, nl, A', c', hk, rfl, rfl, HN, hown, hb⟩ := hrel
    have hsr := HS.out.call hb
    have c4 := hsr.box.cell 4
    simp at c4
    have hnl : nl ≤ 2000000 := by
      rw [HN.out]
      have := madesD_len (s.kept.take k) s.disk
      rw [List.length_take] at this
      omega
    by_cases hlt : k < m
    · obtain ⟨x, hx⟩ : ∃ x, s.kept[k]? = some x := ⟨_, List.getElem?_eq_getElem (by omega)⟩
      obtain ⟨ad, hA, -, a0, a1, a2, a3⟩ := (Row.of_own hsr.rn.rkept).kp hx
      have hkc := HMC.out k hlt
      have hkl2 : (k : Int) < (s.kept.length : Int) := by omega
      have HMD := hide (made_any A' wr.heap.size nl c' (madesD (s.kept.take k) s.disk) wr HN.out.symm (Row.of_own hown) (Nat.le_refl _) (by omega) x x.kind (strB x.nm) (strB x.to) x.ix rfl rfl rfl rfl)
      have HNX := hide (madesD_succ hx s.disk)
      have HB := hide hb
      rw [hA] at c4
      clear hown hb hsr hx hA hmo
      go_wp2_with (go_at_call 58; refine halted ?_)
      refine go_on ?_
      refine HMD.out.mono ?_
      rintro e w5 ⟨A5, c5, rfl, hown5, hb5⟩
      have hrel2 : RcRel s w m (.slice A5 (madeD (madesD (s.kept.take k) s.disk) x).length c5) (.int .i64 ((k : Int) + 1)) w5 := by
        refine ⟨k + 1, _, A5, c5, hlt, by simp, rfl, ?_, ?_, HB.out.trans (hb5.mono HB.out.size)⟩
        · show _ = _
          rw [HNX.out]
        · rw [HNX.out]
          exact own_more hown5 (Nat.zero_le _)
      have HR2 := hide hrel2
      clear hown5 hb5 hrel2 a0 a1 a2 a3 c4
      go_wp2
      case roundEnd => exact ⟨HR2.out, by simp [intOf]; omega⟩
    · have hkE : k = m := by omega
      subst hkE
      obtain ⟨D, hD⟩ : ∃ D, D = madesD (s.kept.take k) s.disk := ⟨_, rfl⟩
      rw [← hD] at hown HN
      have hnD := HN.out
      subst hnD
      have HDE := hide (show D = pCraD s.abs ch from by rw [hD, HM.out]; rfl)
      have HDI := hide (show ∀ e ∈ D, e.2 < s.files.length from by rw [hD]; exact madesD_ix hsr.rn.ndisk (fun c hc => hsr.rn.nkept c (List.mem_of_mem_take hc)))
      have HNA := hide (show ∀ j, InRow A' j → ¬ InRow s.AF j from fun j h1 h2 => (Kb.of_row hown h1).ne (Kb.of_row hsr.rn.rfiles h2) (by decide) rfl)
      have HOWN := hide hown
      have HRD := hide (RDid.call HS.out hb)
      have HBL := hide hb
      clear hown hb hsr hD hlt hk HN hkl' hdl
      generalize wr = wl at *
      rcases hmo with hmo | ⟨hmo1, hmo2⟩
      all_goals
        go_wp2
        go_loopw [8] (fun i wq => RcRel2 r s w wl D kl i wq) (fun i _ => D.length - (intOf i).toNat)
        case atStart => exact ⟨0, s.files, Nat.zero_le _, rfl, rfl, rfl, HSM.out.bytes, HRD.out, Kept.refl _⟩
        case round =>
          obtain ⟨j, fl, hj, rfl, HFL, HFM, HFB, hrd, hkq⟩ := hrel
          have hmr := hrd.sm
          have hl := HRD.out.kept.size
          have hown := hkq.own HOWN.out HNA.out
          by_cases hjl : j < D.length
          · obtain ⟨e, he⟩ : ∃ e, D[j]? = some e := ⟨_, List.getElem?_eq_getElem hjl⟩
            obtain ⟨ad, rfl, hadb, -, hat⟩ := (Row.of_own hown).en he
            have hix := HDI.out e (List.mem_of_getElem? he)
            have hix2 : e.2 < fl.length := by rw [HFL.out]; exact hix
            obtain ⟨f, hf⟩ : ∃ f, fl[e.2]? = some f := ⟨_, List.getElem?_eq_getElem hix2⟩
            have hfm : f ∈ fl := List.mem_of_getElem? hf
            have hpc : pCutN kl D s.abs.files (j + 1) = updAt (pCutN kl D s.abs.files j) e.2 (cutP kl j) := by
              show (match D[j]? with
                | some e => updAt (pCutN kl D s.abs.files j) e.2 (cutP kl j)
                | none => pCutN kl D s.abs.files j) = _
              rw [he]
            have HPC := hide hpc
            obtain ⟨g, hg⟩ := one_of (n := fl.length) hmr.rn.rfiles (by omega)
            have hg : s.AF = some ⟨g, 0, none⟩ := hg
            have HG := hide hg
            have hofw : ∀ W, Below wr.heap.size wr W → W.ownsRow 0 85 2 (.slice (some ⟨g, 0, none⟩) fl.length s.cF) fl.length (fiCells fl) := fun W hW => by
              have h := (hmr.call hW).rn.rfiles
              have h : W.ownsRow 0 85 2 (.slice s.AF fl.length s.cF) fl.length (fiCells fl) := h
              rw [hg] at h
              exact h
            have HBF := hide (show ∀ W, Below wr.heap.size wr W → W.cell? ⟨r, 1, none⟩ = some (.slice (some ⟨g, 0, none⟩) fl.length s.cF) ∧ W.cell? ⟨g, e.2 * 2, none⟩ = some (.slice f.A f.bs.length f.c) ∧ W.cell? ⟨g, e.2 * 2 + 1, none⟩ = some (.int .i64 (f.sure : Int)) ∧ W.cell? ⟨(ad.add (j * 2)).block, (ad.add (j * 2)).off + 1, none⟩ = some (.int .i64 (e.2 : Int)) ∧ W.frozen? ⟨g, e.2 * 2, none⟩ = false ∧ W.frozen? ⟨g, e.2 * 2 + 1, none⟩ = false from fun W hW => by
              have c1 := (hmr.call hW).box.cell 1
              simp at c1
              rw [hg] at c1
              have hof := hofw W hW
              refine ⟨c1, ?_, ?_, (hW.cell (lt_of_cell hat)).trans hat, World.ownsRow.frozenAt hof _, World.ownsRow.frozenAt hof _⟩
              · rw [World.ownsRow.cellAt hof (e.2 * 2) (by omega)]
                exact (fiCells_at hf).1
              · rw [World.ownsRow.cellAt hof (e.2 * 2 + 1) (by omega)]
                exact (fiCells_at hf).2)
            have HBY := hide (show ∀ W, Below wr.heap.size wr W → Bytes W W.heap.size f.A f.bs from fun W hW => ((hmr.call hW).rn.fb f hfm).bytes)
            have hsu := hmr.rn.fsure f hfm
            have hfc : f.bs.length ≤ f.c := by
              obtain ⟨A2, c2, h1, h2, _⟩ := own_shape (hmr.rn.fb f hfm)
              injection h1 with _ _ h1
              omega
            have hfl9 := HFB.out f hfm
            have hsu9 : f.sure ≤ 1000000000 := Nat.le_trans hsu hfl9
            obtain ⟨q1, q2, q3, q4, q5, q6⟩ := HBF.out wr (Below.refl _ _)
            obtain ⟨p1, p2, p3, p4, p5, p6⟩ := HBF.out wr.drew ((Below.refl _ _).drew)
            have hglt : g < wr.heap.size := lt_of_cell q2
            have hrlt : r < wr.heap.size := hmr.box.lt
            have hadlt : (ad.add (j * 2)).block < wr.heap.size := lt_of_cell (a := (⟨(ad.add (j * 2)).block, (ad.add (j * 2)).off + 1, none⟩ : Addr)) q4
            have hj1 : (j : Int) < (D.length : Int) := by omega
            have hi1 : (e.2 : Int) < (fl.length : Int) := by omega
            have hi0 : (0 : Int) ≤ (e.2 : Int) := by omega
            have hz0 : 0 < D.length := by omega
            have HRDJ := hide hrd
            have HKQ := hide hkq
            have HF := hide hf
            have HSU := hide (And.intro hsu hfc)
            have hrkw := hrk wr hrd.kept
            obtain ⟨ix, hixe⟩ : ∃ ix, ix = e.2 := ⟨_, rfl⟩
            rw [← hixe] at *
            clear hown he hix hix2 hfm hpc hg hofw hsu hfc hrd hkq hf hmr hat hixe
            go_wp2
            go_region
            obtain ⟨w1, hw1⟩ : ∃ w1, w1 = (wr.alloc (.cells #[.slice f.A f.bs.length f.c, .int .i64 (f.sure : Int)] 85)).drew := ⟨_, rfl⟩
            have hb1 : Below wr.heap.size wr w1 := by rw [hw1]; exact (below_new wr _).drew
            have hx1 : w1.heap[wr.heap.size]? = some (.cells #[.slice f.A f.bs.length f.c, .int .i64 (f.sure : Int)] 85 (0, 0)) := by rw [hw1]; exact heap_alloc_new wr _
            have hz1 : wr.heap.size < w1.heap.size := by rw [hw1]; simp
            rw [← hw1]
            obtain ⟨q9, hq9⟩ : ∃ q9, q9 = wr.heap.size := ⟨_, rfl⟩
            rw [← hq9] at hx1 hz1 ⊢
            have HQ9 := hide hq9
            have HB1 := hide hb1
            have HX1 := hide hx1
            have HRK := hide (hrkw.below hb1)
            have y0 : w1.cell? ⟨q9, 0, none⟩ = some (.slice f.A f.bs.length f.c) := Joins.cell_of_block hx1 0
            have y1 : w1.cell? ⟨q9, 1, none⟩ = some (.int .i64 (f.sure : Int)) := Joins.cell_of_block hx1 1
            clear q1 q2 q3 q4 q5 q6 p1 p2 p3 p4 p5 p6 hw1 hb1 hx1 hrkw hq9
            have hor : (j < n ∧ ∃ v, kl[j]? = some v) ∨ (¬ j < n ∧ kl[j]? = none) := by
              by_cases hjn : j < n
              · exact .inl ⟨hjn, _, List.getElem?_eq_getElem (by omega)⟩
              · exact .inr ⟨hjn, List.getElem?_eq_none (by omega)⟩
            obtain ⟨t, ht⟩ : ∃ t, t = f.sure + keepP kl j (f.bs, f.sure) := ⟨_, rfl⟩
            have hsub : IntKind.i64.wrap ((f.bs.length : Int) - (f.sure : Int)) = (f.bs.length : Int) - (f.sure : Int) := IntWalk.i64_in _ (by omega)
            rcases hor with ⟨hjn, v, hv⟩ | ⟨hjn, hv⟩
            case' inl =>
              obtain ⟨ad2, rfl, -, hc2⟩ := HRK.out j (.int .i64 v) (by rw [List.getElem?_map, hv]; rfl)
              have hjn' : (j : Int) < (n : Int) := by omega
              have e0 : w1.drew.cell? ⟨q9, 0, none⟩ = some (.slice f.A f.bs.length f.c) := y0
              have e1 : w1.drew.cell? ⟨q9, 1, none⟩ = some (.int .i64 (f.sure : Int)) := y1
              have e2 : w1.drew.cell? (ad2.add j) = some (.int .i64 v) := hc2
              have HV := hide hv
              have HT := hide ht
              clear hv ht
              go_wp2
              go_quiet (fail)
              have hb2 := (HB1.out.trans (below_dN (Below.refl wr.heap.size w1) nq))
              have hx2 : (w1.drewN nq).heap[q9]? = some (.cells #[.slice f.A f.bs.length f.c, .int .i64 (f.sure : Int)] 85 (0, 0)) := HX1.out
              clear e0 e1 e2 hc2 y0 y1
              generalize w1.drewN nq = w2 at *
              obtain ⟨m2, hm2⟩ : ∃ m2 : Nat, max 0 (min v ((f.bs.length : Int) - (f.sure : Int))) = (m2 : Int) := ⟨(max 0 (min v ((f.bs.length : Int) - (f.sure : Int)))).toNat, by omega⟩
              have hmk : m2 = keepP kl j (f.bs, f.sure) := by
                unfold keepP
                rw [HV.out]
                dsimp only
                have := HSU.out.1
                omega
              have hadd : IntKind.i64.wrap ((f.sure : Int) + (m2 : Int)) = (t : Int) := (IntWalk.i64_in _ (by have := HSU.out.1; omega)).trans (by have := HT.out; omega)
              rw [hm2]
              clear hm2 hmk hjn hjn'
            case' inr =>
              have hk0 : keepP kl j (f.bs, f.sure) = 0 := by unfold keepP; rw [hv]
              have hadd : IntKind.i64.wrap ((f.sure : Int) + 0) = (t : Int) := (IntWalk.i64_in _ (by omega)).trans (by omega)
              have hadd1 : IntKind.i64.wrap (f.sure : Int) = (t : Int) := (IntWalk.i64_in _ (by omega)).trans (by omega)
              have hadd2 : (f.sure : Int) = (t : Int) := by omega
              have HV := hide hv
              have HT := hide ht
              have hb2 := HB1.out
              have hx2 := HX1.out
              have hjn' : (n : Int) ≤ (j : Int) := by omega
              clear hv ht hjn hk0 y0 y1
              have y0 : w1.cell? ⟨q9, 0, none⟩ = some (.slice f.A f.bs.length f.c) := Joins.cell_of_block hx2 0
              have y1 : w1.cell? ⟨q9, 1, none⟩ = some (.int .i64 (f.sure : Int)) := Joins.cell_of_block hx2 1
              generalize w1 = w2 at *
            all_goals
              have hq2 : q9 < w2.heap.size := (Array.getElem?_eq_some_iff.1 hx2).1
              have htle : t ≤ f.bs.length := by
                have h1 := HT.out
                have h2 := HSU.out.1
                unfold keepP at h1
                rw [HV.out] at h1
                dsimp only at h1
                omega
              have htc : t ≤ f.c := Nat.le_trans htle HSU.out.2
              have hcut := cutB_to (A := f.A) (n := f.bs.length) (c := f.c) (k := t) htc
              have htl : (f.bs.take t).length = t := by rw [List.length_take]; omega
              obtain ⟨T, hT⟩ : ∃ T, T = f.bs.take t := ⟨_, rfl⟩
              rw [← hT] at htl
              obtain ⟨wa, hwa⟩ : ∃ wa, wa = w2.alloc (.cells #[] 5) := ⟨_, rfl⟩
              have hba2 : Below w2.heap.size w2 wa := by rw [hwa]; exact below_new _ _
              have hba : Below wr.heap.size wr wa := hb2.trans (hba2.mono hb2.size)
              have hla : OwnB wa w2.heap.size 5 (some ⟨w2.heap.size, 0, none⟩) 0 [] := by rw [hwa]; exact OwnB.lit w2 5 [] (Nat.le_refl _) (by unfold maxLen; simp)
              have hxa := (hba2.block q9 hq2).trans hx2
              have hya : Bytes wa wa.heap.size f.A T := by rw [hT]; exact (HBY.out wa hba).take t
              have HTT := hide hT
              have ht9 : t ≤ 1000000000 := Nat.le_trans htle hfl9
              have z0 : wa.cell? ⟨q9, 0, none⟩ = some (.slice f.A f.bs.length f.c) := Joins.cell_of_block hxa 0
              have z1 : wa.cell? ⟨q9, 1, none⟩ = some (.int .i64 (f.sure : Int)) := Joins.cell_of_block hxa 1
              rw [hwa] at z0 z1
              have HWA := hide hwa
              have HBA := hide hba
              have HBA2 := hide hba2
              have HLA := hide hla
              have HYA := hide hya
              have HXA := hide hxa
              have HTL := hide htl
              have HB2 := hide hb2
              clear hT hwa hba hba2 hla hya hxa htl hb2 htle hx2
              go_wp2_with (at_builtin; refine halted ?_)
              refine go_on ?_
              rw [← HWA.out]
              refine wpList_append_bytes _ rfl (.tmp 71) (.tmp 78) 33 rfl w2.heap.size 5 Try.underlying33 info_u8 (some ⟨w2.heap.size, 0, none⟩) 0 0 [] rfl rfl HLA.out wa.heap.size f.A t f.c T rfl HTL.out.symm HYA.out (by rw [HTL.out]; simp; omega) HBA2.out.size ?_
              intro ds A3 c3' w3 hds hdl3 hown3 hg3 _
              obtain rfl : T = ds := by rw [hds.out, List.nil_append]
              have hb3 : Below w2.heap.size w2 w3 := HBA2.out.grown hg3 HBA2.out.size (fun q hq => by injection hq with hq; simp at hq; omega)
              have hbw3 : Below wr.heap.size wr w3 := HB2.out.trans (hb3.mono HB2.out.size)
              have hx3 := (hg3.block q9 (Nat.lt_of_lt_of_le hq2 HBA2.out.size) (fun e => by injection e with e; simp at e; omega)).trans HXA.out
              have k0 : w3.cell? ⟨q9, 0, none⟩ = some (.slice f.A f.bs.length f.c) := Joins.cell_of_block hx3 0
              have f0 : w3.frozen? ⟨q9, 0, none⟩ = false := Joins.unfrozen_of_block hx3 0
              have hx4 := Joins.block_setCell (i := 0) hx3 (.slice A3 T.length c3')
              have k10 : (w3.setCell ⟨q9, 0, none⟩ (.slice A3 T.length c3')).cell? ⟨q9, 0, none⟩ = some (.slice A3 T.length c3') := Joins.cell_of_block hx4 0
              have k11 : (w3.setCell ⟨q9, 0, none⟩ (.slice A3 T.length c3')).cell? ⟨q9, 1, none⟩ = some (.int .i64 (f.sure : Int)) := Joins.cell_of_block hx4 1
              have f11 : (w3.setCell ⟨q9, 0, none⟩ (.slice A3 T.length c3')).frozen? ⟨q9, 1, none⟩ = false := Joins.unfrozen_of_block hx4 1
              obtain ⟨w5, hw5⟩ : ∃ w5, w5 = (w3.setCell ⟨q9, 0, none⟩ (.slice A3 T.length c3')).setCell ⟨q9, 1, none⟩ (.int .i64 (T.length : Int)) := ⟨_, rfl⟩
              have hx5 : w5.heap[q9]? = some (.cells #[.slice A3 T.length c3', .int .i64 (T.length : Int)] 85 (0, 0)) := by rw [hw5]; exact Joins.block_setCell (i := 1) hx4 _
              have hk5 : Kept (fun _ => False) wr w5 := by
                rw [hw5]
                exact ((Kept.of_below hbw3).put (.inl (by have := HQ9.out; omega)) 0 _).put (.inl (by have := HQ9.out; omega)) 1 _
              have hb5 : Below wr.heap.size wr w5 := hk5.below (fun _ h => h.elim) (Nat.le_refl _)
              have hk35 : Kept (fun k => k = q9) w3 w5 := by rw [hw5]; exact (keptR w3 q9 0 _).trans (keptR _ q9 1 _)
              have hown5 : OwnB w5 w2.heap.size 5 A3 c3' T := hk35.own hown3 (fun k hk e => by have := hown3.le k hk; omega)
              have v0 : w5.cell? ⟨q9, 0, none⟩ = some (.slice A3 T.length c3') := Joins.cell_of_block hx5 0
              have v1 : w5.cell? ⟨q9, 1, none⟩ = some (.int .i64 (T.length : Int)) := Joins.cell_of_block hx5 1
              obtain ⟨q1, q2, q3, q4, q5, q6⟩ := HBF.out w5 hb5
              have hb5d : Below wr.heap.size wr w5.drew := hb5.drew
              obtain ⟨p1, p2, p3, p4, p5, p6⟩ := HBF.out w5.drew hb5d
              have u0 : w5.drew.cell? ⟨q9, 0, none⟩ = some (.slice A3 T.length c3') := v0
              have u1 : w5.drew.cell? ⟨q9, 1, none⟩ = some (.int .i64 (T.length : Int)) := v1
              have HW5 := hide hw5
              have HB5 := hide hb5
              have HOWN5 := hide hown5
              have HT9 := hide ht9
              clear hb3 hbw3 hx3 hx4 hw5 hx5 hk5 hb5 hk35 hown5 hown3 hg3 hds hdl3 hb5d z0 z1 ht9
              go_wp2
              rw [← HW5.out]
              go_region
              have hm5 : Rm r { s with files := fl } w5 := HRDJ.out.sm.call HB5.out
              have hof5 : w5.ownsRow 0 85 2 (.slice (some ⟨g, 0, none⟩) fl.length s.cF) fl.length (fiCells fl) := by
                have h : w5.ownsRow 0 85 2 (.slice s.AF fl.length s.cF) fl.length (fiCells fl) := hm5.rn.rfiles
                rw [HG.out] at h
                exact h
              have hst1 := World.ownsRow.stored hof5 (e.2 * 2) (.slice A3 T.length c3')
              have hst2 := World.ownsRow.stored hst1.1 (e.2 * 2 + 1) (.int .i64 (T.length : Int))
              have hset := fiCells_set HF.out ⟨A3, c3', T, T.length⟩
              dsimp only at hset
              have hst3 := World.ownsRow.drew hst2.1
              rw [hset] at hst3
              obtain ⟨W, hW⟩ : ∃ W, W = ((w5.setCell ⟨g, e.2 * 2, none⟩ (.slice A3 T.length c3')).setCell ⟨g, e.2 * 2 + 1, none⟩ (.int .i64 (T.length : Int))).drew := ⟨_, rfl⟩
              have hin : ∀ i, some g = some i → InRow s.AF i := fun i hi => by
                injection hi with hi
                unfold InRow
                rw [HG.out]
                simp
                exact hi
              have hkg : Kept (InRow s.AF) w5 W := by
                rw [hW]
                exact ((Kept.of_grown hst1.2 hin).trans (Kept.of_grown hst2.2 hin)).call (Below.refl _ _).drew
              rw [← hW] at hst3 ⊢
              have hls : (fl.set e.2 ⟨A3, c3', T, T.length⟩).length = fl.length := List.length_set ..
              have hst4 : W.ownsRow 0 85 2 (.slice s.AF (fl.set e.2 ⟨A3, c3', T, T.length⟩).length s.cF) (fl.set e.2 ⟨A3, c3', T, T.length⟩).length (fiCells (fl.set e.2 ⟨A3, c3', T, T.length⟩)) := by
                rw [hls, HG.out]
                exact hst3
              have hrn := hm5.rn.refiles (AF := s.AF) (cF := s.cF) hkg hst4 (by rw [hls]; exact Nat.le_refl _) (fun f2 hf2 => by
                rcases List.mem_or_eq_of_mem_set hf2 with h | h
                · exact hm5.rn.fkept hkg f2 h
                · rw [h]
                  exact hkg.own (HOWN5.out.more (Nat.zero_le _)) (fun j hj hs => (Kb.of_row HOWN5.out hj).ne (Kb.of_row hm5.rn.rfiles hs) (by decide) rfl)) (fun f2 hf2 => by
                rcases List.mem_or_eq_of_mem_set hf2 with h | h
                · exact hm5.rn.fsure f2 h
                · rw [h]; exact Nat.le_refl _)
              have hnr : ¬ InRow s.AF r := fun h => (Kb.of_row hm5.rn.rfiles h).ne hm5.box.kb (by decide) rfl
              have hbx : RsB r { s with files := fl.set e.2 ⟨A3, c3', T, T.length⟩ } W := by
                have h := (hkg.block r hm5.box.lt hnr).trans hm5.box
                unfold RsB RS.cells at h ⊢
                rw [hls]
                exact h
              have hrel2 : RcRel2 r s w wl D kl (.int .i64 ((j : Int) + 1)) W := by
                refine ⟨j + 1, fl.set e.2 ⟨A3, c3', T, T.length⟩, by omega, by simp, ?_, ?_, ?_, HRDJ.out.trans ⟨⟨hbx, hrn⟩, (Kept.of_below HB5.out).trans (hkg.wider fun k _ e => .inr (.inl e)), fun k2 hk => ?_⟩, (HKQ.out.call HB5.out).trans hkg⟩
                · show _ = _
                  rw [hls, HFL.out]
                · show _ = _
                  rw [HPC.out, ← HFM.out, List.map_set]
                  unfold updAt
                  rw [List.getElem?_map, HF.out]
                  dsimp only [Option.map]
                  congr 1
                  unfold cutP
                  rw [← HT.out, HTL.out, HTT.out]
                · show ∀ _, _
                  intro f2 hf2
                  rcases List.mem_or_eq_of_mem_set hf2 with h | h
                  · exact HFB.out f2 h
                  · rw [h]
                    show T.length ≤ _
                    rw [HTL.out]
                    exact HT9.out
                · rcases hk with h | h | h | h | h | h | ⟨f2, hf2, h⟩
                  · exact .inl (.inl h)
                  · exact .inl (.inr (.inl h))
                  · exact .inl (.inr (.inr (.inl h)))
                  · exact .inl (.inr (.inr (.inr (.inl h))))
                  · exact .inl (.inr (.inr (.inr (.inr (.inl h)))))
                  · exact .inl (.inr (.inr (.inr (.inr (.inr (.inl h))))))
                  · rcases List.mem_or_eq_of_mem_set hf2 with h2 | h2
                    · exact .inl (.inr (.inr (.inr (.inr (.inr (.inr ⟨f2, h2, h⟩))))))
                    · rw [h2] at h
                      exact .inr (Nat.le_trans HB2.out.size (HOWN5.out.le k2 h))
              have HR2 := hide hrel2
              clear hm5 hof5 hst1 hst2 hset hst3 hin hkg hls hst4 hrn hnr hbx hrel2 q1 q2 q3 q4 q5 q6 p1 p2 p3 p4 p5 p6 u0 u1 v0 v1 hW k0 k10 k11 f0 f11
              go_wp2
              case roundEnd => exact ⟨HR2.out, by simp [intOf]; omega⟩
          · have hjE : j = D.length := by omega
            subst hjE
            have hDl : D.length ≤ 2000000 := hnl
            have hxa : fl.map (fun f => (f.bs, f.sure)) = pCutN kl D s.abs.files D.length := HFM.out
            have HXA := hide hxa
            obtain ⟨i0, hi, hz0, hz1, hz2⟩ := info_parts info_en
            obtain ⟨sx, hsx⟩ : ∃ sx : RS, sx = { s with files := fl } := ⟨_, rfl⟩
            rw [← hsx] at hmr hrd
            have hnx : ∀ e ∈ D, e.2 < sx.files.length := by
              rw [hsx]
              intro e he
              show e.2 < fl.length
              rw [HFL.out]
              exact HDI.out e he
            have HNX := hide hnx
            have HSX := hide hsx
            obtain ⟨wa, hwa⟩ : ∃ wa, wa = wr.alloc (.cells #[] 92) := ⟨_, rfl⟩
            have hba : Below wr.heap.size wr wa := by rw [hwa]; exact below_new _ _
            have hla := World.ownsRow_lit (base := wr.heap.size) (e := 92) (size := 2) wr #[] 0 (Nat.le_refl _) (by unfold maxLen; omega) (by simp)
            rw [← hwa] at hla
            have hra := (Row.of_own hown).belowLe hba (Nat.le_refl _)
            have HWA := hide hwa
            have HBA := hide hba
            have HLA := hide hla
            have HRA := hide hra
            have HRD2 := hide hrd
            have HMR := hide hmr
            have HOW := hide hown
            clear hnx hsx hxa hwa hba hla hra hrd hmr hown hkq hjl hl
            go_wp2_with (at_builtin; refine halted ?_)
            refine go_on ?_
            rw [← HWA.out]
            refine wpList_append_own _ rfl (.tmp 97) (.tmp 98) 60 rfl wr.heap.size 92 i0 _ 2 24 Try.underlying60 hi hz0 hz1 hz2 rfl (by decide) (some ⟨wr.heap.size, 0, none⟩) 0 0 [] rfl HLA.out _ A' D.length c' (enCells D) rfl (enCells_len _) HRA.out (enCells_one _) (by unfold maxLen; omega) (by omega) HBA.out.size ?_
            intro n2 xs2 A2 c2 w2 hn2 hxs2 _ _ hown2 hg2 _
            obtain rfl : n2 = D.length := by rw [hn2.out]; omega
            obtain rfl : xs2 = enCells D := hxs2.out
            have hb2 : Below wr.heap.size wr w2 := HBA.out.grown hg2 HBA.out.size (fun q hq => by simp at hq; omega)
            have hm2 := HMR.out.call hb2
            have hn2' : Rn { sx with AN := A2, cN := c2, now := D } w2 := ⟨hm2.rn.rfiles, own_more hown2 (Nat.zero_le _), hm2.rn.rdisk, hm2.rn.rkept, hm2.rn.plan, hm2.rn.pcap, hm2.rn.planK, hm2.rn.fb, hm2.rn.fsure, HNX.out, hm2.rn.ndisk, hm2.rn.nkept⟩
            have k2 : w2.cell? ⟨r, 2, none⟩ = some (.slice sx.AN sx.now.length sx.cN) := hm2.box.cell 2
            have f2 : w2.frozen? ⟨r, 2, none⟩ = false := hm2.box.free 2
            obtain ⟨w3, hw3⟩ : ∃ w3, w3 = w2.setCell ⟨r, 2, none⟩ (.slice A2 D.length c2) := ⟨_, rfl⟩
            have hk3 : Kept (fun k => k = r) w2 w3 := by rw [hw3]; exact keptR w2 r 2 _
            have hm3 : Rm r { sx with AN := A2, cN := c2, now := D } w3 := Rm.mk_set hn2' hm2.box.kb hk3 (by rw [hw3]; exact hm2.box.set 2 _ rfl)
            have hd3 : RDid r sx wr { sx with AN := A2, cN := c2, now := D } w3 := ⟨hm3, (Kept.of_below hb2).trans (hk3.wider fun k _ e => .inl e), fun k hk => by
              rcases hk with h | h | h | h | h | h | h
              · exact .inl (.inl h)
              · exact .inl (.inr (.inl h))
              · exact .inr (World.ownsRow.lt hown2 k (by rw [ownBlock_slice]; exact h)).1
              · exact .inl (.inr (.inr (.inr (.inl h))))
              · exact .inl (.inr (.inr (.inr (.inr (.inl h)))))
              · exact .inl (.inr (.inr (.inr (.inr (.inr (.inl h))))))
              · exact .inl (.inr (.inr (.inr (.inr (.inr (.inr h))))))⟩
            have hnr : ∀ j, InRow A' j → ¬ j = r := fun j hj e => (Kb.of_row HOW.out hj).ne HMR.out.box.kb (by decide) e
            have hown3 := (((Kept.of_below hb2).trans hk3 : Kept (fun k => k = r) wr w3)).own HOW.out hnr
            obtain ⟨wb, hwb⟩ : ∃ wb, wb = w3.alloc (.cells #[] 92) := ⟨_, rfl⟩
            have hbb : Below w3.heap.size w3 wb := by rw [hwb]; exact below_new _ _
            have hlb := World.ownsRow_lit (base := w3.heap.size) (e := 92) (size := 2) w3 #[] 0 (Nat.le_refl _) (by unfold maxLen; omega) (by simp)
            rw [← hwb] at hlb
            have hsz3 : w3.heap.size = w2.heap.size := by rw [hw3]; simp
            rw [hsz3] at hlb
            have HSZ := hide hsz3
            have hrb := (Row.of_own hown3).belowLe hbb (Nat.le_refl _)
            have HW3 := hide hw3
            have HWB := hide hwb
            have HBB := hide hbb
            have HLB := hide hlb
            have HRB := hide hrb
            have HD3 := hide (HRD2.out.trans hd3)
            have HM3 := hide hm3
            clear hn2 hxs2 hown2 hg2 hb2 hm2 hn2' hw3 hk3 hm3 hd3 hnr hown3 hwb hbb hlb hrb hsz3
            go_wp2_with (at_builtin; refine halted ?_)
            refine go_on ?_
            rw [← HW3.out, ← HWB.out]
            refine wpList_append_own _ rfl (.tmp 103) (.tmp 104) 60 rfl w2.heap.size 92 i0 _ 2 24 Try.underlying60 hi hz0 hz1 hz2 rfl (by decide) (some ⟨w2.heap.size, 0, none⟩) 0 0 [] rfl HLB.out _ A' D.length c' (enCells D) rfl (enCells_len _) HRB.out (enCells_one _) (by unfold maxLen; omega) (by omega) (by rw [← HSZ.out]; exact HBB.out.size) ?_
            intro n4 xs4 A4 c4 w4 hn4 hxs4 _ _ hown4 hg4 _
            obtain rfl : n4 = D.length := by rw [hn4.out]; omega
            obtain rfl : xs4 = enCells D := hxs4.out
            have hb4 : Below w3.heap.size w3 w4 := HBB.out.grown hg4 HBB.out.size (fun q hq => by have := HSZ.out; simp at hq; omega)
            have hm4 := HM3.out.call hb4
            obtain ⟨s5, hs5⟩ : ∃ s5 : RS, s5 = { sx with AN := A2, cN := c2, now := D, AD := A4, cD := c4, disk := D, AK := none, cK := 0, kept := [], AP := none, cP := 0, plan := [], off := false } := ⟨_, rfl⟩
            have hn5 : Rn s5 w4 := by
              rw [hs5]
              exact ⟨hm4.rn.rfiles, hm4.rn.rnow, own_more hown4 (Nat.zero_le _), World.ownsRow_nil _ _ _ _, Bytes.nil, Nat.le_refl _, fun k h => by unfold InRow at h; simp at h, hm4.rn.fb, hm4.rn.fsure, HNX.out, HNX.out, fun c hc => by cases hc⟩
            have g3 : w4.cell? ⟨r, 3, none⟩ = some (.slice sx.AD sx.disk.length sx.cD) := hm4.box.cell 3
            have f3 : w4.frozen? ⟨r, 3, none⟩ = false := hm4.box.free 3
            have hx5 : RsB r { sx with AN := A2, cN := c2, now := D, AD := A4, cD := c4, disk := D } (w4.setCell ⟨r, 3, none⟩ (.slice A4 D.length c4)) := hm4.box.set 3 _ rfl
            have g4 : (w4.setCell ⟨r, 3, none⟩ (.slice A4 D.length c4)).cell? ⟨r, 4, none⟩ = some (.slice sx.AK sx.kept.length sx.cK) := hx5.cell 4
            have f4 : (w4.setCell ⟨r, 3, none⟩ (.slice A4 D.length c4)).frozen? ⟨r, 4, none⟩ = false := hx5.free 4
            have hx6 : RsB r { sx with AN := A2, cN := c2, now := D, AD := A4, cD := c4, disk := D, AK := none, cK := 0, kept := [] } ((w4.setCell ⟨r, 3, none⟩ (.slice A4 D.length c4)).setCell ⟨r, 4, none⟩ (.slice none 0 0)) := hx5.set 4 _ rfl
            have g5 : ((w4.setCell ⟨r, 3, none⟩ (.slice A4 D.length c4)).setCell ⟨r, 4, none⟩ (.slice none 0 0)).cell? ⟨r, 5, none⟩ = some (.slice sx.AP sx.plan.length sx.cP) := hx6.cell 5
            have f5 : ((w4.setCell ⟨r, 3, none⟩ (.slice A4 D.length c4)).setCell ⟨r, 4, none⟩ (.slice none 0 0)).frozen? ⟨r, 5, none⟩ = false := hx6.free 5
            have hx7 : RsB r { sx with AN := A2, cN := c2, now := D, AD := A4, cD := c4, disk := D, AK := none, cK := 0, kept := [], AP := none, cP := 0, plan := [] } (((w4.setCell ⟨r, 3, none⟩ (.slice A4 D.length c4)).setCell ⟨r, 4, none⟩ (.slice none 0 0)).setCell ⟨r, 5, none⟩ (.slice none 0 0)) := hx6.set 5 _ rfl
            have g6 : (((w4.setCell ⟨r, 3, none⟩ (.slice A4 D.length c4)).setCell ⟨r, 4, none⟩ (.slice none 0 0)).setCell ⟨r, 5, none⟩ (.slice none 0 0)).cell? ⟨r, 6, none⟩ = some (.bool sx.off) := hx7.cell 6
            have f6 : (((w4.setCell ⟨r, 3, none⟩ (.slice A4 D.length c4)).setCell ⟨r, 4, none⟩ (.slice none 0 0)).setCell ⟨r, 5, none⟩ (.slice none 0 0)).frozen? ⟨r, 6, none⟩ = false := hx7.free 6
            have hx8 : RsB r s5 ((((w4.setCell ⟨r, 3, none⟩ (.slice A4 D.length c4)).setCell ⟨r, 4, none⟩ (.slice none 0 0)).setCell ⟨r, 5, none⟩ (.slice none 0 0)).setCell ⟨r, 6, none⟩ (.bool false)) := by rw [hs5]; exact hx7.set 6 _ rfl
            have hk8 := (((keptR w4 r 3 (.slice A4 D.length c4)).trans (keptR _ r 4 (.slice none 0 0))).trans (keptR _ r 5 (.slice none 0 0))).trans (keptR _ r 6 (.bool false))
            have hfin : RcrR r s w ch kl (.returned (.tuple #[])) ((((w4.setCell ⟨r, 3, none⟩ (.slice A4 D.length c4)).setCell ⟨r, 4, none⟩ (.slice none 0 0)).setCell ⟨r, 5, none⟩ (.slice none 0 0)).setCell ⟨r, 6, none⟩ (.bool false)) := by
              refine ⟨rfl, s5, HD3.out.trans ⟨Rm.mk_set hn5 hm4.box.kb hk8 hx8, (Kept.of_below hb4).trans (hk8.wider fun k _ e => .inl e), fun k hk => ?_⟩, ?_⟩
              · rw [hs5] at hk
                rcases hk with h | h | h | h | h | h | h
                · exact .inl (.inl h)
                · exact .inl (.inr (.inl h))
                · exact .inl (.inr (.inr (.inl h)))
                · right
                  rw [HSZ.out]
                  exact (World.ownsRow.lt hown4 k (by rw [ownBlock_slice]; exact h)).1
                · unfold InRow at h
                  simp at h
                · unfold InRow at h
                  simp at h
                · exact .inl (.inr (.inr (.inr (.inr (.inr (.inr h))))))
              · rw [hs5, HSX.out]
                unfold pCrash
                rw [← HDE.out, ← HXA.out]
                rfl
            have HFI := hide hfin
            clear hn4 hxs4 hown4 hg4 hb4 hm4 hs5 hn5 hx5 hx6 hx7 hx8 hk8 hfin k2 f2
            go_wp2
            go_end0
            exact HFI.out
end Go.Proofs.Ytpakihbejdpmoaa
