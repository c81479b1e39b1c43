/-
  The reference's Append.
-/
import Derived.Test.YtpakihbejdpmoaaRs6
import Derived.Test.YtpakihbejdpmoaaRs4
import Derived.Test.YtpakihbejdpmoaaStep
import Derived.Deep.RegionHeld3
namespace Go.Proofs.Ytpakihbejdpmoaa
open Go.RowKit
set_option linter.unusedVariables false

def psize (p : PS) : Nat := (p.now.map fun e => match p.files[e.2]? with
  | some f => f.1.length
  | none => 0).sum
theorem psize_abs (s : RS) : psize s.abs = rsizeS s := by
  unfold psize rsizeS
  congr 1
  show s.now.map _ = s.now.map _
  congr 1
  funext e
  unfold lenAt
  show (match (s.files.map fun f => (f.bs, f.sure))[e.2]? with
  | some f => f.1.length
  | none => 0) = _
  rw [List.getElem?_map]
  cases s.files[e.2]? <;> rfl
def pAppend (p : PS) (nm : ByteArray) (bs : List UInt8) (m : Int × List UInt8 × Bool) : Int × PS :=
  if m.1 ≠ 0 then (m.1, p.met m) else match dFind p.now nm.data.toList with
    | none => (4, p.met m)
    | some k => if p.room < (psize p : Int) + (bs.length : Int) then (6, p.met m) else (0, { p.met m with files := updAt p.files k fun f => (f.1 ++ bs, f.2) })

set_option maxRecDepth 100000 in
set_option maxHeartbeats 4000000 in
theorem rappend_any (r : Nat) (s : RS) (w : World) (hs : Rm r s w) (nm : ByteArray) (hnm : nm.size ≤ maxLen) (hsm : s.small) (hroom : 0 ≤ s.room ∧ s.room ≤ 16777216) (hsz : rsizeS s ≤ 1000000000000) (A : Option Addr) (n c : Nat) (bs : List UInt8) (hn : bs.length = n) (hr : Bytes w w.heap.size A bs) (haw : Away (s.own r) A bs) (hbl : n ≤ 1000000000) :
    Calls Try.prog 26 #[.pointer (some ⟨r, 0, none⟩), .string nm, .slice A n c] w (RopR r s w (pAppend s.abs nm bs (meetE (isNm nm) s.off s.plan))) := by
  subst hn
  have hmy := may_any r s w hs nm nm hnm hnm (by have := hsm.plan; omega)
  rw [Bool.and_self] at hmy
  have HMY := hide hmy
  obtain ⟨m, HM⟩ : ∃ m, Hid (m = meetE (isNm nm) s.off s.plan) := ⟨_, rfl⟩
  rw [← HM.out] at HMY ⊢
  obtain ⟨X, HX⟩ : ∃ X, Hid (X = pAppend s.abs nm bs m) := ⟨_, rfl⟩
  rw [← HX.out]
  have HSM := hide hsm
  have HRM := hide hroom
  have HSZ := hide hsz
  have HAR := hide (And.intro hr haw)
  clear hs hnm hmy hsm hroom hsz hr haw
  go_enter Try.func26, Try.ntmps26
  go_wp2_with (go_at_call 52; refine halted ?_)
  refine go_on ?_
  refine HMY.out.mono ?_
  clear HMY
  rintro e w1 ⟨rfl, AP, cP, hd1⟩
  have HD1 := hide hd1
  clear hd1
  by_cases h0 : m.1 = 0
  case neg =>
    have hX : X = (m.1, s.abs.met m) := by rw [HX.out]; unfold pAppend; rw [if_pos h0]
    have HF := hide (show RopR r s w X (.returned (.int .i64 m.1)) w1 from ⟨by rw [hX], _, HD1.out, by rw [hX]; rfl⟩)
    have hne : (m.1 != 0) = true := by rw [bne_iff_ne]; exact h0
    clear hX h0
    go_wp2
    go_ret
    exact HF.out
  obtain ⟨s1, hs1⟩ : ∃ s1, s1 = s.met AP cP m := ⟨_, rfl⟩
  rw [← hs1] at HD1
  have hm1 := HD1.out.sm
  have HS1 := hide hs1
  have HM1 := hide hm1
  have hno : s1.now = s.now := by rw [hs1]; rfl
  have hfi : s1.files = s.files := by rw [hs1]; rfl
  have hke : s1.kept = s.kept := by rw [hs1]; rfl
  have hFI := find_any s1.AN w1.heap.size s1.now.length s1.cN s1.now w1 rfl (Row.of_own hm1.rn.rnow) (by rw [hno]; have := HSM.out.now; omega) nm
  have c2 := hm1.box.cell 2
  simp at c2
  have HFI := hide hFI
  cases hfd : dFind s1.now nm.data.toList with
  | none =>
    have hX : X = (4, s.abs.met m) := by
      rw [HX.out]
      unfold pAppend
      rw [if_neg (by omega)]
      have : dFind s.abs.now nm.data.toList = none := by rw [← hfd, hno]; rfl
      rw [this]
    have HF := hide (show RopR r s w X (.returned (.int .i64 4)) w1 from ⟨by rw [hX], _, HD1.out, by rw [hX, HS1.out]; rfl⟩)
    rw [hfd] at HFI
    clear hX hfd hs1 hm1 hno hfi hke hFI
    rw [h0]
    go_wp2_with (go_at_call 53; refine halted ?_)
    refine go_on ?_
    refine HFI.out.mono ?_
    rintro e w' ⟨rfl, rfl⟩
    dsimp only [findI]
    go_wp2
    go_ret
    exact HF.out
  | some k =>
    have hfa : dFind s.abs.now nm.data.toList = some k := by rw [← hfd, hno]; rfl
    have hix := hm1.rn.nnow _ (dFind_mem hfd)
    dsimp only at hix
    rw [hfd] at HFI
    have hk0 : (0 : Int) ≤ (k : Int) := by omega
    obtain ⟨f, hf⟩ : ∃ f, s1.files[k]? = some f := ⟨_, List.getElem?_eq_getElem hix⟩
    have hX : X = if s.room < (rsizeS s : Int) + (bs.length : Int) then (6, s.abs.met m) else (0, { s.abs.met m with files := updAt s.abs.files k fun f => (f.1 ++ bs, f.2) }) := by
      rw [HX.out]
      unfold pAppend
      rw [if_neg (by omega), hfa, psize_abs]
      rfl
    have HX2 := hide hX
    have hr1 : Bytes w1 w1.heap.size A bs := (HD1.out.kept.bytes HAR.out.1 (Nat.le_refl _) HAR.out.2).more HD1.out.kept.size
    have hrz : rsizeS s1 = rsizeS s := by rw [hs1]; rfl
    have hrm : s1.room = s.room := by rw [hs1]; rfl
    have hd1 : Rm r s1 w1.drew := hm1.call (Below.refl _ _).drew
    obtain ⟨z, hz⟩ : ∃ z : Int, z = (rsizeS s : Int) := ⟨_, rfl⟩
    obtain ⟨room, hrm2⟩ : ∃ room : Int, room = s.room := ⟨_, rfl⟩
    have hSI := rsize_any r s1 w1.drew hd1 (by rw [hrz]; exact HSZ.out) (by rw [hno]; have := HSM.out.now; omega)
    rw [hrz, ← hz] at hSI
    rw [← hz, ← hrm2] at HX2
    have HSI := hide hSI
    have c0 := hm1.box.cell 0
    simp at c0
    rw [hrm, ← hrm2] at c0
    have S1 : w1.drew.cell? ⟨r, 0, none⟩ = some (.int .i64 room) := c0
    have HK := hide (show ∀ W, Below w1.heap.size w1 W → W.cell? ⟨r, 0, none⟩ = some (.int .i64 room) from fun W hW => (hW.cell (p := ⟨r, 0, none⟩) hm1.box.lt).trans c0)
    have hsub : IntKind.i64.wrap (room - z) = room - z := IntWalk.i64_in _ (by have := HRM.out; have := HSZ.out; omega)
    have HRR := hide (show 0 ≤ room ∧ room ≤ 16777216 from by rw [hrm2]; exact HRM.out)
    have HR1 := hide hr1
    have HF := hide hf
    have HIX := hide hix
    have hFL := hide (show f.bs.length ≤ 1000000000 from HSM.out.bytes f (by have h := List.mem_of_getElem? hf; rw [hfi] at h; exact h))
    have hBd : Below w1.heap.size w1 w1.drew := (Below.refl _ _).drew
    have HNF := hide (show s1.abs = s.abs.met m from by rw [hs1]; rfl)
    clear hX hfd hs1 hm1 hno hfi hke hFI HX hfa hf hix hr1 hrz hrm hd1 hz hrm2 hSI
    by_cases hfull : room < z + (bs.length : Int)
    · have hlt : room - z < (bs.length : Int) := by omega
      have hX : X = (6, s.abs.met m) := by rw [HX2.out, if_pos hfull]
      have HXE := hide hX
      clear hfull hX
      rw [h0]
      go_wp2_with (go_at_call 53; refine halted ?_)
      refine go_on ?_
      refine HFI.out.mono ?_
      rintro e w' ⟨rfl, rfl⟩
      dsimp only [findI]
      go_wp2
      go_region_held3 (fun W => W.cell? ⟨r, 0, none⟩ = some (.int .i64 room))
        (with_reducible assumption)
        ((go_at_call 38; (with_reducible refine HSI.out.mono ?_); rintro e w2 ⟨rfl, hb2⟩; have hB2 := hBd.trans (hb2.mono hBd.size); have S2 := HK.out _ hB2))
      all_goals
        have HFN := hide (show RopR r s w X (.returned (.int .i64 6)) w2 from ⟨by rw [HXE.out], _, HD1.out.after hB2, by rw [HXE.out, HNF.out]⟩)
        clear S1 S2 c0 c2 hB2 hb2 hBd
        go_wp2
        go_ret
        exact HFN.out
    · have hge : (bs.length : Int) ≤ room - z := by omega
      have hX : X = (0, { s.abs.met m with files := updAt s.abs.files k fun f => (f.1 ++ bs, f.2) }) := by rw [HX2.out, if_neg hfull]
      have HXE := hide hX
      clear hfull hX
      rw [h0]
      go_wp2_with (go_at_call 53; refine halted ?_)
      refine go_on ?_
      refine HFI.out.mono ?_
      rintro e w' ⟨rfl, rfl⟩
      dsimp only [findI]
      go_wp2
      go_region_held3 (fun W => W.cell? ⟨r, 0, none⟩ = some (.int .i64 room))
        (with_reducible assumption)
        ((go_at_call 38; (with_reducible refine HSI.out.mono ?_); rintro e w2 ⟨rfl, hb2⟩; have hB2 := hBd.trans (hb2.mono hBd.size); have S2 := HK.out _ hB2))
      have hm2 := HM1.out.call hB2
      have hd2 : RDid r s w s1 w2 := HD1.out.after hB2
      have hr2 : Bytes w2 w2.heap.size A bs := (HR1.out.below hB2).more hB2.size
      obtain ⟨g, hg⟩ := one_of hm2.rn.rfiles (by have := HIX.out; omega)
      have HBF := hide (show ∀ W, Below w2.heap.size w2 W → W.cell? ⟨r, 1, none⟩ = some (.slice (some ⟨g, 0, none⟩) s1.files.length s1.cF) ∧ W.cell? ⟨g, k * 2, none⟩ = some (.slice f.A f.bs.length f.c) ∧ W.frozen? ⟨g, k * 2, none⟩ = false from fun W hW => by
        have hmW := hm2.call hW
        have hof : W.ownsRow 0 85 2 (.slice (some ⟨g, 0, none⟩) s1.files.length s1.cF) s1.files.length (fiCells s1.files) := hg ▸ hmW.rn.rfiles
        have c1 := hmW.box.cell 1
        simp at c1
        rw [hg] at c1
        refine ⟨c1, ?_, World.ownsRow.frozenAt hof _⟩
        rw [World.ownsRow.cellAt hof (k * 2) (by have := HIX.out; omega)]
        exact (fiCells_at HF.out).1)
      obtain ⟨wa, hwa⟩ : ∃ wa, wa = w2.drew.alloc (.cells #[] 5) := ⟨_, rfl⟩
      have hba : Below w2.heap.size w2 wa := by rw [hwa]; exact (Below.refl _ _).drew.alloc (Nat.le_refl _) _
      have hla : OwnB wa w2.heap.size 5 (some ⟨w2.heap.size, 0, none⟩) 0 [] := by rw [hwa]; exact OwnB.lit w2.drew 5 [] (Nat.le_refl _) (by unfold maxLen; simp)
      have hfm : f ∈ s1.files := List.mem_of_getElem? HF.out
      have hfra : Bytes wa wa.heap.size f.A f.bs := ((hm2.call hba).rn.fb f hfm).bytes
      have hsa : w2.heap.size ≤ wa.heap.size := hba.size
      obtain ⟨p1, p2, p3⟩ := HBF.out w2 (Below.refl _ _)
      obtain ⟨q1, q2, q3⟩ := HBF.out w2.drew ((Below.refl _ _).drew)
      obtain ⟨o1, o2, o3⟩ := HBF.out wa hba
      rw [hwa] at o1 o2 o3 hla hfra hsa
      have HLA := hide hla
      have HFRA := hide hfra
      have HM2 := hide hm2
      have HD2 := hide hd2
      have HR2 := hide hr2
      have HBA := hide hba
      have HWA := hide hwa
      have HSA := hide hsa
      have hglt : g < w2.heap.size := lt_of_cell p2
      have hrlt : r < w2.heap.size := hm2.box.lt
      have hix' : (k : Int) < (s1.files.length : Int) := by have := HIX.out; omega
      have HG := hide hg
      have HFM := hide hfm
      have hfl2 := hFL.out
      clear hm2 hd2 hr2 hwa hba hla hfra hsa S1 S2 c0 c2 hb2 hB2 hBd hg hfm HK HSI hsub
      go_wp2
      go_region_law
        (first
          | (refine step_append_bytes _ rfl (.tmp 39) (.tmp 47) 33 rfl w2.heap.size 5 Try.underlying33 info_u8 (some ⟨w2.heap.size, 0, none⟩) 0 0 [] rfl rfl HLA.out _ f.A f.bs.length f.c f.bs rfl rfl HFRA.out (by simp; omega) HSA.out ?_
             intro d5 A5 c5 w5 hd5 hdl5 hown5 hg5 hat5
             have hb5 : Below w2.heap.size w2 w5 := (HWA.out ▸ HBA.out : Below w2.heap.size w2 (w2.drew.alloc (.cells #[] 5))).grown hg5 HSA.out (fun q hq => by injection hq with hq; simp at hq; omega)
             obtain ⟨v1, v2, v3⟩ := HBF.out w5 hb5)
          | (refine step_append_bytes _ rfl (.tmp 48) (.tmp 49) 33 rfl w2.heap.size 5 Try.underlying33 info_u8 A5 d5.length c5 d5 rfl rfl hown5 w2.heap.size A bs.length c bs rfl rfl (HR2.out.below hb5) (by have := hd5.out; simp at this; rw [this]; omega) hb5.size ?_
             intro d6 A6 c6 w6 hd6 hdl6 hown6 hg6 hat6
             have hb6 : Below w2.heap.size w2 w6 := OwnB.below_grown hown5 hb5 hg6 (Nat.le_refl _) hb5.size
             obtain ⟨u1, u2, u3⟩ := HBF.out w6 hb6))
      all_goals
        have e6 : d6 = f.bs ++ bs := by rw [hd6.out, hd5.out, List.nil_append]
        subst e6
        have hm6 := HM2.out.call hb6
        have hst := World.ownsRow.stored (HG.out ▸ hm6.rn.rfiles) (k * 2) (.slice A6 (f.bs ++ bs).length c6)
        rw [fiCells_setB HF.out] at hst
        have hkg : Kept (InRow s1.AF) w6 (w6.setCell ⟨g, k * 2, none⟩ (.slice A6 (f.bs ++ bs).length c6)) := Kept.of_grown hst.2 (fun i hi => by
          injection hi with hi
          unfold InRow
          rw [HG.out]
          simp
          exact hi)
        have hls : (s1.files.set k ⟨A6, c6, f.bs ++ bs, f.sure⟩).length = s1.files.length := List.length_set ..
        have hst2 : (w6.setCell ⟨g, k * 2, none⟩ (.slice A6 (f.bs ++ bs).length c6)).ownsRow 0 85 2 (.slice s1.AF (s1.files.set k ⟨A6, c6, f.bs ++ bs, f.sure⟩).length s1.cF) (s1.files.set k ⟨A6, c6, f.bs ++ bs, f.sure⟩).length (fiCells (s1.files.set k ⟨A6, c6, f.bs ++ bs, f.sure⟩)) := by
          rw [hls, HG.out]
          exact hst.1
        have hrn := hm6.rn.refiles hkg hst2 (by rw [hls]; exact Nat.le_refl _) (fun f2 hf2 => by
          rcases List.mem_or_eq_of_mem_set hf2 with h | h
          · exact hm6.rn.fkept hkg f2 h
          · rw [h]
            exact hkg.own (hown6.more (Nat.zero_le _)) (fun j hj hs => (Kb.of_row hown6 hj).ne (Kb.of_row hm6.rn.rfiles hs) (by decide) rfl)) (fun f2 hf2 => by
          rcases List.mem_or_eq_of_mem_set hf2 with h | h
          · exact hm6.rn.fsure f2 h
          · rw [h]
            have := hm6.rn.fsure f HFM.out
            show f.sure ≤ (f.bs ++ bs).length
            rw [List.length_append]
            omega)
        have hnr : ¬ InRow s1.AF r := fun h => (Kb.of_row hm6.rn.rfiles h).ne hm6.box.kb (by decide) rfl
        have hbx : RsB r { s1 with AF := s1.AF, cF := s1.cF, files := s1.files.set k ⟨A6, c6, f.bs ++ bs, f.sure⟩ } (w6.setCell ⟨g, k * 2, none⟩ (.slice A6 (f.bs ++ bs).length c6)) := by
          have h := (hkg.block r hm6.box.lt hnr).trans hm6.box
          unfold RsB RS.cells at h ⊢
          rw [hls]
          exact h
        have hfin : RopR r s w X (.returned (.int .i64 0)) (w6.setCell ⟨g, k * 2, none⟩ (.slice A6 (f.bs ++ bs).length c6)) := by
          refine ⟨by rw [HXE.out], _, HD2.out.trans ⟨⟨hbx, hrn⟩, (Kept.of_below hb6).trans (hkg.wider fun k _ e => .inr (.inl e)), fun k2 hk => ?_⟩, ?_⟩
          · rcases hk with h | h | h | h | h | h | ⟨f2, hf2, h⟩
            · exact .inl (.inl h)
            · exact .inl (.inr (.inl h))
            · exact .inl (.inr (.inr (.inl h)))
            · exact .inl (.inr (.inr (.inr (.inl h))))
            · exact .inl (.inr (.inr (.inr (.inr (.inl h)))))
            · exact .inl (.inr (.inr (.inr (.inr (.inr (.inl h))))))
            · rcases List.mem_or_eq_of_mem_set hf2 with h2 | h2
              · exact .inl (.inr (.inr (.inr (.inr (.inr (.inr ⟨f2, h2, h⟩))))))
              · rw [h2] at h
                exact .inr (hown6.le k2 h)
          · rw [HXE.out]
            have e2 : s.abs.files = s1.abs.files := by rw [HNF.out]; rfl
            rw [← HNF.out, e2]
            have e3 : s1.abs.files[k]? = some (f.bs, f.sure) := by
              show (s1.files.map _)[k]? = _
              rw [List.getElem?_map, HF.out]
              rfl
            unfold updAt
            rw [e3]
            show (⟨_, (s1.files.set k ⟨A6, c6, f.bs ++ bs, f.sure⟩).map (fun f => (f.bs, f.sure)), _, _, _, _, _⟩ : PS) = _
            rw [List.map_set]
            rfl
        have HFI2 := hide hfin
        clear hd6 hd5 hm6 hst hkg hls hst2 hrn hnr hbx hfin hown5 hown6 hg5 hg6 hat5 hat6 hb5 hb6 u1 u2 u3 v1 v2 v3 p1 p2 p3 q1 q2 q3 o1 o2 o3 hdl5 hdl6
        go_wp2
        go_ret
        exact HFI2.out
end Go.Proofs.Ytpakihbejdpmoaa
