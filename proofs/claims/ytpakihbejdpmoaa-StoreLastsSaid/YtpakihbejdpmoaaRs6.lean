/-
  The reference's Create, Remove, Rename, SyncDir, Sync.
-/
import Derived.Test.YtpakihbejdpmoaaRsA
namespace Go.Proofs.Ytpakihbejdpmoaa
open Go.RowKit
set_option linter.unusedVariables false

/-- A store of the reference in plain words. -/
structure PS where
  room : Int
  files : List (List UInt8 × Nat)
  now : Dir
  disk : Dir
  kept : List Rk
  plan : List UInt8
  off : Bool
def RS.abs (s : RS) : PS := ⟨s.room, s.files.map (fun f => (f.bs, f.sure)), s.now, s.disk, s.kept, s.plan, s.off⟩
def PS.met (p : PS) (m : Int × List UInt8 × Bool) : PS := { p with plan := m.2.1, off := m.2.2 }
def PS.chg (p : PS) (c : Rk) : PS := { p with now := madeD p.now c, kept := p.kept ++ [c] }
def updAt (l : List (List UInt8 × Nat)) (k : Nat) (g : List UInt8 × Nat → List UInt8 × Nat) : List (List UInt8 × Nat) := match l[k]? with
  | some f => l.set k (g f)
  | none => l
theorem met_abs (s : RS) (AP : Option Addr) (cP : Nat) (m : Int × List UInt8 × Bool) : (s.met AP cP m).abs = s.abs.met m := rfl
theorem chg_abs (s : RS) (AN : Option Addr) (cN : Nat) (AK : Option Addr) (cK : Nat) (c : Rk) : (s.chg AN cN AK cK c).abs = s.abs.chg c := rfl
def pCreate (p : PS) (nm : ByteArray) (m : Int × List UInt8 × Bool) : Int × PS :=
  if m.1 ≠ 0 then (m.1, p.met m) else if (dFind p.now nm.data.toList).isSome = true then (5, p.met m) else (0, ({ p.met m with files := p.files ++ [([], 0)] } : PS).chg ⟨0, nm.data.toList, [], p.files.length⟩)
def pSync (p : PS) (nm : ByteArray) (m : Int × List UInt8 × Bool) : Int × PS :=
  if m.1 ≠ 0 then (m.1, p.met m) else match dFind p.now nm.data.toList with
    | none => (4, p.met m)
    | some k => (0, { p.met m with files := updAt p.files k fun f => (f.1, f.1.length) })
def pRename (p : PS) (fr to : ByteArray) (m : Int × List UInt8 × Bool) : Int × PS :=
  if m.1 ≠ 0 then (m.1, p.met m) else match dFind p.now fr.data.toList with
    | none => (4, p.met m)
    | some k => (0, if fr = to then p.met m else (p.met m).chg ⟨1, fr.data.toList, to.data.toList, k⟩)
def pRemove (p : PS) (nm : ByteArray) (m : Int × List UInt8 × Bool) : Int × PS :=
  if m.1 ≠ 0 then (m.1, p.met m) else match dFind p.now nm.data.toList with
    | none => (4, p.met m)
    | some k => (0, (p.met m).chg ⟨2, nm.data.toList, [], 0⟩)
def pSyncDir (p : PS) (m : Int × List UInt8 × Bool) : Int × PS :=
  if m.1 ≠ 0 then (m.1, p.met m) else (0, { p.met m with disk := p.now, kept := [] })
/-- What an operation answers and leaves. -/
def RopR (r : Nat) (s : RS) (w : World) (x : Int × PS) (e : Ending) (w' : World) : Prop := e = .returned (.int .i64 x.1) ∧ ∃ s', RDid r s w s' w' ∧ s'.abs = x.2
structure RS.small (s : RS) : Prop where
  now : s.now.length ≤ 1000000
  disk : s.disk.length ≤ 1000000
  kept : s.kept.length ≤ 1000000
  files : s.files.length ≤ 1000000
  plan : s.plan.length ≤ 1000000000
  bytes : ∀ f ∈ s.files, f.bs.length ≤ 1000000000
theorem info_fi : (Try.prog.info? 85).map (fun i => (i.zero, i.size, i.bytes)) = some (some (.agg #[.slice none 0 0, .int .i64 0]), 2, 32) := by kernel_rfl

set_option maxRecDepth 100000 in
set_option maxHeartbeats 4000000 in
theorem rcreate_any (r : Nat) (s : RS) (w : World) (hs : Rm r s w) (nm : ByteArray) (hnm : nm.size ≤ maxLen) (hsm : s.small) :
    Calls Try.prog 25 #[.pointer (some ⟨r, 0, none⟩), .string nm] w (RopR r s w (pCreate s.abs nm (meetE (isNm nm) s.off s.plan))) := by
  have hmy := may_any r s w hs nm nm hnm hnm (by have := hsm.plan; omega)
  rw [Bool.and_self] at hmy
  have HMY := hide hmy
  obtain ⟨m, HM⟩ : ∃ m, Hid (m = meetE (isNm nm) s.off s.plan) := ⟨_, rfl⟩
  rw [← HM.out] at HMY ⊢
  obtain ⟨X, HX⟩ : ∃ X, Hid (X = pCreate s.abs nm m) := ⟨_, rfl⟩
  rw [← HX.out]
  have HSM := hide hsm
  clear hs hnm hmy hsm
  obtain ⟨i0, hi, hz0, hz1, hz2⟩ := info_parts info_fi
  go_enter Try.func25, Try.ntmps25
  go_wp2_with (go_at_call 52; refine halted ?_)
  refine go_on ?_
  refine HMY.out.mono ?_
  clear HMY
  rintro e w1 ⟨rfl, AP, cP, hd1⟩
  have HD1 := hide hd1
  clear hd1
  by_cases h0 : m.1 = 0
  case neg =>
    have hX : X = (m.1, s.abs.met m) := by rw [HX.out]; unfold pCreate; rw [if_pos h0]
    have HF := hide (show RopR r s w X (.returned (.int .i64 m.1)) w1 from ⟨by rw [hX], _, HD1.out, by rw [hX]; rfl⟩)
    have hne : (m.1 != 0) = true := by rw [bne_iff_ne]; exact h0
    clear hX h0
    go_wp2
    go_ret
    exact HF.out
  obtain ⟨s1, hs1⟩ : ∃ s1, s1 = s.met AP cP m := ⟨_, rfl⟩
  rw [← hs1] at HD1
  have hm1 := HD1.out.sm
  have hno : s1.now = s.now := by rw [hs1]; rfl
  have hfi : s1.files = s.files := by rw [hs1]; rfl
  have hke : s1.kept = s.kept := by rw [hs1]; rfl
  have hFI := find_any s1.AN w1.heap.size s1.now.length s1.cN s1.now w1 rfl (Row.of_own hm1.rn.rnow) (by rw [hno]; have := HSM.out.now; omega) nm
  have c2 := hm1.box.cell 2
  simp at c2
  have HFI := hide hFI
  have HS1 := hide hs1
  have HM1 := hide hm1
  cases hfd : dFind s1.now nm.data.toList with
  | some k =>
    have hX : X = (5, s.abs.met m) := by rw [HX.out]; unfold pCreate; rw [if_neg (by omega), if_pos (by show (dFind s.now nm.data.toList).isSome = true; rw [← hno, hfd]; rfl)]
    have HF := hide (show RopR r s w X (.returned (.int .i64 5)) w1 from ⟨by rw [hX], _, HD1.out, by rw [hX, HS1.out]; rfl⟩)
    rw [hfd] at HFI
    have hk0 : (0 : Int) ≤ (k : Int) := by omega
    clear hX hfd hs1 hm1 hno hfi hke hFI
    rw [h0]
    go_wp2_with (go_at_call 53; refine halted ?_)
    refine go_on ?_
    refine HFI.out.mono ?_
    rintro e w' ⟨rfl, rfl⟩
    dsimp only [findI]
    go_wp2
    go_ret
    exact HF.out
  | none =>
    have hX : X = (0, ({ s.abs.met m with files := s.abs.files ++ [([], 0)] } : PS).chg ⟨0, nm.data.toList, [], s.files.length⟩) := by
      rw [HX.out]
      unfold pCreate
      rw [if_neg (by omega), if_neg (by show ¬ (dFind s.now nm.data.toList).isSome = true; rw [← hno, hfd]; simp)]
      show ((0 : Int), _) = _
      congr 3
      show (s.files.map _).length = _
      rw [List.length_map]
    have HX2 := hide hX
    rw [hfd] at HFI
    have c1 := hm1.box.cell 1
    simp at c1
    have hfl : s1.files.length ≤ 1000000 := by rw [hfi]; exact HSM.out.files
    have hnl : s1.now.length ≤ 1000000 := by rw [hno]; exact HSM.out.now
    have hkl : s1.kept.length ≤ 1000000 := by rw [hke]; exact HSM.out.kept
    have hfl' : (s1.files.length : Int) ≤ 1000000 := by omega
    have HFL := hide (show s.files.length = s1.files.length from by rw [hfi])
    clear hX hfd hs1 hm1 hno hfi hke hFI HX
    rw [h0]
    go_wp2_with (go_at_call 53; refine halted ?_)
    refine go_on ?_
    refine HFI.out.mono ?_
    rintro e w' ⟨rfl, rfl⟩
    dsimp only [findI]
    go_wp2_with (at_builtin; refine halted ?_)
    refine go_on ?_
    refine wpList_append_own _ rfl (.tmp 24) (.tmp 26) 59 rfl 0 85 i0 _ 2 32 Try.underlying59 hi hz0 hz1 hz2 rfl (by decide) s1.AF s1.files.length s1.cF (fiCells s1.files) rfl (World.ownsRow.alloc HM1.out.rn.rfiles _) _ _ 1 _ [.slice none 0 0, .int .i64 0] rfl rfl (Row.new w1 #[.slice none 0 0, .int .i64 0] 85 (0, 0)) (by intro u hu; simp at hu; rcases hu with rfl | rfl <;> rfl) (by unfold maxLen; omega) (by omega) (Nat.zero_le _) ?_
    intro n3 xs3 A3 c3 w3 hn3 hxs3 _ _ hown3 hg3 hat3
    obtain rfl : n3 = s1.files.length + 1 := hn3.out
    have hk3 : Kept (InRow s1.AF) w1 w3 := ((Kept.refl _).alloc _).trans (Kept.of_grown hg3 (fun j e => e))
    have ex : xs3 = fiCells (s1.files ++ [⟨none, 0, [], 0⟩]) := by rw [hxs3.out, fiCells_append]; rfl
    have hlen3 : (s1.files ++ [(⟨none, 0, [], 0⟩ : Rf)]).length = s1.files.length + 1 := by simp
    rw [ex, ← hlen3] at hown3
    have hnr : ¬ InRow s1.AF r := fun h => (Kb.of_row HM1.out.rn.rfiles h).ne HM1.out.box.kb (by decide) rfl
    have hbx3 : RsB r s1 w3 := (hk3.block r HM1.out.box.lt hnr).trans HM1.out.box
    have hrn3 := HM1.out.rn.refiles hk3 hown3 (by simp) (fun f hf => by
      rcases List.mem_append.1 hf with h | h
      · exact HM1.out.rn.fkept hk3 f h
      · rw [List.mem_singleton.1 h]; exact OwnB.nil _ _ _) (fun f hf => by
      rcases List.mem_append.1 hf with h | h
      · exact HM1.out.rn.fsure f h
      · rw [List.mem_singleton.1 h]; exact Nat.le_refl _)
    obtain ⟨w4, hw4⟩ : ∃ w4, w4 = w3.setCell ⟨r, 1, none⟩ (.slice A3 (s1.files.length + 1) c3) := ⟨_, rfl⟩
    have hk4 : Kept (fun k => k = r) w3 w4 := by rw [hw4]; exact keptR w3 r 1 _
    have hm4 : Rm r { s1 with AF := A3, cF := c3, files := s1.files ++ [⟨none, 0, [], 0⟩] } w4 := Rm.mk_set hrn3 hbx3.kb hk4 (by rw [hw4]; exact hbx3.set 1 _ (by rw [← hlen3]; rfl))
    have hd4 : RDid r s1 w1 { s1 with AF := A3, cF := c3, files := s1.files ++ [⟨none, 0, [], 0⟩] } w4 := by
      refine ⟨hm4, (hk3.wider fun k _ e => .inr (.inl e)).trans (hk4.wider fun k _ e => .inl e), fun k hk => ?_⟩
      rcases hk with h | h | h | h | h | h | ⟨f, hf, h⟩
      · exact .inl (.inl h)
      · have h : A3.map (·.block) = some k := h
        rcases hat3 with h7 | h7
        · rw [h] at h7
          exact .inl (.inr (.inl h7.symm))
        · rw [h] at h7
          injection h7 with h7
          right
          rw [h7]
          simp
      · exact .inl (.inr (.inr (.inl h)))
      · exact .inl (.inr (.inr (.inr (.inl h))))
      · exact .inl (.inr (.inr (.inr (.inr (.inl h)))))
      · exact .inl (.inr (.inr (.inr (.inr (.inr (.inl h))))))
      · rcases List.mem_append.1 hf with h2 | h2
        · exact .inl (.inr (.inr (.inr (.inr (.inr (.inr ⟨f, h2, h⟩))))))
        · rw [List.mem_singleton.1 h2] at h
          unfold InRow at h
          simp at h
    have k1 : w3.cell? ⟨r, 1, none⟩ = some (.slice s1.AF s1.files.length s1.cF) := hbx3.cell 1
    have f1 : w3.frozen? ⟨r, 1, none⟩ = false := hbx3.free 1
    have j1 := hm4.box.cell 1
    simp at j1
    have hcg := rchange_any r _ w4 hm4 ⟨0, nm.data.toList, [], s1.files.length⟩ (fun _ => by simp) 0 nm ⟨#[]⟩ (s1.files.length : Int) rfl rfl rfl rfl hnl hkl
    have HCG := hide hcg
    have HD4 := hide (HD1.out.trans hd4)
    have hsub : IntKind.i64.wrap ((s1.files.length : Int) + 1 - 1) = (s1.files.length : Int) := by rw [Int.add_sub_cancel]; exact IntWalk.i64_in _ (by omega)
    have HW4 := hide hw4
    clear hn3 hxs3 hown3 hg3 hat3 ex hlen3 hnr hbx3 hrn3 hk3 hk4 hm4 hd4 hcg hw4 c1 c2
    go_wp2_with (go_at_call 54; refine halted ?_)
    refine go_on ?_
    rw [← HW4.out]
    refine HCG.out.mono ?_
    rintro e w5 ⟨rfl, AN, cN, AK, cK, hd5⟩
    have HF := hide (show RopR r s w X (.returned (.int .i64 0)) w5 from ⟨by rw [HX2.out], _, HD4.out.trans hd5, by
      rw [HX2.out, chg_abs, ← HFL.out, HS1.out]
      dsimp only
      congr 1
      unfold RS.abs RS.met PS.met
      simp⟩)
    clear hd5 k1 f1 j1
    go_wp2
    go_ret
    exact HF.out

theorem isNm_a : isNm ⟨#[97]⟩ = true := by decide
theorem one_of {ad : Option Addr} {w : World} {base n c : Nat} {e : TypeId} {size : Nat} {xs : List Value} (h : w.ownsRow base e size (.slice ad n c) n xs) (hn : 0 < n) : ∃ g, ad = some ⟨g, 0, none⟩ := by
  rcases h.2 with ⟨_, h0⟩ | ⟨g, cap, cur, hv, hb, hg, _⟩
  · omega
  · injection hv with hA
    exact ⟨g, hA⟩

set_option maxRecDepth 100000 in
set_option maxHeartbeats 4000000 in
theorem rremove_any (r : Nat) (s : RS) (w : World) (hs : Rm r s w) (nm : ByteArray) (hnm : nm.size ≤ maxLen) (hsm : s.small) :
    Calls Try.prog 30 #[.pointer (some ⟨r, 0, none⟩), .string nm] w (RopR r s w (pRemove s.abs nm (meetE (isNm nm) s.off s.plan))) := by
  have hmy := may_any r s w hs nm nm hnm hnm (by have := hsm.plan; omega)
  rw [Bool.and_self] at hmy
  have HMY := hide hmy
  obtain ⟨m, HM⟩ : ∃ m, Hid (m = meetE (isNm nm) s.off s.plan) := ⟨_, rfl⟩
  rw [← HM.out] at HMY ⊢
  obtain ⟨X, HX⟩ : ∃ X, Hid (X = pRemove s.abs nm m) := ⟨_, rfl⟩
  rw [← HX.out]
  have HSM := hide hsm
  clear hs hnm hmy hsm
  go_enter Try.func30, Try.ntmps30
  go_wp2_with (go_at_call 52; refine halted ?_)
  refine go_on ?_
  refine HMY.out.mono ?_
  clear HMY
  rintro e w1 ⟨rfl, AP, cP, hd1⟩
  have HD1 := hide hd1
  clear hd1
  by_cases h0 : m.1 = 0
  case neg =>
    have hX : X = (m.1, s.abs.met m) := by rw [HX.out]; unfold pRemove; rw [if_pos h0]
    have HF := hide (show RopR r s w X (.returned (.int .i64 m.1)) w1 from ⟨by rw [hX], _, HD1.out, by rw [hX]; rfl⟩)
    have hne : (m.1 != 0) = true := by rw [bne_iff_ne]; exact h0
    clear hX h0
    go_wp2
    go_ret
    exact HF.out
  obtain ⟨s1, hs1⟩ : ∃ s1, s1 = s.met AP cP m := ⟨_, rfl⟩
  rw [← hs1] at HD1
  have hm1 := HD1.out.sm
  have HS1 := hide hs1
  have HM1 := hide hm1
  have hno : s1.now = s.now := by rw [hs1]; rfl
  have hfi : s1.files = s.files := by rw [hs1]; rfl
  have hke : s1.kept = s.kept := by rw [hs1]; rfl
  have hFI := find_any s1.AN w1.heap.size s1.now.length s1.cN s1.now w1 rfl (Row.of_own hm1.rn.rnow) (by rw [hno]; have := HSM.out.now; omega) nm
  have c2 := hm1.box.cell 2
  simp at c2
  have HFI := hide hFI
  cases hfd : dFind s1.now nm.data.toList with
  | none =>
    have hX : X = (4, s.abs.met m) := by
      rw [HX.out]
      unfold pRemove
      rw [if_neg (by omega)]
      have : dFind s.abs.now nm.data.toList = none := by rw [← hfd, hno]; rfl
      rw [this]
    have HF := hide (show RopR r s w X (.returned (.int .i64 4)) w1 from ⟨by rw [hX], _, HD1.out, by rw [hX, HS1.out]; rfl⟩)
    rw [hfd] at HFI
    clear hX hfd hs1 hm1 hno hfi hke hFI
    rw [h0]
    go_wp2_with (go_at_call 53; refine halted ?_)
    refine go_on ?_
    refine HFI.out.mono ?_
    rintro e w' ⟨rfl, rfl⟩
    dsimp only [findI]
    go_wp2
    go_ret
    exact HF.out
  | some k =>
    have hfa : dFind s.abs.now nm.data.toList = some k := by rw [← hfd, hno]; rfl
    have hix := hm1.rn.nnow _ (dFind_mem hfd)
    dsimp only at hix
    rw [hfd] at HFI
    have hk0 : (0 : Int) ≤ (k : Int) := by omega
    have hX : X = (0, (s.abs.met m).chg ⟨2, nm.data.toList, [], 0⟩) := by
      rw [HX.out]
      unfold pRemove
      rw [if_neg (by omega), hfa]
    have HX2 := hide hX
    have hnl : s1.now.length ≤ 1000000 := by rw [hno]; exact HSM.out.now
    have hkl : s1.kept.length ≤ 1000000 := by rw [hke]; exact HSM.out.kept
    have HCG := hide (rchange_any r _ w1 hm1 ⟨2, nm.data.toList, [], 0⟩ (fun h => by rcases h with h | h <;> cases h) 2 nm ⟨#[]⟩ 0 rfl rfl rfl rfl hnl hkl)
    clear hX hfd hs1 hm1 hno hfi hke hFI HX hfa hix
    rw [h0]
    go_wp2_with (go_at_call 53; refine halted ?_)
    refine go_on ?_
    refine HFI.out.mono ?_
    rintro e w' ⟨rfl, rfl⟩
    dsimp only [findI]
    go_wp2_with (go_at_call 54; refine halted ?_)
    refine go_on ?_
    refine HCG.out.mono ?_
    rintro e w5 ⟨rfl, AN, cN, AK, cK, hd5⟩
    have HF := hide (show RopR r s w X (.returned (.int .i64 0)) w5 from ⟨by rw [HX2.out], _, HD1.out.trans hd5, by rw [HX2.out, chg_abs, HS1.out]; rfl⟩)
    clear hd5 c2
    go_wp2
    go_ret
    exact HF.out

set_option maxRecDepth 100000 in
set_option maxHeartbeats 4000000 in
theorem rrename_any (r : Nat) (s : RS) (w : World) (hs : Rm r s w) (fr to : ByteArray) (hnm : fr.size ≤ maxLen) (hnt : to.size ≤ maxLen) (hsm : s.small) :
    Calls Try.prog 28 #[.pointer (some ⟨r, 0, none⟩), .string fr, .string to] w (RopR r s w (pRename s.abs fr to (meetE (isNm fr && isNm to) s.off s.plan))) := by
  have hmy := may_any r s w hs fr to hnm hnt (by have := hsm.plan; omega)
  have HMY := hide hmy
  obtain ⟨m, HM⟩ : ∃ m, Hid (m = meetE (isNm fr && isNm to) s.off s.plan) := ⟨_, rfl⟩
  rw [← HM.out] at HMY ⊢
  obtain ⟨X, HX⟩ : ∃ X, Hid (X = pRename s.abs fr to m) := ⟨_, rfl⟩
  rw [← HX.out]
  have HSM := hide hsm
  clear hs hnm hnt hmy hsm
  go_enter Try.func28, Try.ntmps28
  go_wp2_with (go_at_call 52; refine halted ?_)
  refine go_on ?_
  refine HMY.out.mono ?_
  clear HMY
  rintro e w1 ⟨rfl, AP, cP, hd1⟩
  have HD1 := hide hd1
  clear hd1
  by_cases h0 : m.1 = 0
  case neg =>
    have hX : X = (m.1, s.abs.met m) := by rw [HX.out]; unfold pRename; rw [if_pos h0]
    have HF := hide (show RopR r s w X (.returned (.int .i64 m.1)) w1 from ⟨by rw [hX], _, HD1.out, by rw [hX]; rfl⟩)
    have hne : (m.1 != 0) = true := by rw [bne_iff_ne]; exact h0
    clear hX h0
    go_wp2
    go_ret
    exact HF.out
  obtain ⟨s1, hs1⟩ : ∃ s1, s1 = s.met AP cP m := ⟨_, rfl⟩
  rw [← hs1] at HD1
  have hm1 := HD1.out.sm
  have HS1 := hide hs1
  have HM1 := hide hm1
  have hno : s1.now = s.now := by rw [hs1]; rfl
  have hfi : s1.files = s.files := by rw [hs1]; rfl
  have hke : s1.kept = s.kept := by rw [hs1]; rfl
  have hFI := find_any s1.AN w1.heap.size s1.now.length s1.cN s1.now w1 rfl (Row.of_own hm1.rn.rnow) (by rw [hno]; have := HSM.out.now; omega) fr
  have c2 := hm1.box.cell 2
  simp at c2
  have HFI := hide hFI
  cases hfd : dFind s1.now fr.data.toList with
  | none =>
    have hX : X = (4, s.abs.met m) := by
      rw [HX.out]
      unfold pRename
      rw [if_neg (by omega)]
      have : dFind s.abs.now fr.data.toList = none := by rw [← hfd, hno]; rfl
      rw [this]
    have HF := hide (show RopR r s w X (.returned (.int .i64 4)) w1 from ⟨by rw [hX], _, HD1.out, by rw [hX, HS1.out]; rfl⟩)
    rw [hfd] at HFI
    clear hX hfd hs1 hm1 hno hfi hke hFI
    rw [h0]
    go_wp2_with (go_at_call 53; refine halted ?_)
    refine go_on ?_
    refine HFI.out.mono ?_
    rintro e w' ⟨rfl, rfl⟩
    dsimp only [findI]
    go_wp2
    go_ret
    exact HF.out
  | some k =>
    have hfa : dFind s.abs.now fr.data.toList = some k := by rw [← hfd, hno]; rfl
    have hix := hm1.rn.nnow _ (dFind_mem hfd)
    dsimp only at hix
    rw [hfd] at HFI
    have hk0 : (0 : Int) ≤ (k : Int) := by omega
    have hX : X = (0, if fr = to then s.abs.met m else (s.abs.met m).chg ⟨1, fr.data.toList, to.data.toList, k⟩) := by
      rw [HX.out]
      unfold pRename
      rw [if_neg (by omega), hfa]
    have HX2 := hide hX
    have hnl : s1.now.length ≤ 1000000 := by rw [hno]; exact HSM.out.now
    have hkl : s1.kept.length ≤ 1000000 := by rw [hke]; exact HSM.out.kept
    by_cases he : fr = to
    · have HF := hide (show RopR r s w X (.returned (.int .i64 0)) w1 from ⟨by rw [HX2.out], _, HD1.out, by rw [HX2.out, if_pos he, HS1.out]; rfl⟩)
      have e1 : (fr.toList == to.toList) = true := by rw [he]; simp
      clear hX hfd hs1 hm1 hno hfi hke hFI HX hfa hix he
      rw [h0]
      go_wp2_with (go_at_call 53; refine halted ?_)
      refine go_on ?_
      refine HFI.out.mono ?_
      rintro e w' ⟨rfl, rfl⟩
      dsimp only [findI]
      go_wp2
      go_ret
      exact HF.out
    · have e1 : (fr.toList == to.toList) = false := by
        rw [beq_eq_false_iff_ne, ByteArray.toList_eq, ByteArray.toList_eq]
        intro h
        exact he (ByteArray.ext (Array.toList_inj.1 h))
      have HNE := hide he
      have HCG := hide (rchange_any r _ w1 hm1 ⟨1, fr.data.toList, to.data.toList, k⟩ (fun _ => hix) 1 fr to (k : Int) rfl rfl rfl rfl hnl hkl)
      clear hX hfd hs1 hm1 hno hfi hke hFI HX hfa hix he
      rw [h0]
      go_wp2_with (go_at_call 53; refine halted ?_)
      refine go_on ?_
      refine HFI.out.mono ?_
      rintro e w' ⟨rfl, rfl⟩
      dsimp only [findI]
      go_wp2_with (go_at_call 54; refine halted ?_)
      refine go_on ?_
      refine HCG.out.mono ?_
      rintro e w5 ⟨rfl, AN, cN, AK, cK, hd5⟩
      have HF := hide (show RopR r s w X (.returned (.int .i64 0)) w5 from ⟨by rw [HX2.out], _, HD1.out.trans hd5, by rw [HX2.out, if_neg HNE.out, chg_abs, HS1.out]; rfl⟩)
      clear hd5 c2
      go_wp2
      go_ret
      exact HF.out

set_option maxRecDepth 100000 in
set_option maxHeartbeats 4000000 in
theorem rsyncDir_any (r : Nat) (s : RS) (w : World) (hs : Rm r s w)  (hsm : s.small) :
    Calls Try.prog 31 #[.pointer (some ⟨r, 0, none⟩)] w (RopR r s w (pSyncDir s.abs (meetE (true) s.off s.plan))) := by
  have hmy := may_any r s w hs ⟨#[97]⟩ ⟨#[97]⟩ (by unfold maxLen; decide) (by unfold maxLen; decide) (by have := hsm.plan; omega)
  rw [isNm_a, Bool.and_self] at hmy
  have HMY := hide hmy
  obtain ⟨m, HM⟩ : ∃ m, Hid (m = meetE (true) s.off s.plan) := ⟨_, rfl⟩
  rw [← HM.out] at HMY ⊢
  obtain ⟨X, HX⟩ : ∃ X, Hid (X = pSyncDir s.abs m) := ⟨_, rfl⟩
  rw [← HX.out]
  have HSM := hide hsm
  clear hs  hmy hsm
  obtain ⟨i0, hi, hz0, hz1, hz2⟩ := info_parts info_en
  go_enter Try.func31, Try.ntmps31
  go_wp2_with (go_at_call 52; refine halted ?_)
  refine go_on ?_
  refine HMY.out.mono ?_
  clear HMY
  rintro e w1 ⟨rfl, AP, cP, hd1⟩
  have HD1 := hide hd1
  clear hd1
  by_cases h0 : m.1 = 0
  case neg =>
    have hX : X = (m.1, s.abs.met m) := by rw [HX.out]; unfold pSyncDir; rw [if_pos h0]
    have HF := hide (show RopR r s w X (.returned (.int .i64 m.1)) w1 from ⟨by rw [hX], _, HD1.out, by rw [hX]; rfl⟩)
    have hne : (m.1 != 0) = true := by rw [bne_iff_ne]; exact h0
    clear hX h0
    go_wp2
    go_ret
    exact HF.out
  obtain ⟨s1, hs1⟩ : ∃ s1, s1 = s.met AP cP m := ⟨_, rfl⟩
  rw [← hs1] at HD1
  have hm1 := HD1.out.sm
  have HS1 := hide hs1
  have HM1 := hide hm1
  have hX : X = (0, { s.abs.met m with disk := s.abs.now, kept := [] }) := by
    rw [HX.out]
    unfold pSyncDir
    rw [if_neg (by omega)]
  have HX2 := hide hX
  have hno : s1.now = s.now := by rw [hs1]; rfl
  have hnl : s1.now.length ≤ 1000000 := by rw [hno]; exact HSM.out.now
  obtain ⟨w2, hw2⟩ : ∃ w2, w2 = w1.alloc (.cells #[] 92) := ⟨_, rfl⟩
  have hb2 : Below w1.heap.size w1 w2 := by rw [hw2]; exact below_new _ _
  have hl0 := World.ownsRow_lit (base := w1.heap.size) (e := 92) (size := 2) w1 #[] 0 (Nat.le_refl _) (by unfold maxLen; omega) (by simp)
  rw [← hw2] at hl0
  have hm2 := hm1.call hb2
  have c2 := hm2.box.cell 2
  simp at c2
  rw [hw2] at c2
  have HB2 := hide hb2
  have HL0 := hide hl0
  have HM2 := hide hm2
  have HRW := hide (Row.of_own hm2.rn.rnow)
  have HW2 := hide hw2
  clear hX hs1 hm1 hno HX hb2 hl0 hm2 hw2
  rw [h0]
  go_wp2_with (at_builtin; refine halted ?_)
  refine go_on ?_
  rw [← HW2.out]
  refine wpList_append_own _ rfl (.tmp 10) (.tmp 14) 60 rfl w1.heap.size 92 i0 _ 2 24 Try.underlying60 hi hz0 hz1 hz2 rfl (by decide) (some ⟨w1.heap.size, 0, none⟩) 0 0 [] rfl HL0.out _ s1.AN s1.now.length s1.cN (enCells s1.now) rfl (enCells_len _) HRW.out (enCells_one _) (by unfold maxLen; omega) (by omega) HB2.out.size ?_
  intro n3 xs3 A3 c3 w3 hn3 hxs3 _ _ hown3 hg3 _
  obtain rfl : n3 = s1.now.length := by rw [hn3.out]; omega
  obtain rfl : xs3 = enCells s1.now := hxs3.out
  have hb3 : Below w1.heap.size w1 w3 := HB2.out.grown hg3 HB2.out.size (fun q hq => by simp at hq; omega)
  have hm3 := HM1.out.call hb3
  have hn3 : Rn { s1 with AD := A3, cD := c3, disk := s1.now, AK := none, cK := 0, kept := [] } w3 := ⟨hm3.rn.rfiles, hm3.rn.rnow, own_more hown3 (Nat.zero_le _), World.ownsRow_nil _ _ _ _, hm3.rn.plan, hm3.rn.pcap, hm3.rn.planK, hm3.rn.fb, hm3.rn.fsure, hm3.rn.nnow, hm3.rn.nnow, fun c hc => by cases hc⟩
  have k3 : w3.cell? ⟨r, 3, none⟩ = some (.slice s1.AD s1.disk.length s1.cD) := hm3.box.cell 3
  have f3 : w3.frozen? ⟨r, 3, none⟩ = false := hm3.box.free 3
  have hb4 : RsB r { s1 with AD := A3, cD := c3, disk := s1.now } (w3.setCell ⟨r, 3, none⟩ (.slice A3 s1.now.length c3)) := hm3.box.set 3 _ rfl
  have k4 : (w3.setCell ⟨r, 3, none⟩ (.slice A3 s1.now.length c3)).cell? ⟨r, 4, none⟩ = some (.slice s1.AK s1.kept.length s1.cK) := hb4.cell 4
  have f4 : (w3.setCell ⟨r, 3, none⟩ (.slice A3 s1.now.length c3)).frozen? ⟨r, 4, none⟩ = false := hb4.free 4
  have hb5 : RsB r { s1 with AD := A3, cD := c3, disk := s1.now, AK := none, cK := 0, kept := [] } ((w3.setCell ⟨r, 3, none⟩ (.slice A3 s1.now.length c3)).setCell ⟨r, 4, none⟩ (.slice none 0 0)) := hb4.set 4 _ rfl
  have hk5 := (keptR w3 r 3 (.slice A3 s1.now.length c3)).trans (keptR _ r 4 (.slice none 0 0))
  have hfin : RopR r s w X (.returned (.int .i64 0)) ((w3.setCell ⟨r, 3, none⟩ (.slice A3 s1.now.length c3)).setCell ⟨r, 4, none⟩ (.slice none 0 0)) := by
    refine ⟨by rw [HX2.out], _, HD1.out.trans ⟨Rm.mk_set hn3 hm3.box.kb hk5 hb5, (Kept.of_below hb3).trans (hk5.wider fun k _ e => .inl e), fun k hk => ?_⟩, by rw [HX2.out, HS1.out]; rfl⟩
    rcases hk with h | h | h | h | h | h | h
    · exact .inl (.inl h)
    · exact .inl (.inr (.inl h))
    · exact .inl (.inr (.inr (.inl h)))
    · exact .inr (World.ownsRow.lt hown3 k (by rw [ownBlock_slice]; exact h)).1
    · unfold InRow at h
      simp at h
    · exact .inl (.inr (.inr (.inr (.inr (.inr (.inl h))))))
    · exact .inl (.inr (.inr (.inr (.inr (.inr (.inr h))))))
  have HF := hide hfin
  clear hfin hk5 hb5 hb4 hn3 hm3 hb3 hown3 hg3 hxs3 c2
  go_wp2
  go_ret
  exact HF.out

set_option maxRecDepth 100000 in
set_option maxHeartbeats 4000000 in
theorem rsync_any (r : Nat) (s : RS) (w : World) (hs : Rm r s w) (nm : ByteArray) (hnm : nm.size ≤ maxLen) (hsm : s.small) :
    Calls Try.prog 27 #[.pointer (some ⟨r, 0, none⟩), .string nm] w (RopR r s w (pSync s.abs nm (meetE (isNm nm) s.off s.plan))) := by
  have hmy := may_any r s w hs nm nm hnm hnm (by have := hsm.plan; omega)
  rw [Bool.and_self] at hmy
  have HMY := hide hmy
  obtain ⟨m, HM⟩ : ∃ m, Hid (m = meetE (isNm nm) s.off s.plan) := ⟨_, rfl⟩
  rw [← HM.out] at HMY ⊢
  obtain ⟨X, HX⟩ : ∃ X, Hid (X = pSync s.abs nm m) := ⟨_, rfl⟩
  rw [← HX.out]
  have HSM := hide hsm
  clear hs hnm hmy hsm
  go_enter Try.func27, Try.ntmps27
  go_wp2_with (go_at_call 52; refine halted ?_)
  refine go_on ?_
  refine HMY.out.mono ?_
  clear HMY
  rintro e w1 ⟨rfl, AP, cP, hd1⟩
  have HD1 := hide hd1
  clear hd1
  by_cases h0 : m.1 = 0
  case neg =>
    have hX : X = (m.1, s.abs.met m) := by rw [HX.out]; unfold pSync; rw [if_pos h0]
    have HF := hide (show RopR r s w X (.returned (.int .i64 m.1)) w1 from ⟨by rw [hX], _, HD1.out, by rw [hX]; rfl⟩)
    have hne : (m.1 != 0) = true := by rw [bne_iff_ne]; exact h0
    clear hX h0
    go_wp2
    go_ret
    exact HF.out
  obtain ⟨s1, hs1⟩ : ∃ s1, s1 = s.met AP cP m := ⟨_, rfl⟩
  rw [← hs1] at HD1
  have hm1 := HD1.out.sm
  have HS1 := hide hs1
  have HM1 := hide hm1
  have hno : s1.now = s.now := by rw [hs1]; rfl
  have hfi : s1.files = s.files := by rw [hs1]; rfl
  have hke : s1.kept = s.kept := by rw [hs1]; rfl
  have hFI := find_any s1.AN w1.heap.size s1.now.length s1.cN s1.now w1 rfl (Row.of_own hm1.rn.rnow) (by rw [hno]; have := HSM.out.now; omega) nm
  have c2 := hm1.box.cell 2
  simp at c2
  have HFI := hide hFI
  cases hfd : dFind s1.now nm.data.toList with
  | none =>
    have hX : X = (4, s.abs.met m) := by
      rw [HX.out]
      unfold pSync
      rw [if_neg (by omega)]
      have : dFind s.abs.now nm.data.toList = none := by rw [← hfd, hno]; rfl
      rw [this]
    have HF := hide (show RopR r s w X (.returned (.int .i64 4)) w1 from ⟨by rw [hX], _, HD1.out, by rw [hX, HS1.out]; rfl⟩)
    rw [hfd] at HFI
    clear hX hfd hs1 hm1 hno hfi hke hFI
    rw [h0]
    go_wp2_with (go_at_call 53; refine halted ?_)
    refine go_on ?_
    refine HFI.out.mono ?_
    rintro e w' ⟨rfl, rfl⟩
    dsimp only [findI]
    go_wp2
    go_ret
    exact HF.out
  | some k =>
    have hfa : dFind s.abs.now nm.data.toList = some k := by rw [← hfd, hno]; rfl
    have hix := hm1.rn.nnow _ (dFind_mem hfd)
    dsimp only at hix
    rw [hfd] at HFI
    have hk0 : (0 : Int) ≤ (k : Int) := by omega
    obtain ⟨f, hf⟩ : ∃ f, s1.files[k]? = some f := ⟨_, List.getElem?_eq_getElem hix⟩
    have hX : X = (0, { s.abs.met m with files := updAt s.abs.files k fun f => (f.1, f.1.length) }) := by
      rw [HX.out]
      unfold pSync
      rw [if_neg (by omega), hfa]
    have HX2 := hide hX
    obtain ⟨g, hg⟩ := one_of hm1.rn.rfiles (by omega)
    have hd1 : Rm r s1 w1.drew := hm1.call (Below.refl _ _).drew
    have hst := World.ownsRow.stored (hg ▸ hd1.rn.rfiles) (k * 2 + 1) (.int .i64 (f.bs.length : Int))
    rw [fiCells_setS hf] at hst
    have c1 := hm1.box.cell 1
    simp at c1
    rw [hg] at c1
    have hof : w1.ownsRow 0 85 2 (.slice (some ⟨g, 0, none⟩) s1.files.length s1.cF) s1.files.length (fiCells s1.files) := hg ▸ hm1.rn.rfiles
    have cb : w1.cell? ⟨g, k * 2, none⟩ = some (.slice f.A f.bs.length f.c) := by
      rw [World.ownsRow.cellAt hof (k * 2) (by omega)]
      exact (fiCells_at hf).1
    have cs : w1.cell? ⟨g, k * 2 + 1, none⟩ = some (.int .i64 (f.sure : Int)) := by
      rw [World.ownsRow.cellAt hof (k * 2 + 1) (by omega)]
      exact (fiCells_at hf).2
    have fb : w1.frozen? ⟨g, k * 2 + 1, none⟩ = false := World.ownsRow.frozenAt hof _
    have hkg : Kept (InRow s1.AF) w1.drew (w1.drew.setCell ⟨g, k * 2 + 1, none⟩ (.int .i64 (f.bs.length : Int))) := Kept.of_grown hst.2 (fun i hi => by
      injection hi with hi
      unfold InRow
      rw [hg]
      simp
      exact hi)
    have hls : (s1.files.set k { f with sure := f.bs.length }).length = s1.files.length := List.length_set ..
    have hst2 : (w1.drew.setCell ⟨g, k * 2 + 1, none⟩ (.int .i64 (f.bs.length : Int))).ownsRow 0 85 2 (.slice s1.AF (s1.files.set k { f with sure := f.bs.length }).length s1.cF) (s1.files.set k { f with sure := f.bs.length }).length (fiCells (s1.files.set k { f with sure := f.bs.length })) := by
      rw [hls, hg]
      exact hst.1
    have hfm : f ∈ s1.files := List.mem_of_getElem? hf
    have hrn := hd1.rn.refiles hkg hst2 (by rw [hls]; exact Nat.le_refl _) (fun f2 hf2 => by
      rcases List.mem_or_eq_of_mem_set hf2 with h | h
      · exact hd1.rn.fkept hkg f2 h
      · rw [h]; exact hd1.rn.fkept hkg f hfm) (fun f2 hf2 => by
      rcases List.mem_or_eq_of_mem_set hf2 with h | h
      · exact hd1.rn.fsure f2 h
      · rw [h]; exact Nat.le_refl _)
    have hnr : ¬ InRow s1.AF r := fun h => (Kb.of_row hm1.rn.rfiles h).ne hm1.box.kb (by decide) rfl
    have hbx : RsB r { s1 with AF := s1.AF, cF := s1.cF, files := s1.files.set k { f with sure := f.bs.length } } (w1.drew.setCell ⟨g, k * 2 + 1, none⟩ (.int .i64 (f.bs.length : Int))) := by
      have h := (hkg.block r hd1.box.lt hnr).trans hd1.box
      unfold RsB RS.cells at h ⊢
      rw [hls]
      exact h
    have hfin : RopR r s w X (.returned (.int .i64 0)) (w1.drew.setCell ⟨g, k * 2 + 1, none⟩ (.int .i64 (f.bs.length : Int))) := by
      refine ⟨by rw [HX2.out], _, HD1.out.trans ⟨⟨hbx, hrn⟩, ((Kept.of_below ((Below.refl _ _).drew)).trans hkg).wider fun k _ e => .inr (.inl e), fun k2 hk => ?_⟩, ?_⟩
      · left
        rcases hk with h | h | h | h | h | h | ⟨f2, hf2, h⟩
        · exact .inl h
        · exact .inr (.inl h)
        · exact .inr (.inr (.inl h))
        · exact .inr (.inr (.inr (.inl h)))
        · exact .inr (.inr (.inr (.inr (.inl h))))
        · exact .inr (.inr (.inr (.inr (.inr (.inl h)))))
        · rcases List.mem_or_eq_of_mem_set hf2 with h2 | h2
          · exact .inr (.inr (.inr (.inr (.inr (.inr ⟨f2, h2, h⟩)))))
          · rw [h2] at h
            exact .inr (.inr (.inr (.inr (.inr (.inr ⟨f, hfm, h⟩)))))
      · rw [HX2.out]
        have e1 : s1.abs = s.abs.met m := by rw [HS1.out]; rfl
        have e2 : s.abs.files = s1.abs.files := by rw [e1]; rfl
        rw [← e1, e2]
        have e3 : s1.abs.files[k]? = some (f.bs, f.sure) := by
          show (s1.files.map _)[k]? = _
          rw [List.getElem?_map, hf]
          rfl
        unfold updAt
        rw [e3]
        show (⟨_, (s1.files.set k { f with sure := f.bs.length }).map (fun f => (f.bs, f.sure)), _, _, _, _, _⟩ : PS) = _
        rw [List.map_set]
        rfl
    have HF := hide hfin
    have hix' : (k : Int) < (s1.files.length : Int) := by omega
    have t1 : w1.drew.cell? ⟨r, 1, none⟩ = some (.slice (some ⟨g, 0, none⟩) s1.files.length s1.cF) := c1
    have t2 : w1.drew.cell? ⟨g, k * 2, none⟩ = some (.slice f.A f.bs.length f.c) := cb
    have t3 : w1.drew.cell? ⟨g, k * 2 + 1, none⟩ = some (.int .i64 (f.sure : Int)) := cs
    have t4 : w1.drew.frozen? ⟨g, k * 2 + 1, none⟩ = false := fb
    clear hX hfd hs1 hm1 hno hfi hke hFI HX hfa hf hd1 hst hg hof hkg hls hst2 hfm hrn hnr hbx hfin
    rw [h0]
    go_wp2_with (go_at_call 53; refine halted ?_)
    refine go_on ?_
    refine HFI.out.mono ?_
    rintro e w' ⟨rfl, rfl⟩
    dsimp only [findI]
    go_wp2
    go_region_law (fail)
    all_goals
      clear t1 t2 t3 t4 c1 c2 cb cs fb
      go_wp2
      go_ret
      exact HF.out
end Go.Proofs.Ytpakihbejdpmoaa
