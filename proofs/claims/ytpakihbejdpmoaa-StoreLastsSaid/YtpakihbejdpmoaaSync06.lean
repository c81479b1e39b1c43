/-
  store's Sync.
-/
import Derived.Test.YtpakihbejdpmoaaAppend
namespace Go.Proofs.Ytpakihbejdpmoaa
open Go.RowKit Go.Maps
set_option linter.unusedVariables false

def SynP (q : Nat) (s : SS) (w : World) (f : Fi) (e : Ending) (w' : World) : Prop :=
  e = .returned (.int .i64 0) ∧ Did q s w { s with files := upd s.files { f with sure := f.bs.length } } w'
set_option maxRecDepth 100000 in
set_option maxHeartbeats 4000000 in
theorem sync1_any (q : Nat) (s : SS) (w : World) (hs : Sm q s w) (f : Fi) (hf : f ∈ s.files) :
    Calls Try.prog 48 #[.pointer (some ⟨f.q, 0, none⟩)] w (SynP q s w f) := by
  have hfb := hs.fbox f hf
  have d0 := Joins.cell_of_block hfb 0
  have d1 := Joins.cell_of_block hfb 1
  have g1 := Joins.unfrozen_of_block hfb 1
  simp at d0 d1
  have HS := hide hs
  have HF := hide hf
  have HFB := hide hfb
  clear hs hf hfb
  go_enter Try.func48, Try.ntmps48
  go_wp2
  go_ret
  have hk : Kept (fun k => k = f.q ∨ InRow f.A k) w (w.setCell ⟨f.q, 1, none⟩ (.int .i64 (f.bs.length : Int))) := Kept.set w (.inl rfl) 1 _
  have hb : FiB { f with sure := f.bs.length } (w.setCell ⟨f.q, 1, none⟩ (.int .i64 (f.bs.length : Int))) := Joins.block_setCell HFB.out _
  have hown := (keptQ w f.q 1 (.int .i64 (f.bs.length : Int))).own (HS.out.frow f HF.out) (fun k hk e => (HS.out.kr HF.out hk).ne (HS.out.kf HF.out) (by decide) e)
  refine ⟨rfl, HS.out.turnFile (f' := { f with sure := f.bs.length }) HF.out rfl hk hb hown (Nat.le_refl _) (fun k h => .inl h), hk.wider (fun k _ e => .inr (.inr (.inr (.inr (.inr (.inl ⟨f, HF.out, e⟩)))))), ?_⟩
  rintro k (h | h | h | h | h | ⟨g, hg, h⟩ | h)
  · exact .inl (.inl h)
  · exact .inl (.inr (.inl h))
  · exact .inl (.inr (.inr (.inl h)))
  · exact .inl (.inr (.inr (.inr (.inl h))))
  · exact .inl (.inr (.inr (.inr (.inr (.inl h)))))
  · rcases mem_upd hg with rfl | ⟨g1, _⟩
    · exact .inl (.inr (.inr (.inr (.inr (.inr (.inl ⟨f, HF.out, h⟩))))))
    · exact .inl (.inr (.inr (.inr (.inr (.inr (.inl ⟨g, g1, h⟩))))))
  · exact .inl (.inr (.inr (.inr (.inr (.inr (.inr h))))))

/-- What a syncing answers is what a renaming does (renE). -/
def SynS (s : SS) (nm : ByteArray) (m : Int × List UInt8 × Bool) (E : Int) (s' : SS) : Prop :=
  s'.room = s.room ∧ s'.disk = s.disk ∧ s'.now = s.now ∧ s'.kept = s.kept ∧ s'.plan = m.2.1 ∧ s'.off = m.2.2 ∧
    (E = 0 → ∃ f ∈ s.files, dFind s.now nm.data.toList = some f.q ∧ s'.files = upd s.files { f with sure := f.bs.length }) ∧ (E ≠ 0 → s'.files = s.files)
def SynR (q : Nat) (s : SS) (w : World) (nm : ByteArray) (m : Int × List UInt8 × Bool) (E : Int) (e : Ending) (w' : World) : Prop :=
  e = .returned (.int .i64 E) ∧ ∃ s', Did q s w s' w' ∧ SynS s nm m E s'
def synE (m : Int × List UInt8 × Bool) (found : Option Nat) : Int := if m.1 ≠ 0 then m.1 else match found with
  | none => 4
  | some _ => 0

set_option maxRecDepth 100000 in
set_option maxHeartbeats 4000000 in
theorem withS_any (q : Nat) (s : SS) (w : World) (hs : Sm q s w) (nm : ByteArray) (hnm : nm.size ≤ maxLen) (hpl : s.plan.length ≤ 1000000000) :
    Calls Try.prog 43 #[.pointer (some ⟨q, 0, none⟩), .func (.func 48) #[] #[], .string nm, .slice none 0 0] w fun e w' =>
      SynR q s w nm (meetE (isNm nm) s.off s.plan) (synE (meetE (isNm nm) s.off s.plan) (dFind s.now nm.data.toList)) e w' := by
  obtain ⟨m, HM⟩ : ∃ m, Hid (m = meetE (isNm nm) s.off s.plan) := ⟨_, rfl⟩
  rw [← HM.out]
  obtain ⟨E, HEE⟩ : ∃ E, Hid (E = synE m (dFind s.now nm.data.toList)) := ⟨_, rfl⟩
  rw [← HEE.out]
  obtain ⟨i0, hi, hz0, hz1, hz2⟩ := info_parts info_str
  have HS := hide hs
  clear hs
  go_enter Try.func43, Try.ntmps43
  go_wp2_with (at_builtin; refine halted ?_)
  refine go_on ?_
  refine wpList_append_own _ rfl (.tmp 13) (.tmp 15) 64 rfl 0 9 i0 _ 1 16 Try.underlying64 hi hz0 hz1 hz2 rfl (by decide) none 0 0 [] rfl (World.ownsRow_nil _ _ _ _) _ _ 1 _ [.string nm] rfl rfl (Row.new w #[.string nm] 9 (0, 0)) (by intro u hu; simp at hu; subst hu; rfl) (by unfold maxLen; omega) (by omega) (Nat.zero_le _) ?_
  intro n' xs' A5 c5 w5 hn' hxs' _ _ hown5 hg5 _
  obtain rfl : n' = 1 := hn'.out
  obtain rfl : xs' = [nm].map strV := hxs'.out
  have hb5 : Below w.heap.size w w5 := ((Below.refl _ _).alloc (Nat.le_refl _) _).grown hg5 (by simp) (fun k hk => by cases hk)
  have hs5 := HS.out.call hb5
  have hrow5 := Row.of_own hown5
  have HME := hide (meet_any q s w5 hs5 A5 w5.heap.size 1 c5 [nm] rfl hrow5 (Nat.le_refl _) (by omega) hpl)
  rw [show [nm].all isNm = isNm nm by simp, ← HM.out] at HME
  clear hn' hxs' hown5 hg5 hs5 hrow5
  go_wp2_with (go_at_call 39; refine halted ?_)
  refine go_on ?_
  refine HME.out.mono ?_
  clear HME
  rintro e w1 ⟨rfl, AP, cP, hdid⟩
  have hD1 := (Did.call HS.out hb5).trans hdid
  have hown1 := hdid.sm.mnow
  have c1 := hdid.sm.box.cell 1
  simp at c1
  have hlook := look_dir hown1 hnm
  obtain ⟨code, plan, off⟩ := m
  dsimp only at *
  have HD := hide hD1
  by_cases hm : code = 0
  case neg =>
    have hne : (code != 0) = true := by rw [bne_iff_ne]; exact hm
    have HE : Hid (E = code) := HEE.out.trans (if_pos hm)
    have HN := hide hm
    clear hm hdid hD1 hown1 c1 hlook
    go_wp2
    go_ret
    exact ⟨by rw [HE.out]; rfl, _, HD.out, rfl, rfl, rfl, rfl, rfl, rfl, fun h => absurd (HE.out.symm.trans h) HN.out, fun _ => rfl⟩
  subst hm
  cases hfd : dFind s.now nm.data.toList with
  | none =>
    have HE : Hid (E = 4) := HEE.out.trans (by rw [hfd]; rfl)
    rw [hfd] at hlook
    dsimp only [Option.isSome] at hlook
    clear hdid hD1 hown1 hfd
    go_wp2
    go_ret
    exact ⟨by rw [HE.out]; rfl, _, HD.out, rfl, rfl, rfl, rfl, rfl, rfl, fun h => absurd (HE.out.symm.trans h) (by decide), fun _ => rfl⟩
  | some qf =>
    obtain ⟨f, hf, hfq⟩ := HS.out.nnow _ (dFind_mem hfd)
    have hfq : f.q = qf := hfq
    subst hfq
    have HE : Hid (E = 0) := HEE.out.trans (by rw [hfd]; rfl)
    rw [hfd] at hlook
    dsimp only [Option.isSome, ptrOf, Option.map] at hlook
    have HAP := hide (sync1_any q _ w1 HD.out.sm f hf)
    have HFD := hide hfd
    have HF := hide hf
    clear hdid hD1 hown1 hfd hf
    go_wp2_with (go_at_call 48; refine halted ?_)
    refine go_on ?_
    refine HAP.out.mono ?_
    clear HAP
    rintro e w2 ⟨rfl, hd⟩
    have HD2 := hide hd
    clear hd hlook c1
    go_wp2
    go_ret
    exact ⟨by rw [HE.out]; rfl, _, HD.out.trans HD2.out, rfl, rfl, rfl, rfl, rfl, rfl, fun _ => ⟨f, HF.out, HFD.out, rfl⟩, fun h => absurd HE.out h⟩

set_option maxRecDepth 100000 in
set_option maxHeartbeats 4000000 in
theorem sync_any (q : Nat) (s : SS) (w : World) (hs : Sm q s w) (nm : ByteArray) (hnm : nm.size ≤ maxLen) (hpl : s.plan.length ≤ 1000000000) :
    Calls Try.prog 22 #[.pointer (some ⟨q, 0, none⟩), .string nm] w fun e w' =>
      SynR q s w nm (meetE (isNm nm) s.off s.plan) (synE (meetE (isNm nm) s.off s.plan) (dFind s.now nm.data.toList)) e w' := by
  go_enter Try.func22, Try.ntmps22
  have HW := hide (withS_any q s w hs nm hnm hpl)
  clear hs
  go_wp2_with (go_at_call 43; refine halted ?_)
  refine go_on ?_
  refine HW.out.mono ?_
  rintro e w1 h
  have he : e = _ := h.1
  subst he
  have HA := hide h
  clear h HW
  go_wp2
  go_ret
  exact HA.out
end Go.Proofs.Ytpakihbejdpmoaa
