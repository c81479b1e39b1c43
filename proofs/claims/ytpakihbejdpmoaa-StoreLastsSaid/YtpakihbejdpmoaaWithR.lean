/-
  store's with, as Rename calls it.
-/
import Derived.Test.YtpakihbejdpmoaaRename1
namespace Go.Proofs.Ytpakihbejdpmoaa
open Go.RowKit Go.Maps
set_option linter.unusedVariables false

/-- What a renaming answers. -/
def renE (m : Int × List UInt8 × Bool) (found : Option Nat) : Int := if m.1 ≠ 0 then m.1 else match found with
  | none => 4
  | some _ => 0
/-- What it leaves. -/
def RenT (s : SS) (fr to : ByteArray) (m : Int × List UInt8 × Bool) (E : Int) (s' : SS) : Prop :=
  (E = 0 → ∃ qf AP cP, dFind s.now fr.data.toList = some qf ∧ RenS { s with AP := AP, cP := cP, plan := m.2.1, off := m.2.2 } fr to qf s') ∧ (E ≠ 0 → ∃ AP cP, s' = { s with AP := AP, cP := cP, plan := m.2.1, off := m.2.2 })
def RenR (q : Nat) (s : SS) (w : World) (fr to : ByteArray) (m : Int × List UInt8 × Bool) (E : Int) (e : Ending) (w' : World) : Prop :=
  e = .returned (.int .i64 E) ∧ ∃ s', Did q s w s' w' ∧ RenT s fr to m E s'

set_option maxRecDepth 100000 in
set_option maxHeartbeats 4000000 in
theorem withR_any (q : Nat) (s : SS) (w0 w : World) (hs : Sm q s w0) (hb0 : Below w0.heap.size w0 w) (fr to : ByteArray) (hnm : fr.size ≤ maxLen) (hnt : to.size ≤ maxLen) (hpl : s.plan.length ≤ 1000000000) (hl : s.now.length ≤ 1000000000) (hkl : s.kept.length ≤ 1000000000)
    (b1 b2 b3 g co : Nat) (h1 : BxS b1 fr w) (h2 : BxS b2 to w) (h3 : BxQ b3 q w) (hb1 : w0.heap.size ≤ b1) (hb2 : w0.heap.size ≤ b2) (hb3 : w0.heap.size ≤ b3) (hown : w.ownsRow w0.heap.size 9 1 (.slice (some ⟨g, 0, none⟩) 1 co) 1 [.string to]) (hg : w0.heap.size ≤ g) (hg1 : g ≠ b1) (hg2 : g ≠ b2) (hg3 : g ≠ b3) :
    Calls Try.prog 43 #[.pointer (some ⟨q, 0, none⟩), .func (.func 45) #[] #[.pointer (some ⟨b1, 0, none⟩), .pointer (some ⟨b2, 0, none⟩), .pointer (some ⟨b3, 0, none⟩)], .string fr, .slice (some ⟨g, 0, none⟩) 1 co] w fun e w' =>
      RenR q s w0 fr to (meetE (isNm to && isNm fr) s.off s.plan) (renE (meetE (isNm to && isNm fr) s.off s.plan) (dFind s.now fr.data.toList)) e w' := by
  obtain ⟨m, HM⟩ : ∃ m, Hid (m = meetE (isNm to && isNm fr) s.off s.plan) := ⟨_, rfl⟩
  rw [← HM.out]
  obtain ⟨E, HEE⟩ : ∃ E, Hid (E = renE m (dFind s.now fr.data.toList)) := ⟨_, rfl⟩
  rw [← HEE.out]
  obtain ⟨i0, hi, hz0, hz1, hz2⟩ := info_parts info_str
  have HS := hide hs
  have H1 := hide h1
  have H2 := hide h2
  have H3 := hide h3
  have HB0 := hide hb0
  have HOWN := hide hown
  clear hs h1 h2 h3 hb0 hown
  go_enter Try.func43, Try.ntmps43
  go_wp2_with (at_builtin; refine halted ?_)
  refine go_on ?_
  refine wpList_append_own _ rfl (.tmp 13) (.tmp 15) 64 rfl w0.heap.size 9 i0 _ 1 16 Try.underlying64 hi hz0 hz1 hz2 rfl (by decide) (some ⟨g, 0, none⟩) 1 co [.string to] rfl (World.ownsRow.alloc HOWN.out _) _ _ 1 _ [.string fr] rfl rfl (Row.new w #[.string fr] 9 (0, 0)) (by intro u hu; simp at hu; subst hu; rfl) (by unfold maxLen; omega) (by omega) (by have := HB0.out.size; simp; omega) ?_
  intro n' xs' A5 c5 w5 hn' hxs' _ _ hown5 hg5 _
  obtain rfl : n' = 2 := hn'.out
  obtain rfl : xs' = [to, fr].map strV := hxs'.out
  have hk5 : Kept (fun k => k = g) w w5 := ((Kept.refl w).alloc _).trans (Kept.of_grown hg5 (fun k hk => by injection hk with hk; exact hk.symm))
  have hb5 : Below w0.heap.size w0 w5 := HB0.out.trans (hk5.below (fun k h => by rw [h]; exact hg) HB0.out.size)
  have H15 := hide (show BxS b1 fr w5 from H1.out.kept hk5 (fun e => hg1 e.symm))
  have H25 := hide (show BxS b2 to w5 from H2.out.kept hk5 (fun e => hg2 e.symm))
  have H35 := hide (show BxQ b3 q w5 from (hk5.block b3 (Array.getElem?_eq_some_iff.1 H3.out).1 (fun e => hg3 e.symm)).trans H3.out)
  have hs5 := HS.out.call hb5
  have hrow5 := Row.of_own hown5
  have HME := hide (meet_any q s w5 hs5 A5 w5.heap.size 2 c5 [to, fr] rfl hrow5 (Nat.le_refl _) (by omega) hpl)
  rw [show [to, fr].all isNm = (isNm to && isNm fr) by simp, ← HM.out] at HME
  clear hn' hxs' hown5 hg5 hs5 hrow5 hk5
  go_wp2_with (go_at_call 39; refine halted ?_)
  refine go_on ?_
  refine HME.out.mono ?_
  clear HME
  rintro e w1 ⟨rfl, AP, cP, hdid⟩
  have hD1 := (Did.call HS.out hb5).trans hdid
  have hown1 := hdid.sm.mnow
  have c1 := hdid.sm.box.cell 1
  simp at c1
  have hlook := look_dir hown1 hnm
  obtain ⟨code, plan, off⟩ := m
  dsimp only at *
  have HD := hide hD1
  by_cases hm : code = 0
  case neg =>
    have hne : (code != 0) = true := by rw [bne_iff_ne]; exact hm
    have HE : Hid (E = code) := HEE.out.trans (if_pos hm)
    have HN := hide hm
    clear hm hdid hD1 hown1 c1 hlook
    go_wp2
    go_ret
    exact ⟨by rw [HE.out]; rfl, _, HD.out, fun h => absurd (HE.out.symm.trans h) HN.out, fun _ => ⟨AP, cP, rfl⟩⟩
  subst hm
  cases hfd : dFind s.now fr.data.toList with
  | none =>
    have HE : Hid (E = 4) := HEE.out.trans (by rw [hfd]; rfl)
    rw [hfd] at hlook
    dsimp only [Option.isSome] at hlook
    clear hdid hD1 hown1 hfd
    go_wp2
    go_ret
    exact ⟨by rw [HE.out]; rfl, _, HD.out, fun h => absurd (HE.out.symm.trans h) (by decide), fun _ => ⟨AP, cP, rfl⟩⟩
  | some qf =>
    have hq : ∃ f ∈ s.files, f.q = qf := HS.out.nnow _ (dFind_mem hfd)
    have HE : Hid (E = 0) := HEE.out.trans (by rw [hfd]; rfl)
    rw [hfd] at hlook
    dsimp only [Option.isSome, ptrOf, Option.map] at hlook
    have hno : ∀ k, w0.heap.size ≤ k → ¬ s.own q k := fun k hk h => by have := HS.out.lt h; omega
    have h11 : BxS b1 fr w1 := H15.out.kept hdid.kept (hno b1 hb1)
    have h21 : BxS b2 to w1 := H25.out.kept hdid.kept (hno b2 hb2)
    have h31 : BxQ b3 q w1 := (hdid.kept.block b3 (Array.getElem?_eq_some_iff.1 H35.out).1 (hno b3 hb3)).trans H35.out
    have HRN := hide (rename2_any q _ w1 HD.out.sm qf b1 b2 b3 fr to h11 h21 h31 hl hkl hnm hnt hq)
    have HFD := hide hfd
    clear hdid hD1 hown1 hfd h11 h21 h31 hq hno
    go_wp2_with (go_at_call 45; refine halted ?_)
    refine go_on ?_
    refine HRN.out.mono ?_
    clear HRN
    rintro e w2 ⟨rfl, s', hdb, hrs⟩
    have hfin : Did q s w0 s' w2 := ⟨hdb.sm, HD.out.kept.trans_in hdb.kept (fun k hk h => by
      rcases HD.out.own k h with g | g
      · exact g
      · omega), fun k h => by
      rcases hdb.own k h with g | g | g | g
      · exact HD.out.own k g
      · exact .inr (Nat.le_trans HD.out.kept.size g)
      · exact .inr (by omega)
      · exact .inr (by omega)⟩
    have HF := hide (And.intro hfin hrs)
    clear hfin hrs hdb hlook c1
    go_wp2
    go_ret
    exact ⟨by rw [HE.out]; rfl, s', HF.out.1, fun _ => ⟨qf, AP, cP, HFD.out, HF.out.2⟩, fun h => absurd HE.out h⟩
end Go.Proofs.Ytpakihbejdpmoaa
