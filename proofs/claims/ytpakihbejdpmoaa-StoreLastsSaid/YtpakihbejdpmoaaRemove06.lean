/-
  store's Remove.
-/
import Derived.Test.YtpakihbejdpmoaaWithR
namespace Go.Proofs.Ytpakihbejdpmoaa
open Go.RowKit Go.Maps
set_option linter.unusedVariables false

/-- What a removing leaves. -/
def RemS (s : SS) (fr : ByteArray) (s' : SS) : Prop :=
  s'.room = s.room ∧ s'.disk = s.disk ∧ s'.plan = s.plan ∧ s'.off = s.off ∧ s'.files = s.files ∧ s'.now = dDel s.now fr.data.toList ∧ s'.kept.map (·.ch) = s.kept.map (·.ch) ++ [.del fr]
def RemP (q : Nat) (s : SS) (w : World) (b1 b3 : Nat) (fr : ByteArray) (e : Ending) (w' : World) : Prop :=
  e = .returned (.int .i64 0) ∧ ∃ s', Dib q s w b1 b3 s' w' ∧ RemS s fr s'

set_option maxRecDepth 100000 in
set_option maxHeartbeats 4000000 in
theorem remove2_any (q : Nat) (s : SS) (w : World) (hs : Sm q s w) (qf b1 b3 : Nat) (fr : ByteArray) (h1 : BxS b1 fr w) (h3 : BxQ b3 q w) (hl : s.now.length ≤ 1000000000) (hkl : s.kept.length ≤ 1000000000) (hnm : fr.size ≤ maxLen) :
    Calls Try.prog 55 #[.pointer (some ⟨qf, 0, none⟩), .pointer (some ⟨b3, 0, none⟩), .pointer (some ⟨b1, 0, none⟩)] w (RemP q s w b1 b3 fr) := by
  have c3 := Joins.cell_of_block h3 0
  simp at c3
  have HC := hide (changeD_any q s w hs b1 0 0 fr h1 hl hkl hnm)
  clear hs h1 h3
  go_enter Try.func55, Try.ntmps55
  go_wp2_with (go_at_call 40; refine halted ?_)
  refine go_on ?_
  refine HC.out.mono ?_
  clear HC
  rintro e w2 ⟨rfl, AK, cK, hch⟩
  have HF := hide hch
  clear hch c3
  go_wp2
  go_ret
  refine ⟨rfl, _, ⟨HF.out.sm, HF.out.kept, fun k h => ?_⟩, rfl, rfl, rfl, rfl, rfl, rfl, by rw [List.map_append]; rfl⟩
  rcases HF.out.own k h with g | g | g
  · exact .inl g
  · exact .inr (.inl g)
  · have g : k = b1 := g
    exact .inr (.inr (.inl g))

def RemT (s : SS) (fr : ByteArray) (m : Int × List UInt8 × Bool) (E : Int) (s' : SS) : Prop :=
  (E = 0 → ∃ qf AP cP, dFind s.now fr.data.toList = some qf ∧ RemS { s with AP := AP, cP := cP, plan := m.2.1, off := m.2.2 } fr s') ∧ (E ≠ 0 → ∃ AP cP, s' = { s with AP := AP, cP := cP, plan := m.2.1, off := m.2.2 })
def RemR (q : Nat) (s : SS) (w : World) (fr : ByteArray) (m : Int × List UInt8 × Bool) (E : Int) (e : Ending) (w' : World) : Prop :=
  e = .returned (.int .i64 E) ∧ ∃ s', Did q s w s' w' ∧ RemT s fr m E s'

set_option maxRecDepth 100000 in
set_option maxHeartbeats 4000000 in
theorem withD_any (q : Nat) (s : SS) (w0 w : World) (hs : Sm q s w0) (hb0 : Below w0.heap.size w0 w) (fr : ByteArray) (hnm : fr.size ≤ maxLen) (hpl : s.plan.length ≤ 1000000000) (hl : s.now.length ≤ 1000000000) (hkl : s.kept.length ≤ 1000000000)
    (b1 b3 : Nat) (h1 : BxS b1 fr w) (h3 : BxQ b3 q w) (hb1 : w0.heap.size ≤ b1) (hb3 : w0.heap.size ≤ b3) :
    Calls Try.prog 43 #[.pointer (some ⟨q, 0, none⟩), .func (.func 55) #[] #[.pointer (some ⟨b3, 0, none⟩), .pointer (some ⟨b1, 0, none⟩)], .string fr, .slice none 0 0] w fun e w' =>
      RemR q s w0 fr (meetE (isNm fr) s.off s.plan) (renE (meetE (isNm fr) s.off s.plan) (dFind s.now fr.data.toList)) e w' := by
  obtain ⟨m, HM⟩ : ∃ m, Hid (m = meetE (isNm fr) s.off s.plan) := ⟨_, rfl⟩
  rw [← HM.out]
  obtain ⟨E, HEE⟩ : ∃ E, Hid (E = renE m (dFind s.now fr.data.toList)) := ⟨_, rfl⟩
  rw [← HEE.out]
  obtain ⟨i0, hi, hz0, hz1, hz2⟩ := info_parts info_str
  have HS := hide hs
  have H1 := hide h1
  have H3 := hide h3
  have HB0 := hide hb0
  clear hs h1 h3 hb0
  go_enter Try.func43, Try.ntmps43
  go_wp2_with (at_builtin; refine halted ?_)
  refine go_on ?_
  refine wpList_append_own _ rfl (.tmp 13) (.tmp 15) 64 rfl 0 9 i0 _ 1 16 Try.underlying64 hi hz0 hz1 hz2 rfl (by decide) none 0 0 [] rfl (World.ownsRow_nil _ _ _ _) _ _ 1 _ [.string fr] rfl rfl (Row.new w #[.string fr] 9 (0, 0)) (by intro u hu; simp at hu; subst hu; rfl) (by unfold maxLen; omega) (by omega) (Nat.zero_le _) ?_
  intro n' xs' A5 c5 w5 hn' hxs' _ _ hown5 hg5 _
  obtain rfl : n' = 1 := hn'.out
  obtain rfl : xs' = [fr].map strV := hxs'.out
  have hbb : Below w.heap.size w w5 := ((Below.refl _ _).alloc (Nat.le_refl _) _).grown hg5 (by simp) (fun k hk => by cases hk)
  have hk5 : Kept (fun _ => False) w w5 := Kept.of_below hbb
  have hb5 : Below w0.heap.size w0 w5 := HB0.out.trans (hbb.mono HB0.out.size)
  have H15 := hide (show BxS b1 fr w5 from H1.out.kept hk5 (fun e => e))
  have H35 := hide (show BxQ b3 q w5 from (hk5.block b3 (Array.getElem?_eq_some_iff.1 H3.out).1 (fun e => e)).trans H3.out)
  have hs5 := HS.out.call hb5
  have hrow5 := Row.of_own hown5
  have HME := hide (meet_any q s w5 hs5 A5 w5.heap.size 1 c5 [fr] rfl hrow5 (Nat.le_refl _) (by omega) hpl)
  rw [show [fr].all isNm = (isNm fr) by simp, ← HM.out] at HME
  clear hn' hxs' hown5 hg5 hs5 hrow5 hk5 hbb
  go_wp2_with (go_at_call 39; refine halted ?_)
  refine go_on ?_
  refine HME.out.mono ?_
  clear HME
  rintro e w1 ⟨rfl, AP, cP, hdid⟩
  have hD1 := (Did.call HS.out hb5).trans hdid
  have hown1 := hdid.sm.mnow
  have c1 := hdid.sm.box.cell 1
  simp at c1
  have hlook := look_dir hown1 hnm
  obtain ⟨code, plan, off⟩ := m
  dsimp only at *
  have HD := hide hD1
  by_cases hm : code = 0
  case neg =>
    have hne : (code != 0) = true := by rw [bne_iff_ne]; exact hm
    have HE : Hid (E = code) := HEE.out.trans (if_pos hm)
    have HN := hide hm
    clear hm hdid hD1 hown1 c1 hlook
    go_wp2
    go_ret
    exact ⟨by rw [HE.out]; rfl, _, HD.out, fun h => absurd (HE.out.symm.trans h) HN.out, fun _ => ⟨AP, cP, rfl⟩⟩
  subst hm
  cases hfd : dFind s.now fr.data.toList with
  | none =>
    have HE : Hid (E = 4) := HEE.out.trans (by rw [hfd]; rfl)
    rw [hfd] at hlook
    dsimp only [Option.isSome] at hlook
    clear hdid hD1 hown1 hfd
    go_wp2
    go_ret
    exact ⟨by rw [HE.out]; rfl, _, HD.out, fun h => absurd (HE.out.symm.trans h) (by decide), fun _ => ⟨AP, cP, rfl⟩⟩
  | some qf =>
    have HE : Hid (E = 0) := HEE.out.trans (by rw [hfd]; rfl)
    rw [hfd] at hlook
    dsimp only [Option.isSome, ptrOf, Option.map] at hlook
    have hno : ∀ k, w0.heap.size ≤ k → ¬ s.own q k := fun k hk h => by have := HS.out.lt h; omega
    have h11 : BxS b1 fr w1 := H15.out.kept hdid.kept (hno b1 hb1)
    have h31 : BxQ b3 q w1 := (hdid.kept.block b3 (Array.getElem?_eq_some_iff.1 H35.out).1 (hno b3 hb3)).trans H35.out
    have HRN := hide (remove2_any q _ w1 HD.out.sm qf b1 b3 fr h11 h31 hl hkl hnm)
    have HFD := hide hfd
    clear hdid hD1 hown1 hfd h11 h31 hno
    go_wp2_with (go_at_call 55; refine halted ?_)
    refine go_on ?_
    refine HRN.out.mono ?_
    clear HRN
    rintro e w2 ⟨rfl, s', hdb, hrs⟩
    have hfin : Did q s w0 s' w2 := ⟨hdb.sm, HD.out.kept.trans_in hdb.kept (fun k hk h => by
      rcases HD.out.own k h with g | g
      · exact g
      · omega), fun k h => by
      rcases hdb.own k h with g | g | g | g
      · exact HD.out.own k g
      · exact .inr (Nat.le_trans HD.out.kept.size g)
      · exact .inr (by omega)
      · exact .inr (by omega)⟩
    have HF := hide (And.intro hfin hrs)
    clear hfin hrs hdb hlook c1
    go_wp2
    go_ret
    exact ⟨by rw [HE.out]; rfl, s', HF.out.1, fun _ => ⟨qf, AP, cP, HFD.out, HF.out.2⟩, fun h => absurd HE.out h⟩

set_option maxRecDepth 100000 in
set_option maxHeartbeats 4000000 in
theorem remove_any (q : Nat) (s : SS) (w : World) (hs : Sm q s w) (fr : ByteArray) (hnm : fr.size ≤ maxLen) (hpl : s.plan.length ≤ 1000000000) (hl : s.now.length ≤ 1000000000) (hkl : s.kept.length ≤ 1000000000) :
    Calls Try.prog 29 #[.pointer (some ⟨q, 0, none⟩), .string fr] w fun e w' =>
      RemR q s w fr (meetE (isNm fr) s.off s.plan) (renE (meetE (isNm fr) s.off s.plan) (dFind s.now fr.data.toList)) e w' := by
  go_enter Try.func29, Try.ntmps29
  have HS := hide hs
  clear hs
  go_wp2_with (go_at_call 43; refine halted ?_)
  refine go_on ?_
  obtain ⟨u1, hu1⟩ : ∃ u, u = w.alloc (.cells #[.pointer (some ⟨q, 0, none⟩)] 24) := ⟨_, rfl⟩
  have z1 : u1.heap.size = w.heap.size + 1 := by rw [hu1]; simp
  have x1 : u1.heap[w.heap.size]? = some (.cells #[.pointer (some ⟨q, 0, none⟩)] 24) := by rw [hu1]; exact heap_alloc_new w _
  have b1 : Below w.heap.size w u1 := by rw [hu1]; exact (Below.refl _ _).alloc (Nat.le_refl _) _
  rw [← hu1]
  obtain ⟨u2, hu2⟩ : ∃ u, u = u1.alloc (.cells #[.string fr] 9) := ⟨_, rfl⟩
  have z2 : u2.heap.size = u1.heap.size + 1 := by rw [hu2]; simp
  have x2 : u2.heap[u1.heap.size]? = some (.cells #[.string fr] 9) := by rw [hu2]; exact heap_alloc_new u1 _
  have b2 : Below u1.heap.size u1 u2 := by rw [hu2]; exact (Below.refl _ _).alloc (Nat.le_refl _) _
  rw [← hu2]
  clear hu1 hu2
  rw [show w.heap.size + 1 = u1.heap.size by omega]
  have hb : Below w.heap.size w u2 := b1.trans (b2.mono (by omega))
  have g1 : BxQ w.heap.size q u2 := (b2.block _ (by omega)).trans x1
  have g2 : BxS u1.heap.size fr u2 := x2
  have HW := hide (withD_any q s w u2 HS.out hb fr hnm hpl hl hkl u1.heap.size w.heap.size g2 g1 (by omega) (by omega))
  clear g1 g2 hb b1 b2 x1 x2
  refine HW.out.mono ?_
  rintro e w1 h
  have he : e = _ := h.1
  subst he
  have HA := hide h
  clear h HW
  go_wp2
  go_ret
  exact HA.out
end Go.Proofs.Ytpakihbejdpmoaa
