/-
  store's change, with the functions that Rename and Remove keep.
-/
import Derived.Test.YtpakihbejdpmoaaChange2
namespace Go.Proofs.Ytpakihbejdpmoaa
open Go.RowKit Go.Maps
set_option linter.unusedVariables false

set_option maxRecDepth 100000 in
set_option maxHeartbeats 2000000 in
theorem changeR_any (q : Nat) (s : SS) (w : World) (hs : Sm q s w) (b1 b2 b3 qf : Nat) (fr to : ByteArray) (h1 : BxS b1 fr w) (h2 : BxP b2 qf w) (h3 : BxS b3 to w) (hl : s.now.length ≤ 1000000000) (hkl : s.kept.length ≤ 1000000000) (hnm : fr.size ≤ maxLen) (hnt : to.size ≤ maxLen) (hq : ∃ f ∈ s.files, f.q = qf) :
    Calls Try.prog 40 #[.pointer (some ⟨q, 0, none⟩), (⟨b1, b2, b3, .ren fr to qf⟩ : Kp).v] w fun e w' => e = .returned (.tuple #[]) ∧ ∃ AK cK, Chd q s w ⟨b1, b2, b3, .ren fr to qf⟩ { s with now := Chg.app (.ren fr to qf) s.now, kept := s.kept ++ [⟨b1, b2, b3, .ren fr to qf⟩], AK := AK, cK := cK } w' := by
  have c1 := hs.box.cell 1
  simp at c1
  have HC := hide (rename1_any w s.bn b1 b2 b3 qf fr to s.now hs.mnow h1 h2 h3 (fun e => (show Kb w b1 9 from ⟨_, _, h1⟩).nem hs.kn e) (fun e => (show Kb w b2 68 from ⟨_, _, h2⟩).nem hs.kn e) (fun e => (show Kb w b3 9 from ⟨_, _, h3⟩).nem hs.kn e) hl hnm hnt)
  obtain ⟨p, hp⟩ : ∃ p : Kp, p = ⟨b1, b2, b3, .ren fr to qf⟩ := ⟨_, rfl⟩
  have hpv : p.v = .func (.func 46) #[] #[.pointer (some ⟨b1, 0, none⟩), .pointer (some ⟨b2, 0, none⟩), .pointer (some ⟨b3, 0, none⟩)] := by rw [hp]; rfl
  have hpo : p.Ok w := by rw [hp]; exact ⟨h1, h2, h3⟩
  have hpa : p.ch.among s.files := by rw [hp]; exact hq
  have hap : ∀ l, Chg.app (.ren fr to qf) l = Chg.app p.ch l := by intro l; rw [hp]
  have hmem : ∀ e ∈ Chg.app p.ch s.now, ∃ f ∈ s.files, f.q = e.2 := by
    intro e he
    rw [hp] at he
    rcases mem_dPut he with rfl | he
    · exact hq
    · exact hs.nnow e (mem_dDel he)
  rw [hap, ← hp, hpv]
  have hcr : dPut (dDel s.now fr.data.toList) to.data.toList qf = Chg.app p.ch s.now := by rw [hp]; rfl
  rw [hcr] at HC
  generalize Chg.app p.ch s.now = now at *
  have HPV := hide hpv
  have HPO := hide hpo
  have HPA := hide hpa
  have HMEM := hide hmem
  have HS := hide hs
  clear hcr hap hmem hpa hpo hpv hp h1 h2 h3 hq
  go_enter Try.func40, Try.ntmps40
  go_wp2_with (go_at_call 46; refine halted ?_)
  refine go_on ?_
  refine HC.out.mono ?_
  clear HC
  rintro e w1 ⟨rfl, hd1, hg1⟩
  have hk1 : Kept (ChgS q s) w w1 := Kept.of_grown hg1 (fun k hk => by injection hk with hk; exact .inr (.inl hk.symm))
  have hkb : Kept (fun k => k = s.bn) w w1 := Kept.of_grown hg1 (fun k hk => by injection hk with hk; exact hk.symm)
  have hqn : q ≠ s.bn := HS.out.kq.nem HS.out.kn
  have hbx1 : StB q s w1 := (hkb.block q HS.out.kq.lt hqn).trans HS.out.box
  have hrow1 := hkb.own HS.out.row (fun k hk e => (HS.out.kk hk).nem HS.out.kn e)
  have c3 := hbx1.cell 3
  have f3 := hbx1.free 3
  simp at c3
  obtain ⟨i0, hi, hz0, hz1, hz2⟩ := info_parts info_fn
  have hqlt : q < w1.heap.size := (Array.getElem?_eq_some_iff.1 hbx1).1
  have HBX := hide hbx1
  have HROW := hide hrow1
  have HD1 := hide hd1
  clear hs hg1 hbx1 hrow1 hd1 c1
  go_wp2_with (at_builtin; refine halted ?_)
  refine go_on ?_
  refine wpList_append_own _ rfl (.tmp 14) (.tmp 16) 56 rfl 0 73 i0 _ 1 8 Try.underlying56 hi hz0 hz1 hz2 rfl (by decide) s.AK s.kept.length s.cK (s.kept.map Kp.v) rfl (World.ownsRow.alloc HROW.out _) _ _ 1 _ [.func (.func 46) #[] #[.pointer (some ⟨b1, 0, none⟩), .pointer (some ⟨b2, 0, none⟩), .pointer (some ⟨b3, 0, none⟩)]] rfl rfl (Row.new w1 #[.func (.func 46) #[] #[.pointer (some ⟨b1, 0, none⟩), .pointer (some ⟨b2, 0, none⟩), .pointer (some ⟨b3, 0, none⟩)]] 73 (0, 0)) (by intro u hu; simp at hu; subst hu; rfl) (by unfold maxLen; omega) (by omega) (Nat.zero_le _) ?_
  intro n' xs' A5 c5 w5 hn' hxs' _ _ hown5 hg5 hat5
  obtain rfl : n' = (s.kept ++ [p]).length := by rw [hn'.out]; simp
  obtain rfl : xs' = (s.kept ++ [p]).map Kp.v := by rw [hxs'.out, List.map_append, ← HPV.out]; rfl
  have hk5 : Kept (InRow s.AK) w1 w5 := ((Kept.refl w1).alloc _).trans (Kept.of_grown hg5 (fun k e => e))
  have hqr : ¬ InRow s.AK q := fun e => (HS.out.kk e).ne HS.out.kq (by decide) rfl
  have hbx5 : StB q s w5 := (hk5.block q hqlt hqr).trans HBX.out
  have hd5 : OwnsDir w5 s.bn now := dir_kept HD1.out hk5 (fun e => ((HS.out.kk e).nem HS.out.kn) rfl)
  have c35 := hbx5.cell 3
  have f35 := hbx5.free 3
  simp at c35
  have hb6 : StB q { s with now := now, kept := s.kept ++ [p], AK := A5, cK := c5 } (w5.setCell ⟨q, 3, none⟩ (.slice A5 (s.kept ++ [p]).length c5)) := hbx5.set 3 _
  have hk6 : Kept (ChgS q s) w (w5.setCell ⟨q, 3, none⟩ (.slice A5 (s.kept ++ [p]).length c5)) := (hk1.trans (hk5.wider fun k _ e => .inr (.inr e))).trans (Kept.set w5 (.inl rfl) 3 _)
  have hq5 := keptQ w5 q 3 (.slice A5 (s.kept ++ [p]).length c5)
  have hr6 := hq5.own hown5 (fun k hk e => (Kb.of_row hown5 hk).ne ⟨_, _, hbx5⟩ (by decide) e)
  have hd6 := dir_kept hd5 hq5 (fun e => hqn e.symm)
  have hsm := HS.out.changed hk6 hb6 hd6 hr6 HMEM.out HPO.out HPA.out
  have hch : Chd q s w p { s with now := now, kept := s.kept ++ [p], AK := A5, cK := c5 } (w5.setCell ⟨q, 3, none⟩ (.slice A5 (s.kept ++ [p]).length c5)) := by
    refine ⟨hsm, hk6.wider fun k _ e => by
      rcases e with e | e | e
      · exact .inl e
      · exact .inr (.inl e)
      · exact .inr (.inr (.inr (.inl e))), ?_⟩
    rintro k (e | e | e | e | e | e | ⟨p', hp', e⟩)
    · exact .inl (.inl e)
    · exact .inl (.inr (.inl e))
    · exact .inl (.inr (.inr (.inl e)))
    · rcases hat5 with g | g
      · exact .inl (.inr (.inr (.inr (.inl (by unfold InRow at e ⊢; rw [← g]; exact e)))))
      · refine .inr (.inl ?_)
        unfold InRow at e
        have e : A5.map (·.block) = some k := e
        rw [g] at e
        injection e with e
        have := hk1.size
        rw [← e]
        simp
        omega
    · exact .inl (.inr (.inr (.inr (.inr (.inl e)))))
    · exact .inl (.inr (.inr (.inr (.inr (.inr (.inl e))))))
    · rcases List.mem_append.1 hp' with g | g
      · exact .inl (.inr (.inr (.inr (.inr (.inr (.inr ⟨p', g, e⟩))))))
      · rw [List.mem_singleton.1 g] at e
        exact .inr (.inr e)
  have hl1 : (s.kept ++ [p]).length = s.kept.length + 1 := by simp
  rw [hl1] at hch
  have HCH := hide hch
  clear hn' hxs' hown5 hg5 hat5 hk5 hbx5 hd5 hb6 hk6 hq5 hr6 hd6 hsm hch hk1 hkb c3 f3 hl1
  go_wp2
  go_end0
  exact ⟨rfl, A5, c5, HCH.out⟩

set_option maxRecDepth 100000 in
set_option maxHeartbeats 2000000 in
theorem changeD_any (q : Nat) (s : SS) (w : World) (hs : Sm q s w) (b1 b2 b3 : Nat) (nm : ByteArray) (h1 : BxS b1 nm w) (hl : s.now.length ≤ 1000000000) (hkl : s.kept.length ≤ 1000000000) (hnm : nm.size ≤ maxLen) :
    Calls Try.prog 40 #[.pointer (some ⟨q, 0, none⟩), (⟨b1, b2, b3, .del nm⟩ : Kp).v] w fun e w' => e = .returned (.tuple #[]) ∧ ∃ AK cK, Chd q s w ⟨b1, b2, b3, .del nm⟩ { s with now := Chg.app (.del nm) s.now, kept := s.kept ++ [⟨b1, b2, b3, .del nm⟩], AK := AK, cK := cK } w' := by
  have c1 := hs.box.cell 1
  simp at c1
  have HC := hide (remove1_any w s.bn b1 nm s.now hs.mnow h1 hnm)
  obtain ⟨p, hp⟩ : ∃ p : Kp, p = ⟨b1, b2, b3, .del nm⟩ := ⟨_, rfl⟩
  have hpv : p.v = .func (.func 56) #[] #[.pointer (some ⟨b1, 0, none⟩)] := by rw [hp]; rfl
  have hpo : p.Ok w := by rw [hp]; exact h1
  have hpa : p.ch.among s.files := by rw [hp]; trivial
  have hap : ∀ l, Chg.app (.del nm) l = Chg.app p.ch l := by intro l; rw [hp]
  have hmem : ∀ e ∈ Chg.app p.ch s.now, ∃ f ∈ s.files, f.q = e.2 := by
    intro e he
    rw [hp] at he
    exact hs.nnow e (mem_dDel he)
  rw [hap, ← hp, hpv]
  have hcr : dDel s.now nm.data.toList = Chg.app p.ch s.now := by rw [hp]; rfl
  rw [hcr] at HC
  generalize Chg.app p.ch s.now = now at *
  have HPV := hide hpv
  have HPO := hide hpo
  have HPA := hide hpa
  have HMEM := hide hmem
  have HS := hide hs
  clear hcr hap hmem hpa hpo hpv hp h1
  go_enter Try.func40, Try.ntmps40
  go_wp2_with (go_at_call 56; refine halted ?_)
  refine go_on ?_
  refine HC.out.mono ?_
  clear HC
  rintro e w1 ⟨rfl, hd1, hg1⟩
  have hk1 : Kept (ChgS q s) w w1 := Kept.of_grown hg1 (fun k hk => by injection hk with hk; exact .inr (.inl hk.symm))
  have hkb : Kept (fun k => k = s.bn) w w1 := Kept.of_grown hg1 (fun k hk => by injection hk with hk; exact hk.symm)
  have hqn : q ≠ s.bn := HS.out.kq.nem HS.out.kn
  have hbx1 : StB q s w1 := (hkb.block q HS.out.kq.lt hqn).trans HS.out.box
  have hrow1 := hkb.own HS.out.row (fun k hk e => (HS.out.kk hk).nem HS.out.kn e)
  have c3 := hbx1.cell 3
  have f3 := hbx1.free 3
  simp at c3
  obtain ⟨i0, hi, hz0, hz1, hz2⟩ := info_parts info_fn
  have hqlt : q < w1.heap.size := (Array.getElem?_eq_some_iff.1 hbx1).1
  have HBX := hide hbx1
  have HROW := hide hrow1
  have HD1 := hide hd1
  clear hs hg1 hbx1 hrow1 hd1 c1
  go_wp2_with (at_builtin; refine halted ?_)
  refine go_on ?_
  refine wpList_append_own _ rfl (.tmp 14) (.tmp 16) 56 rfl 0 73 i0 _ 1 8 Try.underlying56 hi hz0 hz1 hz2 rfl (by decide) s.AK s.kept.length s.cK (s.kept.map Kp.v) rfl (World.ownsRow.alloc HROW.out _) _ _ 1 _ [.func (.func 56) #[] #[.pointer (some ⟨b1, 0, none⟩)]] rfl rfl (Row.new w1 #[.func (.func 56) #[] #[.pointer (some ⟨b1, 0, none⟩)]] 73 (0, 0)) (by intro u hu; simp at hu; subst hu; rfl) (by unfold maxLen; omega) (by omega) (Nat.zero_le _) ?_
  intro n' xs' A5 c5 w5 hn' hxs' _ _ hown5 hg5 hat5
  obtain rfl : n' = (s.kept ++ [p]).length := by rw [hn'.out]; simp
  obtain rfl : xs' = (s.kept ++ [p]).map Kp.v := by rw [hxs'.out, List.map_append, ← HPV.out]; rfl
  have hk5 : Kept (InRow s.AK) w1 w5 := ((Kept.refl w1).alloc _).trans (Kept.of_grown hg5 (fun k e => e))
  have hqr : ¬ InRow s.AK q := fun e => (HS.out.kk e).ne HS.out.kq (by decide) rfl
  have hbx5 : StB q s w5 := (hk5.block q hqlt hqr).trans HBX.out
  have hd5 : OwnsDir w5 s.bn now := dir_kept HD1.out hk5 (fun e => ((HS.out.kk e).nem HS.out.kn) rfl)
  have c35 := hbx5.cell 3
  have f35 := hbx5.free 3
  simp at c35
  have hb6 : StB q { s with now := now, kept := s.kept ++ [p], AK := A5, cK := c5 } (w5.setCell ⟨q, 3, none⟩ (.slice A5 (s.kept ++ [p]).length c5)) := hbx5.set 3 _
  have hk6 : Kept (ChgS q s) w (w5.setCell ⟨q, 3, none⟩ (.slice A5 (s.kept ++ [p]).length c5)) := (hk1.trans (hk5.wider fun k _ e => .inr (.inr e))).trans (Kept.set w5 (.inl rfl) 3 _)
  have hq5 := keptQ w5 q 3 (.slice A5 (s.kept ++ [p]).length c5)
  have hr6 := hq5.own hown5 (fun k hk e => (Kb.of_row hown5 hk).ne ⟨_, _, hbx5⟩ (by decide) e)
  have hd6 := dir_kept hd5 hq5 (fun e => hqn e.symm)
  have hsm := HS.out.changed hk6 hb6 hd6 hr6 HMEM.out HPO.out HPA.out
  have hch : Chd q s w p { s with now := now, kept := s.kept ++ [p], AK := A5, cK := c5 } (w5.setCell ⟨q, 3, none⟩ (.slice A5 (s.kept ++ [p]).length c5)) := by
    refine ⟨hsm, hk6.wider fun k _ e => by
      rcases e with e | e | e
      · exact .inl e
      · exact .inr (.inl e)
      · exact .inr (.inr (.inr (.inl e))), ?_⟩
    rintro k (e | e | e | e | e | e | ⟨p', hp', e⟩)
    · exact .inl (.inl e)
    · exact .inl (.inr (.inl e))
    · exact .inl (.inr (.inr (.inl e)))
    · rcases hat5 with g | g
      · exact .inl (.inr (.inr (.inr (.inl (by unfold InRow at e ⊢; rw [← g]; exact e)))))
      · refine .inr (.inl ?_)
        unfold InRow at e
        have e : A5.map (·.block) = some k := e
        rw [g] at e
        injection e with e
        have := hk1.size
        rw [← e]
        simp
        omega
    · exact .inl (.inr (.inr (.inr (.inr (.inl e)))))
    · exact .inl (.inr (.inr (.inr (.inr (.inr (.inl e))))))
    · rcases List.mem_append.1 hp' with g | g
      · exact .inl (.inr (.inr (.inr (.inr (.inr (.inr ⟨p', g, e⟩))))))
      · rw [List.mem_singleton.1 g] at e
        exact .inr (.inr e)
  have hl1 : (s.kept ++ [p]).length = s.kept.length + 1 := by simp
  rw [hl1] at hch
  have HCH := hide hch
  clear hn' hxs' hown5 hg5 hat5 hk5 hbx5 hd5 hb6 hk6 hq5 hr6 hd6 hsm hch hk1 hkb c3 f3 hl1
  go_wp2
  go_end0
  exact ⟨rfl, A5, c5, HCH.out⟩
end Go.Proofs.Ytpakihbejdpmoaa
