/-
  store's change: one made, and kept.
-/
import Derived.Test.YtpakihbejdpmoaaChange
import Derived.Test.YtpakihbejdpmoaaStepRow
import Derived.Test.YtpakihbejdpmoaaStep
namespace Go.Proofs.Ytpakihbejdpmoaa
open Go.RowKit Go.Maps
set_option linter.unusedVariables false

theorem info_fn : (Try.prog.info? 73).map (fun i => (i.zero, i.size, i.bytes)) = some (some .nilFunc, 1, 8) := by kernel_rfl

/-- The blocks that a change turns. -/
def ChgS (q : Nat) (s : SS) (k : Nat) : Prop := k = q ∨ k = s.bn ∨ InRow s.AK k
section
variable {q : Nat} {s : SS} {w w' : World}
theorem Sm.changed (h : Sm q s w) (hk : Kept (ChgS q s) w w') {now : Dir} {p : Kp} {AK : Option Addr} {cK : Nat} (hb : StB q { s with now := now, kept := s.kept ++ [p], AK := AK, cK := cK } w') (hn : OwnsDir w' s.bn now)
    (hr : w'.ownsRow 0 73 1 (.slice AK (s.kept ++ [p]).length cK) (s.kept ++ [p]).length ((s.kept ++ [p]).map Kp.v)) (hm : ∀ e ∈ now, ∃ f ∈ s.files, f.q = e.2) (hp : p.Ok w) (hpa : p.ch.among s.files) :
    Sm q { s with now := now, kept := s.kept ++ [p], AK := AK, cK := cK } w' := by
  have nb : ∀ {k t}, Kb w k t → t ≠ 58 → t ≠ 73 → ¬ ChgS q s k := by
    intro k t hk1 h1 h2 hS
    rcases hS with e | e | e
    · exact hk1.ne h.kq h1 e
    · exact hk1.nem h.kn e
    · exact hk1.ne (h.kk e) h2 rfl
  have nd : ¬ ChgS q s s.bd := by
    rintro (e | e | e)
    · exact (h.kq.nem h.kd) e.symm
    · exact h.ne e.symm
    · exact ((h.kk e).nem h.kd) rfl
  have nk : ∀ {p : Kp}, p.Ok w → ∀ k, p.box k → ¬ ChgS q s k := by
    intro p ho k hb
    rcases ho.kind hb with g | g
    · exact nb g (by decide) (by decide)
    · exact nb g (by decide) (by decide)
  refine ⟨hb, hn, dir_kept h.mdisk hk nd, h.ne, hr, (hk.bytes h.plan (Nat.le_refl _) ?_).more hk.size, h.pcap, fun k hr => (h.planK k hr).kept hk (nb (h.planK k hr) (by decide) (by decide)),
    fun f hf => (hk.block f.q (h.kf hf).lt (nb (h.kf hf) (by decide) (by decide))).trans (h.fbox f hf), fun f hf => hk.own (h.frow f hf) (fun k hr => nb (h.kr hf hr) (by decide) (by decide)), h.fsure, h.fap, h.fplan, hm, h.ndisk, ?_⟩
  · intro _ a ha e
    exact nb (h.planK a.block (by unfold InRow; rw [ha]; rfl)) (by decide) (by decide) e
  · intro p' hp'
    rcases List.mem_append.1 hp' with g | g
    · exact ⟨(h.kp p' g).1.kept hk (nk (h.kp p' g).1), (h.kp p' g).2⟩
    · rw [List.mem_singleton.1 g]
      exact ⟨hp.kept hk (nk hp), hpa⟩
end
/-- What a change does: it turns blocks of the store alone; those that it has behind it are its own, or new, or the kept function's boxes. -/
structure Chd (q : Nat) (s : SS) (w : World) (p : Kp) (s' : SS) (w' : World) : Prop where
  sm : Sm q s' w'
  kept : Kept (s.own q) w w'
  own : ∀ k, s'.own q k → s.own q k ∨ w.heap.size ≤ k ∨ p.box k

set_option maxRecDepth 100000 in
set_option maxHeartbeats 2000000 in
theorem changeP_any (q : Nat) (s : SS) (w : World) (hs : Sm q s w) (b1 b2 b3 qf : Nat) (nm : ByteArray) (h1 : BxP b1 qf w) (h2 : BxS b2 nm w) (hl : s.now.length ≤ 1000000000) (hkl : s.kept.length ≤ 1000000000) (hnm : nm.size ≤ maxLen) (hq : ∃ f ∈ s.files, f.q = qf) :
    Calls Try.prog 40 #[.pointer (some ⟨q, 0, none⟩), (⟨b1, b2, b3, .put nm qf⟩ : Kp).v] w fun e w' => e = .returned (.tuple #[]) ∧ ∃ AK cK, Chd q s w ⟨b1, b2, b3, .put nm qf⟩ { s with now := Chg.app (.put nm qf) s.now, kept := s.kept ++ [⟨b1, b2, b3, .put nm qf⟩], AK := AK, cK := cK } w' := by
  have c1 := hs.box.cell 1
  simp at c1
  have HC := hide (create1_any w s.bn b1 b2 qf nm s.now hs.mnow h1 h2 hl hnm)
  obtain ⟨p, hp⟩ : ∃ p : Kp, p = ⟨b1, b2, b3, .put nm qf⟩ := ⟨_, rfl⟩
  have hpv : p.v = .func (.func 41) #[] #[.pointer (some ⟨b1, 0, none⟩), .pointer (some ⟨b2, 0, none⟩)] := by rw [hp]; rfl
  have hpo : p.Ok w := by rw [hp]; exact ⟨h1, h2⟩
  have hpa : p.ch.among s.files := by rw [hp]; exact hq
  have hap : ∀ l, Chg.app (.put nm qf) l = Chg.app p.ch l := by intro l; rw [hp]
  have hmem : ∀ e ∈ Chg.app p.ch s.now, ∃ f ∈ s.files, f.q = e.2 := by
    intro e he
    rw [hp] at he
    rcases mem_dPut he with rfl | he
    · exact hq
    · exact hs.nnow e he
  rw [hap, ← hp, hpv]
  have hcr : dPut s.now nm.data.toList qf = Chg.app p.ch s.now := by rw [hp]; rfl
  rw [hcr] at HC
  generalize Chg.app p.ch s.now = now at *
  have HPV := hide hpv
  have HPO := hide hpo
  have HPA := hide hpa
  have HMEM := hide hmem
  have HS := hide hs
  clear hcr hap hmem hpa hpo hpv hp h1 h2 hq
  go_enter Try.func40, Try.ntmps40
  go_wp2_with (go_at_call 41; refine halted ?_)
  refine go_on ?_
  refine HC.out.mono ?_
  clear HC
  rintro e w1 ⟨rfl, hd1, hg1⟩
  have hk1 : Kept (ChgS q s) w w1 := Kept.of_grown hg1 (fun k hk => by injection hk with hk; exact .inr (.inl hk.symm))
  have hkb : Kept (fun k => k = s.bn) w w1 := Kept.of_grown hg1 (fun k hk => by injection hk with hk; exact hk.symm)
  have hqn : q ≠ s.bn := HS.out.kq.nem HS.out.kn
  have hbx1 : StB q s w1 := (hkb.block q HS.out.kq.lt hqn).trans HS.out.box
  have hrow1 := hkb.own HS.out.row (fun k hk e => (HS.out.kk hk).nem HS.out.kn e)
  have c3 := hbx1.cell 3
  have f3 := hbx1.free 3
  simp at c3
  obtain ⟨i0, hi, hz0, hz1, hz2⟩ := info_parts info_fn
  have hqlt : q < w1.heap.size := (Array.getElem?_eq_some_iff.1 hbx1).1
  have HBX := hide hbx1
  have HROW := hide hrow1
  have HD1 := hide hd1
  clear hs hg1 hbx1 hrow1 hd1 c1
  go_wp2_with (at_builtin; refine halted ?_)
  refine go_on ?_
  refine wpList_append_own _ rfl (.tmp 14) (.tmp 16) 56 rfl 0 73 i0 _ 1 8 Try.underlying56 hi hz0 hz1 hz2 rfl (by decide) s.AK s.kept.length s.cK (s.kept.map Kp.v) rfl (World.ownsRow.alloc HROW.out _) _ _ 1 _ [.func (.func 41) #[] #[.pointer (some ⟨b1, 0, none⟩), .pointer (some ⟨b2, 0, none⟩)]] rfl rfl (Row.new w1 #[.func (.func 41) #[] #[.pointer (some ⟨b1, 0, none⟩), .pointer (some ⟨b2, 0, none⟩)]] 73 (0, 0)) (by intro u hu; simp at hu; subst hu; rfl) (by unfold maxLen; omega) (by omega) (Nat.zero_le _) ?_
  intro n' xs' A5 c5 w5 hn' hxs' _ _ hown5 hg5 hat5
  obtain rfl : n' = (s.kept ++ [p]).length := by rw [hn'.out]; simp
  obtain rfl : xs' = (s.kept ++ [p]).map Kp.v := by rw [hxs'.out, List.map_append, ← HPV.out]; rfl
  have hk5 : Kept (InRow s.AK) w1 w5 := ((Kept.refl w1).alloc _).trans (Kept.of_grown hg5 (fun k e => e))
  have hqr : ¬ InRow s.AK q := fun e => (HS.out.kk e).ne HS.out.kq (by decide) rfl
  have hbx5 : StB q s w5 := (hk5.block q hqlt hqr).trans HBX.out
  have hd5 : OwnsDir w5 s.bn now := dir_kept HD1.out hk5 (fun e => ((HS.out.kk e).nem HS.out.kn) rfl)
  have c35 := hbx5.cell 3
  have f35 := hbx5.free 3
  simp at c35
  have hb6 : StB q { s with now := now, kept := s.kept ++ [p], AK := A5, cK := c5 } (w5.setCell ⟨q, 3, none⟩ (.slice A5 (s.kept ++ [p]).length c5)) := hbx5.set 3 _
  have hk6 : Kept (ChgS q s) w (w5.setCell ⟨q, 3, none⟩ (.slice A5 (s.kept ++ [p]).length c5)) := (hk1.trans (hk5.wider fun k _ e => .inr (.inr e))).trans (Kept.set w5 (.inl rfl) 3 _)
  have hq5 := keptQ w5 q 3 (.slice A5 (s.kept ++ [p]).length c5)
  have hr6 := hq5.own hown5 (fun k hk e => (Kb.of_row hown5 hk).ne ⟨_, _, hbx5⟩ (by decide) e)
  have hd6 := dir_kept hd5 hq5 (fun e => hqn e.symm)
  have hsm := HS.out.changed hk6 hb6 hd6 hr6 HMEM.out HPO.out HPA.out
  have hch : Chd q s w p { s with now := now, kept := s.kept ++ [p], AK := A5, cK := c5 } (w5.setCell ⟨q, 3, none⟩ (.slice A5 (s.kept ++ [p]).length c5)) := by
    refine ⟨hsm, hk6.wider fun k _ e => by
      rcases e with e | e | e
      · exact .inl e
      · exact .inr (.inl e)
      · exact .inr (.inr (.inr (.inl e))), ?_⟩
    rintro k (e | e | e | e | e | e | ⟨p', hp', e⟩)
    · exact .inl (.inl e)
    · exact .inl (.inr (.inl e))
    · exact .inl (.inr (.inr (.inl e)))
    · rcases hat5 with g | g
      · exact .inl (.inr (.inr (.inr (.inl (by unfold InRow at e ⊢; rw [← g]; exact e)))))
      · refine .inr (.inl ?_)
        unfold InRow at e
        have e : A5.map (·.block) = some k := e
        rw [g] at e
        injection e with e
        have := hk1.size
        rw [← e]
        simp
        omega
    · exact .inl (.inr (.inr (.inr (.inr (.inl e)))))
    · exact .inl (.inr (.inr (.inr (.inr (.inr (.inl e))))))
    · rcases List.mem_append.1 hp' with g | g
      · exact .inl (.inr (.inr (.inr (.inr (.inr (.inr ⟨p', g, e⟩))))))
      · rw [List.mem_singleton.1 g] at e
        exact .inr (.inr e)
  have hl1 : (s.kept ++ [p]).length = s.kept.length + 1 := by simp
  rw [hl1] at hch
  have HCH := hide hch
  clear hn' hxs' hown5 hg5 hat5 hk5 hbx5 hd5 hb6 hk6 hq5 hr6 hd6 hsm hch hk1 hkb c3 f3 hl1
  go_wp2
  go_end0
  exact ⟨rfl, A5, c5, HCH.out⟩
end Go.Proofs.Ytpakihbejdpmoaa
