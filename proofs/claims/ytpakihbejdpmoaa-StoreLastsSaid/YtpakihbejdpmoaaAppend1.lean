/-
  store's Append: what it does with a file.
-/
import Derived.Test.YtpakihbejdpmoaaSize06
import Derived.Deep.RegionHeld3
namespace Go.Proofs.Ytpakihbejdpmoaa
open Go.RowKit Go.Maps
set_option linter.unusedVariables false

/-- A file in the place of the one that has its block. -/
def upd (files : List Fi) (f : Fi) : List Fi := files.map fun g => if g.q = f.q then f else g
theorem mem_upd {files : List Fi} {f g : Fi} (h : g ∈ upd files f) : g = f ∨ (g ∈ files ∧ g.q ≠ f.q) := by
  obtain ⟨x, hx, rfl⟩ := List.mem_map.1 h
  by_cases e : x.q = f.q
  · rw [if_pos e]; exact .inl rfl
  · rw [if_neg e]; exact .inr ⟨hx, e⟩
theorem upd_among {files : List Fi} {f : Fi} {q : Nat} (h : ∃ g ∈ files, g.q = q) : ∃ g ∈ upd files f, g.q = q := by
  obtain ⟨g, hg, rfl⟩ := h
  by_cases e : g.q = f.q
  · exact ⟨f, List.mem_map.2 ⟨g, hg, if_pos e⟩, e.symm⟩
  · exact ⟨g, List.mem_map.2 ⟨g, hg, if_neg e⟩, rfl⟩
theorem fi_eq {files : List Fi} (hp : files.Pairwise fun f g => f.q ≠ g.q) {f g : Fi} (hf : f ∈ files) (hg : g ∈ files) (e : f.q = g.q) : f = g := by
  have h1 := find_fi hp hf
  have h2 := find_fi hp hg
  rw [e, h2] at h1
  injection h1 with h1
  exact h1.symm
section
variable {q : Nat} {s : SS} {w w' : World}
theorem Sm.fq (h : Sm q s w) : s.files.Pairwise fun f g => f.q ≠ g.q := h.fap.imp fun h => h.1
theorem Sm.fapart (h : Sm q s w) {f g : Fi} (hf : f ∈ s.files) (hg : g ∈ s.files) (hne : g.q ≠ f.q) : Apart g.A f.A := by
  have key : ∀ l : List Fi, l.Pairwise (fun f g => f.q ≠ g.q ∧ Apart f.A g.A) → f ∈ l → g ∈ l → Apart g.A f.A := by
    intro l hl hf hg
    induction l with
    | nil => cases hf
    | cons x r ih =>
      rw [List.pairwise_cons] at hl
      rcases List.mem_cons.1 hf with h1 | h1
      · rcases List.mem_cons.1 hg with h2 | h2
        · exact absurd (by rw [h1, h2]) hne
        · rw [h1]; exact (hl.1 g h2).2.symm
      · rcases List.mem_cons.1 hg with h2 | h2
        · rw [h2]; exact (hl.1 f h1).2
        · exact ih hl.2 h1 h2
  exact key _ h.fap hf hg
/-- A file turned. -/
theorem Sm.turnFile (h : Sm q s w) {f f' : Fi} (hf : f ∈ s.files) (he : f'.q = f.q) (hk : Kept (fun k => k = f.q ∨ InRow f.A k) w w') (hb : FiB f' w') (hr : OwnB w' 0 5 f'.A f'.c f'.bs) (hsu : f'.sure ≤ f'.bs.length)
    (hat : ∀ k, InRow f'.A k → InRow f.A k ∨ w.heap.size ≤ k) : Sm q { s with files := upd s.files f' } w' := by
  have nk : ∀ {k t}, Kb w k t → t ≠ 71 → t ≠ 5 → ¬ (k = f.q ∨ InRow f.A k) := by
    rintro k t hk1 h1 h2 (e | e)
    · exact hk1.ne (h.kf hf) h1 e
    · exact hk1.ne (h.kr hf e) h2 rfl
  have nm : ∀ {k}, Km w k → ¬ (k = f.q ∨ InRow f.A k) := by
    rintro k hk1 (e | e)
    · exact (h.kf hf).nem hk1 e.symm
    · exact (h.kr hf e).nem hk1 rfl
  have np : ∀ k, InRow s.AP k → ¬ (k = f.q ∨ InRow f.A k) := by
    rintro k hp (e | e)
    · exact (h.planK k hp).ne (h.kf hf) (by decide) e
    · exact h.fplan f hf k hp e
  have ng : ∀ g ∈ s.files, g.q ≠ f.q → (¬ (g.q = f.q ∨ InRow f.A g.q)) ∧ ∀ k, InRow g.A k → ¬ (k = f.q ∨ InRow f.A k) := by
    intro g hg hne
    refine ⟨?_, ?_⟩
    · rintro (e | e)
      · exact hne e
      · exact (h.kr hf e).ne (h.kf hg) (by decide) rfl
    · rintro k h1 (e | e)
      · exact (h.kr hg h1).ne (h.kf hf) (by decide) e
      · exact h.fapart hf hg hne k h1 e
  have hall : ∀ {P : Fi → Prop}, P f' → (∀ g ∈ s.files, g.q ≠ f.q → P g) → ∀ g ∈ upd s.files f', P g := by
    intro P h1 h2 g hg
    rcases mem_upd hg with rfl | ⟨h3, h4⟩
    · exact h1
    · exact h2 g h3 (by rw [← he]; exact h4)
  refine ⟨(hk.block q h.kq.lt (nk h.kq (by decide) (by decide))).trans h.box, dir_kept h.mnow hk (nm h.kn), dir_kept h.mdisk hk (nm h.kd), h.ne, hk.own h.row (fun k hr => nk (h.kk hr) (by decide) (by decide)),
    (hk.bytes h.plan (Nat.le_refl _) ?_).more hk.size, h.pcap, fun k hp => (h.planK k hp).kept hk (np k hp), hall hb (fun g hg hne => (hk.block g.q (h.kf hg).lt (ng g hg hne).1).trans (h.fbox g hg)), hall hr (fun g hg hne => hk.own (h.frow g hg) (ng g hg hne).2),
    hall hsu (fun g hg _ => h.fsure g hg), ?_, hall ?_ (fun g hg _ => h.fplan g hg), fun e he => upd_among (h.nnow e he), fun e he => upd_among (h.ndisk e he), ?_⟩
  · intro _ a ha e
    exact np a.block (by unfold InRow; rw [ha]; rfl) e
  · unfold upd
    rw [List.pairwise_map]
    refine h.fap.imp_of_mem ?_
    intro a b ha hb hab
    by_cases e1 : a.q = f'.q
    · have e2 : b.q ≠ f'.q := fun e => hab.1 (e1.trans e.symm)
      rw [if_pos e1, if_neg e2]
      refine ⟨fun e => e2 e.symm, fun k h1 h2 => ?_⟩
      rcases hat k h1 with h3 | h3
      · exact h.fapart hf hb (by rw [← he]; exact e2) k h2 h3
      · have := (h.kr hb h2).lt; omega
    · rw [if_neg e1]
      by_cases e2 : b.q = f'.q
      · rw [if_pos e2]
        refine ⟨e1, fun k h1 h2 => ?_⟩
        rcases hat k h2 with h3 | h3
        · exact h.fapart hf ha (by rw [← he]; exact e1) k h1 h3
        · have := (h.kr ha h1).lt; omega
      · rw [if_neg e2]
        exact hab
  · intro k h1 h2
    rcases hat k h2 with h3 | h3
    · exact h.fplan f hf k h1 h3
    · have := (h.planK k h1).lt; omega
  · intro p hp
    obtain ⟨h1, h2⟩ := h.kp p hp
    refine ⟨h1.kept hk (fun k hb => ?_), ?_⟩
    · rcases h1.kind hb with g | g
      · exact nk g (by decide) (by decide)
      · exact nk g (by decide) (by decide)
    · unfold Chg.among at h2 ⊢
      cases hc : p.ch with
      | put _ _ => rw [hc] at h2; exact upd_among h2
      | ren _ _ _ => rw [hc] at h2; exact upd_among h2
      | del _ => trivial
end
end Go.Proofs.Ytpakihbejdpmoaa
