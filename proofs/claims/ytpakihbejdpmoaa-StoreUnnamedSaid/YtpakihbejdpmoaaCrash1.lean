/-
  store's Crash: the changes that are made, the files that are cut.
-/
import Derived.Test.YtpakihbejdpmoaaCrash0
namespace Go.Proofs.Ytpakihbejdpmoaa
open Go.RowKit Go.Maps
set_option linter.unusedVariables false

section
variable {q : Nat} {s : SS} {w w' : World}
/-- The synced directory turned. -/
theorem Sm.redisk (h : Sm q s w) {D : Dir} (hk : Kept (fun k => k = s.bd) w w') (hd : OwnsDir w' s.bd D) (hf : ∀ e ∈ D, ∃ f ∈ s.files, f.q = e.2) : Sm q { s with disk := D } w' := by
  have nb : ∀ {k t}, Kb w k t → ¬ k = s.bd := fun hk e => hk.nem h.kd e
  refine ⟨(hk.block q h.kq.lt (nb h.kq)).trans h.box, dir_kept h.mnow hk h.ne, hd, h.ne, hk.own h.row (fun k hr => nb (h.kk hr)), (hk.bytes h.plan (Nat.le_refl _) ?_).more hk.size, h.pcap, fun k hr => (h.planK k hr).kept hk (nb (h.planK k hr)),
    fun f hf => (hk.block f.q (h.kf hf).lt (nb (h.kf hf))).trans (h.fbox f hf), fun f hf => hk.own (h.frow f hf) (fun k hr => nb (h.kr hf hr)), h.fsure, h.fap, h.fplan, h.nnow, hf, fun p hp => ⟨(h.kp p hp).1.kept hk (fun k hb e => (h.kp p hp).1.nem hb h.kd e), (h.kp p hp).2⟩⟩
  intro _ a ha e
  exact nb (h.planK a.block (by unfold InRow; rw [ha]; rfl)) e
/-- A file cut. -/
theorem Sm.cutFile (h : Sm q s w) {f : Fi} (hf : f ∈ s.files) {n : Nat} (hn : f.sure + n ≤ f.bs.length) (hk : Kept (fun k => k = f.q) w w')
    (hb : w'.heap[f.q]? = some (.cells #[.slice f.A (f.sure + n) f.c, .int .i64 ((f.sure + n : Nat) : Int)] 71 (0, 0))) : Sm q { s with files := upd s.files (f.cut n) } w' := by
  have hl : (f.bs.take (f.sure + n)).length = f.sure + n := by rw [List.length_take]; omega
  have hown : OwnB w' 0 5 f.A f.c (f.bs.take (f.sure + n)) := hk.own (OwnB.cut (h.frow f hf) hn) (fun k hr e => (h.kr hf hr).ne (h.kf hf) (by decide) e)
  refine h.turnFile (f' := f.cut n) hf rfl (hk.wider fun k _ e => .inl e) ?_ hown (Nat.le_of_eq hl.symm) (fun k h => .inl h)
  show w'.heap[f.q]? = some (.cells #[.slice f.A (f.bs.take (f.sure + n)).length f.c, .int .i64 ((f.sure + n : Nat) : Int)] 71 (0, 0))
  rw [hl]
  exact hb
/-- Behind a crash. -/
theorem Sm.crashed (h : Sm q s w) (hk : Kept (fun k => k = q) w w') {bd : Nat} (hb : StB q { s with bn := s.bd, bd := bd, now := s.disk, AK := none, cK := 0, kept := [], AP := none, cP := 0, plan := [], off := false } w') (hd : OwnsDir w' bd s.disk) (hne : s.bd ≠ bd) :
    Sm q { s with bn := s.bd, bd := bd, now := s.disk, AK := none, cK := 0, kept := [], AP := none, cP := 0, plan := [], off := false } w' := by
  have n1 : ¬ s.bd = q := fun e => (h.kq.nem h.kd) e.symm
  exact ⟨hb, dir_kept h.mdisk hk n1, hd, hne, World.ownsRow_nil _ _ _ _, Bytes.nil, Nat.le_refl _, fun k hr => (by unfold InRow at hr; simp at hr),
    fun f hf => (hk.block f.q (h.kf hf).lt (fun e => (h.kf hf).ne h.kq (by decide) e)).trans (h.fbox f hf), fun f hf => hk.own (h.frow f hf) (fun k hr e => (h.kr hf hr).ne h.kq (by decide) e), h.fsure, h.fap, fun f hf k hr => (by unfold InRow at hr; simp at hr), h.ndisk, h.ndisk, fun p hp => by cases hp⟩
end
theorem dir_small {w : World} {b : Nat} {l : Dir} (h : OwnsDir w b l) : ∀ e ∈ l, e.1.length ≤ maxLen := by
  obtain ⟨es, clock, _, F, _, hD⟩ := h
  unfold dirD at hD
  injection hD with hD
  intro e he
  have h1 : enD e ∈ l.map enD := List.mem_map.2 ⟨e, he, rfl⟩
  rw [hD] at h1
  obtain ⟨v, hv⟩ := Maps.fit_keys F _ ((Go.WideShapes.sorted_perm _).mem_iff.1 h1)
  obtain ⟨s, _, h2, h3⟩ := WideMaps.string_of_keyOf Try.underlying9 hv
  have h2 : Lit.string e.1 = .string s.data.toList := h2
  injection h2 with h2
  rw [h2]
  exact h3
theorem look_dir0 {w : World} {b : Nat} {l : Dir} (h : OwnsDir w b l) {nm : ByteArray} (hnm : nm.size ≤ maxLen) {qf : Nat} (hf : dFind l nm.data.toList = some qf) :
    (Instr.lookup 55 (.map (some b)) (.string nm) false).run Try.prog w = .ok (.pointer (some ⟨qf, 0, none⟩)) w := by
  obtain ⟨v, ps, hrun, hv⟩ := World.ownsMap.lookup (zp := []) h (string_keyed Try.underlying9) Try.underlying55 (zero_ptr w) (show ptrR (.pointer none) = some (.lit (.int .i64 (-1)), []) from rfl) (key_str hnm)
  rw [hrun]
  rw [dirD_at, hf] at hv
  rw [ptrR_some hv]

/-- The state ahead of the k-th file's cut. -/
def CrRel2 (q : Nat) (s : SS) (D : Dir) (kl : List Int) (wn : World) (i : Value) (wr : World) : Prop :=
  ∃ k : Nat, k ≤ D.length ∧ i = .int .i64 (k : Int) ∧ Sm q { s with disk := D, files := cutN kl D s.files k } wr ∧ Kept (s.own q) wn wr
theorem cutN_sub {q : Nat} {s : SS} {D : Dir} {kl : List Int} {k j : Nat} (h : SS.own q { s with disk := D, files := cutN kl D s.files k } j) : s.own q j := by
  rcases h with h | h | h | h | h | ⟨f, hf, h⟩ | h
  · exact .inl h
  · exact .inr (.inl h)
  · exact .inr (.inr (.inl h))
  · exact .inr (.inr (.inr (.inl h)))
  · exact .inr (.inr (.inr (.inr (.inl h))))
  · obtain ⟨g, hg, e1, e2⟩ := cutN_own k f hf
    rw [← e1, ← e2] at h
    exact .inr (.inr (.inr (.inr (.inr (.inl ⟨g, hg, h⟩)))))
  · exact .inr (.inr (.inr (.inr (.inr (.inr h)))))
theorem cutAt_len {kl : List Int} {i q : Nat} {fs : List Fi} : ∀ g ∈ cutAt kl i q fs, ∃ g0 ∈ fs, g.bs.length ≤ g0.bs.length := by
  unfold cutAt
  split
  · rename_i f hf
    intro g hg
    rcases mem_upd hg with rfl | ⟨h3, _⟩
    · exact ⟨f, List.mem_of_find?_eq_some hf, by unfold Fi.cut; dsimp only; rw [List.length_take]; omega⟩
    · exact ⟨g, h3, Nat.le_refl _⟩
  · intro g hg; exact ⟨g, hg, Nat.le_refl _⟩
theorem cutN_len {kl : List Int} {d : Dir} {fs : List Fi} (k : Nat) : ∀ g ∈ cutN kl d fs k, ∃ g0 ∈ fs, g.bs.length ≤ g0.bs.length := by
  induction k with
  | zero => intro g hg; exact ⟨g, hg, Nat.le_refl _⟩
  | succ k ih =>
    unfold cutN
    split
    · intro g hg
      obtain ⟨g1, h1, h2⟩ := cutAt_len g hg
      obtain ⟨g0, h4, h5⟩ := ih g1 h1
      exact ⟨g0, h4, Nat.le_trans h2 h5⟩
    · exact ih
/-- One file more is cut. -/
theorem CrRel2.next {q : Nat} {s : SS} {D : Dir} {kl : List Int} {wn wr w' : World} {k m : Nat} {e : List UInt8 × Nat} {f : Fi} (hk : D[k]? = some e) (hs : Sm q { s with disk := D, files := cutN kl D s.files k } wr) (hkp : Kept (s.own q) wn wr) (hf : f ∈ cutN kl D s.files k) (hq : f.q = e.2) (hm : m = keepN kl k f)
    (hk1 : Kept (fun k => k = f.q) wr w') (hb : w'.heap[f.q]? = some (.cells #[.slice f.A (f.sure + m) f.c, .int .i64 ((f.sure + m : Nat) : Int)] 71 (0, 0))) : CrRel2 q s D kl wn (.int .i64 ((k : Int) + 1)) w' := by
  subst hm
  have hlt := (List.getElem?_eq_some_iff.1 hk).1
  have he : cutN kl D s.files (k + 1) = upd (cutN kl D s.files k) (f.cut (keepN kl k f)) := by
    have e1 : cutN kl D s.files (k + 1) = match D[k]? with
      | some e => cutAt kl k e.2 (cutN kl D s.files k)
      | none => cutN kl D s.files k := rfl
    rw [e1, hk]
    dsimp only
    rw [← hq]
    unfold cutAt
    rw [find_fi hs.fq hf]
  have h2 := hs.cutFile hf (keepN_le (hs.fsure f hf)) hk1 hb
  refine ⟨k + 1, hlt, by simp, ?_, hkp.trans_in hk1 (fun j _ e => ?_)⟩
  · rw [he]; exact h2
  · have e : j = f.q := e
    exact cutN_sub (k := k) (.inr (.inr (.inr (.inr (.inr (.inl ⟨f, hf, .inl e⟩))))))
theorem cra_end {q : Nat} {s : SS} {w wr w5 : World} {D : Dir} {kl : List Int} {ch : Int} (hD : D = craD s ch) (h3 : Sm q { s with disk := D, files := cutN kl D s.files D.length } wr) (hk : Kept (s.own q) w wr) (hb : Below wr.heap.size wr w5) (ho : OwnsDir w5 wr.heap.size D) :
    CraR q s w ch kl (.returned (.tuple #[])) ((((((w5.setCell ⟨q, 0, none⟩ (.int .i64 s.room)).setCell ⟨q, 1, none⟩ (.map (some s.bd))).setCell ⟨q, 2, none⟩ (.map (some wr.heap.size))).setCell ⟨q, 3, none⟩ (.slice none 0 0)).setCell ⟨q, 4, none⟩ (.slice none 0 0)).setCell ⟨q, 5, none⟩ (.bool false)) := by
  have h5 := h3.call hb
  have hkq : Kept (fun k => k = q) w5 ((((((w5.setCell ⟨q, 0, none⟩ (.int .i64 s.room)).setCell ⟨q, 1, none⟩ (.map (some s.bd))).setCell ⟨q, 2, none⟩ (.map (some wr.heap.size))).setCell ⟨q, 3, none⟩ (.slice none 0 0)).setCell ⟨q, 4, none⟩ (.slice none 0 0)).setCell ⟨q, 5, none⟩ (.bool false)) :=
    (((((keptQ w5 q 0 _).trans (keptQ _ q 1 _)).trans (keptQ _ q 2 _)).trans (keptQ _ q 3 _)).trans (keptQ _ q 4 _)).trans (keptQ _ q 5 _)
  have hbx := Joins.block_setCell (i := 5) (Joins.block_setCell (i := 4) (Joins.block_setCell (i := 3) (Joins.block_setCell (i := 2) (Joins.block_setCell (i := 1) (Joins.block_setCell (i := 0) h5.box (.int .i64 s.room)) (.map (some s.bd))) (.map (some wr.heap.size))) (.slice none 0 0)) (.slice none 0 0)) (.bool false)
  have hlow : wr.heap.size ≠ q := fun e => by have := h3.kq.lt; omega
  have hne : s.bd ≠ wr.heap.size := fun e => by have : s.bd < wr.heap.size := h3.kd.lt; omega
  have hsm := h5.crashed hkq hbx (dir_kept ho hkq (fun e => hlow e)) hne
  refine ⟨rfl, _, ⟨hsm, (hk.call hb).trans_in hkq (fun k _ e => .inl e), ?_⟩, rfl, rfl, rfl, rfl, hD, hD, by rw [← hD]⟩
  rintro k (h | h | h | h | h | ⟨f, hf, h⟩ | ⟨p, hp, _⟩)
  · exact .inl (.inl h)
  · exact .inl (.inr (.inr (.inl h)))
  · have h : k = wr.heap.size := h
    exact .inr (by rw [h]; exact hk.size)
  · unfold InRow at h; simp at h
  · unfold InRow at h; simp at h
  · obtain ⟨g, hg, e1, e2⟩ := cutN_own D.length f hf
    rw [← e1, ← e2] at h
    exact .inl (.inr (.inr (.inr (.inr (.inr (.inl ⟨g, hg, h⟩))))))
  · cases hp
def CrRel (s : SS) (w : World) (m : Nat) (i : Value) (wr : World) : Prop := ∃ k : Nat, k ≤ m ∧ i = .int .i64 (k : Int) ∧ OwnsDir wr s.bd (apps (s.kept.take k) s.disk) ∧ Kept (fun k => k = s.bd) w wr

set_option maxRecDepth 100000 in
set_option maxHeartbeats 4000000 in
theorem crash_any (q : Nat) (s : SS) (w : World) (hs : Sm q s w) (ch : Int) (A : Option Addr) (n c : Nat) (kl : List Int) (hkn : kl.length = n) (hrk : ∀ wr, Kept (s.own q) w wr → Row wr wr.heap.size A (kl.map (Value.int .i64))) (hkb : n ≤ 9223372036854775807) (hl : s.disk.length + s.kept.length ≤ 1000000000) (hsm : ∀ p ∈ s.kept, p.ch.small)
    (hfl : ∀ f ∈ s.files, f.bs.length ≤ 1000000000000) :
    Calls Try.prog 23 #[.pointer (some ⟨q, 0, none⟩), .int .i64 ch, .slice A n c] w fun e w' => CraR q s w ch kl e w' := by
  have c2 := hs.box.cell 2
  have c3 := hs.box.cell 3
  simp at c2 c3
  have HS := hide hs
  clear hs
  go_enter Try.func23, Try.ntmps23
  go_wp2
  have hcap : s.kept.length ≤ s.cK := by
    obtain ⟨A2, c2, h1, h2, _⟩ := own_shape HS.out.row
    injection h1 with _ _ h1
    omega
  have hb0 : 0 ≤ min (max ch 0) (s.kept.length : Int) := by omega
  have hb1 : min (max ch 0) (s.kept.length : Int) ≤ (s.cK : Int) := by omega
  obtain ⟨m, hm⟩ : ∃ m : Nat, (min (max ch 0) (s.kept.length : Int)).toNat = m := ⟨_, rfl⟩
  have hmk : m ≤ s.kept.length := by omega
  have d2 : w.drew.cell? ⟨q, 2, none⟩ = some (.map (some s.bd)) := c2
  have d3 : w.drew.cell? ⟨q, 3, none⟩ = some (.slice s.AK s.kept.length s.cK) := c3
  go_quiet (fail)
  have HB := hide hb0
  have HM := hide hm
  clear hb0 hb1 hm d2 d3 c2 c3
  have h0 := Kept.of_below (S := fun _ => False) (below_dN (Below.refl w.heap.size w) nq)
  have HK0 := hide h0
  generalize w.drewN nq = w0 at *
  clear h0
  go_wp2
  go_loopw [31] (fun i wr => CrRel s w m i wr) (fun i _ => m - (intOf i).toNat)
  case atStart => exact ⟨0, Nat.zero_le _, rfl, dir_kept HS.out.mdisk HK0.out (fun e => e), HK0.out.wider fun _ _ e => e.elim⟩
  case round =>
    obtain ⟨k, hk, rfl, hd, hkp⟩ := hrel
    by_cases hlt : k < m
    · obtain ⟨p, hp⟩ : ∃ p, s.kept[k]? = some p := ⟨_, List.getElem?_eq_getElem (by omega)⟩
      have hrow := Row.of_own (hkp.own HS.out.row (fun k hk e => (HS.out.kk hk).nem HS.out.kd e))
      obtain ⟨ad, hA, _, hc⟩ := hrow k p.v (by rw [List.getElem?_map, hp]; rfl)
      have hpo : p.Ok wr := (HS.out.kp p (List.mem_of_getElem? hp)).1.kept hkp (fun k hb e => (HS.out.kp p (List.mem_of_getElem? hp)).1.nem hb HS.out.kd e)
      have happ := apps_succ hp s.disk
      have j1 : (k : Int) < (m : Int) := by omega
      have hsp := hsm p (List.mem_of_getElem? hp)
      have hle : (apps (s.kept.take k) s.disk).length ≤ 1000000000 := by
        have := apps_len (s.kept.take k) s.disk
        rw [List.length_take] at this
        omega
      have HH := hide (And.intro hd (And.intro hkp happ))
      rw [hA]
      clear hd hkp happ hrow
      obtain ⟨b1, b2, b3, ch⟩ := p
      have hend : ∀ wn, OwnsDir wn s.bd (apps (s.kept.take (k + 1)) s.disk) → wr.grownBy wn (some s.bd) → CrRel s w m (.int .i64 ((k : Int) + 1)) wn := fun wn h1 h2 =>
        ⟨k + 1, by omega, by simp, h1, HH.out.2.1.trans (Kept.of_grown h2 (fun j hj => by injection hj with hj; exact hj.symm))⟩
      cases ch with
      | put nm qf =>
        replace hc : wr.cell? (ad.add k) = some (.func (.func 41) #[] #[.pointer (some ⟨b1, 0, none⟩), .pointer (some ⟨b2, 0, none⟩)]) := hc
        have HC := hide (create1_any wr s.bd b1 b2 qf nm _ HH.out.1 hpo.1 hpo.2 hle hsp)
        clear hpo hp
        go_wp2_with (go_at_call 41; refine halted ?_)
        refine go_on ?_
        refine HC.out.mono ?_
        rintro e w2 ⟨rfl, h1, h2⟩
        have HR := hide (hend w2 (by rw [HH.out.2.2]; exact h1) h2)
        clear h1 h2 HC
        go_wp2
        case roundEnd => exact ⟨HR.out, by simp [intOf]; omega⟩
      | ren a b qf =>
        replace hc : wr.cell? (ad.add k) = some (.func (.func 46) #[] #[.pointer (some ⟨b1, 0, none⟩), .pointer (some ⟨b2, 0, none⟩), .pointer (some ⟨b3, 0, none⟩)]) := hc
        have HC := hide (rename1_any wr s.bd b1 b2 b3 qf a b _ HH.out.1 hpo.1 hpo.2.1 hpo.2.2 (fun e => (show Kb wr _ 9 from ⟨_, _, hpo.1⟩).nem (Km.of_dir HH.out.1) e) (fun e => (show Kb wr _ 68 from ⟨_, _, hpo.2.1⟩).nem (Km.of_dir HH.out.1) e) (fun e => (show Kb wr _ 9 from ⟨_, _, hpo.2.2⟩).nem (Km.of_dir HH.out.1) e) hle hsp.1 hsp.2)
        clear hpo hp
        go_wp2_with (go_at_call 46; refine halted ?_)
        refine go_on ?_
        refine HC.out.mono ?_
        rintro e w2 ⟨rfl, h1, h2⟩
        have HR := hide (hend w2 (by rw [HH.out.2.2]; exact h1) h2)
        clear h1 h2 HC
        go_wp2
        case roundEnd => exact ⟨HR.out, by simp [intOf]; omega⟩
      | del nm =>
        replace hc : wr.cell? (ad.add k) = some (.func (.func 56) #[] #[.pointer (some ⟨b1, 0, none⟩)]) := hc
        have HC := hide (remove1_any wr s.bd b1 nm _ HH.out.1 hpo hsp)
        clear hpo hp
        go_wp2_with (go_at_call 56; refine halted ?_)
        refine go_on ?_
        refine HC.out.mono ?_
        rintro e w2 ⟨rfl, h1, h2⟩
        have HR := hide (hend w2 (by rw [HH.out.2.2]; exact h1) h2)
        clear h1 h2 HC
        go_wp2
        case roundEnd => exact ⟨HR.out, by simp [intOf]; omega⟩
    · have hkm : k = m := by omega
      subst hkm
      clear hlt hk
      obtain ⟨D, hD⟩ : ∃ D, D = apps (s.kept.take k) s.disk := ⟨_, rfl⟩
      rw [← hD] at hd
      have hDf : ∀ e ∈ D, ∃ f ∈ s.files, f.q = e.2 := by
        rw [hD]
        exact apps_files HS.out.ndisk (fun p hp => (HS.out.kp p (List.mem_of_mem_take hp)).2)
      have hDl : D.length ≤ 1000000000 := by
        have := apps_len (s.kept.take k) s.disk
        rw [hD]
        rw [List.length_take] at this
        omega
      have hsm1 := HS.out.redisk hkp hd hDf
      have HSD := hide (sortedD_any s.bd D wr hd hDl)
      have HS1 := hide hsm1
      have HK1 := hide hkp
      have HDD := hide hD
      have HDM := hide (And.intro (dir_small hd) (And.intro (dir_apart hd) hDf))
      have HDW := hide hd
      clear hsm1 hkp hd hD hDf
      go_wp2_with (go_at_call 50; refine halted ?_)
      refine go_on ?_
      refine (keysD_any _ _).mono ?_
      rintro e w2 ⟨rfl, rfl⟩
      go_wp2_with (go_at_call 49; refine halted ?_)
      refine go_on ?_
      refine HSD.out.mono ?_
      rintro e w3 ⟨AN, cN, rfl, hown, hb3⟩
      have hbl : Below wr.heap.size wr w3 := hb3
      have HKN := hide (show ∀ wq, Kept (s.own q) w3 wq → Row wq wq.heap.size AN ((D.map (·.1)).map encStr) from fun wq hkq => Row.of_own (hkq.own hown (fun j hj e => by
        have h1 := hown.lt j (by rw [ownBlock_slice]; exact hj)
        have h2 := HS.out.lt e
        have h3 := HK1.out.size
        omega)))
      have HB3 := hide hbl
      have hrel0 : CrRel2 q s D kl w3 (.int .i64 0) w3 := ⟨0, Nat.zero_le _, rfl, HS1.out.call hbl, Kept.refl _⟩
      have HR0 := hide hrel0
      have hkw3 : Kept (s.own q) w w3 := (HK1.out.wider (fun j _ e => .inr (.inr (.inl e)))).call hbl
      have HKW := hide hkw3
      clear hown hb3 hbl hrel0 hkw3
      go_wp2
      go_loopw [43] (fun i wq => CrRel2 q s D kl w3 i wq) (fun i _ => D.length - (intOf i).toNat)
      case atStart => exact HR0.out
      case round =>
        obtain ⟨j, hj, rfl, hsj, hkj⟩ := hrel
        by_cases hjl : j < D.length
        · obtain ⟨e, he⟩ : ∃ e, D[j]? = some e := ⟨_, List.getElem?_eq_getElem hjl⟩
          obtain ⟨ad, hA, _, hc⟩ := HKN.out _ hkj j (encStr e.1) (by rw [List.getElem?_map, List.getElem?_map, he]; rfl)
          obtain ⟨f0, hf0, hq0⟩ := hsj.ndisk e (List.mem_of_getElem? he)
          have hHF : Hid (f0 ∈ cutN kl D s.files j) := hf0
          have hfd := find_at HDM.out.2.1 he
          have hnm := HDM.out.1 e (List.mem_of_getElem? he)
          have hlook := look_dir0 (nm := ⟨e.1.toArray⟩) hsj.mdisk (by show e.1.toArray.size ≤ _; rw [List.size_toArray]; exact hnm) hfd
          rw [← hq0] at hlook
          have hc' : wr.cell? (ad.add j) = some (.string ⟨e.1.toArray⟩) := hc
          have hcap : f0.bs.length ≤ f0.c := by
            obtain ⟨A2, c2, h1, h2, _⟩ := own_shape (hsj.frow f0 hf0)
            injection h1 with _ _ h1
            omega
          have hsu := hsj.fsure f0 hf0
          have hfl0 : f0.bs.length ≤ 1000000000000 := by
            obtain ⟨g0, h1, h2⟩ := cutN_len j f0 hf0
            exact Nat.le_trans h2 (hfl g0 h1)
          have hsu0 : f0.sure ≤ 1000000000000 := Nat.le_trans hsu hfl0
          have HSJ := hide hsj
          have HKJ := hide hkj
          have HE := hide he
          have HQ0 := hide hq0
          have hnext : ∀ w5 m, Below wr.heap.size wr w5 → m = keepN kl j f0 → CrRel2 q s D kl w3 (.int .i64 ((j : Int) + 1)) ((w5.setCell ⟨f0.q, 0, none⟩ (.slice f0.A (f0.sure + m) f0.c)).drew.setCell ⟨f0.q, 1, none⟩ (.int .i64 ((f0.sure + m : Nat) : Int))) := by
            intro w5 m hb5 hm
            have hs5 := HSJ.out.call hb5
            exact CrRel2.next HE.out hs5 (HKJ.out.call hb5) hHF.out HQ0.out hm (((keptQ w5 f0.q 0 _).call (below_dN (Below.refl _ _) 1)).trans (keptQ _ f0.q 1 _)) (Joins.block_setCell (i := 1) (w := (w5.setCell ⟨f0.q, 0, none⟩ (.slice f0.A (f0.sure + m) f0.c)).drew) (Joins.block_setCell (i := 0) (hs5.fbox f0 hHF.out) _) _)
          have HNX := hide hnext
          have HCAP := hide (And.intro hcap hsu)
          have j1 : (j : Int) < (D.length : Int) := by omega
          rw [hA]
          clear hnext hf0 hfd hnm hsj hkj he hq0 hc hcap hsu
          by_cases hjn : j < n
          · obtain ⟨v, hv⟩ : ∃ v, kl[j]? = some v := ⟨_, List.getElem?_eq_getElem (by omega)⟩
            obtain ⟨ad2, hA2, _, hc2⟩ := hrk wr (HKW.out.trans HKJ.out) j (.int .i64 v) (by rw [List.getElem?_map, hv]; rfl)
            have j2 : (j : Int) < (n : Int) := by omega
            have hfb := HSJ.out.fbox f0 hHF.out
            have c0 := Joins.cell_of_block hfb 0
            have c1 := Joins.cell_of_block hfb 1
            simp at c0 c1
            have hsb : IntKind.i64.wrap ((f0.bs.length : Int) - (f0.sure : Int)) = (f0.bs.length : Int) - (f0.sure : Int) := IntWalk.i64_in _ (by omega)
            obtain ⟨z, hz⟩ : ∃ z, z = (f0.bs.length : Int) - (f0.sure : Int) := ⟨_, rfl⟩
            have d0 : wr.drew.cell? ⟨f0.q, 0, none⟩ = some (.slice f0.A f0.bs.length f0.c) := c0
            have d1 : wr.drew.cell? ⟨f0.q, 1, none⟩ = some (.int .i64 (f0.sure : Int)) := c1
            have d2 : wr.drew.cell? (ad2.add j) = some (.int .i64 v) := hc2
            have HV := hide hv
            rw [hA2]
            clear hv hfb
            go_wp2
            go_quiet (fail)
            have hb5 := below_dN (Below.refl wr.heap.size wr) nq
            clear d0 d1 d2 c0 c1 hc2 hc' hlook
            generalize wr.drewN nq = w5 at *
            obtain ⟨m, hm⟩ : ∃ m : Nat, min (max v 0) ((f0.bs.length : Int) - (f0.sure : Int)) = (m : Int) := ⟨(min (max v 0) ((f0.bs.length : Int) - (f0.sure : Int))).toNat, by have := HCAP.out.2; omega⟩
            have hmk : m = keepN kl j f0 := by
              unfold keepN
              rw [HV.out]
              dsimp only
              omega
            rw [hm]
            clear hm
            have hs5 := HSJ.out.call hb5
            have hfb5 := hs5.fbox f0 hHF.out
            have hmle := keepN_le (kl := kl) (i := j) (f := f0) HCAP.out.2
            have hle5 := HCAP.out.1
            rw [← hmk] at hmle
            obtain ⟨t, ht⟩ : ∃ t, f0.sure + m = t := ⟨_, rfl⟩
            have HN5 := hide (HNX.out w5 m hb5 hmk)
            rw [ht] at HN5 hmle
            have hadd : IntKind.i64.wrap ((f0.sure : Int) + (m : Int)) = (t : Int) := (IntWalk.i64_in _ (by omega)).trans (by omega)
            have hcut := cut_to (P := Try.prog) (A := f0.A) (n := f0.bs.length) (c := f0.c) (k := t) (h := (t : Int)) (t := 33) elem_bytes size_byte rfl (by omega) .i64
            have c0 := Joins.cell_of_block hfb5 0
            have c1 := Joins.cell_of_block hfb5 1
            have g0 := Joins.unfrozen_of_block hfb5 0
            have g1 := Joins.unfrozen_of_block hfb5 1
            simp at c0 c1
            have e0 : w5.drew.cell? ⟨f0.q, 0, none⟩ = some (.slice f0.A f0.bs.length f0.c) := c0
            have e1 : w5.drew.cell? ⟨f0.q, 1, none⟩ = some (.int .i64 (f0.sure : Int)) := c1
            have HMK := hide hmk
            have HFB5 := hide hfb5
            clear hs5 hfb5 hmle hle5 ht hb5 hmk
            go_wp2
            go_region_law (fail)
            all_goals
              have hfb6 : (w5.setCell ⟨f0.q, 0, none⟩ (.slice f0.A t f0.c)).drew.heap[f0.q]? = some (.cells #[.slice f0.A t f0.c, .int .i64 (f0.sure : Int)] 71 (0, 0)) := Joins.block_setCell (i := 0) HFB5.out _
              clear c0 c1 g0 g1 e0 e1
              generalize (w5.setCell ⟨f0.q, 0, none⟩ (.slice f0.A t f0.c)).drew = w6 at *
              have k0 : w6.cell? ⟨f0.q, 0, none⟩ = some (.slice f0.A t f0.c) := Joins.cell_of_block hfb6 0
              have k1 : w6.frozen? ⟨f0.q, 1, none⟩ = false := Joins.unfrozen_of_block hfb6 1
              have k2 : w6.cell? ⟨f0.q, 1, none⟩ = some (.int .i64 (f0.sure : Int)) := Joins.cell_of_block hfb6 1
              clear hfb6 hcut
              go_wp2
              case roundEnd => exact ⟨HN5.out, by simp [intOf]; omega⟩
          · have hmk : 0 = keepN kl j f0 := by
              unfold keepN
              rw [List.getElem?_eq_none (by omega)]
            have j2 : ¬ (j : Int) < (n : Int) := by omega
            have HN5 := hide (HNX.out wr 0 (Below.refl _ _) hmk)
            rw [Nat.add_zero] at HN5
            clear hmk hjn
            go_wp2
            clear hc' hlook
            have hfb5 := HSJ.out.fbox f0 hHF.out
            have hmle := HCAP.out.2
            have hle5 := HCAP.out.1
            have hadd : IntKind.i64.wrap (f0.sure : Int) = (f0.sure : Int) := IntWalk.i64_in _ (by omega)
            have hadd2 : IntKind.i64.wrap ((f0.sure : Int) + 0) = (f0.sure : Int) := IntWalk.i64_in _ (by omega)
            have hcut := cut_to (P := Try.prog) (A := f0.A) (n := f0.bs.length) (c := f0.c) (k := f0.sure) (h := (f0.sure : Int)) (t := 33) elem_bytes size_byte rfl (by omega) .i64
            have c0 := Joins.cell_of_block hfb5 0
            have c1 := Joins.cell_of_block hfb5 1
            have g0 := Joins.unfrozen_of_block hfb5 0
            have g1 := Joins.unfrozen_of_block hfb5 1
            simp at c0 c1
            have e0 : wr.drew.cell? ⟨f0.q, 0, none⟩ = some (.slice f0.A f0.bs.length f0.c) := c0
            have e1 : wr.drew.cell? ⟨f0.q, 1, none⟩ = some (.int .i64 (f0.sure : Int)) := c1
            have HFB5 := hide hfb5
            clear hfb5 hmle hle5
            go_region_law (fail)
            all_goals
              have hfb6 : (wr.setCell ⟨f0.q, 0, none⟩ (.slice f0.A f0.sure f0.c)).drew.heap[f0.q]? = some (.cells #[.slice f0.A f0.sure f0.c, .int .i64 (f0.sure : Int)] 71 (0, 0)) := Joins.block_setCell (i := 0) HFB5.out _
              clear c0 c1 g0 g1 e0 e1
              generalize (wr.setCell ⟨f0.q, 0, none⟩ (.slice f0.A f0.sure f0.c)).drew = w6 at *
              have k0 : w6.cell? ⟨f0.q, 0, none⟩ = some (.slice f0.A f0.sure f0.c) := Joins.cell_of_block hfb6 0
              have k1 : w6.frozen? ⟨f0.q, 1, none⟩ = false := Joins.unfrozen_of_block hfb6 1
              have k2 : w6.cell? ⟨f0.q, 1, none⟩ = some (.int .i64 (f0.sure : Int)) := Joins.cell_of_block hfb6 1
              clear hfb6 hcut
              go_wp2
              case roundEnd => exact ⟨HN5.out, by simp [intOf]; omega⟩
        · have hjD : j = D.length := by omega
          subst hjD
          have j1 : ¬ (D.length : Int) < (D.length : Int) := by omega
          clear hjl hj
          obtain ⟨s3, hs3⟩ : ∃ s3, s3 = { s with disk := D, files := cutN kl D s.files D.length } := ⟨_, rfl⟩
          rw [← hs3] at hsj
          have HS3 := hide hsj
          have HE3 := hide hs3
          have HKJ := hide hkj
          clear hsj hs3 hkj
          have hcl : ∀ W, Below wr.heap.size wr W → Calls Try.prog 51 #[.map (some s.bd)] W fun e w' => e = .returned (.map (some W.heap.size)) ∧ OwnsDir w' W.heap.size D ∧ Below W.heap.size W w' := fun W hb => cloneD_any W s.bd D (by
            have := (HS3.out.call hb).mdisk
            rw [HE3.out] at this
            exact this)
          have HCL := hide hcl
          have hbx : ∀ W, Below wr.heap.size wr W → StB q s3 W := fun W hb => (HS3.out.call hb).box
          have hst : ∀ W, Below wr.heap.size wr W → (W.cell? ⟨q, 0, none⟩ = some (.int .i64 s.room) ∧ W.cell? ⟨q, 1, none⟩ = some (.map (some s.bn)) ∧ W.cell? ⟨q, 2, none⟩ = some (.map (some s.bd)) ∧ W.cell? ⟨q, 3, none⟩ = some (.slice s.AK s.kept.length s.cK) ∧ W.cell? ⟨q, 4, none⟩ = some (.slice s.AP s.plan.length s.cP) ∧ W.cell? ⟨q, 5, none⟩ = some (.bool s.off)) ∧ W.frozen? ⟨q, 0, none⟩ = false ∧ W.frozen? ⟨q, 1, none⟩ = false ∧ W.frozen? ⟨q, 2, none⟩ = false ∧ W.frozen? ⟨q, 3, none⟩ = false ∧ W.frozen? ⟨q, 4, none⟩ = false ∧ W.frozen? ⟨q, 5, none⟩ = false := fun W hb => by
            have h := hbx W hb
            have hc := h.cell
            rw [HE3.out] at hc
            exact ⟨⟨hc 0, hc 1, hc 2, hc 3, hc 4, hc 5⟩, h.free 0, h.free 1, h.free 2, h.free 3, h.free 4, h.free 5⟩
          have HST := hide hst
          have hBd : Below wr.heap.size wr wr.drew := below_dN (Below.refl wr.heap.size wr) 1
          have S0 := (hst wr (Below.refl _ _)).1.1
          have S1 : wr.drew.cell? ⟨q, 0, none⟩ = some (.int .i64 s.room) := (hst _ hBd).1.1
          clear hcl hst hbx
          go_wp2
          go_region_law
            ((go_simp; go_at_call 51; (with_reducible refine (HCL.out _ hBd).mono ?_); rintro e w5 ⟨rfl, hown5, hb5⟩; have hb6 := hBd.trans (hb5.mono hBd.size); obtain ⟨⟨k0, k1, k2, k3, k4, k5⟩, f0, f1, f2, f3, f4, f5⟩ := HST.out _ hb6; dsimp only))
          all_goals
            have hD : D = craD s ch := by rw [HDD.out]; unfold craD nCh; rw [HM.out]
            have hs3 := HS3.out
            rw [HE3.out] at hs3
            have hfin := cra_end (kl := kl) hD hs3 (HKW.out.trans HKJ.out) hb6 hown5
            have HFIN := hide hfin
            clear hfin hs3 hD
            go_end0
            exact HFIN.out
end Go.Proofs.Ytpakihbejdpmoaa
