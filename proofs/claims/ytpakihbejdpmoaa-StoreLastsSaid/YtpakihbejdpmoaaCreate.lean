/-
  store's Create.
-/
import Derived.Test.YtpakihbejdpmoaaChange2
import Derived.Deep.QuietTactic
import Derived.BigQuiet
namespace Go.Proofs.Ytpakihbejdpmoaa
open Go.RowKit Go.Maps
set_option linter.unusedVariables false

theorem Sm.addFile {q : Nat} {s : SS} {w : World} (h : Sm q s w) (qf : Nat) (hb : FiB ⟨qf, none, 0, [], 0⟩ w) (hne : ∀ g ∈ s.files, g.q ≠ qf) : Sm q { s with files := s.files ++ [⟨qf, none, 0, [], 0⟩] } w := by
  have hm : ∀ {P : Fi → Prop}, (∃ f ∈ s.files, P f) → ∃ f ∈ s.files ++ [⟨qf, none, 0, [], 0⟩], P f := fun ⟨f, h1, h2⟩ => ⟨f, List.mem_append_left _ h1, h2⟩
  have hall : ∀ {P : Fi → Prop}, (∀ f ∈ s.files, P f) → P ⟨qf, none, 0, [], 0⟩ → ∀ f ∈ s.files ++ [⟨qf, none, 0, [], 0⟩], P f := by
    intro P h1 h2 f hf
    rcases List.mem_append.1 hf with g | g
    · exact h1 f g
    · rw [List.mem_singleton.1 g]; exact h2
  refine ⟨h.box, h.mnow, h.mdisk, h.ne, h.row, h.plan, h.pcap, h.planK, hall h.fbox hb, hall h.frow (OwnB.nil _ _ _), hall h.fsure (Nat.le_refl _), ?_, hall h.fplan (fun k _ e => by unfold InRow at e; simp at e), fun e he => hm (h.nnow e he), fun e he => hm (h.ndisk e he), ?_⟩
  · rw [List.pairwise_append]
    refine ⟨h.fap, List.pairwise_singleton _ _, ?_⟩
    intro f hf g hg
    rw [List.mem_singleton.1 hg]
    exact ⟨hne f hf, Apart.none.symm⟩
  · intro p hp
    obtain ⟨h1, h2⟩ := h.kp p hp
    refine ⟨h1, ?_⟩
    unfold Chg.among at h2 ⊢
    cases hc : p.ch with
    | put _ _ => rw [hc] at h2; exact hm h2
    | ren _ _ _ => rw [hc] at h2; exact hm h2
    | del _ => trivial

theorem below_dN {B : Nat} {a w : World} (h : Below B a w) (n : Nat) : Below B a (w.drewN n) := ⟨h.os, h.tape, h.output, h.size, h.block⟩
theorem Kept.trans_in {S T : Nat → Prop} {a w w' : World} (h : Kept S a w) (g : Kept T w w') (hs : ∀ k, k < a.heap.size → T k → S k) : Kept S a w' :=
  ⟨g.os.trans h.os, g.tape.trans h.tape, g.output.trans h.output, Nat.le_trans h.size g.size, fun k hk hn => (g.block k (Nat.lt_of_lt_of_le hk h.size) (fun e => hn (hs k hk e))).trans (h.block k hk hn)⟩
/-- A file of a name, as a value. -/
def ptrOf (o : Option Nat) : Value := .pointer (o.map fun q => ⟨q, 0, none⟩)
theorem ptrR_none {v : Value} {ps : List MemPlace} (h : ptrR v = some (.lit (.int .i64 (-1)), ps)) : v = .pointer none := by
  rcases ptrR_inv h with ⟨h1, _⟩ | ⟨b, _, h2⟩
  · exact h1
  · injection h2 with h2
    injection h2 with h2
    injection h2 with _ h2
    omega
theorem ptrR_some {v : Value} {ps : List MemPlace} {q : Nat} (h : ptrR v = some (.lit (.int .i64 (q : Int)), ps)) : v = .pointer (some ⟨q, 0, none⟩) := by
  rcases ptrR_inv h with ⟨_, h2⟩ | ⟨b, h1, h2⟩
  · injection h2 with h2
    injection h2 with h2
    injection h2 with _ h2
    omega
  · injection h2 with h2
    injection h2 with h2
    injection h2 with _ h2
    rw [h1, show b = q by omega]
theorem look_dir {w : World} {b : Nat} {l : Dir} (h : OwnsDir w b l) {nm : ByteArray} (hnm : nm.size ≤ maxLen) :
    (Instr.lookup 55 (.map (some b)) (.string nm) true).run Try.prog w = .ok (.tuple #[ptrOf (dFind l nm.data.toList), .bool (dFind l nm.data.toList).isSome]) w := by
  obtain ⟨v, ps, hrun, hv⟩ := World.ownsMap.look_ok (zp := []) h (string_keyed Try.underlying9) Try.underlying55 (zero_ptr w) (show ptrR (.pointer none) = some (.lit (.int .i64 (-1)), []) from rfl) (key_str hnm)
  rw [hrun, dirD_has]
  rw [dirD_at] at hv
  cases hf : dFind l nm.data.toList with
  | none =>
    rw [hf] at hv
    rw [ptrR_none hv]
    rfl
  | some q =>
    rw [hf] at hv
    rw [ptrR_some hv]
    rfl

/-- What a creating answers. -/
def createE (m : Int × List UInt8 × Bool) (found : Bool) : Int := if m.1 ≠ 0 then m.1 else if found then 5 else 0
/-- What it leaves. -/
def CreS (s : SS) (nm : ByteArray) (m : Int × List UInt8 × Bool) (s' : SS) : Prop :=
  s'.room = s.room ∧ s'.disk = s.disk ∧ s'.plan = m.2.1 ∧ s'.off = m.2.2 ∧
    if createE m (dFind s.now nm.data.toList).isSome = 0 then ∃ qf, (∀ g ∈ s.files, g.q ≠ qf) ∧ s'.files = s.files ++ [⟨qf, none, 0, [], 0⟩] ∧ s'.now = dPut s.now nm.data.toList qf ∧ s'.kept.map (·.ch) = s.kept.map (·.ch) ++ [.put nm qf]
    else s'.files = s.files ∧ s'.now = s.now ∧ s'.kept = s.kept

set_option maxRecDepth 100000 in
set_option maxHeartbeats 4000000 in
theorem create_any (q : Nat) (s : SS) (w : World) (hs : Sm q s w) (nm : ByteArray) (hnm : nm.size ≤ maxLen) (hl : s.now.length ≤ 1000000000) (hkl : s.kept.length ≤ 1000000000) (hpl : s.plan.length ≤ 1000000000) :
    Calls Try.prog 15 #[.pointer (some ⟨q, 0, none⟩), .string nm] w fun e w' => e = .returned (.int .i64 (createE (meetE (isNm nm) s.off s.plan) (dFind s.now nm.data.toList).isSome)) ∧
      ∃ s', Did q s w s' w' ∧ CreS s nm (meetE (isNm nm) s.off s.plan) s' := by
  obtain ⟨m, HM⟩ : ∃ m, Hid (m = meetE (isNm nm) s.off s.plan) := ⟨_, rfl⟩
  rw [← HM.out]
  go_enter Try.func15, Try.ntmps15
  have HS := hide hs
  clear hs
  have hA1 : Below w.heap.size w (w.alloc (.cells #[.string nm] 9)) := (Below.refl _ _).alloc (Nat.le_refl _) _
  have hA2 := hA1.alloc hA1.size (.cells #[.string nm] 9)
  have hnb : BxS w.heap.size nm ((w.alloc (.cells #[.string nm] 9)).alloc (.cells #[.string nm] 9)) := by
    have h := heap_alloc_new w (.cells #[.string nm] 9)
    exact (((Below.refl (w.alloc (.cells #[.string nm] 9)).heap.size _).alloc (Nat.le_refl _) (.cells #[.string nm] 9)).block _ (by simp)).trans h
  have hrw := Row.new (w.alloc (.cells #[.string nm] 9)) #[.string nm] 9 (0, 0)
  have hzz : (w.alloc (.cells #[.string nm] 9)).heap.size = w.heap.size + 1 := by simp
  have hz2 : w.heap.size + 2 ≤ ((w.alloc (.cells #[.string nm] 9)).alloc (.cells #[.string nm] 9)).heap.size := by simp
  rw [hzz] at hrw
  clear hzz
  go_wp2_with (go_at_call 39; refine halted ?_)
  refine go_on ?_
  generalize (w.alloc (.cells #[.string nm] 9)).alloc (.cells #[.string nm] 9) = u2 at *
  have hs2 := HS.out.call hA2
  refine (meet_any q s u2 hs2 (some ⟨w.heap.size + 1, 0, none⟩) (w.heap.size + 1 + 1) 1 1 [nm] rfl hrw (by omega) (by omega) hpl).mono ?_
  rw [show [nm].all isNm = isNm nm by simp, ← HM.out]
  rintro e w1 ⟨rfl, AP, cP, hdid⟩
  have hD1 := (Did.call HS.out hA2).trans hdid
  have hnb1 : BxS w.heap.size nm w1 := hnb.kept hdid.kept (fun e => by have := HS.out.lt e; omega)
  have hkey := key_str hnm
  have hown1 := hdid.sm.mnow
  have c1 := hdid.sm.box.cell 1
  have cn := Joins.cell_of_block hnb1 0
  simp at c1 cn
  obtain ⟨code, plan, off⟩ := m
  dsimp only at *
  by_cases hm : code = 0
  case neg =>
    have hne : (code != 0) = true := by rw [bne_iff_ne]; exact hm
    have hc : createE (code, plan, off) (dFind s.now nm.data.toList).isSome = code := if_pos hm
    have HC := hide hc
    have HN := hide hm
    have HD := hide hD1
    clear hs2 hdid hD1 hc hm hnb hnb1 hrw hown1 c1 cn
    go_wp2
    go_ret
    refine ⟨by rw [HC.out]; rfl, _, HD.out, rfl, rfl, rfl, rfl, ?_⟩
    rw [HC.out, if_neg HN.out]
    exact ⟨rfl, rfl, rfl⟩
  subst hm
  have hlook : ∀ j, (Instr.lookup 55 (.map (some s.bn)) (.string nm) true).run Try.prog (w1.drewN j) = .ok (.tuple #[ptrOf (dFind s.now nm.data.toList), .bool (dFind s.now nm.data.toList).isSome]) (w1.drewN j) := fun j => look_dir (w := w1.drewN j) hown1 hnm
  cases hfd : dFind s.now nm.data.toList with
  | some qo =>
    have hc : createE (0, plan, off) (dFind s.now nm.data.toList).isSome = 5 := by rw [hfd]; rfl
    rw [hfd] at hlook
    dsimp only [Option.isSome] at hlook
    have HC := hide hc
    have HD := hide hD1
    clear hs2 hdid hD1 hc hnb hnb1 hrw hown1 hfd
    go_wp2
    go_quiet (fail)
    go_wp2
    go_ret
    refine ⟨by rw [HC.out]; rfl, _, HD.out.trans (Did.call HD.out.sm (below_dN (Below.refl _ _) nq)), rfl, rfl, rfl, rfl, ?_⟩
    rw [HC.out, if_neg (by decide)]
    exact ⟨rfl, rfl, rfl⟩
  | none =>
    have hc : createE (0, plan, off) (dFind s.now nm.data.toList).isSome = 0 := by rw [hfd]; rfl
    rw [hfd] at hlook
    dsimp only [Option.isSome] at hlook
    have HC := hide hc
    have HD := hide hD1
    have hdd : ∀ j, Did q s w { s with AP := AP, cP := cP, plan := plan, off := off } (w1.drewN j) := fun j => HD.out.trans (Did.call HD.out.sm (below_dN (Below.refl _ _) j))
    have HDD := hide hdd
    have HNB := hide hnb1
    clear hs2 hdid hD1 hc hnb hnb1 hrw hown1 hfd hdd
    go_wp2
    go_quiet (fail)
    have hd3 := HDD.out nq
    have hnb3 : BxS w.heap.size nm (w1.drewN nq) := HNB.out
    generalize w1.drewN nq = w3 at *
    have hz3 := hd3.kept.size
    have hA3 : Below w3.heap.size w3 (w3.alloc (.cells #[.slice none 0 0, .int .i64 0] 71)) := (Below.refl _ _).alloc (Nat.le_refl _) _
    have hA4 := hA3.alloc hA3.size (.cells #[.pointer (some ⟨w3.heap.size, 0, none⟩)] 68)
    have hfb : FiB ⟨w3.heap.size, none, 0, [], 0⟩ ((w3.alloc (.cells #[.slice none 0 0, .int .i64 0] 71)).alloc (.cells #[.pointer (some ⟨w3.heap.size, 0, none⟩)] 68)) := by
      have h := heap_alloc_new w3 (.cells #[.slice none 0 0, .int .i64 0] 71)
      exact (((Below.refl (w3.alloc (.cells #[.slice none 0 0, .int .i64 0] 71)).heap.size _).alloc (Nat.le_refl _) (.cells #[.pointer (some ⟨w3.heap.size, 0, none⟩)] 68)).block _ (by simp)).trans h
    have hpb : BxP (w3.heap.size + 1) w3.heap.size ((w3.alloc (.cells #[.slice none 0 0, .int .i64 0] 71)).alloc (.cells #[.pointer (some ⟨w3.heap.size, 0, none⟩)] 68)) := by
      have h := heap_alloc_new (w3.alloc (.cells #[.slice none 0 0, .int .i64 0] 71)) (.cells #[.pointer (some ⟨w3.heap.size, 0, none⟩)] 68)
      rw [World.size_alloc] at h
      exact h
    have hz4 : w3.heap.size + 2 ≤ ((w3.alloc (.cells #[.slice none 0 0, .int .i64 0] 71)).alloc (.cells #[.pointer (some ⟨w3.heap.size, 0, none⟩)] 68)).heap.size := by simp
    go_wp2_with (go_at_call 40; refine halted ?_)
    refine go_on ?_
    generalize (w3.alloc (.cells #[.slice none 0 0, .int .i64 0] 71)).alloc (.cells #[.pointer (some ⟨w3.heap.size, 0, none⟩)] 68) = u4 at *
    have hwz := hA2.size
    have hnb4 : BxS w.heap.size nm u4 := hnb3.kept (Kept.of_below (S := fun _ => False) hA4) (fun h => h)
    have hne : ∀ g ∈ s.files, g.q ≠ w3.heap.size := fun g hg e => by have := (hd3.sm.kf hg).lt; omega
    have hsf := (hd3.sm.call hA4).addFile w3.heap.size hfb hne
    refine (changeP_any q _ u4 hsf (w3.heap.size + 1) w.heap.size 0 w3.heap.size nm hpb hnb4 hl hkl hnm ⟨_, List.mem_append_right _ (List.mem_singleton_self _), rfl⟩).mono ?_
    rintro e w5 ⟨rfl, AK, cK, hch⟩
    have hsfo : ∀ k, SS.own q { { s with AP := AP, cP := cP, plan := plan, off := off } with files := s.files ++ [⟨w3.heap.size, none, 0, [], 0⟩] } k → s.own q k ∨ w.heap.size ≤ k := by
      rintro k (h | h | h | h | h | ⟨f, hf, h⟩ | h)
      · exact hd3.own k (.inl h)
      · exact hd3.own k (.inr (.inl h))
      · exact hd3.own k (.inr (.inr (.inl h)))
      · exact hd3.own k (.inr (.inr (.inr (.inl h))))
      · exact hd3.own k (.inr (.inr (.inr (.inr (.inl h)))))
      · rcases List.mem_append.1 hf with g | g
        · exact hd3.own k (.inr (.inr (.inr (.inr (.inr (.inl ⟨f, g, h⟩))))))
        · rw [List.mem_singleton.1 g] at h
          rcases h with h | h
          · exact .inr (by rw [h]; exact hz3)
          · unfold InRow at h; simp at h
      · exact hd3.own k (.inr (.inr (.inr (.inr (.inr (.inr h))))))
    have hfin : Did q s w _ w5 := ⟨hch.sm, (hd3.kept.call hA4).trans_in hch.kept (fun k hk h => by
      rcases hsfo k h with g | g
      · exact g
      · omega), fun k hk => by
      rcases hch.own k hk with h | h | h
      · exact hsfo k h
      · exact .inr (by omega)
      · have hb : k = w3.heap.size + 1 ∨ k = w.heap.size := h
        exact .inr (by omega)⟩
    have HFIN := hide hfin
    have HNE := hide hne
    clear hd3 hnb3 hA3 hA4 hfb hpb hnb4 hne hsf hch hsfo hfin HNB HDD hlook
    go_wp2
    go_ret
    refine ⟨by rw [HC.out]; rfl, _, HFIN.out, rfl, rfl, rfl, rfl, ?_⟩
    rw [HC.out, if_pos rfl]
    exact ⟨w3.heap.size, HNE.out, rfl, rfl, by rw [List.map_append]; rfl⟩
end Go.Proofs.Ytpakihbejdpmoaa
