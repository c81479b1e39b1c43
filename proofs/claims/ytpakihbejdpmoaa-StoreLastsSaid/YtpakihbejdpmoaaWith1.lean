/-
  store's with, as Append calls it.
-/
import Derived.Test.YtpakihbejdpmoaaAppend2
namespace Go.Proofs.Ytpakihbejdpmoaa
open Go.RowKit Go.Maps
set_option linter.unusedVariables false

theorem info_str : (Try.prog.info? 9).map (fun i => (i.zero, i.size, i.bytes)) = some (some (.string .empty), 1, 16) := by kernel_rfl
/-- What an appending answers. -/
def appendE (m : Int × List UInt8 × Bool) (found : Option Nat) (room size n : Nat) : Int := if m.1 ≠ 0 then m.1 else match found with
  | none => 4
  | some _ => appE room size n
/-- What it leaves. -/
def AppS (s : SS) (nm : ByteArray) (bs : List UInt8) (m : Int × List UInt8 × Bool) (E : Int) (s' : SS) : Prop :=
  s'.room = s.room ∧ s'.disk = s.disk ∧ s'.now = s.now ∧ s'.kept = s.kept ∧ s'.plan = m.2.1 ∧ s'.off = m.2.2 ∧
    (E = 0 → ∃ f ∈ s.files, dFind s.now nm.data.toList = some f.q ∧ ∃ A c, s'.files = upd s.files { f with A := A, c := c, bs := f.bs ++ bs }) ∧ (E ≠ 0 → s'.files = s.files)
def AppR (q : Nat) (s : SS) (w : World) (nm : ByteArray) (bs : List UInt8) (m : Int × List UInt8 × Bool) (E : Int) (e : Ending) (w' : World) : Prop :=
  e = .returned (.int .i64 E) ∧ ∃ s', Did q s w s' w' ∧ AppS s nm bs m E s'

set_option maxRecDepth 100000 in
set_option maxHeartbeats 4000000 in
theorem withA_any (q : Nat) (s : SS) (w : World) (hs : Sm q s w) (nm : ByteArray) (hnm : nm.size ≤ maxLen) (hpl : s.plan.length ≤ 1000000000) (room : Nat) (hroom : s.room = (room : Int)) (hrm : room ≤ 16777216) (hsz : sizeS s ≤ 1000000000000) (hfl : ∀ f ∈ s.files, f.bs.length ≤ 1000000000000)
    (b1 b2 : Nat) (A : Option Addr) (n c : Nat) (bs : List UInt8) (hn : bs.length = n) (hr : Bytes w w.heap.size A bs) (hbl : n ≤ 1000000000) (haw : Away (s.own q) A bs) (h1 : BxB b1 A n c w) (h2 : BxQ b2 q w) (hb1 : ¬ s.own q b1) (hb2 : ¬ s.own q b2) :
    Calls Try.prog 43 #[.pointer (some ⟨q, 0, none⟩), .func (.func 44) #[] #[.pointer (some ⟨b1, 0, none⟩), .pointer (some ⟨b2, 0, none⟩)], .string nm, .slice none 0 0] w fun e w' =>
      AppR q s w nm bs (meetE (isNm nm) s.off s.plan) (appendE (meetE (isNm nm) s.off s.plan) (dFind s.now nm.data.toList) room (sizeS s) n) e w' := by
  obtain ⟨m, HM⟩ : ∃ m, Hid (m = meetE (isNm nm) s.off s.plan) := ⟨_, rfl⟩
  rw [← HM.out]
  obtain ⟨E, HEE⟩ : ∃ E, Hid (E = appendE m (dFind s.now nm.data.toList) room (sizeS s) n) := ⟨_, rfl⟩
  rw [← HEE.out]
  obtain ⟨i0, hi, hz0, hz1, hz2⟩ := info_parts info_str
  have HS := hide hs
  have HR := hide hr
  have HAW := hide haw
  have H1 := hide h1
  have H2 := hide h2
  clear hs hr haw h1 h2
  go_enter Try.func43, Try.ntmps43
  go_wp2_with (at_builtin; refine halted ?_)
  refine go_on ?_
  refine wpList_append_own _ rfl (.tmp 13) (.tmp 15) 64 rfl 0 9 i0 _ 1 16 Try.underlying64 hi hz0 hz1 hz2 rfl (by decide) none 0 0 [] rfl (World.ownsRow_nil _ _ _ _) _ _ 1 _ [.string nm] rfl rfl (Row.new w #[.string nm] 9 (0, 0)) (by intro u hu; simp at hu; subst hu; rfl) (by unfold maxLen; omega) (by omega) (Nat.zero_le _) ?_
  intro n' xs' A5 c5 w5 hn' hxs' _ _ hown5 hg5 _
  obtain rfl : n' = 1 := hn'.out
  obtain rfl : xs' = [nm].map strV := hxs'.out
  have hb5 : Below w.heap.size w w5 := ((Below.refl _ _).alloc (Nat.le_refl _) _).grown hg5 (by simp) (fun k hk => by cases hk)
  have hs5 := HS.out.call hb5
  have hrow5 := Row.of_own hown5
  have HME := hide (meet_any q s w5 hs5 A5 w5.heap.size 1 c5 [nm] rfl hrow5 (Nat.le_refl _) (by omega) hpl)
  rw [show [nm].all isNm = isNm nm by simp, ← HM.out] at HME
  clear hn' hxs' hown5 hg5 hs5 hrow5
  go_wp2_with (go_at_call 39; refine halted ?_)
  refine go_on ?_
  refine HME.out.mono ?_
  clear HME
  rintro e w1 ⟨rfl, AP, cP, hdid⟩
  have hD1 := (Did.call HS.out hb5).trans hdid
  have hown1 := hdid.sm.mnow
  have c1 := hdid.sm.box.cell 1
  simp at c1
  have hlook := look_dir hown1 hnm
  obtain ⟨code, plan, off⟩ := m
  dsimp only at *
  have HD := hide hD1
  by_cases hm : code = 0
  case neg =>
    have hne : (code != 0) = true := by rw [bne_iff_ne]; exact hm
    have HE : Hid (E = code) := HEE.out.trans (if_pos hm)
    have HN := hide hm
    clear hm hdid hD1 hown1 c1 hlook
    go_wp2
    go_ret
    exact ⟨by rw [HE.out]; rfl, _, HD.out, rfl, rfl, rfl, rfl, rfl, rfl, fun h => absurd (HE.out.symm.trans h) HN.out, fun _ => rfl⟩
  subst hm
  cases hfd : dFind s.now nm.data.toList with
  | none =>
    have HE : Hid (E = 4) := HEE.out.trans (by rw [hfd]; rfl)
    rw [hfd] at hlook
    dsimp only [Option.isSome] at hlook
    clear hdid hD1 hown1 hfd
    go_wp2
    go_ret
    exact ⟨by rw [HE.out]; rfl, _, HD.out, rfl, rfl, rfl, rfl, rfl, rfl, fun h => absurd (HE.out.symm.trans h) (by decide), fun _ => rfl⟩
  | some qf =>
    obtain ⟨f, hf, hfq⟩ := HS.out.nnow _ (dFind_mem hfd)
    have hfq : f.q = qf := hfq
    subst hfq
    have HE : Hid (E = appE room (sizeS s) n) := HEE.out.trans (by rw [hfd]; rfl)
    rw [hfd] at hlook
    dsimp only [Option.isSome, ptrOf, Option.map] at hlook
    have hr1 : Bytes w1 w1.heap.size A bs := (HD.out.kept.bytes HR.out (Nat.le_refl _) HAW.out).more HD.out.kept.size
    have h11 : BxB b1 A n c w1 := (HD.out.kept.block b1 (Array.getElem?_eq_some_iff.1 H1.out).1 hb1).trans H1.out
    have h21 : BxQ b2 q w1 := (HD.out.kept.block b2 (Array.getElem?_eq_some_iff.1 H2.out).1 hb2).trans H2.out
    have HAP := hide (append1_any q _ w1 HD.out.sm f hf room hroom hrm hsz (hfl f hf) b1 b2 A n c bs hn hr1 hbl (fun g hg => HAW.out.less (fun k hk => .inr (.inr (.inr (.inr (.inr (.inl ⟨g, hg, .inr hk⟩))))))) h11 h21)
    have HFD := hide hfd
    have HF := hide hf
    clear hdid hD1 hown1 hfd hr1 h11 h21 hf
    go_wp2_with (go_at_call 44; refine halted ?_)
    refine go_on ?_
    refine HAP.out.mono ?_
    clear HAP
    rintro e w2 ⟨rfl, hd1, hd2⟩
    have HD2 := hide (And.intro hd1 hd2)
    clear hd1 hd2 hlook c1
    go_wp2
    go_ret
    obtain ⟨hd1, hd2⟩ := HD2.out
    refine ⟨by rw [HE.out]; rfl, ?_⟩
    by_cases h0 : E = 0
    · obtain ⟨A', c', hd⟩ := hd1 (HE.out.symm.trans h0)
      exact ⟨_, HD.out.trans hd, rfl, rfl, rfl, rfl, rfl, rfl, fun _ => ⟨f, HF.out, HFD.out, A', c', rfl⟩, fun h => absurd h0 h⟩
    · exact ⟨_, HD.out.trans (hd2 (fun h => h0 (HE.out.trans h))), rfl, rfl, rfl, rfl, rfl, rfl, fun h => absurd h h0, fun _ => rfl⟩
end Go.Proofs.Ytpakihbejdpmoaa
