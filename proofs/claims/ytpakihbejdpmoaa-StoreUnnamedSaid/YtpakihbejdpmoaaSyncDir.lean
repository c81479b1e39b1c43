/-
  maps.Clone at a directory; store's SyncDir.
-/
import Derived.Shelf.SlMaps.Clone
import Derived.Ground.SlmcProg
import Derived.Test.YtpakihbejdpmoaaSync06
namespace Go.Proofs.Ytpakihbejdpmoaa
open Go.RowKit Go.Maps Go.Shelf
set_option linter.unusedVariables false

def Try.cloneD_ren : Go.Shelf.Ren := ⟨fun | 5 => 51 | 7 => 62 | n => n, fun | 23 => 55 | 25 => 9 | 3 => 68 | 4 => 4 | 20 => 20 | n => n, fun | n => n⟩
theorem Try.cloneD : Go.Proofs.SlLaysW.n5 Try.prog Try.cloneD_ren := {
  mixed := by kernel_rfl
  f5 := ⟨Try.f51.name, by decide, Try.func51.trans (congrArg some (by kernel_rfl))⟩
  f7 := Try.func62.trans (congrArg some (by kernel_rfl))
  t4 := Try.underlying4
  a4 := Try.isAgg4
  z4 := Try.sizeOf4
  v4 := Try.zeroValue4
  t20 := Try.underlying20
  a20 := Try.isAgg20
  z20 := Try.sizeOf20
  v20 := Try.zeroValue20
  t23 := Try.underlying55
  a23 := Try.isAgg55
  z23 := Try.sizeOf55
  v23 := Try.zeroValue55 }
theorem cloneD_any (w : World) (b : Nat) (l : Dir) (h : OwnsDir w b l) :
    Calls Try.prog 51 #[.map (some b)] w fun e w' => e = .returned (.map (some w.heap.size)) ∧ OwnsDir w' w.heap.size l ∧ Below w.heap.size w w' :=
  (AnyW.maps_Clone_owns Try.cloneD 9 ptrR b l.length (dirD l) w h).mono fun e w' ⟨h1, h2, _, h3⟩ => ⟨h1, h2, h3⟩

theorem Sm.synced {q : Nat} {s : SS} {w w' : World} {bd : Nat} (h : Sm q s w) (hk : Kept (fun k => k = q) w w') (hb : StB q { s with bd := bd, disk := s.now, AK := none, cK := 0, kept := [] } w') (hd : OwnsDir w' bd s.now) (hne : s.bn ≠ bd) :
    Sm q { s with bd := bd, disk := s.now, AK := none, cK := 0, kept := [] } w' := by
  have n1 : ¬ s.bn = q := fun e => (h.kq.nem h.kn) e.symm
  refine ⟨hb, dir_kept h.mnow hk n1, hd, hne, World.ownsRow_nil _ _ _ _, (hk.bytes h.plan (Nat.le_refl _) ?_).more hk.size, h.pcap, fun k hr => (h.planK k hr).kept hk (fun e => (h.planK k hr).ne h.kq (by decide) e),
    fun f hf => (hk.block f.q (h.kf hf).lt (fun e => (h.kf hf).ne h.kq (by decide) e)).trans (h.fbox f hf), fun f hf => hk.own (h.frow f hf) (fun k hr e => (h.kr hf hr).ne h.kq (by decide) e), h.fsure, h.fap, h.fplan, h.nnow, h.nnow, fun p hp => by cases hp⟩
  intro _ a ha e
  exact (h.planK a.block (by unfold InRow; rw [ha]; rfl)).ne h.kq (by decide) e

/-- What a syncing of the directory leaves. -/
def SydS (s : SS) (m : Int × List UInt8 × Bool) (s' : SS) : Prop :=
  s'.room = s.room ∧ s'.now = s.now ∧ s'.files = s.files ∧ s'.plan = m.2.1 ∧ s'.off = m.2.2 ∧ (m.1 = 0 → s'.disk = s.now ∧ s'.kept = []) ∧ (m.1 ≠ 0 → s'.disk = s.disk ∧ s'.kept = s.kept)
def SydR (q : Nat) (s : SS) (w : World) (m : Int × List UInt8 × Bool) (e : Ending) (w' : World) : Prop :=
  e = .returned (.int .i64 m.1) ∧ ∃ s', Did q s w s' w' ∧ SydS s m s'

set_option maxRecDepth 100000 in
set_option maxHeartbeats 4000000 in
theorem syncDir_any (q : Nat) (s : SS) (w : World) (hs : Sm q s w) (hpl : s.plan.length ≤ 1000000000) :
    Calls Try.prog 24 #[.pointer (some ⟨q, 0, none⟩)] w fun e w' => SydR q s w (meetE true s.off s.plan) e w' := by
  have HME := hide (meet_any q s w hs none w.heap.size 0 0 [] rfl Row.nil (Nat.le_refl _) (by omega) hpl)
  rw [show ([] : List ByteArray).all isNm = true by rfl] at HME
  obtain ⟨m, HM⟩ : ∃ m, Hid (m = meetE true s.off s.plan) := ⟨_, rfl⟩
  rw [← HM.out] at HME ⊢
  have HS := hide hs
  clear hs
  go_enter Try.func24, Try.ntmps24
  go_wp2_with (go_at_call 39; refine halted ?_)
  refine go_on ?_
  refine HME.out.mono ?_
  clear HME
  rintro e w1 ⟨rfl, AP, cP, hdid⟩
  obtain ⟨code, plan, off⟩ := m
  dsimp only at *
  have HD := hide hdid
  by_cases hm : code = 0
  case neg =>
    have hne : (code != 0) = true := by rw [bne_iff_ne]; exact hm
    have HN := hide hm
    clear hm hdid
    go_wp2
    go_ret
    exact ⟨rfl, _, HD.out, rfl, rfl, rfl, rfl, rfl, fun h => absurd h HN.out, fun _ => ⟨rfl, rfl⟩⟩
  subst hm
  have c1 := hdid.sm.box.cell 1
  simp at c1
  have HC := hide (cloneD_any w1 s.bn s.now hdid.sm.mnow)
  clear hdid
  go_wp2_with (go_at_call 51; refine halted ?_)
  refine go_on ?_
  refine HC.out.mono ?_
  clear HC
  rintro e w2 ⟨rfl, hown, hb⟩
  have hs2 := HD.out.sm.call hb
  have hbx := hs2.box
  have f2 := hbx.free 2
  have f3 := hbx.free 3
  have c2 := hbx.cell 2
  have c3 := hbx.cell 3
  simp at c2 c3
  have HS2 := hide hs2
  have HB := hide hb
  have HOWN := hide hown
  have HBX := hide hbx
  clear hs2 hb hown hbx c1
  go_wp2
  go_ret
  have hk : Kept (fun k => k = q) w2 ((w2.setCell ⟨q, 2, none⟩ (.map (some w1.heap.size))).setCell ⟨q, 3, none⟩ (.slice none 0 0)) := (keptQ w2 q 2 _).trans (keptQ _ q 3 _)
  have hbx := Joins.block_setCell (i := 3) (Joins.block_setCell (i := 2) HBX.out (.map (some w1.heap.size))) (.slice none 0 0)
  have hlow : w1.heap.size ≠ q := fun e => by have := HD.out.sm.kq.lt; omega
  have hbn : s.bn ≠ w1.heap.size := fun e => by have : s.bn < w1.heap.size := HD.out.sm.kn.lt; omega
  have hd := dir_kept HOWN.out hk (fun e => hlow e)
  have hsm := HS2.out.synced hk hbx hd hbn
  refine ⟨rfl, _, ⟨hsm, HD.out.kept.trans_in ((Kept.of_below HB.out).trans_in hk (T := fun k => k = q) (S := fun k => k = q) (fun k _ e => e)) (fun k _ e => .inl e), fun k h => ?_⟩, rfl, rfl, rfl, rfl, rfl, fun _ => ⟨rfl, rfl⟩, fun h => absurd rfl h⟩
  rcases h with h | h | h | h | h | h | ⟨p, hp, _⟩
  · exact .inl (.inl h)
  · exact .inl (.inr (.inl h))
  · have h : k = w1.heap.size := h
    exact .inr (by rw [h]; exact HD.out.kept.size)
  · unfold InRow at h; simp at h
  · exact HD.out.own k (.inr (.inr (.inr (.inr (.inl h)))))
  · exact HD.out.own k (.inr (.inr (.inr (.inr (.inr (.inl h))))))
  · cases hp
end Go.Proofs.Ytpakihbejdpmoaa
