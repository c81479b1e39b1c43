/-
  StoreLasts, walked.
-/
import Derived.Test.YtpakihbejdpmoaaLast06
import Derived.Test.YtpakihbejdpmoaaScr06
namespace Go.Proofs.Ytpakihbejdpmoaa
open Go.RowKit
set_option linter.unusedVariables false

/-- The program's store alone. -/
structure Pt (B q : Nat) (s : SS) (p : PS) (w : World) : Prop where
  sm : Sm q s w
  sim : Sim s p
  slow : ∀ k, s.own q k → B ≤ k
  le : B ≤ w.heap.size
theorem Bt.pt {B q r : Nat} {s : SS} {x : RS} {w : World} (h : Bt B q r s x w) : Pt B q s x.abs w := ⟨h.sm, h.sim, h.slow, h.le⟩
section
variable {B q k : Nat} {s s' : SS} {p p' : PS} {w w' : World}
theorem Pt.did (h : Pt B q s p w) (hd : Did q s w s' w') (hs : Sim s' p') : Pt B q s' p' w' ∧ Below B w w' := by
  obtain ⟨h1, h2⟩ := hd.below h.slow h.le
  exact ⟨⟨hd.sm, hs, h2, Nat.le_trans h.le hd.kept.size⟩, h1⟩
theorem Pt.call (h : Pt B q s p w) (hb : Below w.heap.size w w') : Pt B q s p w' := ⟨h.sm.call hb, h.sim, h.slow, Nat.le_trans h.le hb.size⟩
theorem Pt.lens (h : Pt B q s p w) (hf : Fit k p) (hk : k ≤ 1000) : s.now.length ≤ 1000 ∧ s.kept.length ≤ 1000 ∧ s.disk.length ≤ 1000 ∧ s.plan.length ≤ 100000 := by
  have h1 := hf.now
  have h2 := hf.sum
  have h4 := hf.plan
  have e1 : s.now.length = p.now.length := by rw [h.sim.now]; unfold mapD; rw [List.length_map]
  have e2 : s.disk.length = p.disk.length := by rw [h.sim.disk]; unfold mapD; rw [List.length_map]
  have e3 : s.kept.length = p.kept.length := by
    have := congrArg List.length h.sim.kept
    rwa [List.length_map, List.length_map] at this
  have e4 : s.plan = p.plan := h.sim.plan.symm
  rw [e4]
  omega
theorem Pt.flen (h : Pt B q s p w) (hf : Fit k p) (hk : k ≤ 1000) : ∀ f ∈ s.files, f.bs.length ≤ 100000000 := fun f hm =>
  cap_top (hf.bytes (f.bs, f.sure) (by rw [h.sim.files]; exact List.mem_map.2 ⟨f, hm, rfl⟩)) hk
theorem Pt.small (h : Pt B q s p w) (hf : Fit k p) : ∀ p ∈ s.kept, p.ch.small := by
  intro y hy
  have hm : y.ch ∈ p.kept.map (chOf (qsOf s.files)) := by rw [← h.sim.kept]; exact List.mem_map.2 ⟨y, hy, rfl⟩
  obtain ⟨c, hc, he⟩ := List.mem_map.1 hm
  obtain ⟨h1, h2⟩ := hf.names c hc
  rw [← he]
  have z : ∀ l : List UInt8, (strB l).size = l.length := fun l => by unfold strB ByteArray.size; simp
  by_cases k0 : c.kind = 0
  · rw [show chOf (qsOf s.files) c = .put (strB c.nm) ((qsOf s.files).getD c.ix 0) from by unfold chOf; rw [if_pos k0]]
    show (strB c.nm).size ≤ maxLen
    rw [z]
    unfold maxLen
    omega
  by_cases k1 : c.kind = 1
  · rw [show chOf (qsOf s.files) c = .ren (strB c.nm) (strB c.to) ((qsOf s.files).getD c.ix 0) from by unfold chOf; rw [if_neg k0, if_pos k1]]
    show (strB c.nm).size ≤ maxLen ∧ (strB c.to).size ≤ maxLen
    rw [z, z]
    unfold maxLen
    omega
  · rw [show chOf (qsOf s.files) c = .del (strB c.nm) from by unfold chOf; rw [if_neg k0, if_neg k1]]
    show (strB c.nm).size ≤ maxLen
    rw [z]
    unfold maxLen
    omega
theorem fit_create_any (h : Fit k p) (nm : ByteArray) (off : Bool) (plan : List UInt8) (hp : plan = p.plan) : Fit (k + 1) (pCreate p nm (meetE (isNm nm) off plan)).2 := by
  cases hn : isNm nm with
  | true =>
    refine fit_create h nm ?_ true off plan hp
    unfold isNm at hn
    simp at hn
    omega
  | false =>
    have hm := h.met false off plan hp
    unfold pCreate
    rw [if_pos (by unfold meetE; rw [if_pos rfl]; simp)]
    exact hm.more
/-- What an act leaves. -/
def PopR (B q : Nat) (s : SS) (w : World) (x : Int × PS) (e : Ending) (w' : World) : Prop := e = .returned (.int .i64 x.1) ∧ Below B w w' ∧ ∃ s', Did q s w s' w' ∧ Pt B q s' x.2 w'
theorem pt_create (h : Pt B q s p w) (hf : Fit k p) (hk : k ≤ 900) (nm : ByteArray) (hnm : nm.size ≤ maxLen) :
    Calls Try.prog 15 #[.pointer (some ⟨q, 0, none⟩), .string nm] w (PopR B q s w (pCreate p nm (meetE (isNm nm) p.off p.plan))) := by
  obtain ⟨l1, l2, l3, l4⟩ := h.lens hf (by omega)
  refine (create_any q s w h.sm nm hnm (by omega) (by omega) (by omega)).mono ?_
  rintro e w' ⟨rfl, s', hd, hc⟩
  rw [h.sim.off, h.sim.plan]
  have hs := sim_create h.sim hc
  have hp := h.did hd hs.2
  exact ⟨by rw [hs.1], hp.2, _, hd, hp.1⟩
theorem pt_sync (h : Pt B q s p w) (hf : Fit k p) (hk : k ≤ 900) (nm : ByteArray) (hnm : nm.size ≤ maxLen) :
    Calls Try.prog 22 #[.pointer (some ⟨q, 0, none⟩), .string nm] w (PopR B q s w (pSync p nm (meetE (isNm nm) p.off p.plan))) := by
  obtain ⟨l1, l2, l3, l4⟩ := h.lens hf (by omega)
  refine (sync_any q s w h.sm nm hnm (by omega)).mono ?_
  rintro e w' ⟨rfl, s', hd, hc⟩
  rw [h.sim.off, h.sim.plan]
  have hs := sim_sync h.sim (far_sm h.sm) rfl hc
  have hp := h.did hd hs.2
  exact ⟨by rw [hs.1], hp.2, _, hd, hp.1⟩
theorem pt_syncDir (h : Pt B q s p w) (hf : Fit k p) (hk : k ≤ 900) :
    Calls Try.prog 24 #[.pointer (some ⟨q, 0, none⟩)] w (PopR B q s w (pSyncDir p (meetE true p.off p.plan))) := by
  obtain ⟨l1, l2, l3, l4⟩ := h.lens hf (by omega)
  refine (syncDir_any q s w h.sm (by omega)).mono ?_
  rintro e w' ⟨rfl, s', hd, hc⟩
  rw [h.sim.off, h.sim.plan]
  have hs := sim_syncDir h.sim hc
  have hp := h.did hd hs.2
  exact ⟨by rw [hs.1], hp.2, _, hd, hp.1⟩
theorem pt_append (h : Pt B q s p w) (hf : Fit k p) (hk : k ≤ 900) (nm : ByteArray) (hnm : nm.size ≤ maxLen) (A : Option Addr) (n c : Nat) (bs : List UInt8) (hn : bs.length = n) (hr : Bytes w B A bs) (hbl : n ≤ 100000) :
    Calls Try.prog 18 #[.pointer (some ⟨q, 0, none⟩), .string nm, .slice A n c] w (PopR B q s w (pAppend p nm bs (meetE (isNm nm) p.off p.plan))) := by
  subst hn
  obtain ⟨l1, l2, l3, l4⟩ := h.lens hf (by omega)
  have hfl := h.flen hf (by omega)
  obtain ⟨room, hroom, hrm⟩ : ∃ room : Nat, s.room = (room : Int) ∧ room ≤ 16777216 := by
    have h1 := hf.room
    have h2 := h.sim.room
    exact ⟨s.room.toNat, by omega, by omega⟩
  refine (append_any q s w h.sm nm hnm (by omega) room hroom (by omega) (by rw [h.sim.size (far_sm h.sm)]; exact hf.size (by omega)) (fun f hm => by have := hfl f hm; omega) A bs.length c bs rfl (hr.more h.le) (by omega) (away_of hr h.slow)).mono ?_
  rintro e w' ⟨rfl, s', hd, hc⟩
  rw [h.sim.off, h.sim.plan]
  have hs := sim_append h.sim (far_sm h.sm) hroom rfl hc
  have hp := h.did hd hs.2
  exact ⟨by rw [hs.1], hp.2, _, hd, hp.1⟩
def PcrR (B q : Nat) (s : SS) (w : World) (p : PS) (e : Ending) (w' : World) : Prop := e = .returned (.tuple #[]) ∧ Below B w w' ∧ ∃ s', Did q s w s' w' ∧ Pt B q s' p w'
theorem pt_crash (h : Pt B q s p w) (hf : Fit k p) (hk : k ≤ 900) (ch : Int) (A : Option Addr) (n c : Nat) (kl : List Int) (hn : kl.length = n) (hr : Row w B A (kl.map (Value.int .i64))) (hbl : n ≤ 9223372036854775807) :
    Calls Try.prog 23 #[.pointer (some ⟨q, 0, none⟩), .int .i64 ch, .slice A n c] w (PcrR B q s w (pCrash p ch kl)) := by
  subst hn
  obtain ⟨l1, l2, l3, l4⟩ := h.lens hf (by omega)
  have hfl := h.flen hf (by omega)
  refine (crash_any q s w h.sm ch A kl.length c kl rfl (fun wr hkr => (hr.below (hkr.below h.slow h.le)).more (Nat.le_trans h.le hkr.size)) hbl (by omega) (h.small hf) (fun f hm => by have := hfl f hm; omega)).mono ?_
  rintro e w' ⟨rfl, s', hd, hc⟩
  have hp := h.did hd (sim_crash h.sim (far_sm h.sm) hc)
  exact ⟨rfl, hp.2, _, hd, hp.1⟩
def PrdR (w : World) (x : Int × List UInt8) (e : Ending) (w' : World) : Prop := ∃ A c, e = .returned (.tuple #[.slice A x.2.length c, .int .i64 x.1]) ∧ OwnB w' w.heap.size 5 A c x.2 ∧ Below w.heap.size w w'
theorem pt_read (h : Pt B q s p w) (hf : Fit k p) (hk : k ≤ 900) (nm : ByteArray) (hnm : nm.size ≤ maxLen) :
    Calls Try.prog 21 #[.pointer (some ⟨q, 0, none⟩), .string nm] w (PrdR w (pRead p nm)) := by
  have hfl := h.flen hf (by omega)
  refine (read_any q s w h.sm nm hnm (fun f hm => by have := hfl f hm; omega)).mono ?_
  rintro e w' ⟨A, c, bs, rfl, hown, hb, hz, hn⟩
  have hE : (readE s.off (isNm nm) (dFind s.now nm.data.toList), bs) = pRead p nm := by
    unfold pRead
    rw [h.sim.off]
    unfold readE at hz hn ⊢
    by_cases h1 : s.off = true
    · rw [if_pos h1] at hz hn ⊢
      rw [if_pos h1, hn (by decide)]
    rw [if_neg h1] at hz hn ⊢
    rw [if_neg h1]
    by_cases h2 : isNm nm = false
    · rw [if_pos h2] at hz hn ⊢
      rw [if_pos h2, hn (by decide)]
    rw [if_neg h2] at hz hn ⊢
    rw [if_neg h2]
    cases hf : dFind p.now nm.data.toList with
    | none =>
      rw [h.sim.none hf] at hz hn ⊢
      have hn' : (4 : Int) ≠ 0 → bs = [] := hn
      rw [hn' (by decide)]
    | some k =>
      obtain ⟨f, hx, hfs, hfp⟩ := h.sim.file hf
      rw [hfs] at hz hn ⊢
      obtain ⟨g, hg, hgq, hgb⟩ := hz rfl
      injection hgq with hgq
      have := far_at (far_sm h.sm) hx hg hgq.symm
      subst this
      dsimp only
      rw [hfp, hgb]
  rw [← hE]
  exact ⟨A, c, rfl, hown, hb⟩
end
/-- Bytes that are none of the store's. -/
structure Hold (q : Nat) (s : SS) (w : World) (A : Option Addr) (bs : List UInt8) : Prop where
  bytes : Bytes w w.heap.size A bs
  out : ∀ j, InRow A j → ¬ s.own q j
  lt : ∀ j, InRow A j → j < w.heap.size
theorem Hold.did {q : Nat} {s s' : SS} {w w' : World} {A : Option Addr} {bs : List UInt8} (h : Hold q s w A bs) (hd : Did q s w s' w') : Hold q s' w' A bs := by
  refine ⟨(hd.kept.bytes h.bytes (Nat.le_refl _) ?_).more hd.kept.size, fun j hj ho => ?_, fun j hj => Nat.lt_of_lt_of_le (h.lt j hj) hd.kept.size⟩
  · intro _ a ha
    exact h.out a.block (by unfold InRow; rw [ha]; rfl)
  · rcases hd.own j ho with h1 | h1
    · exact h.out j hj h1
    · have := h.lt j hj
      omega
theorem Hold.call {q : Nat} {s : SS} {w w' : World} {A : Option Addr} {bs : List UInt8} (h : Hold q s w A bs) (hb : Below w.heap.size w w') : Hold q s w' A bs :=
  ⟨(h.bytes.below hb).more hb.size, h.out, fun j hj => Nat.lt_of_lt_of_le (h.lt j hj) hb.size⟩
theorem Hold.read {q : Nat} {s : SS} {w w' : World} {A : Option Addr} {c : Nat} {bs : List UInt8} (hs : Sm q s w) (h : OwnB w' w.heap.size 5 A c bs) : Hold q s w' A bs :=
  ⟨h.bytes, fun j hj ho => by
    have h1 := (h.lt hj).1
    have h2 := hs.lt ho
    omega, fun j hj => (h.lt hj).2⟩
theorem Ac.Ok.more {a : Ac} {w : World} {B B' : Nat} (h : a.Ok w B) (hB : B ≤ B') : a.Ok w B' := ⟨Row.more h.bytes hB, h.keep.more hB, h.bl, h.kl, h.nm, h.to⟩
theorem ActRow.more {w : World} {B B' : Nat} {A : Option Addr} {l : List Ac} (h : ActRow w B A l) (hB : B ≤ B') : ActRow w B' A l := ⟨h.1.more hB, fun s hs => (h.2 s hs).more hB⟩

set_option maxRecDepth 100000 in
set_option maxHeartbeats 8000000 in
theorem storeLasts_any (A : Option Addr) (n c : Nat) (l : List Ac) (a : Ac) (AM : Option Addr) (nM cM : Nat) (more : List UInt8) (w : World) (hn : l.length = n) (hl : ActRow w w.heap.size A l) (hll : n ≤ 9223372036854775807) (hx : a.Ok w w.heap.size) (hnm : more.length = nM) (hm : Bytes w w.heap.size AM more) :
    Calls Try.prog 8 #[.slice A n c, a.v, .slice AM nM cM] w fun e w' => e = .returned (.bool true) ∧ Below w.heap.size w w' := by
  subst hn hnm
  obtain ⟨w1, hw1, hb1, HBX0⟩ := box_act w a
  have hvv : a.v = .agg #[.int .i64 a.do_, .string a.nm, .string a.to, .int .i64 a.n, .slice a.AB a.bs.length a.cB, .slice a.AK a.kl.length a.cK] := rfl
  rw [hvv]
  obtain ⟨q4, hq4⟩ : ∃ q4, q4 = w.heap.size := ⟨_, rfl⟩
  obtain ⟨B, hBE⟩ : ∃ B, B = w1.heap.size := ⟨_, rfl⟩
  have hqB : q4 < B := by rw [hq4, hBE, hw1]; simp
  have hwB : w.heap.size ≤ B := by rw [hBE]; exact hb1.size
  rw [← hq4] at HBX0
  have HBX := hide (show ∀ W, Below B w1 W → W.cell? ⟨q4, 1, none⟩ = some (.string a.nm) ∧ W.cell? ⟨q4, 3, none⟩ = some (.int .i64 a.n) ∧ W.cell? ⟨q4, 4, none⟩ = some (.slice a.AB a.bs.length a.cB) ∧ W.cell? ⟨q4, 5, none⟩ = some (.slice a.AK a.kl.length a.cK) from fun W hW => by
    obtain ⟨_, h1, _, h3, h4, h5⟩ := HBX0 W (hW.block q4 hqB)
    exact ⟨h1, h3, h4, h5⟩)
  have HL := hide ((hl.belowLe hb1 (Nat.le_refl _)).more hwB)
  have HX := hide ((hx.belowLe hb1 (Nat.le_refl _)).more hwB)
  have HM := hide ((hm.belowLe hb1 (Nat.le_refl _)).more hwB)
  have HB1 := hide hb1
  have HWB := hide hwB
  have HBE := hide hBE
  have HLL := hide hll
  clear hl hx hm hll HBX0 hqB hwB hBE hvv hb1
  go_enter Try.func8, Try.ntmps8
  go_wp2_with (go_at_call 9; refine halted ?_)
  refine go_on ?_
  rw [← hw1, ← hq4]
  clear hw1 hq4
  refine (awake_any w1).mono ?_
  rintro e w2 ⟨rfl, hb2⟩
  have HB2 := hide hb2
  clear hb2
  go_wp2_with (go_at_call 10; refine halted ?_)
  refine go_on ?_
  refine (new_ok w2 400000 (by omega) (by omega)).mono ?_
  rintro e w3 ⟨q, bn, bd, rfl, hs, hb3, ho⟩
  have HS := hide hs
  have HO := hide ho
  have HB3 := hide hb3
  clear hs hb3 ho
  go_wp2_with (go_at_call 11; refine halted ?_)
  refine go_on ?_
  refine (rnew_ok w3 400000 (by omega) (by omega)).mono ?_
  rintro e w4 ⟨r, rfl, hrm, hb4, hor⟩
  have hbt := bt_new (B := B) HS.out HB3.out HO.out hrm hb4 hor (by rw [HBE.out]; exact HB2.out.size)
  have hb24 : Below w2.heap.size w2 w4 := HB3.out.trans (hb4.mono HB3.out.size)
  have hb14 : Below B w1 w4 := by
    rw [HBE.out]
    exact HB2.out.trans (hb24.mono HB2.out.size)
  have HBT := hide hbt
  have HB14 := hide hb14
  have hal := HL.out.belowLe hb14 (Nat.le_refl _)
  have HAL := hide hal
  have HMU := hide (much_any A B l.length c l w4 rfl hal HLL.out)
  clear hrm hb4 hor hbt hb24 hb14 hal
  go_wp2_with (go_at_call 12; refine halted ?_)
  refine go_on ?_
  refine HMU.out.mono ?_
  rintro e w5 ⟨b, rfl, rfl, hsz⟩
  have HFW := hide (show ∀ W, Below B w4 W → Below w.heap.size w W from fun W hW => HB1.out.trans ((HB14.out.trans hW).mono HWB.out))
  obtain ⟨y1, y3, y4, y5⟩ := HBX.out _ HB14.out
  cases b with
  | true =>
    clear hsz
    go_wp2
    go_ret
    exact ⟨rfl, HFW.out _ (Below.refl _ _)⟩
  | false =>
  have HSZ := hide (hsz rfl)
  clear hsz HMU
  by_cases hbig : 10000 < a.bs.length
  · have hbig' : (10000 : Int) < (a.bs.length : Int) := by omega
    clear hbig
    go_wp2
    go_ret
    exact ⟨rfl, HFW.out _ (Below.refl _ _)⟩
  have hbig' : (a.bs.length : Int) ≤ 10000 := by omega
  by_cases hbm : 10000 < more.length
  · have hbm' : (10000 : Int) < (more.length : Int) := by omega
    clear hbm hbig
    go_wp2
    go_ret
    exact ⟨rfl, HFW.out _ (Below.refl _ _)⟩
  have hbm' : (more.length : Int) ≤ 10000 := by omega
  have HBG := hide (show a.bs.length ≤ 10000 ∧ more.length ≤ 10000 from by omega)
  clear hbig hbm
  go_wp2
  go_loopw [13] (fun i wr => ScRel B q r l w4 i wr) (fun i _ => l.length - (intOf i).toNat)
  case atStart => exact ⟨0, Nat.zero_le _, Nat.zero_le _, rfl, Below.refl _ _, _, _, HBT.out, fit_new (by omega)⟩
  case round =>
    obtain ⟨k, hk, hk3, rfl, hbr, s, x, hbt, hfit⟩ := hrel
    by_cases hlt : k < l.length ∧ k < 300
    · obtain ⟨t, ht⟩ : ∃ t, l[k]? = some t := ⟨_, List.getElem?_eq_getElem hlt.1⟩
      have halr := HAL.out.belowLe hbr (Nat.le_refl _)
      obtain ⟨ad, rfl, hadb, c0, c1, c2, c3, c4, c5⟩ := halr.cells ht
      have hj1 : (k : Int) < (l.length : Int) := by omega
      have hj2 : (k : Int) < 300 := by omega
      have hdo := does_any B q r k s x wr hbt hfit (by omega) t (halr.2 t (List.mem_of_getElem? ht)) (HSZ.out k t hlt.2 ht)
      unfold Ac.v at hdo
      have HDO := hide hdo
      have HBR := hide hbr
      have HLT := hide hlt
      clear ht halr hdo hbr hbt hfit hlt
      go_wp2_with (go_at_call 13; refine halted ?_)
      refine go_on ?_
      refine HDO.out.mono ?_
      clear HDO
      rintro e w6 ⟨rfl, hb6, s', x', hbt', hfit'⟩
      have hrel2 : ScRel B q r l w4 (.int .i64 ((k : Int) + 1)) w6 := ⟨k + 1, HLT.out.1, HLT.out.2, by simp, HBR.out.trans hb6, s', x', hbt', hfit'⟩
      have HR2 := hide hrel2
      clear hb6 hrel2 hbt' hfit' c0 c1 c2 c3 c4 c5
      go_wp2
      case roundEnd => exact ⟨HR2.out, by have := HLT.out; simp [intOf]; omega⟩
    · have hor : (l.length : Int) ≤ (k : Int) ∨ (k : Int) < (l.length : Int) ∧ ¬ (k : Int) < 300 := by omega
      have HK := hide hk3
      have HPT := hide hbt.pt
      have HFT := hide hfit
      generalize x.abs = p0 at *
      have HBR := hide hbr
      clear hlt hk hk3 hbr hbt hfit
      obtain ⟨p1, h1⟩ : ∃ p1, p1 = pCrash p0 0 [] := ⟨_, rfl⟩
      have hf1 : Fit (k + 1) p1 := by rw [h1]; exact fit_crash HFT.out 0 []
      have hst : Still p1 := by rw [h1]; exact ⟨rfl, rfl⟩
      obtain ⟨a2, p2, h2⟩ : ∃ e p, (e, p) = pCreate p1 a.nm (meetE (isNm a.nm) p1.off p1.plan) := ⟨_, _, rfl⟩
      have hf2 : Fit (k + 2) p2 := by have h := fit_create_any hf1 a.nm p1.off p1.plan rfl; rw [← h2] at h; exact h
      obtain ⟨ea, p3, h3⟩ : ∃ e p, (e, p) = pAppend p2 a.nm a.bs (meetE (isNm a.nm) p2.off p2.plan) := ⟨_, _, rfl⟩
      have hf3 : Fit (k + 3) p3 := by have h := fit_append hf2 a.nm a.bs (by have := HBG.out; omega) (isNm a.nm) p2.off p2.plan rfl; rw [← h3] at h; exact h
      obtain ⟨eb, p4, h4⟩ : ∃ e p, (e, p) = pSync p3 a.nm (meetE (isNm a.nm) p3.off p3.plan) := ⟨_, _, rfl⟩
      have hf4 : Fit (k + 4) p4 := by have h := fit_sync hf3 a.nm (isNm a.nm) p3.off p3.plan rfl; rw [← h4] at h; exact h
      obtain ⟨ec, p5, h5⟩ : ∃ e p, (e, p) = pSyncDir p4 (meetE true p4.off p4.plan) := ⟨_, _, rfl⟩
      have hf5 : Fit (k + 5) p5 := by have h := fit_syncDir hf4 true p4.off p4.plan rfl; rw [← h5] at h; exact h
      obtain ⟨a6, p6, h6⟩ : ∃ e p, (e, p) = pAppend p5 a.nm more (meetE (isNm a.nm) p5.off p5.plan) := ⟨_, _, rfl⟩
      have hf6 : Fit (k + 6) p6 := by have h := fit_append hf5 a.nm more (by have := HBG.out; omega) (isNm a.nm) p5.off p5.plan rfl; rw [← h6] at h; exact h
      obtain ⟨a7, p7, h7⟩ : ∃ e p, (e, p) = pCreate p6 zz (meetE (isNm zz) p6.off p6.plan) := ⟨_, _, rfl⟩
      have hf7 : Fit (k + 7) p7 := by have h := fit_create_any hf6 zz p6.off p6.plan rfl; rw [← h7] at h; exact h
      obtain ⟨p8, h8⟩ : ∃ p8, p8 = pCrash p7 a.n a.kl := ⟨_, rfl⟩
      have hf8 : Fit (k + 8) p8 := by rw [h8]; exact fit_crash hf7 a.n a.kl
      have HLAW := hide (fun hix => lasts_law (n := a.n) (kl := a.kl) hst hix (congrArg Prod.snd h2) h3 h4 h5 (congrArg Prod.snd h6) (congrArg Prod.snd h7) h8)
      have HC1 := hide (show ∀ (s : SS) (W : World), Pt B q s p0 W → Calls Try.prog 23 #[.pointer (some ⟨q, 0, none⟩), .int .i64 0, .slice none 0 0] W (PcrR B q s W p1) from fun s W h => by rw [h1]; exact pt_crash h HFT.out (by have := HK.out; omega) 0 none 0 0 [] rfl Row.nil (by omega))
      have HC2 := hide (show ∀ (s : SS) (W : World), Pt B q s p1 W → Calls Try.prog 15 #[.pointer (some ⟨q, 0, none⟩), .string a.nm] W (PopR B q s W (a2, p2)) from fun s W h => by rw [h2]; exact pt_create h hf1 (by have := HK.out; omega) a.nm HX.out.nm)
      have HC3 := hide (show ∀ (s : SS) (W : World), Pt B q s p2 W → Below B w1 W → Calls Try.prog 18 #[.pointer (some ⟨q, 0, none⟩), .string a.nm, .slice a.AB a.bs.length a.cB] W (PopR B q s W (ea, p3)) from fun s W h hb => by rw [h3]; exact pt_append h hf2 (by have := HK.out; omega) a.nm HX.out.nm a.AB a.bs.length a.cB a.bs rfl (HX.out.bytes.below hb) (by have := HBG.out; omega))
      have HC4 := hide (show ∀ (s : SS) (W : World), Pt B q s p3 W → Calls Try.prog 22 #[.pointer (some ⟨q, 0, none⟩), .string a.nm] W (PopR B q s W (eb, p4)) from fun s W h => by rw [h4]; exact pt_sync h hf3 (by have := HK.out; omega) a.nm HX.out.nm)
      have HC5 := hide (show ∀ (s : SS) (W : World), Pt B q s p4 W → Calls Try.prog 24 #[.pointer (some ⟨q, 0, none⟩)] W (PopR B q s W (ec, p5)) from fun s W h => by rw [h5]; exact pt_syncDir h hf4 (by have := HK.out; omega))
      have HC6 := hide (show ∀ (s : SS) (W : World), Pt B q s p5 W → Calls Try.prog 21 #[.pointer (some ⟨q, 0, none⟩), .string a.nm] W (PrdR W (pRead p5 a.nm)) from fun s W h => pt_read h hf5 (by have := HK.out; omega) a.nm HX.out.nm)
      have HC7 := hide (show ∀ (s : SS) (W : World), Pt B q s p5 W → Below B w1 W → Calls Try.prog 18 #[.pointer (some ⟨q, 0, none⟩), .string a.nm, .slice AM more.length cM] W (PopR B q s W (a6, p6)) from fun s W h hb => by rw [h6]; exact pt_append h hf5 (by have := HK.out; omega) a.nm HX.out.nm AM more.length cM more rfl (HM.out.below hb) (by have := HBG.out; omega))
      have HC8 := hide (show ∀ (s : SS) (W : World), Pt B q s p6 W → Calls Try.prog 21 #[.pointer (some ⟨q, 0, none⟩), .string a.nm] W (PrdR W (pRead p6 a.nm)) from fun s W h => pt_read h hf6 (by have := HK.out; omega) a.nm HX.out.nm)
      have HC9 := hide (show ∀ (s : SS) (W : World), Pt B q s p6 W → Calls Try.prog 15 #[.pointer (some ⟨q, 0, none⟩), .string ⟨#[122, 122, 45, 111, 116, 104, 101, 114]⟩] W (PopR B q s W (a7, p7)) from fun s W h => by rw [h7]; exact pt_create h hf6 (by have := HK.out; omega) zz (by unfold maxLen; decide))
      have HC10 := hide (show ∀ (s : SS) (W : World), Pt B q s p7 W → Below B w1 W → Calls Try.prog 23 #[.pointer (some ⟨q, 0, none⟩), .int .i64 a.n, .slice a.AK a.kl.length a.cK] W (PcrR B q s W p8) from fun s W h hb => by rw [h8]; exact pt_crash h hf7 (by have := HK.out; omega) a.n a.AK a.kl.length a.cK a.kl rfl (HX.out.keep.below hb) HX.out.kl)
      have HC11 := hide (show ∀ (s : SS) (W : World), Pt B q s p8 W → Calls Try.prog 21 #[.pointer (some ⟨q, 0, none⟩), .string a.nm] W (PrdR W (pRead p8 a.nm)) from fun s W h => pt_read h hf8 (by have := HK.out; omega) a.nm HX.out.nm)
      clear h1 hf1 hst h2 hf2 h3 hf3 h4 hf4 h5 hf5 h6 hf6 h7 hf7 h8 hf8 y1 y3 y4 y5 hbig' hbm'
      have HV0 := HBR
      rcases hor with hor | ⟨ho1, ho2⟩
      all_goals
        obtain ⟨y1, y3, y4, y5⟩ := HBX.out _ (HB14.out.trans HBR.out)
        go_wp2_with (go_at_call 23; refine halted ?_)
        refine go_on ?_
        refine (HC1.out s wr HPT.out).mono ?_
        rintro e v1 ⟨rfl, hbv, s1, hdv, hpv⟩
        have HV1 := hide (HBR.out.trans hbv)
        have HP1 := hide hpv
        clear hbv hdv hpv y1 y3 y4 y5
        have HLW := hide (HLAW.out HP1.out.sim.inow)
        obtain ⟨y1, y3, y4, y5⟩ := HBX.out _ (HB14.out.trans HV1.out)
        go_wp2_with (go_at_call 15; refine halted ?_)
        refine go_on ?_
        refine (HC2.out s1 v1 HP1.out).mono ?_
        rintro e v2 ⟨rfl, hbv, s2, hdv, hpv⟩
        have HV2 := hide (HV1.out.trans hbv)
        have HP2 := hide hpv
        clear hbv hdv hpv y1 y3 y4 y5
        obtain ⟨y1, y3, y4, y5⟩ := HBX.out _ (HB14.out.trans HV2.out)
        go_wp2_with (go_at_call 18; refine halted ?_)
        refine go_on ?_
        refine (HC3.out s2 v2 HP2.out (HB14.out.trans HV2.out)).mono ?_
        rintro e v3 ⟨rfl, hbv, s3, hdv, hpv⟩
        have HV3 := hide (HV2.out.trans hbv)
        have HP3 := hide hpv
        clear hbv hdv hpv y1 y3 y4 y5
        obtain ⟨y1, y3, y4, y5⟩ := HBX.out _ (HB14.out.trans HV3.out)
        go_wp2_with (go_at_call 22; refine halted ?_)
        refine go_on ?_
        refine (HC4.out s3 v3 HP3.out).mono ?_
        rintro e v4 ⟨rfl, hbv, s4, hdv, hpv⟩
        have HV4 := hide (HV3.out.trans hbv)
        have HP4 := hide hpv
        clear hbv hdv hpv y1 y3 y4 y5
        obtain ⟨y1, y3, y4, y5⟩ := HBX.out _ (HB14.out.trans HV4.out)
        go_wp2_with (go_at_call 24; refine halted ?_)
        refine go_on ?_
        refine (HC5.out s4 v4 HP4.out).mono ?_
        rintro e v5 ⟨rfl, hbv, s5, hdv, hpv⟩
        have HV5 := hide (HV4.out.trans hbv)
        have HP5 := hide hpv
        clear hbv hdv hpv y1 y3 y4 y5
        by_cases h0 : ea = 0
        case neg =>
          have hne : (ea != 0) = true := by rw [bne_iff_ne]; exact h0
          have hor2 := HLW.out.1 h0
          have HFF := hide (HFW.out _ HV5.out)
          clear h0
          rcases hor2 with rfl | rfl
          all_goals
            go_wp2
            go_ret
            exact ⟨rfl, HFF.out⟩
        obtain ⟨hb0, hc0, hok⟩ := HLW.out.2 h0
        have HOK := hide hok
        subst h0
        subst hb0
        subst hc0
        clear hok
        obtain ⟨y1, y3, y4, y5⟩ := HBX.out _ (HB14.out.trans HV5.out)
        go_wp2_with (go_at_call 21; refine halted ?_)
        refine go_on ?_
        refine (HC6.out s5 v5 HP5.out).mono ?_
        rintro e v6 ⟨A6, c6, rfl, hown, hbv⟩
        have HV6 := hide (HV5.out.trans (hbv.mono HP5.out.le))
        have HP6 := hide (HP5.out.call hbv)
        have HH6 := hide (Hold.read HP5.out.sm hown)
        have HCP6 := hide (show (pRead p5 a.nm).2.length ≤ c6 from by
          obtain ⟨_, _, e1, e2, _⟩ := own_shape hown
          injection e1 with _ _ e1
          omega)
        clear hbv hown y1 y3 y4 y5
        rw [HOK.out.r5]
        obtain ⟨y1, y3, y4, y5⟩ := HBX.out _ (HB14.out.trans HV6.out)
        go_wp2_with (go_at_call 18; refine halted ?_)
        refine go_on ?_
        refine (HC7.out s5 v6 HP6.out (HB14.out.trans HV6.out)).mono ?_
        rintro e v7 ⟨rfl, hbv, s7, hdv, hpv⟩
        have HV7 := hide (HV6.out.trans hbv)
        have HP7 := hide hpv
        replace HH6 := hide (HH6.out.did hdv)
        clear hbv hdv hpv y1 y3 y4 y5
        obtain ⟨y1, y3, y4, y5⟩ := HBX.out _ (HB14.out.trans HV7.out)
        go_wp2_with (go_at_call 21; refine halted ?_)
        refine go_on ?_
        refine (HC8.out s7 v7 HP7.out).mono ?_
        rintro e v8 ⟨A8, c8, rfl, hown, hbv⟩
        have HV8 := hide (HV7.out.trans (hbv.mono HP7.out.le))
        have HP8 := hide (HP7.out.call hbv)
        have HH8 := hide (Hold.read HP7.out.sm hown)
        have HCP8 := hide (show (pRead p6 a.nm).2.length ≤ c8 from by
          obtain ⟨_, _, e1, e2, _⟩ := own_shape hown
          injection e1 with _ _ e1
          omega)
        replace HH6 := hide (HH6.out.call hbv)
        clear hbv hown y1 y3 y4 y5
        rw [HOK.out.r6]
        obtain ⟨y1, y3, y4, y5⟩ := HBX.out _ (HB14.out.trans HV8.out)
        go_wp2_with (go_at_call 15; refine halted ?_)
        refine go_on ?_
        refine (HC9.out s7 v8 HP8.out).mono ?_
        rintro e v9 ⟨rfl, hbv, s9, hdv, hpv⟩
        have HV9 := hide (HV8.out.trans hbv)
        have HP9 := hide hpv
        replace HH6 := hide (HH6.out.did hdv)
        replace HH8 := hide (HH8.out.did hdv)
        clear hbv hdv hpv y1 y3 y4 y5
        obtain ⟨y1, y3, y4, y5⟩ := HBX.out _ (HB14.out.trans HV9.out)
        go_wp2_with (go_at_call 23; refine halted ?_)
        refine go_on ?_
        refine (HC10.out s9 v9 HP9.out (HB14.out.trans HV9.out)).mono ?_
        rintro e v10 ⟨rfl, hbv, s10, hdv, hpv⟩
        have HV10 := hide (HV9.out.trans hbv)
        have HP10 := hide hpv
        replace HH6 := hide (HH6.out.did hdv)
        replace HH8 := hide (HH8.out.did hdv)
        clear hbv hdv hpv y1 y3 y4 y5
        obtain ⟨y1, y3, y4, y5⟩ := HBX.out _ (HB14.out.trans HV10.out)
        go_wp2_with (go_at_call 21; refine halted ?_)
        refine go_on ?_
        refine (HC11.out s10 v10 HP10.out).mono ?_
        rintro e v11 ⟨A11, c11, rfl, hown, hbv⟩
        have HV11 := hide (HV10.out.trans (hbv.mono HP10.out.le))
        have HP11 := hide (HP10.out.call hbv)
        have HH11 := hide (Hold.read HP10.out.sm hown)
        have HCP11 := hide (show (pRead p8 a.nm).2.length ≤ c11 from by
          obtain ⟨_, _, e1, e2, _⟩ := own_shape hown
          injection e1 with _ _ e1
          omega)
        replace HH6 := hide (HH6.out.call hbv)
        replace HH8 := hide (HH8.out.call hbv)
        clear hbv hown y1 y3 y4 y5
        rw [HOK.out.r8]
        obtain ⟨u, v, e1, e2⟩ := HOK.out.pre
        obtain ⟨S, hS⟩ : ∃ S, S = (pRead p5 a.nm).2 := ⟨_, rfl⟩
        obtain ⟨U, hU⟩ : ∃ U, U = (pRead p6 a.nm).2 := ⟨_, rfl⟩
        obtain ⟨T, hT⟩ : ∃ T, T = (pRead p8 a.nm).2 := ⟨_, rfl⟩
        rw [← hS, ← hT] at e1
        rw [← hU, ← hT] at e2
        rw [← hS] at HH6 HCP6 ⊢
        rw [← hU] at HH8 HCP8 ⊢
        rw [← hT] at HH11 HCP11 ⊢
        clear hS hU hT
        have n1 : S.length ≤ T.length := by rw [e1, List.length_append]; omega
        have n2 : T.length ≤ U.length := by rw [e2, List.length_append]; omega
        have t1 : T.take S.length = S := by rw [e1, List.take_left]
        have t2 : U.take T.length = T := by rw [e2, List.take_left]
        have hcut1 := cutB_to (A := A11) (n := T.length) (c := c11) (k := S.length) (Nat.le_trans n1 HCP11.out)
        have hcut2 := cutB_to (A := A8) (n := U.length) (c := c8) (k := T.length) (Nat.le_trans n2 HCP8.out)
        have hcv1 : ∀ i, (convert 33 9 (.slice A11 S.length c11)).run Try.prog (v11.drewN i) = .ok (.string (strB S)) (v11.drewN i) := fun i =>
          run_str (P := Try.prog) Try.underlying33 Try.underlying5 Try.underlying9 (show Bytes (v11.drewN i) v11.heap.size A11 S from t1 ▸ (HH11.out.bytes.take S.length).below (below_dN (Below.refl _ _) i)) rfl
        have hcv2 : ∀ i, (convert 33 9 (.slice A6 S.length c6)).run Try.prog (v11.drewN i) = .ok (.string (strB S)) (v11.drewN i) := fun i =>
          run_str (P := Try.prog) Try.underlying33 Try.underlying5 Try.underlying9 (show Bytes (v11.drewN i) v11.heap.size A6 S from HH6.out.bytes.below (below_dN (Below.refl _ _) i)) rfl
        have hcv3 : ∀ i, (convert 33 9 (.slice A11 T.length c11)).run Try.prog (v11.drewN i) = .ok (.string (strB T)) (v11.drewN i) := fun i =>
          run_str (P := Try.prog) Try.underlying33 Try.underlying5 Try.underlying9 (show Bytes (v11.drewN i) v11.heap.size A11 T from HH11.out.bytes.below (below_dN (Below.refl _ _) i)) rfl
        have hcv4 : ∀ i, (convert 33 9 (.slice A8 T.length c8)).run Try.prog (v11.drewN i) = .ok (.string (strB T)) (v11.drewN i) := fun i =>
          run_str (P := Try.prog) Try.underlying33 Try.underlying5 Try.underlying9 (show Bytes (v11.drewN i) v11.heap.size A8 T from t2 ▸ (HH8.out.bytes.take T.length).below (below_dN (Below.refl _ _) i)) rfl
        have n1' : (S.length : Int) ≤ (T.length : Int) := by omega
        have n2' : (T.length : Int) ≤ (U.length : Int) := by omega
        have q1 : (S.length : Int) ≤ (c11 : Int) := by have := HCP11.out; omega
        have q2 : (T.length : Int) ≤ (c8 : Int) := by have := HCP8.out; omega
        have HFF := hide (HFW.out _ HV11.out)
        clear e1 e2 t1 t2 n1 n2
        go_wp2
        go_quiet (fail)
        have HFF2 := hide (below_dN HFF.out nq)
        go_wp2
        go_ret
        exact ⟨rfl, HFF2.out⟩
end Go.Proofs.Ytpakihbejdpmoaa
