/-
  An act at both stores: Create. An act at both stores: Append. An act at both stores: Sync. An act at both stores: Rename. An act at both stores: Remove. An act at both stores: SyncDir. An act at both stores: Read. An act at both stores: Plan. An act at both stores: Crash. An act at both stores: any other, and all.
-/
import Derived.Test.YtpakihbejdpmoaaSimA
import Derived.Test.YtpakihbejdpmoaaRs4
import Derived.Test.YtpakihbejdpmoaaRead06
import Derived.Test.YtpakihbejdpmoaaPlan06
namespace Go.Proofs.Ytpakihbejdpmoaa
open Go.RowKit
set_option linter.unusedVariables false

set_option maxRecDepth 100000 in
set_option maxHeartbeats 4000000 in
theorem does0_any (B q r k : Nat) (s : SS) (x : RS) (w : World) (hB : Bt B q r s x w) (hf : Fit k x.abs) (hk : k ≤ 900) (a : Ac) (ha : a.Ok w B) (hz : a.Sz) (hdo : a.do_ = 0) :
    Calls Try.prog 13 #[.pointer (some ⟨q, 0, none⟩), .pointer (some ⟨r, 0, none⟩), a.v] w (DoR B q r k w) := by
  obtain ⟨w1, hw1, hb1, HBX⟩ := box_act w a
  have hB1 := hB.call hb1
  have ha1 := ha.belowLe hb1 hB.le
  obtain ⟨q5, hq5⟩ : ∃ q5, q5 = w.heap.size := ⟨_, rfl⟩
  rw [← hq5] at HBX
  have hq1 : q5 < w1.heap.size := by rw [hq5, hw1]; simp
  have hqs : ¬ s.own q q5 := fun h => by have := hB.sm.lt h; omega
  have hpl : x.plan = s.plan := hB.sim.plan
  have hof : x.off = s.off := hB.sim.off
  obtain ⟨l1, l2, l3, l4⟩ := hB.lens hf (by omega)
  have hfl := hB.flen hf (by omega)
  obtain ⟨x0, x1, x2, x3, x4, x5⟩ := HBX w1 rfl
  rw [hdo] at x0
  have hvv : a.v = .agg #[.int .i64 0, .string a.nm, .string a.to, .int .i64 a.n, .slice a.AB a.bs.length a.cB, .slice a.AK a.kl.length a.cK] := by unfold Ac.v; rw [hdo]
  rw [hdo] at hw1
  rw [hvv]
  have HP := hide (create_any q s w1 hB1.sm a.nm (big_of hz.nm) (by omega) (by omega) (by omega))
  have HBXH := hide HBX
  have HB1 := hide hB1
  have HA := hide ha
  have HA1 := hide ha1
  have HZ := hide hz
  have HF := hide hf
  have HBW := hide hb1
  have HLE := hide hB.le
  have HQ := hide (And.intro hq1 hqs)
  have HPO := hide (And.intro hpl hof)
  have HFL := hide hfl
  clear HBX hB1 ha1 ha hz hf hb1 hq1 hqs hpl hof hfl hB l1 l2 l3 l4 hvv hdo
  go_enter Try.func13, Try.ntmps13
  go_wp2_with (go_at_call 15; refine halted ?_)
  refine go_on ?_
  rw [← hw1, ← hq5]
  refine HP.out.mono ?_
  clear HP
  rintro e w2 ⟨rfl, s2, hd, hc⟩
  have hlf := HB1.out.left hd
  have hm2 := hlf.1
  have hb2 : Below B w1 w2 := hlf.2.2.2
  have hx2 := HBXH.out w2 (hd.kept.block q5 HQ.out.1 HQ.out.2)
  obtain ⟨y0, y1, y2, y3, y4, y5⟩ := hx2
  have ha2 : a.Ok w2 B := HA1.out.belowLe hb2 (Nat.le_refl _)
  have HR := hide (rcreate_any r x w2 hm2 a.nm (big_of HZ.out.nm) (Fit.small HF.out (by omega)))
  have HD := hide hd
  have HM2 := hide hm2
  have HC := hide hc
  clear hlf hm2 hb2 hd hc ha2 x0 x1 x2 x3 x4 x5 hw1 hq5
  go_wp2_with (go_at_call 25; refine halted ?_)
  refine go_on ?_
  refine HR.out.mono ?_
  clear HR
  rintro e w3 ⟨rfl, x', hrd, hxa⟩
  rw [HPO.out.1, HPO.out.2] at hxa
  have hsim := sim_create HB1.out.sim HC.out
  have hbt := HB1.out.both HD.out hrd (by rw [hxa]; exact hsim.2)
  have hfit : Fit (k + 1) x'.abs := by
    rw [hxa]
    exact fit_create HF.out a.nm HZ.out.nm (isNm a.nm) s.off s.plan HPO.out.1.symm
  have HFI := hide (show DoR B q r k w (.returned (.bool true)) w3 from ⟨rfl, (HBW.out.mono HLE.out).trans hbt.2, _, _, hbt.1, hfit⟩)
  have he1 := hsim.1
  rw [HPO.out.1, HPO.out.2]
  rw [he1]
  generalize (pCreate x.abs a.nm (meetE (isNm a.nm) s.off s.plan)).1 = E at *
  clear hsim hbt hfit hxa hrd y0 y1 y2 y3 y4 y5
  go_wp2
  go_ret
  exact HFI.out
end Go.Proofs.Ytpakihbejdpmoaa
namespace Go.Proofs.Ytpakihbejdpmoaa
open Go.RowKit
set_option linter.unusedVariables false

set_option maxRecDepth 100000 in
set_option maxHeartbeats 4000000 in
theorem does1_any (B q r k : Nat) (s : SS) (x : RS) (w : World) (hB : Bt B q r s x w) (hf : Fit k x.abs) (hk : k ≤ 900) (a : Ac) (ha : a.Ok w B) (hz : a.Sz) (hdo : a.do_ = 1) (room : Nat) (hroom : s.room = (room : Int)) (hrm : room ≤ 16777216) :
    Calls Try.prog 13 #[.pointer (some ⟨q, 0, none⟩), .pointer (some ⟨r, 0, none⟩), a.v] w (DoR B q r k w) := by
  obtain ⟨w1, hw1, hb1, HBX⟩ := box_act w a
  have hB1 := hB.call hb1
  have ha1 := ha.belowLe hb1 hB.le
  obtain ⟨q5, hq5⟩ : ∃ q5, q5 = w.heap.size := ⟨_, rfl⟩
  rw [← hq5] at HBX
  have hq1 : q5 < w1.heap.size := by rw [hq5, hw1]; simp
  have hqs : ¬ s.own q q5 := fun h => by have := hB.sm.lt h; omega
  have hpl : x.plan = s.plan := hB.sim.plan
  have hof : x.off = s.off := hB.sim.off
  obtain ⟨l1, l2, l3, l4⟩ := hB.lens hf (by omega)
  have hfl := hB.flen hf (by omega)
  obtain ⟨x0, x1, x2, x3, x4, x5⟩ := HBX w1 rfl
  rw [hdo] at x0
  have hvv : a.v = .agg #[.int .i64 1, .string a.nm, .string a.to, .int .i64 a.n, .slice a.AB a.bs.length a.cB, .slice a.AK a.kl.length a.cK] := by unfold Ac.v; rw [hdo]
  rw [hdo] at hw1
  rw [hvv]
  have HP := hide (append_any q s w1 hB1.sm a.nm (big_of hz.nm) (by omega) room hroom (by omega) (by rw [hB.sim.size (far_sm hB.sm)]; exact hf.size (by omega)) (fun f hm => by have := hfl f hm; omega) a.AB a.bs.length a.cB a.bs rfl (ha1.bytes.more hB1.le) (by have := hz.bs; omega) (away_of ha1.bytes hB.slow))
  have HBXH := hide HBX
  have HB1 := hide hB1
  have HA := hide ha
  have HA1 := hide ha1
  have HZ := hide hz
  have HF := hide hf
  have HBW := hide hb1
  have HLE := hide hB.le
  have HQ := hide (And.intro hq1 hqs)
  have HPO := hide (And.intro hpl hof)
  have HFL := hide hfl
  clear HBX hB1 ha1 ha hz hf hb1 hq1 hqs hpl hof hfl hB l1 l2 l3 l4 hvv hdo
  go_enter Try.func13, Try.ntmps13
  go_wp2_with (go_at_call 18; refine halted ?_)
  refine go_on ?_
  rw [← hw1, ← hq5]
  refine HP.out.mono ?_
  clear HP
  rintro e w2 ⟨rfl, s2, hd, hc⟩
  have hlf := HB1.out.left hd
  have hm2 := hlf.1
  have hb2 : Below B w1 w2 := hlf.2.2.2
  have hx2 := HBXH.out w2 (hd.kept.block q5 HQ.out.1 HQ.out.2)
  obtain ⟨y0, y1, y2, y3, y4, y5⟩ := hx2
  have ha2 : a.Ok w2 B := HA1.out.belowLe hb2 (Nat.le_refl _)
  have HR := hide (rappend_any r x w2 hm2 a.nm (big_of HZ.out.nm) (Fit.small HF.out (by omega)) (by have h := HB1.out.sim.room; rw [hroom] at h; show 0 ≤ x.abs.room ∧ x.abs.room ≤ _; rw [h]; omega) (by rw [← psize_abs]; exact HF.out.size (by omega)) a.AB a.bs.length a.cB a.bs rfl (ha2.bytes.more (Nat.le_trans HB1.out.le (hd.kept.size))) (away_of ha2.bytes HB1.out.rlow) (by have := HZ.out.bs; omega))
  have HD := hide hd
  have HM2 := hide hm2
  have HC := hide hc
  clear hlf hm2 hb2 hd hc ha2 x0 x1 x2 x3 x4 x5 hw1 hq5
  go_wp2_with (go_at_call 26; refine halted ?_)
  refine go_on ?_
  refine HR.out.mono ?_
  clear HR
  rintro e w3 ⟨rfl, x', hrd, hxa⟩
  rw [HPO.out.1, HPO.out.2] at hxa
  have hsim := sim_append HB1.out.sim (far_sm HB1.out.sm) hroom rfl HC.out
  have hbt := HB1.out.both HD.out hrd (by rw [hxa]; exact hsim.2)
  have hfit : Fit (k + 1) x'.abs := by
    rw [hxa]
    exact fit_append HF.out a.nm a.bs HZ.out.bs (isNm a.nm) s.off s.plan HPO.out.1.symm
  have HFI := hide (show DoR B q r k w (.returned (.bool true)) w3 from ⟨rfl, (HBW.out.mono HLE.out).trans hbt.2, _, _, hbt.1, hfit⟩)
  have he1 := hsim.1
  rw [HPO.out.1, HPO.out.2]
  rw [he1]
  generalize (pAppend x.abs a.nm a.bs (meetE (isNm a.nm) s.off s.plan)).1 = E at *
  clear hsim hbt hfit hxa hrd y0 y1 y2 y3 y4 y5
  go_wp2
  go_ret
  exact HFI.out
end Go.Proofs.Ytpakihbejdpmoaa
namespace Go.Proofs.Ytpakihbejdpmoaa
open Go.RowKit
set_option linter.unusedVariables false

set_option maxRecDepth 100000 in
set_option maxHeartbeats 4000000 in
theorem does2_any (B q r k : Nat) (s : SS) (x : RS) (w : World) (hB : Bt B q r s x w) (hf : Fit k x.abs) (hk : k ≤ 900) (a : Ac) (ha : a.Ok w B) (hz : a.Sz) (hdo : a.do_ = 2) :
    Calls Try.prog 13 #[.pointer (some ⟨q, 0, none⟩), .pointer (some ⟨r, 0, none⟩), a.v] w (DoR B q r k w) := by
  obtain ⟨w1, hw1, hb1, HBX⟩ := box_act w a
  have hB1 := hB.call hb1
  have ha1 := ha.belowLe hb1 hB.le
  obtain ⟨q5, hq5⟩ : ∃ q5, q5 = w.heap.size := ⟨_, rfl⟩
  rw [← hq5] at HBX
  have hq1 : q5 < w1.heap.size := by rw [hq5, hw1]; simp
  have hqs : ¬ s.own q q5 := fun h => by have := hB.sm.lt h; omega
  have hpl : x.plan = s.plan := hB.sim.plan
  have hof : x.off = s.off := hB.sim.off
  obtain ⟨l1, l2, l3, l4⟩ := hB.lens hf (by omega)
  have hfl := hB.flen hf (by omega)
  obtain ⟨x0, x1, x2, x3, x4, x5⟩ := HBX w1 rfl
  rw [hdo] at x0
  have hvv : a.v = .agg #[.int .i64 2, .string a.nm, .string a.to, .int .i64 a.n, .slice a.AB a.bs.length a.cB, .slice a.AK a.kl.length a.cK] := by unfold Ac.v; rw [hdo]
  rw [hdo] at hw1
  rw [hvv]
  have HP := hide (sync_any q s w1 hB1.sm a.nm (big_of hz.nm) (by omega))
  have HBXH := hide HBX
  have HB1 := hide hB1
  have HA := hide ha
  have HA1 := hide ha1
  have HZ := hide hz
  have HF := hide hf
  have HBW := hide hb1
  have HLE := hide hB.le
  have HQ := hide (And.intro hq1 hqs)
  have HPO := hide (And.intro hpl hof)
  have HFL := hide hfl
  clear HBX hB1 ha1 ha hz hf hb1 hq1 hqs hpl hof hfl hB l1 l2 l3 l4 hvv hdo
  go_enter Try.func13, Try.ntmps13
  go_wp2_with (go_at_call 22; refine halted ?_)
  refine go_on ?_
  rw [← hw1, ← hq5]
  refine HP.out.mono ?_
  clear HP
  rintro e w2 ⟨rfl, s2, hd, hc⟩
  have hlf := HB1.out.left hd
  have hm2 := hlf.1
  have hb2 : Below B w1 w2 := hlf.2.2.2
  have hx2 := HBXH.out w2 (hd.kept.block q5 HQ.out.1 HQ.out.2)
  obtain ⟨y0, y1, y2, y3, y4, y5⟩ := hx2
  have ha2 : a.Ok w2 B := HA1.out.belowLe hb2 (Nat.le_refl _)
  have HR := hide (rsync_any r x w2 hm2 a.nm (big_of HZ.out.nm) (Fit.small HF.out (by omega)))
  have HD := hide hd
  have HM2 := hide hm2
  have HC := hide hc
  clear hlf hm2 hb2 hd hc ha2 x0 x1 x2 x3 x4 x5 hw1 hq5
  go_wp2_with (go_at_call 27; refine halted ?_)
  refine go_on ?_
  refine HR.out.mono ?_
  clear HR
  rintro e w3 ⟨rfl, x', hrd, hxa⟩
  rw [HPO.out.1, HPO.out.2] at hxa
  have hsim := sim_sync HB1.out.sim (far_sm HB1.out.sm) rfl HC.out
  have hbt := HB1.out.both HD.out hrd (by rw [hxa]; exact hsim.2)
  have hfit : Fit (k + 1) x'.abs := by
    rw [hxa]
    exact fit_sync HF.out a.nm (isNm a.nm) s.off s.plan HPO.out.1.symm
  have HFI := hide (show DoR B q r k w (.returned (.bool true)) w3 from ⟨rfl, (HBW.out.mono HLE.out).trans hbt.2, _, _, hbt.1, hfit⟩)
  have he1 := hsim.1
  rw [HPO.out.1, HPO.out.2]
  rw [he1]
  generalize (pSync x.abs a.nm (meetE (isNm a.nm) s.off s.plan)).1 = E at *
  clear hsim hbt hfit hxa hrd y0 y1 y2 y3 y4 y5
  go_wp2
  go_ret
  exact HFI.out
end Go.Proofs.Ytpakihbejdpmoaa
namespace Go.Proofs.Ytpakihbejdpmoaa
open Go.RowKit
set_option linter.unusedVariables false

set_option maxRecDepth 100000 in
set_option maxHeartbeats 4000000 in
theorem does3_any (B q r k : Nat) (s : SS) (x : RS) (w : World) (hB : Bt B q r s x w) (hf : Fit k x.abs) (hk : k ≤ 900) (a : Ac) (ha : a.Ok w B) (hz : a.Sz) (hdo : a.do_ = 3) :
    Calls Try.prog 13 #[.pointer (some ⟨q, 0, none⟩), .pointer (some ⟨r, 0, none⟩), a.v] w (DoR B q r k w) := by
  obtain ⟨w1, hw1, hb1, HBX⟩ := box_act w a
  have hB1 := hB.call hb1
  have ha1 := ha.belowLe hb1 hB.le
  obtain ⟨q5, hq5⟩ : ∃ q5, q5 = w.heap.size := ⟨_, rfl⟩
  rw [← hq5] at HBX
  have hq1 : q5 < w1.heap.size := by rw [hq5, hw1]; simp
  have hqs : ¬ s.own q q5 := fun h => by have := hB.sm.lt h; omega
  have hpl : x.plan = s.plan := hB.sim.plan
  have hof : x.off = s.off := hB.sim.off
  obtain ⟨l1, l2, l3, l4⟩ := hB.lens hf (by omega)
  have hfl := hB.flen hf (by omega)
  obtain ⟨x0, x1, x2, x3, x4, x5⟩ := HBX w1 rfl
  rw [hdo] at x0
  have hvv : a.v = .agg #[.int .i64 3, .string a.nm, .string a.to, .int .i64 a.n, .slice a.AB a.bs.length a.cB, .slice a.AK a.kl.length a.cK] := by unfold Ac.v; rw [hdo]
  rw [hdo] at hw1
  rw [hvv]
  have HP := hide (rename_any q s w1 hB1.sm a.nm a.to (big_of hz.nm) (big_of hz.to) (by omega) (by omega) (by omega))
  have HBXH := hide HBX
  have HB1 := hide hB1
  have HA := hide ha
  have HA1 := hide ha1
  have HZ := hide hz
  have HF := hide hf
  have HBW := hide hb1
  have HLE := hide hB.le
  have HQ := hide (And.intro hq1 hqs)
  have HPO := hide (And.intro hpl hof)
  have HFL := hide hfl
  clear HBX hB1 ha1 ha hz hf hb1 hq1 hqs hpl hof hfl hB l1 l2 l3 l4 hvv hdo
  go_enter Try.func13, Try.ntmps13
  go_wp2_with (go_at_call 20; refine halted ?_)
  refine go_on ?_
  rw [← hw1, ← hq5]
  refine HP.out.mono ?_
  clear HP
  rw [Bool.and_comm (isNm a.to)]
  rintro e w2 ⟨rfl, s2, hd, hc⟩
  have hlf := HB1.out.left hd
  have hm2 := hlf.1
  have hb2 : Below B w1 w2 := hlf.2.2.2
  have hx2 := HBXH.out w2 (hd.kept.block q5 HQ.out.1 HQ.out.2)
  obtain ⟨y0, y1, y2, y3, y4, y5⟩ := hx2
  have ha2 : a.Ok w2 B := HA1.out.belowLe hb2 (Nat.le_refl _)
  have HR := hide (rrename_any r x w2 hm2 a.nm a.to (big_of HZ.out.nm) (big_of HZ.out.to) (Fit.small HF.out (by omega)))
  have HD := hide hd
  have HM2 := hide hm2
  have HC := hide hc
  clear hlf hm2 hb2 hd hc ha2 x0 x1 x2 x3 x4 x5 hw1 hq5
  go_wp2_with (go_at_call 28; refine halted ?_)
  refine go_on ?_
  refine HR.out.mono ?_
  clear HR
  rintro e w3 ⟨rfl, x', hrd, hxa⟩
  rw [HPO.out.1, HPO.out.2] at hxa
  have hsim := sim_rename HB1.out.sim rfl HC.out
  have hbt := HB1.out.both HD.out hrd (by rw [hxa]; exact hsim.2)
  have hfit : Fit (k + 1) x'.abs := by
    rw [hxa]
    exact fit_rename HF.out a.nm a.to HZ.out.nm HZ.out.to (isNm a.nm && isNm a.to) s.off s.plan HPO.out.1.symm
  have HFI := hide (show DoR B q r k w (.returned (.bool true)) w3 from ⟨rfl, (HBW.out.mono HLE.out).trans hbt.2, _, _, hbt.1, hfit⟩)
  have he1 := hsim.1
  rw [HPO.out.1, HPO.out.2]
  rw [he1]
  generalize (pRename x.abs a.nm a.to (meetE (isNm a.nm && isNm a.to) s.off s.plan)).1 = E at *
  clear hsim hbt hfit hxa hrd y0 y1 y2 y3 y4 y5
  go_wp2
  go_ret
  exact HFI.out
end Go.Proofs.Ytpakihbejdpmoaa
namespace Go.Proofs.Ytpakihbejdpmoaa
open Go.RowKit
set_option linter.unusedVariables false

set_option maxRecDepth 100000 in
set_option maxHeartbeats 4000000 in
theorem does4_any (B q r k : Nat) (s : SS) (x : RS) (w : World) (hB : Bt B q r s x w) (hf : Fit k x.abs) (hk : k ≤ 900) (a : Ac) (ha : a.Ok w B) (hz : a.Sz) (hdo : a.do_ = 4) :
    Calls Try.prog 13 #[.pointer (some ⟨q, 0, none⟩), .pointer (some ⟨r, 0, none⟩), a.v] w (DoR B q r k w) := by
  obtain ⟨w1, hw1, hb1, HBX⟩ := box_act w a
  have hB1 := hB.call hb1
  have ha1 := ha.belowLe hb1 hB.le
  obtain ⟨q5, hq5⟩ : ∃ q5, q5 = w.heap.size := ⟨_, rfl⟩
  rw [← hq5] at HBX
  have hq1 : q5 < w1.heap.size := by rw [hq5, hw1]; simp
  have hqs : ¬ s.own q q5 := fun h => by have := hB.sm.lt h; omega
  have hpl : x.plan = s.plan := hB.sim.plan
  have hof : x.off = s.off := hB.sim.off
  obtain ⟨l1, l2, l3, l4⟩ := hB.lens hf (by omega)
  have hfl := hB.flen hf (by omega)
  obtain ⟨x0, x1, x2, x3, x4, x5⟩ := HBX w1 rfl
  rw [hdo] at x0
  have hvv : a.v = .agg #[.int .i64 4, .string a.nm, .string a.to, .int .i64 a.n, .slice a.AB a.bs.length a.cB, .slice a.AK a.kl.length a.cK] := by unfold Ac.v; rw [hdo]
  rw [hdo] at hw1
  rw [hvv]
  have HP := hide (remove_any q s w1 hB1.sm a.nm (big_of hz.nm) (by omega) (by omega) (by omega))
  have HBXH := hide HBX
  have HB1 := hide hB1
  have HA := hide ha
  have HA1 := hide ha1
  have HZ := hide hz
  have HF := hide hf
  have HBW := hide hb1
  have HLE := hide hB.le
  have HQ := hide (And.intro hq1 hqs)
  have HPO := hide (And.intro hpl hof)
  have HFL := hide hfl
  clear HBX hB1 ha1 ha hz hf hb1 hq1 hqs hpl hof hfl hB l1 l2 l3 l4 hvv hdo
  go_enter Try.func13, Try.ntmps13
  go_wp2_with (go_at_call 29; refine halted ?_)
  refine go_on ?_
  rw [← hw1, ← hq5]
  refine HP.out.mono ?_
  clear HP
  rintro e w2 ⟨rfl, s2, hd, hc⟩
  have hlf := HB1.out.left hd
  have hm2 := hlf.1
  have hb2 : Below B w1 w2 := hlf.2.2.2
  have hx2 := HBXH.out w2 (hd.kept.block q5 HQ.out.1 HQ.out.2)
  obtain ⟨y0, y1, y2, y3, y4, y5⟩ := hx2
  have ha2 : a.Ok w2 B := HA1.out.belowLe hb2 (Nat.le_refl _)
  have HR := hide (rremove_any r x w2 hm2 a.nm (big_of HZ.out.nm) (Fit.small HF.out (by omega)))
  have HD := hide hd
  have HM2 := hide hm2
  have HC := hide hc
  clear hlf hm2 hb2 hd hc ha2 x0 x1 x2 x3 x4 x5 hw1 hq5
  go_wp2_with (go_at_call 30; refine halted ?_)
  refine go_on ?_
  refine HR.out.mono ?_
  clear HR
  rintro e w3 ⟨rfl, x', hrd, hxa⟩
  rw [HPO.out.1, HPO.out.2] at hxa
  have hsim := sim_remove HB1.out.sim rfl HC.out
  have hbt := HB1.out.both HD.out hrd (by rw [hxa]; exact hsim.2)
  have hfit : Fit (k + 1) x'.abs := by
    rw [hxa]
    exact fit_remove HF.out a.nm HZ.out.nm (isNm a.nm) s.off s.plan HPO.out.1.symm
  have HFI := hide (show DoR B q r k w (.returned (.bool true)) w3 from ⟨rfl, (HBW.out.mono HLE.out).trans hbt.2, _, _, hbt.1, hfit⟩)
  have he1 := hsim.1
  rw [HPO.out.1, HPO.out.2]
  rw [he1]
  generalize (pRemove x.abs a.nm (meetE (isNm a.nm) s.off s.plan)).1 = E at *
  clear hsim hbt hfit hxa hrd y0 y1 y2 y3 y4 y5
  go_wp2
  go_ret
  exact HFI.out
end Go.Proofs.Ytpakihbejdpmoaa
namespace Go.Proofs.Ytpakihbejdpmoaa
open Go.RowKit
set_option linter.unusedVariables false

set_option maxRecDepth 100000 in
set_option maxHeartbeats 4000000 in
theorem does5_any (B q r k : Nat) (s : SS) (x : RS) (w : World) (hB : Bt B q r s x w) (hf : Fit k x.abs) (hk : k ≤ 900) (a : Ac) (ha : a.Ok w B) (hz : a.Sz) (hdo : a.do_ = 5) :
    Calls Try.prog 13 #[.pointer (some ⟨q, 0, none⟩), .pointer (some ⟨r, 0, none⟩), a.v] w (DoR B q r k w) := by
  obtain ⟨w1, hw1, hb1, HBX⟩ := box_act w a
  have hB1 := hB.call hb1
  have ha1 := ha.belowLe hb1 hB.le
  obtain ⟨q5, hq5⟩ : ∃ q5, q5 = w.heap.size := ⟨_, rfl⟩
  rw [← hq5] at HBX
  have hq1 : q5 < w1.heap.size := by rw [hq5, hw1]; simp
  have hqs : ¬ s.own q q5 := fun h => by have := hB.sm.lt h; omega
  have hpl : x.plan = s.plan := hB.sim.plan
  have hof : x.off = s.off := hB.sim.off
  obtain ⟨l1, l2, l3, l4⟩ := hB.lens hf (by omega)
  have hfl := hB.flen hf (by omega)
  obtain ⟨x0, x1, x2, x3, x4, x5⟩ := HBX w1 rfl
  rw [hdo] at x0
  have hvv : a.v = .agg #[.int .i64 5, .string a.nm, .string a.to, .int .i64 a.n, .slice a.AB a.bs.length a.cB, .slice a.AK a.kl.length a.cK] := by unfold Ac.v; rw [hdo]
  rw [hdo] at hw1
  rw [hvv]
  have HP := hide (syncDir_any q s w1 hB1.sm (by omega))
  have HBXH := hide HBX
  have HB1 := hide hB1
  have HA := hide ha
  have HA1 := hide ha1
  have HZ := hide hz
  have HF := hide hf
  have HBW := hide hb1
  have HLE := hide hB.le
  have HQ := hide (And.intro hq1 hqs)
  have HPO := hide (And.intro hpl hof)
  have HFL := hide hfl
  clear HBX hB1 ha1 ha hz hf hb1 hq1 hqs hpl hof hfl hB l1 l2 l3 l4 hvv hdo
  go_enter Try.func13, Try.ntmps13
  go_wp2_with (go_at_call 24; refine halted ?_)
  refine go_on ?_
  rw [← hw1, ← hq5]
  refine HP.out.mono ?_
  clear HP
  rintro e w2 ⟨rfl, s2, hd, hc⟩
  have hlf := HB1.out.left hd
  have hm2 := hlf.1
  have hb2 : Below B w1 w2 := hlf.2.2.2
  have hx2 := HBXH.out w2 (hd.kept.block q5 HQ.out.1 HQ.out.2)
  obtain ⟨y0, y1, y2, y3, y4, y5⟩ := hx2
  have ha2 : a.Ok w2 B := HA1.out.belowLe hb2 (Nat.le_refl _)
  have HR := hide (rsyncDir_any r x w2 hm2 (Fit.small HF.out (by omega)))
  have HD := hide hd
  have HM2 := hide hm2
  have HC := hide hc
  clear hlf hm2 hb2 hd hc ha2 x0 x1 x2 x3 x4 x5 hw1 hq5
  go_wp2_with (go_at_call 31; refine halted ?_)
  refine go_on ?_
  refine HR.out.mono ?_
  clear HR
  rintro e w3 ⟨rfl, x', hrd, hxa⟩
  rw [HPO.out.1, HPO.out.2] at hxa
  have hsim := sim_syncDir HB1.out.sim HC.out
  have hbt := HB1.out.both HD.out hrd (by rw [hxa]; exact hsim.2)
  have hfit : Fit (k + 1) x'.abs := by
    rw [hxa]
    exact fit_syncDir HF.out true s.off s.plan HPO.out.1.symm
  have HFI := hide (show DoR B q r k w (.returned (.bool true)) w3 from ⟨rfl, (HBW.out.mono HLE.out).trans hbt.2, _, _, hbt.1, hfit⟩)
  have he1 := hsim.1
  rw [HPO.out.1, HPO.out.2]
  rw [he1]
  generalize (pSyncDir x.abs (meetE true s.off s.plan)).1 = E at *
  clear hsim hbt hfit hxa hrd y0 y1 y2 y3 y4 y5
  go_wp2
  go_ret
  exact HFI.out
end Go.Proofs.Ytpakihbejdpmoaa
namespace Go.Proofs.Ytpakihbejdpmoaa
open Go.RowKit
set_option linter.unusedVariables false

theorem readE_eq {off ok : Bool} {o1 o2 : Option Nat} (h : o1.isSome = o2.isSome) : readE off ok o1 = readE off ok o2 := by
  unfold readE
  cases o1 <;> cases o2 <;> first | rfl | cases h
theorem read_same {s : SS} {x : RS} {nm : List UInt8} {E : Int} {b1 b2 : List UInt8} (h : Sim s x.abs) (hp : Far s.files) (h1 : E = 0 → ∃ f ∈ s.files, dFind s.now nm = some f.q ∧ b1 = f.bs) (h2 : E ≠ 0 → b1 = []) (h3 : E = 0 → ∃ k f, dFind x.now nm = some k ∧ x.files[k]? = some f ∧ b2 = f.bs) (h4 : E ≠ 0 → b2 = []) : b1 = b2 := by
  by_cases h0 : E = 0
  · obtain ⟨f, hf, hq, e1⟩ := h1 h0
    obtain ⟨k, g, hk, hg, e2⟩ := h3 h0
    obtain ⟨f0, hx, hfs, hfp⟩ := h.file (nm := nm) (k := k) hk
    rw [hq] at hfs
    injection hfs with hfs
    have := far_at hp hx hf hfs
    subst this
    have h5 : (x.files.map fun f => (f.bs, f.sure))[k]? = some (f.bs, f.sure) := hfp
    rw [List.getElem?_map, hg] at h5
    injection h5 with h5
    injection h5 with h5 _
    rw [e1, e2, h5]
  · rw [h2 h0, h4 h0]
set_option maxRecDepth 100000 in
set_option maxHeartbeats 4000000 in
theorem does6_any (B q r k : Nat) (s : SS) (x : RS) (w : World) (hB : Bt B q r s x w) (hf : Fit k x.abs) (hk : k ≤ 900) (a : Ac) (ha : a.Ok w B) (hz : a.Sz) (hdo : a.do_ = 6) :
    Calls Try.prog 13 #[.pointer (some ⟨q, 0, none⟩), .pointer (some ⟨r, 0, none⟩), a.v] w (DoR B q r k w) := by
  obtain ⟨w1, hw1, hb1, HBX⟩ := box_act w a
  have hB1 := hB.call hb1
  have ha1 := ha.belowLe hb1 hB.le
  obtain ⟨q5, hq5⟩ : ∃ q5, q5 = w.heap.size := ⟨_, rfl⟩
  rw [← hq5] at HBX
  have hq1 : q5 < w1.heap.size := by rw [hq5, hw1]; simp
  have hqs : ¬ s.own q q5 := fun h => by have := hB.sm.lt h; omega
  have hpl : x.plan = s.plan := hB.sim.plan
  have hof : x.off = s.off := hB.sim.off
  obtain ⟨l1, l2, l3, l4⟩ := hB.lens hf (by omega)
  have hfl := hB.flen hf (by omega)
  obtain ⟨x0, x1, x2, x3, x4, x5⟩ := HBX w1 rfl
  rw [hdo] at x0
  have hvv : a.v = .agg #[.int .i64 6, .string a.nm, .string a.to, .int .i64 a.n, .slice a.AB a.bs.length a.cB, .slice a.AK a.kl.length a.cK] := by unfold Ac.v; rw [hdo]
  rw [hdo] at hw1
  rw [hvv]
  have HP := hide (read_any q s w1 hB1.sm a.nm (big_of hz.nm) (fun f hm => by have := hfl f hm; omega))
  have HBXH := hide HBX
  have HB1 := hide hB1
  have HA := hide ha
  have HA1 := hide ha1
  have HZ := hide hz
  have HF := hide hf
  have HBW := hide hb1
  have HLE := hide hB.le
  have HQ := hide (And.intro hq1 hqs)
  have HPO := hide (And.intro hpl hof)
  have HFL := hide hfl
  clear HBX hB1 ha1 ha hz hf hb1 hq1 hqs hpl hof hfl hB l1 l2 l3 l4 hvv hdo
  go_enter Try.func13, Try.ntmps13
  go_wp2_with (go_at_call 21; refine halted ?_)
  refine go_on ?_
  rw [← hw1, ← hq5]
  refine HP.out.mono ?_
  clear HP
  rintro e w2 ⟨A1, c1, bs1, rfl, hown1, hb12, hz1, hn1⟩
  have hd : Did q s w1 s w2 := Did.call HB1.out.sm hb12
  have hlf := HB1.out.left hd
  have hm2 := hlf.1
  have hb2 : Below B w1 w2 := hlf.2.2.2
  have hx2 := HBXH.out w2 (hd.kept.block q5 HQ.out.1 HQ.out.2)
  obtain ⟨y0, y1, y2, y3, y4, y5⟩ := hx2
  have ha2 : a.Ok w2 B := HA1.out.belowLe hb2 (Nat.le_refl _)
  have HR := hide (rread_any r x w2 hm2 a.nm (big_of HZ.out.nm) (fun f hm => by have := (Fit.small HF.out (by omega)).bytes f hm; omega) (by have := (Fit.small HF.out (by omega)).now; omega))
  have HD := hide hd
  have HO1 := hide hown1
  have HR1 := hide (And.intro hz1 hn1)
  have HB12 := hide hb12
  clear hlf hm2 hb2 hd ha2 x0 x1 x2 x3 x4 x5 hw1 hq5 hown1 hz1 hn1 hb12
  go_wp2_with (go_at_call 32; refine halted ?_)
  refine go_on ?_
  refine HR.out.mono ?_
  clear HR
  rintro e w3 ⟨A2, c2, bs2, rfl, hown2, hb23, hz2, hn2⟩
  obtain ⟨E, hE⟩ : ∃ E, E = readE s.off (isNm a.nm) (dFind s.now a.nm.data.toList) := ⟨_, rfl⟩
  have hE2 : readE x.off (isNm a.nm) (dFind x.now a.nm.data.toList) = E := by
    rw [hE, HPO.out.2]
    exact readE_eq (HB1.out.sim.some_eq _).symm
  rw [hE2] at hz2 hn2
  rw [hE2, ← hE]
  have hbs := read_same HB1.out.sim (far_sm HB1.out.sm) (by rw [hE]; exact HR1.out.1) (by rw [hE]; exact HR1.out.2) hz2 hn2
  subst hbs
  have hr1 : Bytes w3 w3.heap.size A1 bs1 := (HO1.out.bytes.below hb23).more hb23.size
  have hr2 : Bytes w3 w3.heap.size A2 bs1 := hown2.bytes
  have hcv1 := run_str (P := Try.prog) (w := w3) (c := c1) (src := 33) (dst := 9) Try.underlying33 Try.underlying5 Try.underlying9 hr1 rfl
  have hcv2 := run_str (P := Try.prog) (w := w3) (c := c2) (src := 33) (dst := 9) Try.underlying33 Try.underlying5 Try.underlying9 hr2 rfl
  have hbt := (HB1.out.call HB12.out).call hb23
  have HFI := hide (show DoR B q r k w (.returned (.bool true)) w3 from ⟨rfl, (HBW.out.mono HLE.out).trans ((HB12.out.mono HB1.out.le).trans (hb23.mono (Nat.le_trans HB1.out.le HB12.out.size))), _, _, hbt, HF.out.more⟩)
  clear hbt hr1 hr2 hown2 hb23 hz2 hn2 hE hE2 y0 y1 y2 y3 y4 y5
  go_wp2
  go_ret
  exact HFI.out
end Go.Proofs.Ytpakihbejdpmoaa
namespace Go.Proofs.Ytpakihbejdpmoaa
open Go.RowKit
set_option linter.unusedVariables false

set_option maxRecDepth 100000 in
set_option maxHeartbeats 4000000 in
theorem does7_any (B q r k : Nat) (s : SS) (x : RS) (w : World) (hB : Bt B q r s x w) (hf : Fit k x.abs) (hk : k ≤ 900) (a : Ac) (ha : a.Ok w B) (hz : a.Sz) (hdo : a.do_ = 7) :
    Calls Try.prog 13 #[.pointer (some ⟨q, 0, none⟩), .pointer (some ⟨r, 0, none⟩), a.v] w (DoR B q r k w) := by
  obtain ⟨w1, hw1, hb1, HBX⟩ := box_act w a
  have hB1 := hB.call hb1
  have ha1 := ha.belowLe hb1 hB.le
  obtain ⟨q5, hq5⟩ : ∃ q5, q5 = w.heap.size := ⟨_, rfl⟩
  rw [← hq5] at HBX
  have hq1 : q5 < w1.heap.size := by rw [hq5, hw1]; simp
  have hqs : ¬ s.own q q5 := fun h => by have := hB.sm.lt h; omega
  have hpl : x.plan = s.plan := hB.sim.plan
  have hof : x.off = s.off := hB.sim.off
  obtain ⟨l1, l2, l3, l4⟩ := hB.lens hf (by omega)
  have hfl := hB.flen hf (by omega)
  obtain ⟨x0, x1, x2, x3, x4, x5⟩ := HBX w1 rfl
  rw [hdo] at x0
  have hvv : a.v = .agg #[.int .i64 7, .string a.nm, .string a.to, .int .i64 a.n, .slice a.AB a.bs.length a.cB, .slice a.AK a.kl.length a.cK] := by unfold Ac.v; rw [hdo]
  rw [hdo] at hw1
  rw [hvv]
  have HP := hide (plan_any q s w1 hB1.sm a.AB B a.cB a.bs.length a.bs rfl ha1.bytes hB1.le (by have := hz.bs; omega))
  have HBXH := hide HBX
  have HB1 := hide hB1
  have HA := hide ha
  have HA1 := hide ha1
  have HZ := hide hz
  have HF := hide hf
  have HBW := hide hb1
  have HLE := hide hB.le
  have HQ := hide (And.intro hq1 hqs)
  have HPO := hide (And.intro hpl hof)
  have HFL := hide hfl
  clear HBX hB1 ha1 ha hz hf hb1 hq1 hqs hpl hof hfl hB l1 l2 l3 l4 hvv hdo
  go_enter Try.func13, Try.ntmps13
  go_wp2_with (go_at_call 16; refine halted ?_)
  refine go_on ?_
  rw [← hw1, ← hq5]
  refine HP.out.mono ?_
  clear HP
  rintro e w2 ⟨rfl, AP, cP, hd⟩
  have hlf := HB1.out.left hd
  have hm2 := hlf.1
  have hb2 : Below B w1 w2 := hlf.2.2.2
  have hx2 := HBXH.out w2 (hd.kept.block q5 HQ.out.1 HQ.out.2)
  obtain ⟨y0, y1, y2, y3, y4, y5⟩ := hx2
  have ha2 : a.Ok w2 B := HA1.out.belowLe hb2 (Nat.le_refl _)
  have HR := hide (rplan_any r x w2 hm2 a.AB B a.cB a.bs.length a.bs rfl ha2.bytes (Nat.le_trans HB1.out.le hd.kept.size) (by have := HZ.out.bs; omega))
  have HD := hide hd
  clear hlf hm2 hb2 hd ha2 x0 x1 x2 x3 x4 x5 hw1 hq5
  go_wp2_with (go_at_call 33; refine halted ?_)
  refine go_on ?_
  refine HR.out.mono ?_
  clear HR
  rintro e w3 ⟨rfl, AP2, cP2, hrd⟩
  have hsim : Sim { s with AP := AP, cP := cP, plan := a.bs } (x.abs.met (0, a.bs, x.off)) := HB1.out.sim.meet (0, a.bs, x.off) rfl rfl rfl rfl rfl rfl (by exact HPO.out.2.symm)
  have hbt := HB1.out.both HD.out hrd hsim
  have hfit : Fit (k + 1) (x.abs.met (0, a.bs, x.off)) := fit_plan HF.out a.bs HZ.out.bs
  have HFI := hide (show DoR B q r k w (.returned (.bool true)) w3 from ⟨rfl, (HBW.out.mono HLE.out).trans hbt.2, _, _, hbt.1, hfit⟩)
  clear hsim hbt hfit hrd y0 y1 y2 y3 y4 y5
  go_wp2
  go_ret
  exact HFI.out
end Go.Proofs.Ytpakihbejdpmoaa
namespace Go.Proofs.Ytpakihbejdpmoaa
open Go.RowKit
set_option linter.unusedVariables false

set_option maxRecDepth 100000 in
set_option maxHeartbeats 4000000 in
theorem does8_any (B q r k : Nat) (s : SS) (x : RS) (w : World) (hB : Bt B q r s x w) (hf : Fit k x.abs) (hk : k ≤ 900) (a : Ac) (ha : a.Ok w B) (hz : a.Sz) (hdo : a.do_ = 8) :
    Calls Try.prog 13 #[.pointer (some ⟨q, 0, none⟩), .pointer (some ⟨r, 0, none⟩), a.v] w (DoR B q r k w) := by
  obtain ⟨w1, hw1, hb1, HBX⟩ := box_act w a
  have hB1 := hB.call hb1
  have ha1 := ha.belowLe hb1 hB.le
  obtain ⟨q5, hq5⟩ : ∃ q5, q5 = w.heap.size := ⟨_, rfl⟩
  rw [← hq5] at HBX
  have hq1 : q5 < w1.heap.size := by rw [hq5, hw1]; simp
  have hqs : ¬ s.own q q5 := fun h => by have := hB.sm.lt h; omega
  have hpl : x.plan = s.plan := hB.sim.plan
  have hof : x.off = s.off := hB.sim.off
  obtain ⟨l1, l2, l3, l4⟩ := hB.lens hf (by omega)
  have hfl := hB.flen hf (by omega)
  obtain ⟨x0, x1, x2, x3, x4, x5⟩ := HBX w1 rfl
  rw [hdo] at x0
  have hvv : a.v = .agg #[.int .i64 8, .string a.nm, .string a.to, .int .i64 a.n, .slice a.AB a.bs.length a.cB, .slice a.AK a.kl.length a.cK] := by unfold Ac.v; rw [hdo]
  rw [hdo] at hw1
  rw [hvv]
  have HP := hide (crash_any q s w1 hB1.sm a.n a.AK a.kl.length a.cK a.kl rfl (fun wr hkr => by have hb := hkr.below hB1.slow hB1.le; exact (ha1.keep.below hb).more (Nat.le_trans hB1.le hkr.size)) ha1.kl (by omega) (hB1.small hf) (fun f hm => by have := hfl f hm; omega))
  have HBXH := hide HBX
  have HB1 := hide hB1
  have HA := hide ha
  have HA1 := hide ha1
  have HZ := hide hz
  have HF := hide hf
  have HBW := hide hb1
  have HLE := hide hB.le
  have HQ := hide (And.intro hq1 hqs)
  have HPO := hide (And.intro hpl hof)
  have HFL := hide hfl
  clear HBX hB1 ha1 ha hz hf hb1 hq1 hqs hpl hof hfl hB l1 l2 l3 l4 hvv hdo
  go_enter Try.func13, Try.ntmps13
  go_wp2_with (go_at_call 23; refine halted ?_)
  refine go_on ?_
  rw [← hw1, ← hq5]
  refine HP.out.mono ?_
  clear HP
  rintro e w2 ⟨rfl, s2, hd, hc⟩
  have hlf := HB1.out.left hd
  have hm2 := hlf.1
  have hb2 : Below B w1 w2 := hlf.2.2.2
  have hx2 := HBXH.out w2 (hd.kept.block q5 HQ.out.1 HQ.out.2)
  obtain ⟨y0, y1, y2, y3, y4, y5⟩ := hx2
  have ha2 : a.Ok w2 B := HA1.out.belowLe hb2 (Nat.le_refl _)
  have HR := hide (rcrash_any r x w2 hm2 (Fit.small HF.out (by omega)) a.n a.AK a.kl.length a.cK a.kl rfl (fun wr hkr => by have hb := hkr.below HB1.out.rlow (Nat.le_trans HB1.out.le hd.kept.size); exact (ha2.keep.below hb).more (Nat.le_trans (Nat.le_trans HB1.out.le hd.kept.size) hkr.size)) ha2.kl)
  have HD := hide hd
  have HC := hide hc
  clear hlf hm2 hb2 hd hc ha2 x0 x1 x2 x3 x4 x5 hw1 hq5
  go_wp2_with (go_at_call 34; refine halted ?_)
  refine go_on ?_
  refine HR.out.mono ?_
  clear HR
  rintro e w3 ⟨rfl, x', hrd, hxa⟩
  have hsim := sim_crash HB1.out.sim (far_sm HB1.out.sm) HC.out
  have hbt := HB1.out.both HD.out hrd (by rw [hxa]; exact hsim)
  have hfit : Fit (k + 1) x'.abs := by
    rw [hxa]
    exact fit_crash HF.out a.n a.kl
  have HFI := hide (show DoR B q r k w (.returned (.bool true)) w3 from ⟨rfl, (HBW.out.mono HLE.out).trans hbt.2, _, _, hbt.1, hfit⟩)
  clear hsim hbt hfit hxa hrd y0 y1 y2 y3 y4 y5
  go_wp2
  go_ret
  exact HFI.out
end Go.Proofs.Ytpakihbejdpmoaa
namespace Go.Proofs.Ytpakihbejdpmoaa
open Go.RowKit
set_option linter.unusedVariables false

set_option maxRecDepth 100000 in
set_option maxHeartbeats 4000000 in
theorem does9_any (B q r k : Nat) (s : SS) (x : RS) (w : World) (hB : Bt B q r s x w) (hf : Fit k x.abs) (hk : k ≤ 900) (a : Ac) (ha : a.Ok w B) (hz : a.Sz) (hdo : ∀ n : Int, 0 ≤ n → n ≤ 8 → a.do_ ≠ n) :
    Calls Try.prog 13 #[.pointer (some ⟨q, 0, none⟩), .pointer (some ⟨r, 0, none⟩), a.v] w (DoR B q r k w) := by
  obtain ⟨w1, hw1, hb1, HBX⟩ := box_act w a
  have hB1 := hB.call hb1
  have ha1 := ha.belowLe hb1 hB.le
  obtain ⟨q5, hq5⟩ : ∃ q5, q5 = w.heap.size := ⟨_, rfl⟩
  rw [← hq5] at HBX
  have hq1 : q5 < w1.heap.size := by rw [hq5, hw1]; simp
  have hqs : ¬ s.own q q5 := fun h => by have := hB.sm.lt h; omega
  have hpl : x.plan = s.plan := hB.sim.plan
  have hof : x.off = s.off := hB.sim.off
  obtain ⟨l1, l2, l3, l4⟩ := hB.lens hf (by omega)
  have hfl := hB.flen hf (by omega)
  obtain ⟨x0, x1, x2, x3, x4, x5⟩ := HBX w1 rfl
  have hvv : a.v = .agg #[.int .i64 a.do_, .string a.nm, .string a.to, .int .i64 a.n, .slice a.AB a.bs.length a.cB, .slice a.AK a.kl.length a.cK] := rfl
  rw [hvv]
  have e0 : (a.do_ == 0) = false := by rw [beq_eq_false_iff_ne]; exact hdo 0 (by omega) (by omega)
  have e1 : (a.do_ == 1) = false := by rw [beq_eq_false_iff_ne]; exact hdo 1 (by omega) (by omega)
  have e2 : (a.do_ == 2) = false := by rw [beq_eq_false_iff_ne]; exact hdo 2 (by omega) (by omega)
  have e3 : (a.do_ == 3) = false := by rw [beq_eq_false_iff_ne]; exact hdo 3 (by omega) (by omega)
  have e4 : (a.do_ == 4) = false := by rw [beq_eq_false_iff_ne]; exact hdo 4 (by omega) (by omega)
  have e5 : (a.do_ == 5) = false := by rw [beq_eq_false_iff_ne]; exact hdo 5 (by omega) (by omega)
  have e6 : (a.do_ == 6) = false := by rw [beq_eq_false_iff_ne]; exact hdo 6 (by omega) (by omega)
  have e7 : (a.do_ == 7) = false := by rw [beq_eq_false_iff_ne]; exact hdo 7 (by omega) (by omega)
  have e8 : (a.do_ == 8) = false := by rw [beq_eq_false_iff_ne]; exact hdo 8 (by omega) (by omega)
  have HFI := hide (show DoR B q r k w (.returned (.bool true)) w1 from ⟨rfl, hb1.mono hB.le, _, _, hB1, hf.more⟩)
  clear HBX hB1 ha1 ha hz hf hb1 hq1 hqs hpl hof hfl hB l1 l2 l3 l4 hvv hdo
  go_enter Try.func13, Try.ntmps13
  go_wp2
  rw [← hw1]
  go_ret
  exact HFI.out
theorem does_any (B q r k : Nat) (s : SS) (x : RS) (w : World) (hB : Bt B q r s x w) (hf : Fit k x.abs) (hk : k ≤ 900) (a : Ac) (ha : a.Ok w B) (hz : a.Sz) :
    Calls Try.prog 13 #[.pointer (some ⟨q, 0, none⟩), .pointer (some ⟨r, 0, none⟩), a.v] w (DoR B q r k w) := by
  obtain ⟨room, hroom, hrm⟩ : ∃ room : Nat, s.room = (room : Int) ∧ room ≤ 16777216 := by
    have h1 := hf.room
    have h2 := hB.sim.room
    exact ⟨s.room.toNat, by omega, by omega⟩
  by_cases h0 : a.do_ = 0
  · exact does0_any B q r k s x w hB hf hk a ha hz h0
  by_cases h1 : a.do_ = 1
  · exact does1_any B q r k s x w hB hf hk a ha hz h1 room hroom hrm
  by_cases h2 : a.do_ = 2
  · exact does2_any B q r k s x w hB hf hk a ha hz h2
  by_cases h3 : a.do_ = 3
  · exact does3_any B q r k s x w hB hf hk a ha hz h3
  by_cases h4 : a.do_ = 4
  · exact does4_any B q r k s x w hB hf hk a ha hz h4
  by_cases h5 : a.do_ = 5
  · exact does5_any B q r k s x w hB hf hk a ha hz h5
  by_cases h6 : a.do_ = 6
  · exact does6_any B q r k s x w hB hf hk a ha hz h6
  by_cases h7 : a.do_ = 7
  · exact does7_any B q r k s x w hB hf hk a ha hz h7
  by_cases h8 : a.do_ = 8
  · exact does8_any B q r k s x w hB hf hk a ha hz h8
  exact does9_any B q r k s x w hB hf hk a ha hz (fun n h1 h2 => by omega)
end Go.Proofs.Ytpakihbejdpmoaa
