/-
  The law's alike: both stores have the same files.
-/
import Derived.Test.YtpakihbejdpmoaaDoesA
import Derived.Test.YtpakihbejdpmoaaSortD06
import Derived.Test.YtpakihbejdpmoaaNew
import Derived.Deep.RegionHeld3
namespace Go.Proofs.Ytpakihbejdpmoaa
open Go.RowKit Go.Maps Go.Sort Go.Shelf
set_option linter.unusedVariables false

theorem mapD_names (qs : List Nat) (l : Dir) : (mapD qs l).map (·.1) = l.map (·.1) := by
  unfold mapD
  rw [List.map_map]
  rfl
theorem nsorted_any (q : Nat) (s : SS) (w : World) (hs : Sm q s w) (hl : s.now.length ≤ 1000000000) :
    Calls Try.prog 37 #[.pointer (some ⟨q, 0, none⟩)] w (NamesR w s.now) := by
  refine (names_any q s w hs hl).mono ?_
  rintro e w' ⟨v, ss, rfl, hp, hrow, _, hb⟩
  have h := names_sorted hs.mnow hp
  have hlen : ss.length = s.now.length := by
    have := congrArg List.length h
    rw [List.length_mergeSort, List.length_map] at this
    exact this
  rw [h, hlen] at hrow
  obtain ⟨A, c, rfl, _, _⟩ := own_shape hrow
  exact ⟨A, c, rfl, hrow, hb⟩

set_option maxRecDepth 100000 in
set_option maxHeartbeats 4000000 in
theorem alike_any (B q r k : Nat) (s : SS) (x : RS) (w : World) (hB : Bt B q r s x w) (hf : Fit k x.abs) (hk : k ≤ 900) :
    Calls Try.prog 14 #[.pointer (some ⟨q, 0, none⟩), .pointer (some ⟨r, 0, none⟩)] w fun e w' => e = .returned (.bool true) ∧ Below w.heap.size w w' := by
  have hsm : x.small := hf.small (by omega)
  obtain ⟨l1, l2, l3, l4⟩ := hB.lens hf (by omega)
  have hfl := hB.flen hf (by omega)
  have hxl : x.now.length ≤ 1000000 := hsm.now
  have hnm : s.now.map (·.1) = x.now.map (·.1) := by rw [hB.sim.now, mapD_names]; rfl
  have hln : s.now.length = x.now.length := by
    have := congrArg List.length hnm
    rwa [List.length_map, List.length_map] at this
  have hds : ∀ e ∈ x.now.map (·.1), e.length ≤ maxLen := by
    rw [← hnm]
    intro e he
    obtain ⟨y, hy, rfl⟩ := List.mem_map.1 he
    exact dir_small hB.sm.mnow y hy
  have hszs : sizeS s = psize x.abs := hB.sim.size (far_sm hB.sm)
  have hszr : rsizeS x = psize x.abs := (psize_abs x).symm
  have hsz := hf.size (by omega : k ≤ 1000)
  have hof : x.off = s.off := hB.sim.off
  obtain ⟨z, hz⟩ : ∃ z, z = psize x.abs := ⟨_, rfl⟩
  rw [← hz] at hszs hszr hsz
  obtain ⟨L, hL⟩ : ∃ L, L = x.now.map (·.1) := ⟨_, rfl⟩
  rw [← hL] at hds hnm
  have hLn : L.length = x.now.length := by rw [hL, List.length_map]
  have HDS := hide hds
  have HB := hide hB
  have HN1 := hide (rnames_any r x w hB.rm (by omega))
  have HNM := hide (And.intro hnm (And.intro hln (And.intro hLn hL)))
  have HFL := hide hfl
  have HSM := hide hsm
  have HSQ := hide (show ∀ W, Below w.heap.size w W → Calls Try.prog 17 #[.pointer (some ⟨q, 0, none⟩)] W fun e w' => e = .returned (.int .i64 (z : Int)) ∧ Below W.heap.size W w' from fun W hW => by
    have h := size_any q s W (hB.call hW).sm (by rw [hszs]; exact hsz)
    rw [hszs] at h
    exact h)
  have HSR := hide (show ∀ W, Below w.heap.size w W → Calls Try.prog 38 #[.pointer (some ⟨r, 0, none⟩)] W fun e w' => e = .returned (.int .i64 (z : Int)) ∧ Below W.heap.size W w' from fun W hW => by
    have h := rsize_any r x W (hB.call hW).rm (by rw [hszr]; exact hsz) (by omega)
    rw [hszr] at h
    exact h)
  have HOF := hide (show ∀ W, Below w.heap.size w W → Calls Try.prog 19 #[.pointer (some ⟨q, 0, none⟩)] W fun e w' => e = .returned (.bool s.off) ∧ w' = W from fun W hW => off_any q s W (hB.call hW).sm)
  have HK := hide (show ∀ W, Below w.heap.size w W → W.cell? ⟨r, 6, none⟩ = some (.bool s.off) from fun W hW => by
    have h := (hB.call hW).rm.box.cell 6
    simp at h
    rw [hof] at h
    exact h)
  have hoo : (s.off != s.off) = false := by cases s.off <;> rfl
  have hlL : L.length ≤ 1000 := by omega
  clear hsm l1 l2 l3 l4 hfl hxl hnm hln hds hszs hszr hsz hof hz hL hLn hB hf
  go_enter Try.func14, Try.ntmps14
  go_wp2_with (go_at_call 35; refine halted ?_)
  refine go_on ?_
  refine HN1.out.mono ?_
  rintro e w1 ⟨A1, c1, rfl, hown1, hb1⟩
  have hLL := HNM.out.2.2
  rw [← hLL.2, ← hLL.1] at hown1
  rw [← hLL.1]
  have HN2 := hide (nsorted_any q s w1 (HB.out.call hb1).sm (by have := HNM.out.2.1; omega))
  have HB1 := hide hb1
  have HO1 := hide (Row.of_own hown1)
  have HSQ1 := hide (fun W (hW : Below w1.heap.size w1 W) => HSQ.out W (hb1.trans (hW.mono hb1.size)))
  have HSR1 := hide (fun W (hW : Below w1.heap.size w1 W) => HSR.out W (hb1.trans (hW.mono hb1.size)))
  have HOF1 := hide (fun W (hW : Below w1.heap.size w1 W) => HOF.out W (hb1.trans (hW.mono hb1.size)))
  have HK1 := hide (fun W (hW : Below w1.heap.size w1 W) => HK.out W (hb1.trans (hW.mono hb1.size)))
  clear HN1 hown1 hb1 hLL HSQ HSR HOF HK
  go_wp2_with (go_at_call 37; refine halted ?_)
  refine go_on ?_
  refine HN2.out.mono ?_
  rintro e w2 ⟨A2, c2, rfl, hown2, hb2⟩
  rw [HNM.out.1, HNM.out.2.1, ← HNM.out.2.2.1] at hown2
  rw [HNM.out.2.1, ← HNM.out.2.2.1]
  have HB2 := hide hb2
  have HS2 := hide (sameN_any A2 A1 w2.heap.size L.length c2 c1 L w2 rfl (Row.of_own hown2) ((HO1.out.belowLe hb2 (Nat.le_refl _)).more hb2.size) (Nat.le_refl _) (by omega))
  clear HN2 hown2 hb2
  go_wp2_with (go_at_call 36; refine halted ?_)
  refine go_on ?_
  refine HS2.out.mono ?_
  rintro e w3 ⟨rfl, hb3⟩
  have hbw3 : Below w1.heap.size w1 w3 := HB2.out.trans (hb3.mono HB2.out.size)
  have hBd : Below w1.heap.size w1 w3.drew := hbw3.drew
  have S0 := HK1.out w3 hbw3
  have S1 := HK1.out _ hBd
  clear hb3 HS2
  go_wp2
  go_region_held3 (fun W => W.cell? ⟨r, 6, none⟩ = some (.bool s.off))
    (with_reducible assumption)
    (first
      | (go_at_call 17; (with_reducible refine (HSQ1.out _ (by first | (with_reducible exact hBr) | (with_reducible exact hBd))).mono ?_); rintro e5 w5 ⟨rfl, hb5⟩; have hBq : Below w1.heap.size w1 w5 := (by first | (with_reducible exact hBr) | (with_reducible exact hBd) : Below w1.heap.size w1 _).trans (hb5.mono (Below.size (by first | (with_reducible exact hBr) | (with_reducible exact hBd)))); have S5 := HK1.out w5 hBq)
      | (go_at_call 38; (with_reducible refine (HSR1.out _ (by first | (with_reducible exact hBq) | (with_reducible exact hBd))).mono ?_); rintro e6 w6 ⟨rfl, hb6⟩; have hBr : Below w1.heap.size w1 w6 := (by first | (with_reducible exact hBq) | (with_reducible exact hBd) : Below w1.heap.size w1 _).trans (hb6.mono (Below.size (by first | (with_reducible exact hBq) | (with_reducible exact hBd)))); have S6 := HK1.out w6 hBr)
      | (go_at_call 19; (with_reducible refine (HOF1.out _ (by first | (with_reducible exact hBq) | (with_reducible exact hBr))).mono ?_); rintro e7 w7 ⟨rfl, rfl⟩))
  all_goals
    have hBf : Below w1.heap.size w1 w7 := by first | (with_reducible exact hBr) | (with_reducible exact hBq)
    have HBF := hide hBf
    clear hBq hBr hBf S0 S1 S5 S6 hb5 hb6 hBd hbw3 hoo
    go_wp2
    go_loopw [7] (fun i wr => ∃ j : Nat, j ≤ L.length ∧ i = .int .i64 (j : Int) ∧ Below w1.heap.size w1 wr) (fun i _ => L.length - (intOf i).toNat)
    case atStart => exact ⟨0, Nat.zero_le _, rfl, HBF.out⟩
    case round =>
      obtain ⟨j, hj, rfl, hbr⟩ := hrel
      by_cases hlt : j < L.length
      · obtain ⟨nm, hn⟩ : ∃ nm, L[j]? = some nm := ⟨_, List.getElem?_eq_getElem hlt⟩
        obtain ⟨a1, rfl, ha1b, ha⟩ := (HO1.out.belowLe hbr (Nat.le_refl _)) j _ (enc_at hn)
        have hj1 : (j : Int) < (L.length : Int) := by omega
        have hBr := HB.out.call (HB1.out.trans (hbr.mono HB1.out.size))
        have hns : (strB nm).size ≤ maxLen := by
          have := HDS.out nm (List.mem_of_getElem? hn)
          unfold strB ByteArray.size
          simpa using this
        have HRQ := hide (read_any q s wr hBr.sm (strB nm) hns (fun f hm => by have := HFL.out f hm; omega))
        have HNS := hide hns
        have HBR := hide hbr
        have HBT := hide hBr
        have HCA := hide (show ∀ W, Below wr.heap.size wr W → W.cell? (a1.add j) = some (.string (strB nm)) from fun W hW => (hW.cell (lt_of_cell ha)).trans ha)
        clear hn hBr hns hbr
        go_wp2_with (go_at_call 21; refine halted ?_)
        refine go_on ?_
        refine HRQ.out.mono ?_
        rintro e w8 ⟨A8, c8, bs8, rfl, hown8, hb8, hz8, hn8⟩
        have HRR := hide (rread_any r x w8 (HBT.out.call hb8).rm (strB nm) HNS.out (fun f hm => by have := HSM.out.bytes f hm; omega) (by have := HSM.out.now; omega))
        have ha8 := HCA.out w8 hb8
        have HO8 := hide hown8
        have HB8 := hide hb8
        have HZ8 := hide (And.intro hz8 hn8)
        clear hown8 hb8 hz8 hn8 HRQ
        go_wp2_with (go_at_call 32; refine halted ?_)
        refine go_on ?_
        refine HRR.out.mono ?_
        rintro e w9 ⟨A9, c9, bs9, rfl, hown9, hb9, hz9, hn9⟩
        obtain ⟨E, hE⟩ : ∃ E, E = readE s.off (isNm (strB nm)) (dFind s.now (strB nm).data.toList) := ⟨_, rfl⟩
        have hE2 : readE x.off (isNm (strB nm)) (dFind x.now (strB nm).data.toList) = E := by
          rw [hE, show x.off = s.off from HBT.out.sim.off]
          exact readE_eq (HBT.out.sim.some_eq _).symm
        rw [hE2] at hz9 hn9
        rw [hE2, ← hE]
        have hbs := read_same HBT.out.sim (far_sm HBT.out.sm) (by rw [hE]; exact HZ8.out.1) (by rw [hE]; exact HZ8.out.2) hz9 hn9
        subst hbs
        have hr1 : Bytes w9 w9.heap.size A8 bs8 := (HO8.out.bytes.below hb9).more hb9.size
        have hr2 : Bytes w9 w9.heap.size A9 bs8 := hown9.bytes
        have hcv1 := run_str (P := Try.prog) (w := w9) (c := c8) (src := 33) (dst := 9) Try.underlying33 Try.underlying5 Try.underlying9 hr1 rfl
        have hcv2 := run_str (P := Try.prog) (w := w9) (c := c9) (src := 33) (dst := 9) Try.underlying33 Try.underlying5 Try.underlying9 hr2 rfl
        have HBE := hide (HBR.out.trans ((HB8.out.trans (hb9.mono HB8.out.size)).mono HBR.out.size))
        clear hr1 hr2 hown9 hb9 hz9 hn9 hE hE2 ha ha8 HRR
        go_wp2
        case roundEnd => exact ⟨⟨j + 1, hlt, by simp, HBE.out⟩, by simp [intOf]; omega⟩
      · have hjE : j = L.length := by omega
        subst hjE
        have HBE := hide (HB1.out.trans (hbr.mono HB1.out.size))
        clear hbr
        go_wp2
        go_ret
        exact ⟨rfl, HBE.out⟩
end Go.Proofs.Ytpakihbejdpmoaa
