/-
  BloomTurned, walked.
-/
import Derived.Test.YtnmgbhpmmbhgoaaBuildB
namespace Go.Proofs.Ytnmgbhpmmbhgoaa
open Go.RowKit
set_option linter.unusedVariables false

theorem buildF_rev (l : List (List UInt8)) (bits : Int) : buildF l.reverse bits = buildF l bits := by
  unfold buildF
  rw [List.length_reverse]
  have h : (zeroF (UInt8.ofNat (prbN bits)) (szN bits l.length)).length = 1 + szN bits l.length := by unfold zeroF; rw [List.length_cons, List.length_replicate, Nat.add_comm]
  have h8 : 8 ≤ szN bits l.length := by unfold szN; omega
  exact orKeys_rev (by rw [h]; omega) (by rw [h]; omega)
theorem buildF_nil (bits : Int) : buildF [] bits = zeroF (UInt8.ofNat (prbN bits)) (szN bits 0) := rfl
theorem prb_in {bits : Int} (h1 : 1 ≤ bits) (h2 : bits ≤ 32) : 1 ≤ (UInt8.ofNat (prbN bits)).toNat ∧ (UInt8.ofNat (prbN bits)).toNat ≤ 12 := by
  have h : prbN bits ≤ 12 ∧ 1 ≤ prbN bits := by unfold prbN; omega
  rw [UInt8.toNat_ofNat', Nat.mod_eq_of_lt (by omega : prbN bits < 2 ^ 8)]
  omega
theorem none_may {bits : Int} (h1 : 1 ≤ bits) (h2 : bits ≤ 32) (key : List UInt8) : mayF (buildF [] bits) key = false := by
  rw [buildF_nil]
  exact zeroF_may (by unfold szN; omega) (prb_in h1 h2).1 (prb_in h1 h2).2 key
theorem none_count (bits : Int) : countF (buildF [] bits) = 0 := by rw [buildF_nil]; exact zeroF_count _ _
theorem isF_build {bits : Int} (h1 : 1 ≤ bits) (h2 : bits ≤ 32) (l : List (List UInt8)) : isF (buildF l bits) = true := by
  unfold buildF
  rw [isF_same (orKeys_len ..) (orKeys_head ..)]
  exact zeroF_is (by unfold szN; omega) (prb_in h1 h2).1 (prb_in h1 h2).2
theorem may_build {bits : Int} (h1 : 1 ≤ bits) (h2 : bits ≤ 32) {l : List (List UInt8)} {key : List UInt8} (hk : key ∈ l) : mayF (buildF l bits) key = true := by
  have hz := zeroF_is (p := UInt8.ofNat (prbN bits)) (n := szN bits l.length) (by unfold szN; omega) (prb_in h1 h2).1 (prb_in h1 h2).2
  have h := may_keys hz hk
  have e1 : (zeroF (UInt8.ofNat (prbN bits)) (szN bits l.length)).length - 1 = szN bits l.length := by unfold zeroF; rw [List.length_cons, List.length_replicate]; omega
  have e2 : ((zeroF (UInt8.ofNat (prbN bits)) (szN bits l.length)).headD 0).toNat = prbN bits := by
    show (UInt8.ofNat (prbN bits)).toNat = _
    have h : prbN bits ≤ 12 := by unfold prbN; omega
    rw [UInt8.toNat_ofNat', Nat.mod_eq_of_lt (by omega : prbN bits < 2 ^ 8)]
  rw [e1, e2] at h
  exact h

theorem own_cap8 {w : World} {base : Nat} {e : TypeId} {A : Option Addr} {c : Nat} {bs : List UInt8} (h : OwnB w base e A c bs) : bs.length ≤ c := by
  obtain ⟨_, c2, e2, h1, _⟩ := own_shape h
  injection e2 with _ _ e3
  subst e3
  exact h1
theorem info_sl : (Try.prog.info? 23).map (fun i => (i.zero, i.size, i.bytes)) = some (some (.slice none 0 0), 1, 24) := by kernel_rfl
theorem kyRow_rev {w : World} {A : Option Addr} {ls : List Ky} (hr : Row w w.heap.size A (ls.map Ky.cell)) (h : ∀ p ∈ ls, Bytes w w.heap.size p.A p.k) : KyRow w w.heap.size A ls := ⟨hr, h⟩

set_option maxRecDepth 100000 in
set_option maxHeartbeats 4000000 in
theorem bloomTurned_any (A A2 : Option Addr) (c c2 : Nat) (l : List Ky) (bits : Int) (key : List UInt8) (w : World) (hr : KyRow w w.heap.size A l) (hl : l.length ≤ 9223372036854775807) (hr2 : Bytes w w.heap.size A2 key) (hl2 : key.length ≤ 9223372036854775807) :
    Calls Try.prog 3 #[.slice A l.length c, .int .i64 bits, .slice A2 key.length c2] w fun e w' => e = .returned (.bool true) ∧ Below w.heap.size w w' := by
  obtain ⟨i0, hi, hz0, hz1, hz2⟩ := info_parts info_sl
  have hfew := fun W (hb : Below w.heap.size w W) => few_any A c l W (hr.below hb) hl
  have HF := hide hfew
  clear hfew
  go_enter Try.func3, Try.ntmps3
  go_wp2_with (go_at_call 6; refine halted ?_)
  refine go_on ?_
  refine (awake_any _).mono ?_
  rintro e w1 ⟨rfl, hb1⟩
  go_wp2_with (go_at_call 7; refine halted ?_)
  refine go_on ?_
  refine (HF.out _ hb1).mono ?_
  rintro e w2 ⟨rfl, rfl⟩
  cases hfw : fewK l with
  | false =>
    go_wp2
    go_ret
    exact ⟨rfl, hb1⟩
  | true =>
    obtain ⟨h2000, h600⟩ := fewK_true hfw
    by_cases k1 : bits < 1
    · go_wp2
      go_ret
      exact ⟨rfl, hb1⟩
    by_cases k2 : 32 < bits
    · go_wp2
      go_ret
      exact ⟨rfl, hb1⟩
    by_cases k3 : 10000 < key.length
    · go_wp2
      go_ret
      exact ⟨rfl, hb1⟩
    have H600 := hide h600
    have hr1 := hr.below hb1
    clear hfw h600 HF
    go_wp2
    go_loopw [9, 10] (fun t k wr => ∃ (j : Nat) (kv : Int) (AB : Option Addr) (cB : Nat), j ≤ l.length ∧ k = .int .i64 kv ∧ Hid (kv = (l.length : Int) - 1 - j) ∧ -1 ≤ kv ∧ kv < (l.length : Int) ∧ t = .slice AB j cB ∧ wr.ownsRow w1.heap.size 23 1 (.slice AB j cB) j ((l.reverse.take j).map Ky.cell) ∧ Below w1.heap.size w1 wr) (fun _ k _ => (intOf k + 1).toNat)
    case atStart => exact ⟨0, (l.length : Int) - 1, none, 0, Nat.zero_le _, rfl, by show _ = _; omega, by omega, by omega, rfl, World.ownsRow_nil _ _ _ _, Below.refl _ _⟩
    case round =>
      obtain ⟨j, kv, AB, cB, hj, rfl, HKV, hk0, hk1, rfl, ho, hb⟩ := hrel
      by_cases hge : 0 ≤ kv
      · obtain ⟨kn, rfl⟩ := Int.eq_ofNat_of_zero_le hge
        have hjk : j < l.length ∧ l.length - 1 - j = kn := by have := HKV.out; omega
        obtain ⟨ad, q, rfl, hadb, hq, hc, -⟩ := (hr1.below hb).at_ (k := kn) (by omega)
        have hrt : l.reverse.take (j + 1) = l.reverse.take j ++ [q] := take_next (by rw [List.getElem?_reverse hjk.1, hjk.2]; exact hq.out)
        have HRT := hide hrt
        have hjl := hjk.1
        have HO := hide ho
        have HB := hide hb
        clear hrt hjk hq ho hb
        go_wp2_with (at_builtin; refine halted ?_)
        refine go_on ?_
        refine wpList_append_own _ rfl (.tmp 48) (.tmp 53) 22 rfl w1.heap.size 23 i0 _ 1 24 Try.underlying22 hi hz0 hz1 hz2 rfl (by decide) AB j cB ((l.reverse.take j).map Ky.cell) rfl (World.ownsRow.alloc HO.out _) _ _ 1 _ [q.cell] rfl rfl (Row.new wr #[q.cell] 23 (0, 0)) (by intro u hu; simp at hu; subst hu; rfl) (by unfold maxLen; omega) (by omega) (by have := HB.out.size; simp; omega) ?_
        intro n' xs' A5 c5 w5 hn' hxs' _ _ hown5 hg5 _
        have hb5 : Below w1.heap.size w1 w5 := (HB.out.alloc HB.out.size _).grown hg5 (by have := HB.out.size; simp; omega) (fun p hp => (World.ownsRow.lt HO.out p (by rw [ownBlock_slice]; exact hp)).1)
        have en : n' = j + 1 := hn'.out
        have ex : xs' = (l.reverse.take (j + 1)).map Ky.cell := by rw [hxs'.out, HRT.out, List.map_append]; rfl
        rw [ex] at hown5
        subst en
        have hj1 : j + 1 ≤ l.length := by omega
        have HKV2 : Hid ((kn : Int) - 1 = (l.length : Int) - 1 - ((j + 1 : Nat) : Int)) := by show _ = _; have := HKV.out; omega
        clear ex hn' hxs' hg5 HRT HO HB hjl
        go_wp2
        go_roundw
        case rel => exact ⟨j + 1, (kn : Int) - 1, A5, c5, hj1, rfl, HKV2.out, by omega, by omega, rfl, hown5, hb5⟩
        case measure => simp [intOf]
      · have hj2 : j = l.length := by have := HKV.out; omega
        subst hj2
        have hrv : l.reverse.take l.length = l.reverse := List.take_of_length_le (by rw [List.length_reverse]; exact Nat.le_refl _)
        rw [hrv] at ho
        have hbw := hb1.trans (hb.mono hb1.size)
        have hrow := Row.of_own ho
        have hky : KyRow wr wr.heap.size AB l.reverse := ⟨hrow, fun p hp => (hr.below hbw).2 p (List.mem_reverse.1 hp)⟩
        have hok : ∀ n, n ≤ 20000 → okB bits n = true := fun n hn => by unfold okB; simp; omega
        have e1 : buildR (l.map Ky.k) bits = (buildF (l.map Ky.k) bits, 0) := buildR_ok (hok _ (by rw [List.length_map]; omega))
        have e2 : buildR (l.reverse.map Ky.k) bits = (buildF (l.map Ky.k) bits, 0) := by
          rw [List.map_reverse, buildR_ok (hok _ (by rw [List.length_reverse, List.length_map]; omega)), buildF_rev]
        have e3 : buildR ([] : List (List UInt8)) bits = (buildF [] bits, 0) := buildR_ok (hok _ (by simp))
        have b1 := fun W (hb : Below w.heap.size w W) => build_any A c l bits W (hr.below hb) (by omega) (fun p hp => by have := H600.out p hp; omega)
        have b2 := fun W (hb : Below wr.heap.size wr W) => build_any AB cB l.reverse bits W (hky.below hb) (by rw [List.length_reverse]; omega) (fun p hp => by have := H600.out p (List.mem_reverse.1 hp); omega)
        have b3 := fun W => build_any none 0 [] bits W KyRow.nil (by simp) (fun p hp => by simp at hp)
        rw [e1] at b1
        rw [e2, List.length_reverse] at b2
        rw [show (([] : List Ky).map Ky.k) = [] from rfl, e3] at b3
        have hnm := none_may (by omega : 1 ≤ bits) (by omega) key
        have hnc := none_count bits
        have hGl : (buildF [] bits).length ≤ 1000000000 := by
          have e0 : bits * ((0 : Nat) : Int) = 0 := by simp
          rw [buildF_nil]; unfold zeroF szN; rw [List.length_cons, List.length_replicate, e0]; decide
        generalize buildF (l.map Ky.k) bits = F at *
        generalize buildF [] bits = G at *
        have B1 := hide b1
        have B2 := hide b2
        have B3 := hide b3
        have KR2 := hide hr2
        clear b1 b2 b3 e1 e2 e3 hok hrv ho hrow hky hr1 hr hr2
        go_wp2_with (go_at_call_of 8 (Value.slice A l.length c); refine halted ?_)
        refine go_on ?_
        refine (B1.out _ hbw).mono ?_
        rintro e w3 ⟨A3, c3, rfl, o3, hb3⟩
        dsimp only at o3
        dsimp only
        have hbw3 := hbw.trans (hb3.mono hbw.size)
        go_wp2_with (go_at_call_of 8 (Value.slice AB l.length cB); refine halted ?_)
        refine go_on ?_
        refine (B2.out _ hb3).mono ?_
        rintro e w4 ⟨A4, c4, rfl, o4, hb4⟩
        dsimp only at o4
        dsimp only
        have hbw4 := hbw3.trans (hb4.mono hbw3.size)
        have p3 := (o3.bytes.below hb4).more hb4.size
        have p4 := o4.bytes
        clear o3 o4 hb3 hb4
        go_wp2_with (go_at_call 8; refine halted ?_)
        refine go_on ?_
        refine (B3.out _).mono ?_
        rintro e w5 ⟨A5, c5, rfl, o5, hb5⟩
        dsimp only at o5
        dsimp only
        have hbw5 := hbw4.trans (hb5.mono hbw4.size)
        have p3 := (p3.below hb5).more hb5.size
        have p4 := (p4.below hb5).more hb5.size
        have p5 := o5.bytes
        have hcap := own_cap8 o5
        clear o5 hb5
        have M := hide (may_any A5 A2 c5 c2 G key w5 p5 ((KR2.out.below hbw5).more hbw5.size) hGl (by omega))
        rw [hnm] at M
        go_wp2_with (go_at_call 9; refine halted ?_)
        refine go_on ?_
        refine M.out.mono ?_
        rintro e w6 ⟨rfl, hb6⟩
        have hbw6 := hbw5.trans (hb6.mono hbw5.size)
        have p3 := (p3.below hb6).more hb6.size
        have p4 := (p4.below hb6).more hb6.size
        have p5 := (p5.below hb6).more hb6.size
        have C := hide (count_any A5 c5 G w6 p5 hGl hcap)
        rw [hnc] at C
        have q1 := run_str (P := Try.prog) (dst := 9) (c := c3) Try.underlying23 Try.underlying5 Try.underlying9 p3 rfl
        have q2 := run_str (P := Try.prog) (dst := 9) (c := c4) Try.underlying23 Try.underlying5 Try.underlying9 p4 rfl
        clear hb6 p3 p4 p5 M hnm hnc
        go_wp2_with (go_at_call 10; refine halted ?_)
        refine go_on ?_
        refine C.out.mono ?_
        rintro e w7 ⟨rfl, rfl⟩
        go_wp2
        go_ret
        exact ⟨by simp, hbw6⟩
end Go.Proofs.Ytnmgbhpmmbhgoaa
