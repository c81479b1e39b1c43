/-
  StoreUnnamed.
-/
import Derived.Test.YtpakihbejdpmoaaTwo06
import Derived.Test.YtpakihbejdpmoaaCrash1
namespace Go.Proofs.Ytpakihbejdpmoaa
open Go.RowKit Go.Maps
set_option linter.unusedVariables false

/-- A store as StoreUnnamed has it: of one file alone, whose name was not synced. -/
def Unn (s : SS) (nm : ByteArray) (bs : List UInt8) (k : Nat) : Prop :=
  s.room = 20000 ∧ s.plan = [] ∧ s.off = false ∧ s.disk = [] ∧ ∃ f : Fi, s.files = [f] ∧ f.bs = bs ∧ f.sure = k ∧ s.now = [(nm.data.toList, f.q)] ∧ s.kept.map (·.ch) = [.put nm f.q]
section
variable {s s' : SS} {nm : ByteArray} {bs ds : List UInt8} {k : Nat} {b : Bool}
theorem Unn.made {bn bd : Nat} (g : CreS (newS 20000 bn bd) nm (meetE true false []) s') : Unn s' nm [] 0 := by
  obtain ⟨g1, g2, g3, g4, g5⟩ := g
  have hE : createE (meetE true false []) (dFind (newS 20000 bn bd).now nm.data.toList).isSome = 0 := rfl
  rw [if_pos hE] at g5
  obtain ⟨qf, _, h1, h2, h3⟩ := g5
  exact ⟨g1, g3, g4, g2, ⟨qf, none, 0, [], 0⟩, h1, rfl, rfl, h2, h3⟩
theorem Unn.find (h : Unn s nm bs k) : ∃ q, dFind s.now nm.data.toList = some q := by
  obtain ⟨_, _, _, _, f, _, _, _, hn, _⟩ := h
  exact ⟨f.q, by rw [hn]; simp [dFind]⟩
theorem Unn.size (h : Unn s nm bs k) : sizeS s = bs.length := by
  obtain ⟨_, _, _, _, f, h1, h2, _, hn, _⟩ := h
  unfold sizeS
  rw [h1, hn]
  simp [lenOf, h2]
theorem Unn.len (h : Unn s nm bs k) : ∀ f ∈ s.files, f.bs.length = bs.length := by
  obtain ⟨_, _, _, _, f, h1, h2, _⟩ := h
  intro g hg
  rw [h1] at hg
  rw [List.mem_singleton.1 hg, h2]
theorem Unn.app {m : Int × List UInt8 × Bool} (h : Unn s nm bs k) (hm : m.2 = ([], false)) (g : AppS s nm ds m 0 s') : Unn s' nm (bs ++ ds) k := by
  obtain ⟨h1, h2, h3, h4, f, h5, h6, h7, h8, h9⟩ := h
  obtain ⟨a1, a2, a3, a4, a5, a6, a7, a8⟩ := g
  obtain ⟨f', hf, hd, A, c, hfs⟩ := a7 rfl
  rw [h5] at hf
  rw [List.mem_singleton.1 hf] at hfs
  refine ⟨a1.trans h1, a5.trans (by rw [hm]), a6.trans (by rw [hm]), a2.trans h4, { f with A := A, c := c, bs := f.bs ++ ds }, ?_, by rw [h6], h7, a3.trans h8, by rw [a4]; exact h9⟩
  rw [hfs, h5]
  simp [upd]
theorem Unn.syn {m : Int × List UInt8 × Bool} (h : Unn s nm bs k) (hm : m.2 = ([], false)) (g : SynS s nm m 0 s') : Unn s' nm bs bs.length := by
  obtain ⟨h1, h2, h3, h4, f, h5, h6, h7, h8, h9⟩ := h
  obtain ⟨a1, a2, a3, a4, a5, a6, a7, a8⟩ := g
  obtain ⟨f', hf, hd, hfs⟩ := a7 rfl
  rw [h5] at hf
  rw [List.mem_singleton.1 hf] at hfs
  refine ⟨a1.trans h1, a5.trans (by rw [hm]), a6.trans (by rw [hm]), a2.trans h4, { f with sure := f.bs.length }, ?_, h6, by rw [← h6], a3.trans h8, by rw [a4]; exact h9⟩
  rw [hfs, h5]
  simp [upd]
theorem apps_ch (l : List Kp) (d : Dir) : apps l d = (l.map (·.ch)).foldl (fun d c => c.app d) d := by
  unfold apps
  rw [List.foldl_map]
theorem keepN_nil (i : Nat) (f : Fi) : keepN [] i f = 0 := rfl
theorem Unn.gone (h : Unn s nm bs bs.length) (g : CraS s 0 [] s') : s'.off = false ∧ dFind s'.now nm.data.toList = none ∧ ∀ f ∈ s'.files, f.bs.length ≤ bs.length := by
  have hlen := h.len
  obtain ⟨h1, h2, h3, h4, f, h5, h6, h7, h8, h9⟩ := h
  obtain ⟨g1, g2, g3, g4, g5, g6, g7⟩ := g
  have hc : craD s 0 = [] := by
    unfold craD nCh
    rw [h4, show (min (max (0 : Int) 0) (s.kept.length : Int)).toNat = 0 by omega]
    rfl
  rw [hc] at g5 g7
  refine ⟨g4, by rw [g5]; rfl, fun f hf => ?_⟩
  rw [g7] at hf
  rw [hlen f hf]
  exact Nat.le_refl _
theorem Unn.there (h : Unn s nm bs bs.length) (g : CraS s 1 [] s') : s'.off = false ∧ (∃ q, dFind s'.now nm.data.toList = some q) ∧ ∀ f ∈ s'.files, f.bs = bs := by
  obtain ⟨h1, h2, h3, h4, f, h5, h6, h7, h8, h9⟩ := h
  obtain ⟨g1, g2, g3, g4, g5, g6, g7⟩ := g
  have hl : s.kept.length = 1 := by have := congrArg List.length h9; simpa using this
  have hc : craD s 1 = [(nm.data.toList, f.q)] := by
    unfold craD nCh
    rw [h4, hl, show (min (max (1 : Int) 0) ((1 : Nat) : Int)).toNat = 1 by omega, List.take_of_length_le (by omega), apps_ch, h9]
    rfl
  rw [hc] at g5 g7
  refine ⟨g4, ⟨f.q, by rw [g5]; simp [dFind]⟩, fun x hx => ?_⟩
  rw [g7, h5] at hx
  have e : cutN [] [(nm.data.toList, f.q)] [f] [(nm.data.toList, f.q)].length = [f.cut 0] := by
    simp [cutN, cutAt, keepN_nil, upd, Fi.cut]
  rw [e] at hx
  rw [List.mem_singleton.1 hx]
  show f.bs.take (f.sure + 0) = bs
  rw [h7, h6]
  simp
theorem Unn.small (h : Unn s nm bs k) (hn : nm.size ≤ maxLen) : ∀ p ∈ s.kept, p.ch.small := by
  obtain ⟨h1, h2, h3, h4, f, h5, h6, h7, h8, h9⟩ := h
  intro p hp
  have : p.ch ∈ s.kept.map (·.ch) := List.mem_map.2 ⟨p, hp, rfl⟩
  rw [h9] at this
  rw [List.mem_singleton.1 this]
  exact hn
theorem Unn.cnt (h : Unn s nm bs k) : s.disk.length + s.kept.length ≤ 1 := by
  obtain ⟨h1, h2, h3, h4, f, h5, h6, h7, h8, h9⟩ := h
  have hl : s.kept.length = 1 := by have := congrArg List.length h9; simpa using this
  rw [h4, hl]
  exact Nat.le_refl _
end

set_option maxRecDepth 100000 in
set_option maxHeartbeats 4000000 in
theorem storeUnnamed_any (nm : ByteArray) (A : Option Addr) (c : Nat) (bs : List UInt8) (w : World) (hr : Bytes w w.heap.size A bs) (hl : bs.length ≤ 9223372036854775807) (hnm : nm.size ≤ maxLen) :
    Calls Try.prog 7 #[.string nm, .slice A bs.length c] w fun e w' => e = .returned (.bool true) ∧ Below w.heap.size w w' := by
  obtain ⟨n, hn⟩ : ∃ n, bs.length = n := ⟨_, rfl⟩
  rw [hn] at hl
  rw [hn]
  go_enter Try.func7, Try.ntmps7
  go_wp2_with (go_at_call 9; refine halted ?_)
  refine go_on ?_
  refine (awake_any w).mono ?_
  rintro e w1 ⟨rfl, hb1⟩
  have HB1 := hide hb1
  have HR := hide hr
  have HN := hide hn
  clear hb1 hr hn
  by_cases hbig : 10000 < n
  · go_wp2
    go_ret
    exact ⟨rfl, HB1.out⟩
  have hbn : n ≤ 10000 := by omega
  clear hbig hl
  go_wp2
  go_loopw [6] (fun i wr => ∃ a : Nat, a ≤ 2 ∧ i = .int .i64 (a : Int) ∧ Below w.heap.size w wr) (fun i _ => 2 - (intOf i).toNat)
  case atStart => exact ⟨0, by omega, rfl, HB1.out⟩
  case round =>
    obtain ⟨a, ha, rfl, hbr⟩ := hrel
    by_cases hlt : a < 2
    · have HBR := hide hbr
      clear hbr
      go_wp2_with (go_at_call 10; refine halted ?_)
      refine go_on ?_
      refine (new_ok wr 20000 (by omega) (by omega)).mono ?_
      rintro e w2 ⟨q, bn, bd, rfl, hs, hb2, ho⟩
      have HS := hide hs
      have HB2 := hide (HBR.out.trans (hb2.mono HBR.out.size))
      have HO := hide (fun k hk => Nat.le_trans HBR.out.size (ho k hk))
      clear hs hb2 ho
      go_wp2_with (go_at_call 15; refine halted ?_)
      refine go_on ?_
      obtain ⟨s0, hs0⟩ : ∃ s, s = newS 20000 bn bd := ⟨_, rfl⟩
      rw [← hs0] at HS HO
      have h00 : s0.plan = [] ∧ s0.off = false ∧ s0.now = [] ∧ s0.kept = [] ∧ s0.files = [] ∧ s0.room = 20000 := by rw [hs0]; exact ⟨rfl, rfl, rfl, rfl, rfl, rfl⟩
      have H00 := hide h00
      refine (create_any q s0 w2 HS.out nm hnm (by rw [H00.out.2.2.1]; exact Nat.zero_le _) (by rw [H00.out.2.2.2.1]; exact Nat.zero_le _) (by rw [H00.out.1]; exact Nat.zero_le _)).mono ?_
      rintro e w3 ⟨rfl, s1, hd, hc⟩
      rw [H00.out.1, H00.out.2.1] at hc ⊢
      cases hbm : isNm nm with
      | false =>
        have hE : createE (meetE false false []) (dFind s0.now nm.data.toList).isSome = 1 := rfl
        rw [hbm] at hc
        have hx1 : s1.files = [] ∧ s1.now = [] ∧ s1.room = 20000 ∧ s1.plan = [] ∧ s1.off = false := ⟨(hc.no (by rw [hE]; decide)).1.trans H00.out.2.2.2.2.1, (hc.no (by rw [hE]; decide)).2.1.trans H00.out.2.2.1, hc.1.trans H00.out.2.2.2.2.2, hc.2.2.1, hc.2.2.2.1⟩
        have HX1 := hide hx1
        have HD1 := hide hd
        have HBM := hide hbm
        rw [hE]
        clear hd hc hE hx1 h00 hs0 hbm
        go_wp2_with (go_at_call 18; refine halted ?_)
        refine go_on ?_
        have hE : appendE (meetE (isNm nm) s1.off s1.plan) (dFind s1.now nm.data.toList) 20000 (sizeS s1) n = 1 := by
          rw [HX1.out.2.2.2.1, HX1.out.2.2.2.2, HBM.out]
          rfl
        have hB := HD1.out.below HO.out HB2.out.size
        have hBw := HB2.out.trans hB.1
        refine (append_any q s1 w3 HD1.out.sm nm hnm (by rw [HX1.out.2.2.2.1]; exact Nat.zero_le _) 20000 HX1.out.2.2.1 (by omega) (by unfold sizeS; rw [HX1.out.2.1]; exact Nat.zero_le _) (fun f hf => by rw [HX1.out.1] at hf; cases hf) A n c bs HN.out ((HR.out.below hBw).more hBw.size) (by omega) (away_old HR.out hB.2)).mono ?_
        rintro e w4 ⟨rfl, s2, hd, ha⟩
        rw [hE] at ha ⊢
        have hx2 : s2.plan = [] ∧ s2.off = false := by
          obtain ⟨a1, a2, a3, a4, a5, a6, a7, a8⟩ := ha
          rw [HX1.out.2.2.2.1, HX1.out.2.2.2.2, HBM.out] at a5 a6
          exact ⟨a5, a6⟩
        have HX2 := hide hx2
        have HD2 := hide (HD1.out.trans hd)
        clear hd ha hE hB hBw hx2
        go_wp2_with (go_at_call 22; refine halted ?_)
        refine go_on ?_
        have hE : synE (meetE (isNm nm) s2.off s2.plan) (dFind s2.now nm.data.toList) = 1 := by
          rw [HX2.out.1, HX2.out.2, HBM.out]
          rfl
        refine (sync_any q s2 w4 HD2.out.sm nm hnm (by rw [HX2.out.1]; exact Nat.zero_le _)).mono ?_
        rintro e w5 ⟨rfl, s3, hd, ha⟩
        rw [hE]
        have HD3 := hide (HD2.out.trans hd)
        have HBW := hide (HB2.out.trans (HD3.out.below HO.out HB2.out.size).1)
        clear hd ha hE
        go_wp2
        go_ret
        exact ⟨rfl, HBW.out⟩
      | true =>
        have hE : createE (meetE true false []) (dFind s0.now nm.data.toList).isSome = 0 := by rw [H00.out.2.2.1]; rfl
        rw [hbm] at hc
        have hx1 : Unn s1 nm [] 0 := by rw [hs0] at hc; exact Unn.made hc
        have HX1 := hide hx1
        have HD1 := hide hd
        have HBM := hide hbm
        rw [hE]
        clear hd hc hE hx1 h00 hs0 hbm
        go_wp2_with (go_at_call 18; refine halted ?_)
        refine go_on ?_
        have hE : appendE (meetE (isNm nm) s1.off s1.plan) (dFind s1.now nm.data.toList) 20000 (sizeS s1) n = 0 := by
          obtain ⟨q', hq'⟩ := HX1.out.find
          rw [HX1.out.2.1, HX1.out.2.2.1, HBM.out, hq', HX1.out.size]
          show appE 20000 0 n = 0
          unfold appE
          rw [if_neg (by omega)]
        have hB := HD1.out.below HO.out HB2.out.size
        have hBw := HB2.out.trans hB.1
        refine (append_any q s1 w3 HD1.out.sm nm hnm (by rw [HX1.out.2.1]; exact Nat.zero_le _) 20000 HX1.out.1 (by omega) (by rw [HX1.out.size]; exact Nat.zero_le _) (fun f hf => by rw [HX1.out.len f hf]; exact Nat.zero_le _) A n c bs HN.out ((HR.out.below hBw).more hBw.size) (by omega) (away_old HR.out hB.2)).mono ?_
        rintro e w4 ⟨rfl, s2, hd, ha⟩
        rw [hE] at ha ⊢
        have hx2 : Unn s2 nm bs 0 := by
          rw [HX1.out.2.1, HX1.out.2.2.1, HBM.out] at ha
          exact HX1.out.app rfl ha
        have HX2 := hide hx2
        have HD2 := hide (HD1.out.trans hd)
        clear hd ha hE hB hBw hx2
        go_wp2_with (go_at_call 22; refine halted ?_)
        refine go_on ?_
        have hE : synE (meetE (isNm nm) s2.off s2.plan) (dFind s2.now nm.data.toList) = 0 := by
          obtain ⟨q', hq'⟩ := HX2.out.find
          rw [HX2.out.2.1, HX2.out.2.2.1, HBM.out, hq']
          rfl
        refine (sync_any q s2 w4 HD2.out.sm nm hnm (by rw [HX2.out.2.1]; exact Nat.zero_le _)).mono ?_
        rintro e w5 ⟨rfl, s3, hd, ha⟩
        rw [hE] at ha ⊢
        have hx3 : Unn s3 nm bs bs.length := by
          rw [HX2.out.2.1, HX2.out.2.2.1, HBM.out] at ha
          exact HX2.out.syn rfl ha
        have HX3 := hide hx3
        have HD3 := hide (HD2.out.trans hd)
        clear hd ha hE hx3
        go_wp2_with (go_at_call 23; refine halted ?_)
        refine go_on ?_
        refine (crash_any q s3 w5 HD3.out.sm (a : Int) none 0 0 [] rfl (fun _ _ => Row.nil) (by omega) (by have := HX3.out.cnt; omega) (HX3.out.small hnm) (fun f hf => by rw [HX3.out.len f hf, HN.out]; omega)).mono ?_
        rintro e w6 ⟨rfl, s4, hd, ha⟩
        have HD4 := hide (HD3.out.trans hd)
        clear hd
        have ha01 : a = 0 ∨ a = 1 := by omega
        rcases ha01 with rfl | rfl
        · have HQ := hide (HX3.out.gone ha)
          clear ha
          go_wp2_with (go_at_call 21; refine halted ?_)
          refine go_on ?_
          refine (read_any q s4 w6 HD4.out.sm nm hnm (fun f hf => by have := HQ.out.2.2 f hf; rw [HN.out] at this; omega)).mono ?_
          have hE : readE s4.off (isNm nm) (dFind s4.now nm.data.toList) = 4 := by rw [HQ.out.1, HBM.out, HQ.out.2.1]; rfl
          rw [hE]
          rintro e w7 ⟨A7, c7, bs7, rfl, _, hb7, _, _⟩
          have HD5 := hide (HD4.out.trans (Did.call HD4.out.sm hb7))
          have HBW := hide (HB2.out.trans (HD5.out.below HO.out HB2.out.size).1)
          clear hb7 hE
          go_wp2
          case roundEnd => exact ⟨⟨1, by omega, rfl, HBW.out⟩, by simp [intOf]⟩
        · have HQ := hide (HX3.out.there ha)
          clear ha
          go_wp2_with (go_at_call 21; refine halted ?_)
          refine go_on ?_
          refine (read_any q s4 w6 HD4.out.sm nm hnm (fun f hf => by rw [HQ.out.2.2 f hf, HN.out]; omega)).mono ?_
          have hE : readE s4.off (isNm nm) (dFind s4.now nm.data.toList) = 0 := by
            obtain ⟨qf, hqf⟩ := HQ.out.2.1
            rw [HQ.out.1, HBM.out, hqf]; rfl
          rw [hE]
          rintro e w7 ⟨A7, c7, bs7, rfl, hown7, hb7, h07, _⟩
          have hbs : bs7 = bs := by
            obtain ⟨f, hf, _, rfl⟩ := h07 rfl
            exact HQ.out.2.2 f hf
          subst hbs
          rw [HN.out]
          have HD5 := hide (HD4.out.trans (Did.call HD4.out.sm hb7))
          have hBx := HD5.out.below HO.out HB2.out.size
          have hBw := HB2.out.trans hBx.1
          have HBW := hide hBw
          have hsA : (convert 33 9 (.slice A7 n c7)).run Try.prog w7 = .ok (.string (strB bs7)) w7 := run_str Try.underlying33 Try.underlying5 Try.underlying9 hown7.bytes HN.out
          have hsB : (convert 33 9 (.slice A n c)).run Try.prog w7 = .ok (.string (strB bs7)) w7 := run_str Try.underlying33 Try.underlying5 Try.underlying9 (HR.out.below hBw) HN.out
          clear hb7 hE hown7 h07 hBx hBw
          go_wp2
          case roundEnd => exact ⟨⟨2, by omega, rfl, HBW.out⟩, by simp [intOf]⟩
    · have HBR := hide hbr
      clear hbr
      have h2 : a = 2 := by omega
      subst h2
      go_wp2
      go_ret
      exact ⟨rfl, HBR.out⟩
end Go.Proofs.Ytpakihbejdpmoaa
