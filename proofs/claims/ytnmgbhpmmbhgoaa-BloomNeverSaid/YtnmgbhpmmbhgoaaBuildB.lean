/-
  bloom.Build: what it does.
-/
import Derived.Test.YtnmgbhpmmbhgoaaKeys
namespace Go.Proofs.Ytnmgbhpmmbhgoaa
open Go.RowKit Go.Shelf
set_option linter.unusedVariables false
attribute [local go_sem] Oper.semAt_some

/-- How many probes, how many bytes. -/
def prbN (bits : Int) : Nat := (min (max (bits * 69 / 100) 1) 12).toNat
def szN (bits : Int) (n : Nat) : Nat := (max ((bits * n + 8 - 1) / 8) 8).toNat
def okB (bits : Int) (n : Nat) : Bool := decide (1 ≤ bits) && (decide (bits ≤ 32) && decide (n ≤ 20000))
/-- What a filter of keys is. -/
def buildF (l : List (List UInt8)) (bits : Int) : List UInt8 := orKeys (8 * szN bits l.length) (prbN bits) l (zeroF (UInt8.ofNat (prbN bits)) (szN bits l.length))
def buildR (l : List (List UInt8)) (bits : Int) : List UInt8 × Int := if okB bits l.length = true then (buildF l bits, 0) else ([], 1)
theorem buildR_no {l : List (List UInt8)} {bits : Int} (h : okB bits l.length = false) : buildR l bits = ([], 1) := if_neg (by rw [h]; exact Bool.false_ne_true)
theorem buildR_ok {l : List (List UInt8)} {bits : Int} (h : okB bits l.length = true) : buildR l bits = (buildF l bits, 0) := if_pos h

theorem ok_ways (bits : Int) (n : Nat) : (okB bits n = false ∧ bits < 1) ∨ (okB bits n = false ∧ 1 ≤ bits ∧ 32 < bits) ∨ (okB bits n = false ∧ 1 ≤ bits ∧ bits ≤ 32 ∧ 20000 < n) ∨ (okB bits n = true ∧ 1 ≤ bits ∧ bits ≤ 32 ∧ n ≤ 20000) := by
  unfold okB
  by_cases h1 : 1 ≤ bits
  · by_cases h2 : bits ≤ 32
    · by_cases h3 : n ≤ 20000
      · exact .inr (.inr (.inr ⟨by simp [h1, h2, h3], h1, h2, h3⟩))
      · exact .inr (.inr (.inl ⟨by simp [h3], h1, h2, by omega⟩))
    · exact .inr (.inl ⟨by simp [h2], h1, by omega⟩)
  · exact .inl ⟨by simp [h1], by omega⟩

/-- The numbers of a filter that is built. -/
theorem build_nums {bits : Int} {n : Nat} (h1 : 1 ≤ bits) (h2 : bits ≤ 32) (h3 : n ≤ 20000) : ∃ (x y : Int) (S p : Nat), bits * (n : Int) = x ∧ 0 ≤ x ∧ x ≤ 640000 ∧ Hid (S = szN bits n) ∧ Hid (p = prbN bits) ∧ max ((x + 8 - 1) / 8) 8 = (S : Int) ∧ 8 ≤ S ∧ S ≤ 100000 ∧
    bits * 69 / 100 = y ∧ 0 ≤ y ∧ y ≤ 22 ∧ min (max y 1) 12 = (p : Int) ∧ 1 ≤ p ∧ p ≤ 12 := by
  have hx0 : 0 ≤ bits * (n : Int) := Int.mul_nonneg (by omega) (by omega)
  have hx1 : bits * (n : Int) ≤ 32 * 20000 := Int.mul_le_mul h2 (by omega) (by omega) (by omega)
  refine ⟨bits * n, bits * 69 / 100, szN bits n, prbN bits, rfl, hx0, by omega, rfl, rfl, ?_, ?_, ?_, rfl, by omega, by omega, ?_, ?_, ?_⟩ <;> (first | unfold szN | unfold prbN) <;> omega

/-- Marks that are still to be taken. -/
def MarkOf (s : Nat) : Deferred := { target := .collected s, args := #[] }
def Marks (B : Nat) (ss : List Nat) (W : World) : Prop := ss.Nodup ∧ ∀ s ∈ ss, B ≤ s ∧ W.heap[s]? = some (.deferred (some []))
theorem Marks.grown {B : Nat} {ss : List Nat} {W W' : World} {row : Option Nat} (h : Marks B ss W) (hg : W.grownBy W' row) (hne : ∀ s ∈ ss, some s ≠ row) : Marks B ss W' :=
  ⟨h.1, fun s hs => ⟨(h.2 s hs).1, (hg.block s (Array.getElem?_eq_some_iff.1 (h.2 s hs).2).1 (hne s hs)).trans (h.2 s hs).2⟩⟩
theorem leaves_marks {P : Program} {n : Nat} {fn : Func} {tmps : Array Value} {R : Ending → World → Prop} {B : Nat} (I : World → Prop)
    (hI : ∀ W s, I W → B ≤ s → W.heap[s]? = some (.deferred (some [])) → I (W.putObj s (.deferred none))) (hend : ∀ W, I W → LeavesInM Fence.wide n P fn tmps R [] .returning W) :
    ∀ (ss : List Nat) (W : World), Marks B ss W → I W → LeavesInM Fence.wide n P fn tmps R (ss.map MarkOf) .returning W := by
  intro ss
  induction ss with
  | nil => exact fun W _ h => hend W h
  | cons s ss ih =>
    intro W hM hi
    have hs := hM.2 s (by simp)
    refine ⟨by simp, .inl ⟨s, _, rfl, run_takeDeferred hs.2, ?_⟩⟩
    refine ih _ ⟨(List.nodup_cons.1 hM.1).2, fun t ht => ?_⟩ (hI W s hi hs.1 hs.2)
    have h2 := hM.2 t (by simp [ht])
    have hne : t ≠ s := fun e => (List.nodup_cons.1 hM.1).1 (e ▸ ht)
    exact ⟨h2.1, ((grownBy_putObj' W s (.deferred none)).block t (Array.getElem?_eq_some_iff.1 h2.2).1 (by simp [hne])).trans h2.2⟩

/-- The loop over the keys: at its head. -/
def BuildJ (w : World) (l : List Ky) (S p : Nat) (k : Nat) (ss : List Nat) (W : World) : Prop :=
  k ≤ l.length ∧ OwnB W w.heap.size 5 (some ⟨w.heap.size, 0, none⟩) (1 + S) (orKeys (8 * S) p ((l.map Ky.k).take k) (zeroF (UInt8.ofNat p) S)) ∧ Below w.heap.size w W ∧ Marks (w.heap.size + 1) ss W
def BuildI (A : Option Addr) (c : Nat) (bits : Int) (w : World) (l : List Ky) (S p : Nat) (a : Act) (W : World) : Prop :=
  ∃ (k : Nat) (ss : List Nat) (u2 u3 u7 u8 u9 u10 u11 u12 u13 u14 u15 u16 u17 u18 u19 u20 u21 u22 u23 u24 u25 u26 u27 u28 u29 u30 u31 u32 u33 u34 u35 u36 u37 u38 u39 u43 u44 u45 u46 u47 u48 u49 u50 u51 u52 u53 u54 u55 u56 u57 u58 : Value), BuildJ w l S p k ss W ∧ a = { tmps := #[.slice A l.length c, .int .i64 bits, u2, u3, .slice none 0 0, .int .i64 0, .slice (some ⟨w.heap.size, 0, none⟩) (1 + S) (1 + S), u7, u8, u9, u10, u11, u12, u13, u14, u15, u16, u17, u18, u19, u20, u21, u22, u23, u24, u25, u26, u27, u28, u29, u30, u31, u32, u33, u34, u35, u36, u37, u38, u39, .slice A l.length c, .int .i64 (l.length : Int), .int .i64 (k : Int), u43, u44, u45, u46, u47, u48, u49, u50, u51, u52, u53, u54, u55, u56, u57, u58], defers := ss.map MarkOf }
def buildMu (n : Nat) (a : Act) (_ : World) : Nat := n - (intOf (a.tmps.getD 42 undef)).toNat

theorem addr0 (g n : Nat) : (⟨g, 0, none⟩ : Addr).add n = ⟨g, n, none⟩ := by unfold Addr.add; split <;> simp_all
/-- The range over a key's probes: between two rounds. -/
def BuildK (rec : LoopState → Option Code → Loop) (w : World) (s s0 s1 s2 : Nat) (v : Value) (S : Nat) (key cur : List UInt8) (ss : List Nat) (k : Nat) (W : World) : Prop :=
  Three s0 s1 s2 v ((hK key + k * gK key : Nat) : Int) (gK key : Int) W ∧ OwnB W w.heap.size 5 (some ⟨w.heap.size, 0, none⟩) (1 + S) (orKey (8 * S) key k cur) ∧ W.heap[s + 1]? = some (.loop (rec .ready none)) ∧ W.heap[s]? = some (.deferred (some [])) ∧ Marks (w.heap.size + 1) ss W ∧ Below w.heap.size w W ∧ s + 1 < W.heap.size

set_option maxRecDepth 100000 in
set_option maxHeartbeats 4000000 in
theorem build_any (A : Option Addr) (c : Nat) (l : List Ky) (bits : Int) (w : World) (hr : KyRow w w.heap.size A l) (hl : l.length ≤ 9223372036854775807) (hkl : ∀ p ∈ l, p.k.length ≤ 1000000000) :
    Calls Try.prog 8 #[.slice A l.length c, .int .i64 bits] w fun e w' => NewF w w' e (buildR (l.map Ky.k) bits) := by
  obtain ⟨R, HR⟩ : ∃ R, Hid (R = buildR (l.map Ky.k) bits) := ⟨_, rfl⟩
  rw [← HR.out]
  have hlen : (l.map Ky.k).length = l.length := List.length_map ..
  have hways := ok_ways bits l.length
  refine (callsIn_wide (n := 3)).1 ?_
  refine callsIn_of_wp_marks Try.func8 rfl trivial ?_ rfl
  simp only [Try.ntmps8, List.size_toArray, List.length_cons, List.length_nil, Nat.reduceAdd, Nat.reduceSub, Array.replicate_succ, Array.replicate_zero, List.push_toArray, List.append_toArray, List.nil_append, List.cons_append]
  rcases hways with ⟨ho, h1⟩ | ⟨ho, h1, h2⟩ | ⟨ho, h1, h2, h3⟩ | ⟨ho, h1, h2, h3⟩
  · have HN := hide (HR.out.trans (buildR_no (by rw [hlen]; exact ho)))
    clear ho hr hlen
    gi_wp2
    exact ⟨_, results_tmp2 rfl _ _ _, newF_no (Below.refl _ _) HN.out⟩
  · have HN := hide (HR.out.trans (buildR_no (by rw [hlen]; exact ho)))
    clear ho hr hlen
    gi_wp2
    exact ⟨_, results_tmp2 rfl _ _ _, newF_no (Below.refl _ _) HN.out⟩
  · have HN := hide (HR.out.trans (buildR_no (by rw [hlen]; exact ho)))
    clear ho hr hlen
    gi_wp2
    exact ⟨_, results_tmp2 rfl _ _ _, newF_no (Below.refl _ _) HN.out⟩
  · have HO := hide (HR.out.trans (buildR_ok (by rw [hlen]; exact ho)))
    obtain ⟨x, y, S, p, x1, x2, x3, HS, HP, x4, x5, x6, y1, y2, y3, y4, y5, y6⟩ := build_nums h1 h2 h3
    have hmk := run_make_row' (P := Try.prog) 23 5 (.int .u8 0) 1 Try.underlying23 info_u8 rfl .i64 .i64 (1 + S) (by omega) (by omega)
    have hS1 : ((1 + S : Nat) : Int) = 1 + (S : Int) := by omega
    rw [hS1] at hmk
    have hown := own_made w (base := w.heap.size) (n := 1 + S) 5 (Nat.le_refl _) (by unfold maxLen; omega)
    have hc0 := hown.cellAt (j := 0) (b := 0) (by rw [Nat.add_comm]; rfl)
    have hf0 := hown.frozenAt 0
    clear ho hlen
    have ecs : (madeCells #[.int .u8 0] (1 + S)).setIfInBounds 0 (.int .u8 (p : Int)) = ((zeroF (UInt8.ofNat p) S).map byv).toArray := by
      apply Array.ext'
      rw [Array.toList_setIfInBounds, toList_madeCells_one, Nat.add_comm, List.replicate_succ]
      have e : byv (UInt8.ofNat p) = .int .u8 (p : Int) := by
        unfold byv
        rw [UInt8.toNat_ofNat', Nat.mod_eq_of_lt (by omega : p < 2 ^ 8)]
      show (Value.int .u8 (p : Int) :: List.replicate S (.int .u8 0)) = (zeroF (UInt8.ofNat p) S).map byv
      unfold zeroF
      rw [List.map_cons, e, List.map_replicate]
      rfl
    have hlz : (zeroF (UInt8.ofNat p) S).length = 1 + S := by unfold zeroF; rw [List.length_cons, List.length_replicate, Nat.add_comm]
    have hown2 := OwnB.lit w (base := w.heap.size) 5 (zeroF (UInt8.ofNat p) S) (Nat.le_refl _) (by unfold maxLen; omega)
    rw [← ecs, hlz] at hown2
    have hb2 := (Below.refl w.heap.size w).alloc (Nat.le_refl _) (.cells ((madeCells #[.int .u8 0] (1 + S)).setIfInBounds 0 (.int .u8 (p : Int))) 5)
    have HOWN := hide hown2
    have HB2 := hide hb2
    clear hown hown2 hb2 ecs
    gi_wp2
    refine wpIn_loop (BuildI A c bits w l S p) (buildMu l.length) ?_ ?_
    · exact ⟨0, [], _, _, _, _, _, _, _, _, _, _, _, _, _, _, _, _, _, _, _, _, _, _, _, _, _, _, _, _, _, _, _, _, _, _, _, _, _, _, _, _, _, _, _, _, _, _, _, _, _, _, _, ⟨by omega, HOWN.out, HB2.out, List.nodup_nil, fun s hs => by simp at hs⟩, rfl⟩
    · rintro a wr ⟨k, ss, u2, u3, u7, u8, u9, u10, u11, u12, u13, u14, u15, u16, u17, u18, u19, u20, u21, u22, u23, u24, u25, u26, u27, u28, u29, u30, u31, u32, u33, u34, u35, u36, u37, u38, u39, u43, u44, u45, u46, u47, u48, u49, u50, u51, u52, u53, u54, u55, u56, u57, u58, ⟨hk, ho, hb, hM⟩, rfl⟩
      by_cases hlt : k < l.length
      · obtain ⟨ad, q, rfl, hadb, hq, hc, hbs⟩ := (hr.below hb).at_ hlt
        have hql := hkl q (List.mem_of_getElem? hq.out)
        have hcl : (orKeys (8 * S) p ((l.map Ky.k).take k) (zeroF (UInt8.ofNat p) S)).length = 1 + S := by rw [orKeys_len]; exact hlz
        have htk : (l.map Ky.k).take (k + 1) = (l.map Ky.k).take k ++ [q.k] := take_next (by rw [List.getElem?_map, hq.out]; rfl)
        have hnx := orKeys_snoc (8 * S) p ((l.map Ky.k).take k) q.k (zeroF (UInt8.ofNat p) S)
        rw [← htk] at hnx
        have hhd : (orKeys (8 * S) p ((l.map Ky.k).take k) (zeroF (UInt8.ofNat p) S)).headD 0 = UInt8.ofNat p := orKeys_head ..
        have HNX := hide hnx
        have HTKI := hide htk
        generalize orKeys (8 * S) p ((l.map Ky.k).take k) (zeroF (UInt8.ofNat p) S) = cur at *
        have hp := probes_in 2 (some ⟨w.heap.size, 0, none⟩) q.A (1 + S) q.c cur q.k wr hbs hql
        have hf0' : cur[0]? = some (UInt8.ofNat p) := by
          cases cur with
          | nil => exfalso; rw [List.length_nil] at hcl; omega
          | cons a r => simp at hhd; simp [hhd]
        have hcz := ho.cellAt hf0'
        have hpz : ((UInt8.ofNat p).toNat : Int) = (p : Int) := by rw [UInt8.toNat_ofNat', Nat.mod_eq_of_lt (by omega : p < 2 ^ 8)]
        rw [hpz] at hcz
        rw [hcl] at hp
        have HPr := hide hp
        have HOw := hide ho
        have HBw := hide hb
        have HMk := hide hM
        have HCL := hide hcl
        have HCZ := hide hcz
        clear hp ho hb hM hnx htk hhd hcl hcz hf0' hpz hbs HOWN HB2 hc0 hf0 hmk
        gi_wp2_with (gi_at_call 15; refine halted ?_)
        refine go_on ?_
        refine ⟨trivial, HPr.out.mono ?_⟩
        rintro e w1 ⟨s0, s1, s2, rfl, q0, q1, q2, q3, t0, t1, t2, hb1⟩
        rw [HCL.out] at t0
        gi_wp2
        refine range_enter (by omega) (gf := 23) (lb := #[.pointer (some ⟨s0, 0, none⟩), .pointer (some ⟨s1, 0, none⟩), .pointer (some ⟨s2, 0, none⟩)]) rfl (enters_of Try.func23 (by kernel_rfl) rfl) ?_
        intro fn rec hrec
        have hbw1 := HBw.out.trans (hb1.mono HBw.out.size)
        have o1 := HOw.out.below hb1 (Nat.le_refl _)
        have m1 : Marks (w.heap.size + 1) ss w1 := HMk.out.grown (row := none) ⟨hb1.os, hb1.tape, hb1.output, hb1.size, fun k hk _ => hb1.block k hk⟩ (fun s _ => by simp)
        have z1 := (hb1.cell (p := ⟨w.heap.size, 0, none⟩) (lt_of_cell HCZ.out)).trans HCZ.out
        have hq1 : w.heap.size < w1.heap.size := lt_of_cell z1
        have hqr : w.heap.size < wr.heap.size := lt_of_cell HCZ.out
        have hJ0 : BuildK rec w w1.heap.size s0 s1 s2 (.slice (some ⟨w.heap.size, 0, none⟩) (1 + S) (1 + S)) S q.k cur ss 0 ((w1.alloc (.deferred (some []))).alloc (.loop (rec .ready none))) := by
          refine ⟨⟨(t0.alloc _).alloc _, ?_, (t2.alloc _).alloc _⟩, (o1.alloc _).alloc _, ?_, ?_, ?_, ?_, by simp⟩
          · rw [Nat.zero_mul, Nat.add_zero]; exact (t1.alloc _).alloc _
          · have := World.alloc_heap_new (w1.alloc (.deferred (some []))) (.loop (rec .ready none))
            rwa [World.size_alloc] at this
          · exact (Below.heap_alloc _ _ _ (by simp)).trans (World.alloc_heap_new w1 (.deferred (some [])))
          · exact (m1.grown (World.grownBy_alloc _ _ none) (fun s _ => by simp)).grown (World.grownBy_alloc _ _ none) (fun s _ => by simp)
          · exact (hbw1.alloc hbw1.size _).alloc (by have := hbw1.size; simp; omega) _
        have zS : ((w1.alloc (.deferred (some []))).alloc (.loop (rec .ready none))).cell? ⟨w.heap.size, 0, none⟩ = some (.int .u8 (p : Int)) := ((((Below.refl w1.heap.size w1).alloc (Nat.le_refl _) (.deferred (some []))).alloc (by simp) (.loop (rec .ready none))).cell (p := ⟨w.heap.size, 0, none⟩) hq1).trans z1
        have hsn : ∀ t ∈ ss, t ≠ w1.heap.size := fun t ht e => by have := (Array.getElem?_eq_some_iff.1 (m1.2 t ht).2).1; omega
        have HJ0 := hide hJ0
        have HSN := hide hsn
        have e8 : 8 * (1 + S - 1) = 8 * S := by omega
        clear hJ0 t0 t1 t2 o1 m1 z1 hbw1 hsn hb1
        generalize w1.heap.size = s at *
        generalize ((w1.alloc (.deferred (some []))).alloc (.loop (rec .ready none))) = WS at *
        refine (probes1_in 2 (s + 1) s0 s1 s2 (by omega) ⟨w.heap.size, 0, none⟩ (1 + S) (1 + S) p (hK q.k) (gK q.k) (by omega) (by omega) (by omega) (hK_lt q.k) (gK_lt q.k) (BuildK rec w s s0 s1 s2 (.slice (some ⟨w.heap.size, 0, none⟩) (1 + S) (1 + S)) S q.k cur ss) (fun _ => False) (fun k W h => h.1) ?_ _ zS HJ0.out).mono ?_
        · intro k' W hk' hJ
          obtain ⟨⟨t0, t1, t2⟩, ho, hL, hD, hM, hB, hsz⟩ := hJ
          rw [e8, addr0]
          have hj : (hK q.k + k' * gK q.k) % (8 * S) = posK q.k (8 * S) k' := rfl
          rw [hj]
          have hjl : posK q.k (8 * S) k' < 8 * S := Nat.mod_lt _ (by omega)
          have hnext : orKey (8 * S) q.k (k' + 1) cur = orBit (orKey (8 * S) q.k k' cur) (posK q.k (8 * S) k') := rfl
          have hlk : (orKey (8 * S) q.k k' cur).length = 1 + S := by rw [orKey_len]; exact HCL.out
          generalize orKey (8 * S) q.k k' cur = ck at *
          generalize posK q.k (8 * S) k' = j at *
          have hP : (2 ^ (j % 8) : Nat) < 256 := by have := Nat.pow_le_pow_right (show 0 < 2 by omega) (show j % 8 ≤ 7 by omega); omega
          have hbk : ck[1 + j / 8]? = some (ck.getD (1 + j / 8) 0) := by rw [List.getD_eq_getElem?_getD, List.getElem?_eq_getElem (by omega)]; rfl
          have hor := or_u8 (ck.getD (1 + j / 8) 0) (UInt8.ofNat (2 ^ (j % 8)))
          rw [show (UInt8.ofNat (2 ^ (j % 8))).toNat = 2 ^ (j % 8) by rw [UInt8.toNat_ofNat']; exact Nat.mod_eq_of_lt hP] at hor
          have hob : orBit ck j = ck.set (1 + j / 8) (ck.getD (1 + j / 8) 0 ||| UInt8.ofNat (2 ^ (j % 8))) := rfl
          generalize ck.getD (1 + j / 8) 0 = b1 at *
          generalize hb3 : b1 ||| UInt8.ofNat (2 ^ (j % 8)) = b3 at *
          generalize (2 ^ (j % 8) : Nat) = P at *
          have hg := grownBy_putObj' W (s + 1) (.loop (rec .busy none))
          have HLt := hide (Array.getElem?_eq_some_iff.1 hL).1
          have ao := ownsRow_putObj ho (.loop (rec .busy none)) hL rfl
          have hcell : (W.putObj (s + 1) (.loop (rec .busy none))).cell? ⟨w.heap.size, 1 + j / 8, none⟩ = some (.int .u8 (b1.toNat : Int)) := OwnB.cellAt (bs := ck) ao hbk
          have hfro : (W.putObj (s + 1) (.loop (rec .busy none))).frozen? ⟨w.heap.size, 1 + j / 8, none⟩ = false := OwnB.frozenAt (bs := ck) ao (1 + j / 8)
          have hst := OwnB.stored (bs := ck) ao (1 + j / 8) b3
          rw [← hob, ← hnext] at hst
          have HST := hide hst
          have a0 := hide (t0.kept hg (by simp; omega))
          have a1 := hide (t1.kept hg (by simp; omega))
          have a2 := hide (t2.kept hg (by simp; omega))
          have aD := hide ((hg.block s (by omega) (by simp)).trans hD)
          have aL : Hid ((W.putObj (s + 1) (.loop (rec .busy none))).heap[s + 1]? = some (.loop (rec .busy none))) := World.putObj_heap_same HLt.out
          have aM := hide (hM.grown hg (fun t ht e => by cases e; have h2 := (hM.2 _ ht).2; rw [hL] at h2; cases h2))
          have aB := hide (hB.grown hg hB.size (fun k hk => by cases hk; omega))
          have hb1' := b1.toNat_lt
          have g2 := hide (OwnB.stored_grown (bs := ck) ao (1 + j / 8) b3)
          have HSZ := hide hsz
          clear hob hnext hst ao t0 t1 t2 hD hM hB hg hbk hb3 hsz
          refine range_yield hrec rfl hL ?_
          gi_wp2
          have b0 := a0.out.kept g2.out (by simp; omega)
          have b1x := a1.out.kept g2.out (by simp; omega)
          have b2 := a2.out.kept g2.out (by simp; omega)
          have bD := (g2.out.block s (Array.getElem?_eq_some_iff.1 aD.out).1 (by simp; omega)).trans aD.out
          have bL := (g2.out.block (s + 1) (Array.getElem?_eq_some_iff.1 aL.out).1 (by simp; omega)).trans aL.out
          have bM := aM.out.grown g2.out (fun t ht e => by cases e; have := (aM.out.2 _ ht).1; omega)
          have bB := aB.out.grown g2.out aB.out.size (fun k hk => by cases hk; exact Nat.le_refl _)
          refine ⟨none, rfl, bL, ?_⟩
          rw [if_pos rfl, show ((hK q.k : Int) + (k' : Int) * (gK q.k : Int)) = ((hK q.k + k' * gK q.k : Nat) : Int) by rw [Int.natCast_add, Int.natCast_mul], show ((hK q.k : Int) + ((k' : Int) + 1) * (gK q.k : Int)) = ((hK q.k + (k' + 1) * gK q.k : Nat) : Int) by rw [Int.natCast_add, Int.natCast_mul]; rfl]
          have HO3 := HST.out
          generalize ((W.putObj (s + 1) (.loop (rec .busy none))).setCell ⟨w.heap.size, 1 + j / 8, none⟩ (.int .u8 (b3.toNat : Int))) = X at *
          have g3 := grownBy_putObj' X (s + 1) (.loop (rec .ready none))
          have c0 := b0.kept g3 (by simp; omega)
          have c1 := b1x.kept g3 (by simp; omega)
          have c2 := b2.kept g3 (by simp; omega)
          have cD := (g3.block s (Array.getElem?_eq_some_iff.1 bD).1 (by simp)).trans bD
          have cL : (X.putObj (s + 1) (.loop (rec .ready none))).heap[s + 1]? = some (.loop (rec .ready none)) := World.putObj_heap_same (Array.getElem?_eq_some_iff.1 bL).1
          have cM := bM.grown g3 (fun t ht e => by cases e; have h2 := (bM.2 _ ht).2; rw [bL] at h2; cases h2)
          have cB := bB.grown g3 bB.size (fun k hk => by cases hk; omega)
          have cO := ownsRow_putObj HO3 (.loop (rec .ready none)) bL rfl
          generalize X.putObj (s + 1) (.loop (rec .ready none)) = Y at *
          refine YieldR.more ⟨c0, c1, c2⟩ ?_
          have g4 := grownBy_setCell' Y s1 (.int .u64 ((hK q.k + (k' + 1) * gK q.k : Nat) : Int))
          exact ⟨⟨c0.kept g4 (by simp; omega), c1.set _, c2.kept g4 (by simp; omega)⟩, World.ownsRow.kept cO g4 (by rw [ownBlock_slice]; exact .inr (by simp; omega)), (g4.block _ (Array.getElem?_eq_some_iff.1 cL).1 (by simp; omega)).trans cL, (g4.block _ (Array.getElem?_eq_some_iff.1 cD).1 (by simp; omega)).trans cD, cM.grown g4 (fun t ht e => by cases e; have h2 := (cM.2 _ ht).2; have h3 : Y.heap[s1]? = _ := c1; rw [h3] at h2; cases h2), cB.grown g4 cB.size (fun k hk => by cases hk; omega), Nat.lt_of_lt_of_le (Array.getElem?_eq_some_iff.1 cL).1 g4.size⟩
        · rintro e W2 ⟨⟨v, rfl⟩, hJ | hE⟩
          rotate_left
          · exact hE.elim
          obtain ⟨-, ho, hL, hD, hM, hB, hsz⟩ := hJ
          refine ⟨none, _, range_end hrec hL (by simp), ?_⟩
          have g := grownBy_putObj' W2 (s + 1) (.loop (rec .exhausted none))
          have kO := ownsRow_putObj ho (.loop (rec .exhausted none)) hL rfl
          have kD := (g.block s (by omega) (by simp)).trans hD
          have kM := hM.grown g (fun t ht e => by cases e; have h2 := (hM.2 _ ht).2; rw [hL] at h2; cases h2)
          have kB := hB.grown g hB.size (fun k hk => by cases hk; omega)
          have KO := hide kO
          have KD := hide kD
          have KM := hide kM
          have KB := hide kB
          clear ho hL hD hM hB hsz g HJ0 kO kD kM kB
          generalize (W2.putObj (s + 1) (.loop (rec .exhausted none))) = W3 at *
          gi_wp2
          refine ⟨⟨k + 1, s :: ss, _, _, _, _, _, _, _, _, _, _, _, _, _, _, _, _, _, _, _, _, _, _, _, _, _, _, _, _, _, _, _, _, _, _, _, _, _, _, _, _, _, _, _, _, _, _, _, _, _, _, _, ⟨by omega, by rw [HNX.out]; exact KO.out, KB.out, List.nodup_cons.2 ⟨fun h => HSN.out s h rfl, KM.out.1⟩, ?_⟩, rfl⟩, ?_⟩
          · intro t ht
            rcases List.mem_cons.1 ht with rfl | ht
            · exact ⟨by omega, KD.out⟩
            · exact KM.out.2 t ht
          · show l.length - (intOf (.int .i64 ((k : Int) + 1))).toNat < l.length - (intOf (.int .i64 (k : Int))).toNat
            simp [intOf]
            omega
      · have hkl : (l.map Ky.k).take k = l.map Ky.k := List.take_of_length_le (by rw [List.length_map]; omega)
        rw [hkl] at ho
        have hfl : (buildF (l.map Ky.k) bits).length = 1 + S := by unfold buildF; rw [orKeys_len, List.length_map, ← HS.out, ← HP.out]; exact hlz
        have hfe : orKeys (8 * S) p (l.map Ky.k) (zeroF (UInt8.ofNat p) S) = buildF (l.map Ky.k) bits := by unfold buildF; rw [List.length_map, ← HS.out, ← HP.out]
        rw [hfe] at ho
        have HOw := hide ho
        have HBw := hide hb
        have HMk := hide hM
        have HFL := hide hfl
        clear ho hb hM hkl hfl hfe HOWN HB2 hc0 hf0 hmk hlz
        gi_wp2
        refine leaves_marks (fun W => OwnB W w.heap.size 5 (some ⟨w.heap.size, 0, none⟩) (1 + S) (buildF (l.map Ky.k) bits) ∧ Below w.heap.size w W) ?_ ?_ ss _ HMk.out ⟨HOw.out, HBw.out⟩
        · rintro W s ⟨g1, g2⟩ hs hd
          have g := grownBy_putObj' W s (.deferred none)
          exact ⟨ownsRow_putObj g1 (.deferred none) hd rfl, g2.grown g g2.size (fun k hk => by cases hk; omega)⟩
        · rintro W ⟨g1, g2⟩
          rw [HO.out]
          exact ⟨_, results_tmp2 rfl _ _ _, some ⟨w.heap.size, 0, none⟩, 1 + S, by rw [HFL.out]; rfl, g1, g2⟩
end Go.Proofs.Ytnmgbhpmmbhgoaa
