/-
  chart: Post.
-/
import Derived.Test.YtibanikfalfmcaaCheckC
namespace Go.Proofs.Ytibanikfalfmcaa
open Go.RowKit Go.Maps
set_option linter.unusedVariables false

/-- The accounts behind legs were added. -/
def postL (l : Acs) (ls : List (Int × Int)) : Acs := ls.foldl (fun l x => aPut l x.1 ((lookA l x.1).1, wrap64 ((lookA l x.1).2 + x.2))) l
theorem postL_succ {l : Acs} {ls : List (Int × Int)} {k : Nat} {x : Int × Int} (h : ls[k]? = some x) : postL l (ls.take (k + 1)) = aPut (postL l (ls.take k)) x.1 ((lookA (postL l (ls.take k)) x.1).1, wrap64 ((lookA (postL l (ls.take k)) x.1).2 + x.2)) := by
  unfold postL
  rw [take_next h, List.foldl_append]
  rfl
theorem aPut_len (l : Acs) (n : Int) (x : Int × Int) : (aPut l n x).length ≤ l.length + 1 := by
  unfold aPut
  rw [aIns_len]
  exact Nat.succ_le_succ (List.length_filter_le _ _)
theorem postL_len (l : Acs) (ls : List (Int × Int)) : (postL l ls).length ≤ l.length + ls.length := by
  unfold postL
  induction ls generalizing l with
  | nil => exact Nat.le_refl _
  | cons x r ih =>
    have h1 := ih (aPut l x.1 ((lookA l x.1).1, wrap64 ((lookA l x.1).2 + x.2)))
    have h2 := aPut_len l x.1 ((lookA l x.1).1, wrap64 ((lookA l x.1).2 + x.2))
    rw [List.foldl_cons, List.length_cons]
    omega
def postedL (l : Acs) (day : Int) (tl : Nat) (ls : List (Int × Int)) : Acs := if checkE l day tl ls = 0 then postL l ls else l
def PostR (q b : Nat) (w : World) (l : Acs) (day : Int) (tl : Nat) (ls : List (Int × Int)) (e : Ending) (w' : World) : Prop := e = .returned (.int .i64 (checkE l day tl ls)) ∧ Ch q b (postedL l day tl ls) w' ∧ Kept (fun k => k = b) w w'
theorem Row.kept_map {w w' : World} {B b : Nat} {A : Option Addr} {xs : List Value} (h : Row w B A xs) (hk : Kept (fun k => k = b) w w') (hb : Km w b) (hB : B ≤ w.heap.size) : Row w' B A xs := by
  intro j u hj
  obtain ⟨ad, hA, hlt, hc⟩ := h j u hj
  refine ⟨ad, hA, hlt, ?_⟩
  rw [World.cell?_of_block (w := w) (hk.block _ (by rw [add_block]; omega) (fun e => ?_))]
  · exact hc
  · obtain ⟨es, cl, hm⟩ := hb
    rw [← e] at hm
    unfold World.cell? at hc
    rw [hm] at hc
    cases hc
/-- The state of 'Post' ahead of the k-th leg. -/
def PsRel (q b : Nat) (l : Acs) (ls : List (Int × Int)) (w1 : World) (i : Value) (wr : World) : Prop :=
  ∃ k : Nat, k ≤ ls.length ∧ i = .int .i64 (k : Int) ∧ Ch q b (postL l (ls.take k)) wr ∧ Kept (fun k => k = b) w1 wr

set_option maxRecDepth 100000 in
set_option maxHeartbeats 4000000 in
theorem post_any (q b : Nat) (l : Acs) (w : World) (hs : Ch q b l w) (day : Int) (tx : ByteArray) (A : Option Addr) (B n c : Nat) (ls : List (Int × Int)) (hn : ls.length = n) (hr : Row w B A (legCells ls)) (hB : B ≤ w.heap.size) (hl : n ≤ 1000) (hwf : ∀ x ∈ ls, (Lit.int .i64 x.1).wf = true) (htx : tx.size ≤ maxLen) (hll : l.length ≤ 1000000) :
    Calls Try.prog 13 #[.pointer (some ⟨q, 0, none⟩), .agg #[.int .i64 day, .string tx, .slice A n c]] w (PostR q b w l day tx.size ls) := by
  subst hn
  obtain ⟨w1, hw1⟩ : ∃ w1, w1 = w.alloc (.cells #[.int .i64 day, .string tx, .slice A ls.length c] 25) := ⟨_, rfl⟩
  have hb1 : Below w.heap.size w w1 := by rw [hw1]; exact below_new w _
  have hbx1 : w1.heap[w.heap.size]? = some (.cells #[.int .i64 day, .string tx, .slice A ls.length c] 25 (0, 0)) := by rw [hw1]; exact heap_alloc_new w _
  have hz1 : w.heap.size < w1.heap.size := by rw [hw1]; simp
  have HCK := hide (check_any q b l w1 (hs.call hb1) day tx A B ls.length c ls rfl (hr.belowLe hb1 hB) (Nat.le_trans hB hb1.size) hl hwf htx)
  have HR := hide (hr.belowLe hb1 hB)
  have HB1 := hide hb1
  have HBX := hide hbx1
  have HZ := hide hz1
  have HS := hide hs
  have HWF := hide hwf
  clear hr hs hwf
  obtain ⟨E, hE⟩ : ∃ E, E = checkE l day tx.size ls := ⟨_, rfl⟩
  rw [← hE] at HCK
  have HE := hide hE
  clear hE
  have hq := HS.out.lt
  go_enter Try.func13, Try.ntmps13
  go_wp2_with (go_at_call 29; refine halted ?_)
  refine go_on ?_
  rw [← hw1]
  refine HCK.out.mono ?_
  rintro e w2 ⟨rfl, hb2⟩
  have HB2 := hide hb2
  have HQ := hide hq
  clear HCK hb2 hb1 hbx1 hz1 hw1 hq
  by_cases h0 : E = 0
  case neg =>
    have hne : (E != 0) = true := by rw [bne_iff_ne]; exact h0
    have hfin : PostR q b w l day tx.size ls (.returned (.int .i64 E)) w2 := by
      have hBW := HB1.out.trans (HB2.out.mono HB1.out.size)
      refine ⟨by rw [← HE.out], ?_, Kept.of_below hBW⟩
      unfold postedL
      rw [if_neg (by rw [← HE.out]; exact h0)]
      exact HS.out.call hBW
    have HF := hide hfin
    clear hfin h0
    go_wp2
    go_ret
    exact HF.out
  subst h0
  have hbx2 := (HB2.out.block _ HZ.out).trans HBX.out
  have c2 := Joins.cell_of_block hbx2 2
  simp at c2
  have hs2 : Ch q b l w2 := HS.out.call (HB1.out.trans (HB2.out.mono HB1.out.size))
  have hr2 : Row w2 B A (legCells ls) := HR.out.belowLe HB2.out (Nat.le_trans hB HB1.out.size)
  have HS2 := hide hs2
  have HR2 := hide hr2
  have hz2 : B ≤ w2.heap.size := Nat.le_trans (Nat.le_trans hB HB1.out.size) HB2.out.size
  have HZ2 := hide hz2
  have hbw2 : Below w.heap.size w w2 := HB1.out.trans (HB2.out.mono HB1.out.size)
  have HBW2 := hide hbw2
  clear hbx2 hs2 hr2 hz2 hbw2
  go_wp2
  obtain ⟨q1, hq1⟩ : ∃ q1, q1 = w.heap.size := ⟨_, rfl⟩
  rw [← hq1]
  clear hq1
  go_loopw [18] (fun i wr => PsRel q b l ls w2 i wr) (fun i _ => ls.length - (intOf i).toNat)
  case atStart => exact ⟨0, Nat.zero_le _, rfl, HS2.out, Kept.refl _⟩
  case round =>
    obtain ⟨k, hk, rfl, hch, hkp⟩ := hrel
    by_cases hlt : k < ls.length
    · have hrow : Row wr B A (legCells ls) := HR2.out.kept_map hkp (Km.of_acs HS2.out.map) HZ2.out
      obtain ⟨ad, a, m, rfl, hadb, hx, ha, hm⟩ := hrow.leg hlt
      have hwa := HWF.out _ (List.mem_of_getElem? hx.out)
      dsimp only at hwa
      have hsc := postL_succ (l := l) hx.out
      dsimp only at hsc
      have hlen : (postL l (ls.take k)).length ≤ 1001000 := by
        have := postL_len l (ls.take k)
        rw [List.length_take] at this
        omega
      obtain ⟨lk, hlk⟩ : ∃ lk, lk = postL l (ls.take k) := ⟨_, rfl⟩
      rw [← hlk] at hsc hch hlen
      have HSC := hide hsc
      have HKP := hide hkp
      obtain ⟨wl, hwl⟩ : ∃ wl, wl = wr.alloc (.cells #[.int .i64 a, .int .i64 m] 51) := ⟨_, rfl⟩
      have hbl : Below wr.heap.size wr wl := by rw [hwl]; exact below_new _ _
      have hsl : Ch q b lk wl := hch.call hbl
      have hbxl : wl.heap[wr.heap.size]? = some (.cells #[.int .i64 a, .int .i64 m] 51 (0, 0)) := by rw [hwl]; exact heap_alloc_new _ _
      have k0 : wl.cell? ⟨wr.heap.size, 0, none⟩ = some (.int .i64 a) := Joins.cell_of_block hbxl 0
      have k1 : wl.cell? ⟨q, 0, none⟩ = some (.map (some b)) := Joins.cell_of_block hsl.box 0
      have d0 : wl.drew.cell? ⟨wr.heap.size, 0, none⟩ = some (.int .i64 a) := k0
      have d1 : wl.drew.cell? ⟨q, 0, none⟩ = some (.map (some b)) := k1
      obtain ⟨x, hx0⟩ : ∃ x, x = lookA lk a := ⟨_, rfl⟩
      have hlook : ∀ W, Below wl.heap.size wl W → (Instr.lookup 69 (.map (some b)) (.int .i64 a) false).run Try.prog W = .ok (.agg #[.int .i64 x.1, .int .i64 x.2]) W := fun W hW => by
        rw [hx0]
        exact look_acs0 (hsl.call hW).map hwa
      have HX := hide hx0
      have HSL := hide hsl
      have HBL := hide hbl
      have HBXL := hide hbxl
      obtain ⟨x1, x2⟩ := x
      dsimp only at hlook
      have hBd : Below wl.heap.size wl wl.drew := below_dN (Below.refl _ _) 1
      have hl1 := hlook _ hBd
      have hl2 := hlook (wl.alloc (.cells #[.int .i64 0, .int .i64 0] 73)).drew (below_dN (below_new wl _) 1)
      have hal := below_new wl (.cells #[.int .i64 0, .int .i64 0] 73)
      have e0 : (wl.alloc (.cells #[.int .i64 0, .int .i64 0] 73)).cell? ⟨wr.heap.size, 0, none⟩ = some (.int .i64 a) := (hal.cell (p := ⟨wr.heap.size, 0, none⟩) (lt_of_cell k0)).trans k0
      have e1 : (wl.alloc (.cells #[.int .i64 0, .int .i64 0] 73)).cell? ⟨q, 0, none⟩ = some (.map (some b)) := (hal.cell (p := ⟨q, 0, none⟩) (lt_of_cell k1)).trans k1
      clear hrow hkp hsl hbl hx0 hbxl hal hsc hch hlk
      go_wp2
      rw [← hwl]
      clear hwl
      go_region_law (fail)
      all_goals
        have hb8 : Below wl.heap.size wl (wl.alloc (.cells #[.int .i64 x1, .int .i64 x2] 73)).drew := below_dN (below_new wl _) 1
        have hbx8 : (wl.alloc (.cells #[.int .i64 x1, .int .i64 x2] 73)).drew.heap[wl.heap.size]? = some (.cells #[.int .i64 x1, .int .i64 x2] 73 (0, 0)) := heap_alloc_new wl _
        clear e0 e1 d0 d1 k0 k1 hl1 hl2 hlook hBd
        generalize (wl.alloc (.cells #[.int .i64 x1, .int .i64 x2] 73)).drew = w8 at *
        have hbx9 := (hb8.block _ (Array.getElem?_eq_some_iff.1 HBXL.out).1).trans HBXL.out
        have k1 : w8.cell? ⟨wr.heap.size, 1, none⟩ = some (.int .i64 m) := Joins.cell_of_block hbx9 1
        have k2 : w8.cell? ⟨wl.heap.size, 1, none⟩ = some (.int .i64 x2) := Joins.cell_of_block hbx8 1
        have k3 : w8.frozen? ⟨wl.heap.size, 1, none⟩ = false := Joins.unfrozen_of_block hbx8 1
        obtain ⟨y, hy⟩ : ∃ y, y = wrap64 (x2 + m) := ⟨_, rfl⟩
        have hw : IntKind.i64.wrap (x2 + m) = y := by rw [hy]; exact IntWalk.i64_left _
        have HY := hide hy
        have hb9 : Below wl.heap.size wl (w8.setCell ⟨wl.heap.size, 1, none⟩ (.int .i64 y)) := ⟨hb8.os, hb8.tape, hb8.output, Nat.le_trans hb8.size (KeepsWalks.setCell w8 _ _).size, fun j hj => (Below.heap_setCell w8 ⟨wl.heap.size, 1, none⟩ _ j (fun e => by have e : j = wl.heap.size := e; omega)).trans (hb8.block j hj)⟩
        have hbx10 : (w8.setCell ⟨wl.heap.size, 1, none⟩ (.int .i64 y)).heap[wl.heap.size]? = some (.cells #[.int .i64 x1, .int .i64 y] 73 (0, 0)) := Joins.block_setCell (i := 1) hbx8 (.int .i64 y)
        clear hbx8 hbx9 hb8 hy
        go_wp2
        generalize w8.setCell ⟨wl.heap.size, 1, none⟩ (.int .i64 y) = w9 at *
        have hs9 : Ch q b lk w9 := HSL.out.call hb9
        have hbl9 := (hb9.block _ (Array.getElem?_eq_some_iff.1 HBXL.out).1).trans HBXL.out
        have hd9 : Ch q b lk w9.drew := hs9.call (below_dN (Below.refl _ _) 1)
        obtain ⟨w10, hrun, hown10, hturn⟩ := World.ownsMap.store hd9.map ikeyed Try.underlying69 (by unfold maxLen; omega) (keyOf_int_mk Try.underlying3 hwa) (show accR (.agg #[.int .i64 x1, .int .i64 y]) = some (accE (x1, y), []) from rfl)
        have m0 : w9.cell? ⟨q, 0, none⟩ = some (.map (some b)) := Joins.cell_of_block hs9.box 0
        have m1 : w9.cell? ⟨wr.heap.size, 0, none⟩ = some (.int .i64 a) := Joins.cell_of_block hbl9 0
        have m2 : w9.cell? ⟨wl.heap.size, 0, none⟩ = some (.int .i64 x1) := Joins.cell_of_block hbx10 0
        have m3 : w9.cell? ⟨wl.heap.size, 1, none⟩ = some (.int .i64 y) := Joins.cell_of_block hbx10 1
        have n0 : w9.drew.cell? ⟨q, 0, none⟩ = some (.map (some b)) := m0
        have n1 : w9.drew.cell? ⟨wr.heap.size, 0, none⟩ = some (.int .i64 a) := m1
        have n2 : w9.drew.cell? ⟨wl.heap.size, 0, none⟩ = some (.int .i64 x1) := m2
        have n3 : w9.drew.cell? ⟨wl.heap.size, 1, none⟩ = some (.int .i64 y) := m3
        have hrel2 : PsRel q b l ls w2 (.int .i64 ((k : Int) + 1)) w10 := by
          have hk10 : Kept (fun k => k = b) w9.drew w10 := Kept.of_grown hturn.grown (fun j hj => by injection hj with hj; exact hj.symm)
          have hq := hd9.lt
          refine ⟨k + 1, hlt, by simp, ⟨(hk10.block q hq.1 hq.2.2).trans hd9.box, OwnsAcs.of (n := lk.length + 1) ?_⟩, ?_⟩
          · rw [HSC.out, ← HX.out, ← HY.out, accD_put]
            exact hown10
          · have h1 : Below wr.heap.size wr w9 := HBL.out.trans (hb9.mono HBL.out.size)
            exact ((HKP.out.call h1).call (below_dN (Below.refl _ _) 1)).trans hk10
        have HR2 := hide hrel2
        clear hs9 hbl9 hd9 hown10 hturn hrel2 hbx10 hb9
        go_region_law (fail)
        all_goals
          go_wp2
          case roundEnd => exact ⟨HR2.out, by simp [intOf]; omega⟩
    · have hk' : k = ls.length := by omega
      subst hk'
      rw [List.take_of_length_le (Nat.le_refl _)] at hch
      have hfin : PostR q b w l day tx.size ls (.returned (.int .i64 0)) wr := by
        refine ⟨by rw [← HE.out], ?_, (Kept.of_below HBW2.out).trans_in hkp (fun j _ e => e)⟩
        unfold postedL
        rw [if_pos HE.out.symm]
        exact hch
      have HF := hide hfin
      clear hfin hch hkp hlt hk
      go_wp2
      go_ret
      exact HF.out
end Go.Proofs.Ytibanikfalfmcaa
