/-
  The reference's chart: Post.
-/
import Derived.Test.YtibanikfalfmcaaRCh3
import Derived.BigRegion
namespace Go.Proofs.Ytibanikfalfmcaa
open Go.RowKit Go.Maps Go.Shelf
set_option linter.unusedVariables false

theorem isSome_keys (l : Acs) (n : Int) : (aFind l n).isSome = decide (n ∈ l.map (·.1)) := by
  induction l with
  | nil => simp [aFind]
  | cons y r ih =>
    rw [find_cons]
    by_cases h : y.1 = n
    · rw [if_pos h]; simp [h]
    · rw [if_neg h, ih]
      have h2 : n ≠ y.1 := fun e => h e.symm
      simp [h2]
theorem rises_keys {l l' : Acs} (h : l.map (·.1) = l'.map (·.1)) (hr : l.Pairwise fun x y => x.1 < y.1) : l'.Pairwise fun x y => x.1 < y.1 := by
  have h1 : (l.map (·.1)).Pairwise (· < ·) := by rw [List.pairwise_map]; exact hr
  rw [h, List.pairwise_map] at h1
  exact h1
theorem del_at {l : Acs} (hr : l.Pairwise fun x y => x.1 < y.1) {j : Nat} {e : Int × Int × Int} (h : l[j]? = some e) : aDel l e.1 = l.take j ++ l.drop (j + 1) := by
  induction l generalizing j with
  | nil => simp at h
  | cons y r ih =>
    rw [List.pairwise_cons] at hr
    cases j with
    | zero =>
      simp only [List.getElem?_cons_zero, Option.some.injEq] at h
      subst h
      unfold aDel
      rw [List.filter_cons_of_neg (by simp)]
      simp only [List.take_zero, List.nil_append, List.drop_succ_cons, List.drop_zero]
      rw [List.filter_eq_self]
      intro z hz
      have := hr.1 z hz
      simp
      omega
    | succ j =>
      simp only [List.getElem?_cons_succ] at h
      have hlt := hr.1 e (List.mem_of_getElem? h)
      have ih := ih hr.2 h
      unfold aDel at ih ⊢
      rw [List.filter_cons_of_pos (by simp; omega), ih]
      rfl
/-- An account's balance turned, where it stands. -/
theorem put_at {l : Acs} (hr : l.Pairwise fun x y => x.1 < y.1) {j : Nat} {n : Int} {x : Int × Int} (h : l[j]? = some (n, x)) (y : Int × Int) : aPut l n y = l.set j (n, y) := by
  have hj : j < l.length := (List.getElem?_eq_some_iff.1 h).1
  have hx : l[j] = (n, x) := (List.getElem?_eq_some_iff.1 h).2
  have hd := del_at hr h
  dsimp only at hd
  unfold aPut
  rw [hd]
  have hs : l.set j (n, y) = l.take j ++ (n, y) :: l.drop (j + 1) := by
    rw [List.set_eq_take_append_cons_drop, if_pos hj]
  have hp := List.pairwise_iff_getElem.1 hr
  have h1 := ins_at (l := l.take j ++ l.drop (j + 1)) (k := j) (n := n) y (fun i e hi he => by
    rw [List.getElem?_append_left (by rw [List.length_take]; omega), List.getElem?_take, if_pos hi] at he
    have h2 := (List.getElem?_eq_some_iff.1 he).2
    have h3 := hp i j (by omega) hj hi
    rw [h2, hx] at h3
    exact h3) (by simp; omega) (fun e he => by
    rw [List.getElem?_append_right (by rw [List.length_take]; omega), List.length_take, Nat.min_eq_left (by omega), Nat.sub_self, List.getElem?_drop] at he
    have hlt := (List.getElem?_eq_some_iff.1 he).1
    have h2 := (List.getElem?_eq_some_iff.1 he).2
    have h3 := hp j (j + 1 + 0) hj hlt (by omega)
    rw [h2, hx] at h3
    exact h3)
  rw [h1, hs, List.take_left' (by rw [List.length_take]; omega), List.drop_left' (by rw [List.length_take]; omega)]
theorem set_keys {l : Acs} {j : Nat} {n : Int} {x : Int × Int} (h : l[j]? = some (n, x)) (y : Int × Int) : (l.set j (n, y)).map (·.1) = l.map (·.1) := by
  rw [List.map_set]
  have hj : j < l.length := (List.getElem?_eq_some_iff.1 h).1
  have hx : l[j] = (n, x) := (List.getElem?_eq_some_iff.1 h).2
  apply List.ext_getElem
  · simp
  · intro i h1 h2
    rw [List.getElem_set]
    split
    · rename_i e
      subst e
      rw [List.getElem_map, hx]
    · rfl
theorem acCells_set {l : Acs} {j : Nat} {n kd bl : Int} (h : l[j]? = some (n, kd, bl)) (v : Int) : (acCells l).set (j * 3 + 2) (.int .i64 v) = acCells (l.set j (n, kd, v)) := by
  have hj : j < l.length := (List.getElem?_eq_some_iff.1 h).1
  have hx : l[j] = (n, kd, bl) := (List.getElem?_eq_some_iff.1 h).2
  have e1 : l = l.take j ++ ((n, kd, bl) :: l.drop (j + 1)) := by rw [← hx, ← List.drop_eq_getElem_cons hj, List.take_append_drop]
  have e2 : l.set j (n, kd, v) = l.take j ++ ((n, kd, v) :: l.drop (j + 1)) := by rw [List.set_eq_take_append_cons_drop, if_pos hj]
  have e3 : (acCells (l.take j)).length = j * 3 := by rw [acCells_len, List.length_take]; omega
  rw [e2, acCells_append]
  conv => lhs; rw [e1]
  rw [acCells_append, List.set_append_right _ _ (by omega), e3, show j * 3 + 2 - j * 3 = 2 by omega]
  rfl

def RPostR (r base : Nat) (w : World) (l : Acs) (day : Int) (tl : Nat) (ls : List (Int × Int)) (e : Ending) (w' : World) : Prop := e = .returned (.int .i64 (checkE l day tl ls)) ∧ (∃ A c, Rc r base A c (postedL l day tl ls) w') ∧ Kept (fun k => k = r ∨ base ≤ k ∧ ∃ vs f, w.heap[k]? = some (.cells vs 98 f)) w w'
def RpsRel (r base g cc : Nat) (l : Acs) (ls : List (Int × Int)) (w2 : World) (i : Value) (wr : World) : Prop :=
  ∃ k : Nat, k ≤ ls.length ∧ i = .int .i64 (k : Int) ∧ Rc r base (some ⟨g, 0, none⟩) cc (postL l (ls.take k)) wr ∧ Hid ((postL l (ls.take k)).map (·.1) = l.map (·.1)) ∧ Kept (fun j => j = g) w2 wr

set_option maxRecDepth 100000 in
set_option maxHeartbeats 4000000 in
theorem rpost_any (r base : Nat) (AC : Option Addr) (cc : Nat) (l : Acs) (w : World) (hs : Rc r base AC cc l w) (hrise : l.Pairwise fun x y => x.1 < y.1) (day : Int) (tx : ByteArray) (A : Option Addr) (B n c : Nat) (ls : List (Int × Int)) (hn : ls.length = n) (hr : Row w B A (legCells ls)) (hB : B ≤ base) (hbase : base ≤ w.heap.size) (hl : n ≤ 1000) (htx : tx.size ≤ maxLen) (hll : l.length ≤ 1000000) :
    Calls Try.prog 28 #[.pointer (some ⟨r, 0, none⟩), .agg #[.int .i64 day, .string tx, .slice A n c]] w (RPostR r base w l day tx.size ls) := by
  subst hn
  obtain ⟨w1, hw1⟩ : ∃ w1, w1 = w.alloc (.cells #[.int .i64 day, .string tx, .slice A ls.length c] 25) := ⟨_, rfl⟩
  have hb1 : Below w.heap.size w w1 := by rw [hw1]; exact below_new w _
  have hx1 : w1.heap[w.heap.size]? = some (.cells #[.int .i64 day, .string tx, .slice A ls.length c] 25 (0, 0)) := by rw [hw1]; exact heap_alloc_new w _
  have hz1 : w.heap.size < w1.heap.size := by rw [hw1]; simp
  have HCK := hide (rcheck_any r base AC cc l w1 (hs.call hb1) day tx A B ls.length c ls rfl (hr.belowLe hb1 (by omega)) (Nat.le_trans (Nat.le_trans hB hbase) hb1.size) (by omega) htx hll)
  have HR := hide (hr.belowLe hb1 (by omega))
  have HB1 := hide hb1
  have HS := hide hs
  have HX1 := hide hx1
  have HZ1 := hide hz1
  obtain ⟨E, HE⟩ : ∃ E, Hid (E = checkE l day tx.size ls) := ⟨_, rfl⟩
  rw [← HE.out] at HCK
  clear hr hs hx1 hz1
  go_enter Try.func28, Try.ntmps28
  go_wp2_with (go_at_call 30; refine halted ?_)
  refine go_on ?_
  rw [← hw1]
  clear hw1 hb1
  refine HCK.out.mono ?_
  rintro e w2 ⟨rfl, hb2⟩
  have HB2 := hide hb2
  clear HCK hb2
  by_cases h0 : E = 0
  case neg =>
    have hne : (E != 0) = true := by rw [bne_iff_ne]; exact h0
    have hfin : RPostR r base w l day tx.size ls (.returned (.int .i64 E)) w2 := by
      have hBW := HB1.out.trans (HB2.out.mono HB1.out.size)
      refine ⟨by rw [← HE.out], ⟨AC, cc, ?_⟩, Kept.of_below hBW⟩
      unfold postedL
      rw [if_neg (by rw [← HE.out]; exact h0)]
      exact HS.out.call hBW
    have HF := hide hfin
    clear hfin h0
    go_wp2
    go_ret
    exact HF.out
  subst h0
  obtain ⟨hrt, -, hle⟩ := check_parts HE.out.symm
  have hfound := legs_found hle
  have h2 : 2 ≤ ls.length := by unfold rightE at hrt; simp only [Bool.and_eq_true, decide_eq_true_eq] at hrt; omega
  have hne : 0 < l.length := by
    obtain ⟨x, hx⟩ : ∃ x, ls[0]? = some x := ⟨_, List.getElem?_eq_getElem (by omega)⟩
    obtain ⟨a, ha⟩ := hfound x (List.mem_of_getElem? hx)
    have := aFind_mem ha
    exact List.length_pos_of_mem this
  have hBW2 := HB1.out.trans (HB2.out.mono HB1.out.size)
  have hs2 := HS.out.call hBW2
  obtain ⟨g, rfl, hgb, hgl⟩ : ∃ g, AC = some ⟨g, 0, none⟩ ∧ base ≤ g ∧ g < w.heap.size := by
    rcases HS.out.own.2 with ⟨_, h0⟩ | ⟨g, cap, cur, hv, hb, hg, _⟩
    · omega
    · injection hv with hA
      exact ⟨g, hA, hb, (Array.getElem?_eq_some_iff.1 hg).1⟩
  have hgk : ∃ vs f, w.heap[g]? = some (.cells vs 98 f) := by
    rcases HS.out.own.2 with ⟨_, h0⟩ | ⟨g', cap, cur, hv, hb, hg, _⟩
    · omega
    · injection hv with hA
      injection hA with hA
      injection hA with hA
      subst hA
      exact ⟨_, _, hg⟩
  have HGK := hide hgk
  have HFD := hide hfound
  have HBW2 := hide hBW2
  have HG := hide (show base ≤ g ∧ g < w.heap.size ∧ r < base from ⟨hgb, hgl, HS.out.lt⟩)
  have HX2 := hide ((HB2.out.block _ HZ1.out).trans HX1.out)
  have HZ2 := hide (show w.heap.size < w2.heap.size from Nat.lt_of_lt_of_le HZ1.out HB2.out.size)
  have HS2 := hide hs2
  have HR2 := hide (HR.out.belowLe HB2.out (by have := HZ1.out; omega))
  have HRI := hide hrise
  clear hrt hle hfound h2 hne hBW2 hs2 hgb hgl hgk hrise HR HX1
  go_wp2
  obtain ⟨q1, hq1⟩ : ∃ q1, q1 = w.heap.size := ⟨_, rfl⟩
  have HQ1 := hide hq1
  rw [← hq1] at HX2 ⊢
  clear hq1
  go_loopw [6] (fun i wr => RpsRel r base g cc l ls w2 i wr) (fun i _ => ls.length - (intOf i).toNat)
  case atStart => exact ⟨0, Nat.zero_le _, rfl, HS2.out, rfl, Kept.refl _⟩
  case round =>
    obtain ⟨k, hk, rfl, hrc, HKY, hkp⟩ := hrel
    have hx := (hkp.block q1 (by have := HQ1.out; have := HZ2.out; omega) (fun e => by have := HG.out; have := HQ1.out; omega)).trans HX2.out
    have x2 : wr.cell? ⟨q1, 2, none⟩ = some (.slice A ls.length c) := Joins.cell_of_block hx 2
    by_cases hlt : k < ls.length
    · have hrow : Row wr B A (legCells ls) := HR2.out.keep fun p hp => by
        have h1 := HG.out
        have h2 := HZ2.out
        exact World.cell?_of_block (hkp.block p.block (by omega) (by omega))
      obtain ⟨ad, a, m, rfl, hadb, hxl, ha, hm⟩ := hrow.leg hlt
      have hlen : (postL l (ls.take k)).length = l.length := by
        have := congrArg List.length HKY.out
        simpa using this
      obtain ⟨lk, hlk⟩ : ∃ lk, lk = postL l (ls.take k) := ⟨_, rfl⟩
      have hsc := postL_succ (l := l) hxl.out
      dsimp only at hsc
      rw [← hlk] at hsc hrc HKY hlen
      obtain ⟨x0, hf0⟩ := HFD.out _ (List.mem_of_getElem? hxl.out)
      dsimp only at hf0
      have hsome : (aFind lk a).isSome = true := by rw [isSome_keys, HKY.out, ← isSome_keys, hf0]; rfl
      obtain ⟨x, hf⟩ := Option.isSome_iff_exists.1 hsome
      obtain ⟨j, hj, hjl, hjlt⟩ := placeE_some hf
      have hPL := place_any r base (some ⟨g, 0, none⟩) cc lk wr hrc a (by omega)
      rw [hj] at hPL
      have HPL := hide hPL
      obtain ⟨kd, bl⟩ := x
      have hrl := rises_keys HKY.out.symm HRI.out
      have hput := put_at hrl hjl (kd, wrap64 (bl + m))
      have hlook : lookA lk a = (kd, bl) := by unfold lookA; rw [hf]; rfl
      rw [hlook] at hsc
      dsimp only at hsc
      rw [hput] at hsc
      have hrcd : Rc r base (some ⟨g, 0, none⟩) cc lk wr.drew := hrc.call (Below.refl _ _).drew
      have hst := World.ownsRow.stored hrcd.own (j * 3 + 2) (.int .i64 (wrap64 (bl + m)))
      rw [acCells_set hjl] at hst
      have c0 := hrc.cell
      rw [hlen] at c0
      have cb : wr.cell? ⟨g, j * 3 + 2, none⟩ = some (.int .i64 bl) := by
        rw [World.ownsRow.cellAt hrc.own (j * 3 + 2) (by omega)]
        exact (acCells_at hjl).2.2
      have fb : wr.frozen? ⟨g, j * 3 + 2, none⟩ = false := World.ownsRow.frozenAt hrc.own _
      have hlset : (lk.set j (a, kd, wrap64 (bl + m))).length = lk.length := List.length_set ..
      have hkg : Kept (fun i => i = g) wr.drew (wr.drew.setCell ⟨g, j * 3 + 2, none⟩ (.int .i64 (wrap64 (bl + m)))) := Kept.of_grown hst.2 (fun i hi => by injection hi with hi; exact hi.symm)
      have hrel2 : RpsRel r base g cc l ls w2 (.int .i64 ((k : Int) + 1)) (wr.drew.setCell ⟨g, j * 3 + 2, none⟩ (.int .i64 (wrap64 (bl + m)))) := by
        refine ⟨k + 1, hlt, by simp, ?_, ?_, (hkp.call (Below.refl _ _).drew).trans hkg⟩
        · rw [hsc]
          refine ⟨?_, ?_, hrc.lt⟩
          · rw [hlset]
            exact (hkg.block r (Array.getElem?_eq_some_iff.1 hrcd.box).1 (fun e => by have := HG.out; omega)).trans hrcd.box
          · rw [hlset]; exact hst.1
        · show _ = _
          rw [hsc, set_keys hjl, HKY.out]
      have HR3 := hide hrel2
      have hlt' : (k : Int) < (ls.length : Int) := by omega
      have hjlt' : (j : Int) < (l.length : Int) := by omega
      have hj0 : (0 : Int) ≤ (j : Int) := by omega
      have hjn : j < l.length := by omega
      obtain ⟨y, hy⟩ : ∃ y, y = wrap64 (bl + m) := ⟨_, rfl⟩
      have hwrap : IntKind.i64.wrap (bl + m) = y := by rw [hy]; exact IntWalk.i64_left _
      rw [← hy] at HR3
      clear hy
      clear hrow hxl hlen hlk hsc hrc hf0 hsome hf hj hjl hjlt hPL hrl hput hlook hst hlset hkg hrel2 hkp hx hrcd
      go_wp2_with (go_at_call 58; refine halted ?_)
      refine go_on ?_
      refine HPL.out.mono ?_
      rintro e w' ⟨rfl, rfl⟩
      have t0 : wr.drew.cell? ⟨r, 0, none⟩ = some (.slice (some ⟨g, 0, none⟩) l.length cc) := c0
      have t1 : wr.drew.cell? ⟨q1, 2, none⟩ = some (.slice (some ad) ls.length c) := x2
      have t2 : wr.drew.cell? ⟨(ad.add (k * 2)).block, (ad.add (k * 2)).off + 1, none⟩ = some (.int .i64 m) := hm
      have t3 : wr.drew.cell? ⟨g, j * 3 + 2, none⟩ = some (.int .i64 bl) := cb
      have t4 : wr.drew.frozen? ⟨g, j * 3 + 2, none⟩ = false := fb
      go_wp2
      go_region_law (fail)
      all_goals
        clear t0 t1 t2 t3 t4 c0 x2 ha hm cb fb
        go_wp2
        case roundEnd => exact ⟨HR3.out, by simp [intOf]; omega⟩
    · have hkE : k = ls.length := by omega
      subst hkE
      rw [List.take_of_length_le (Nat.le_refl _)] at hrc
      have hfin : RPostR r base w l day tx.size ls (.returned (.int .i64 0)) wr := by
        refine ⟨by rw [← HE.out], ⟨some ⟨g, 0, none⟩, cc, ?_⟩, ?_⟩
        · unfold postedL
          rw [if_pos HE.out.symm]
          exact hrc
        · refine (Kept.of_below HBW2.out).trans_in hkp (fun i _ e => ?_)
          subst e
          exact .inr ⟨HG.out.1, HGK.out⟩
      have HF := hide hfin
      clear hrc hkp hx hfin hlt hk
      go_wp2
      go_ret
      exact HF.out
end Go.Proofs.Ytibanikfalfmcaa
