/-
  rates.Decode: what it does.
-/
import Derived.Test.YtedaajilmeplnaaREncode
import Derived.Test.YtedaajilmeplnaaDecMath
import Derived.Test.YtedaajilmeplnaaTake
import Derived.Lib.SmallJoins
namespace Go.Proofs.Ytedaajilmeplnaa
open Go.RowKit
set_option linter.unusedVariables false

def i64s (l : List Int) : List Value := l.map fun x => .int .i64 x
theorem i64s_append (a b : List Int) : i64s (a ++ b) = i64s a ++ i64s b := List.map_append
theorem info_i64 : (Try.prog.info? 2).map (fun i => (i.zero, i.size, i.bytes)) = some (some (.int .i64 0), 1, 8) := by kernel_rfl

/-- A schedule and an error. -/
def DecP (w w' : World) (e : Ending) (r : Sch × Int) : Prop :=
  ∃ (A : Option Addr) (c : Nat), e = .returned (.tuple #[schV r.1 A c, .int .i64 r.2]) ∧ Row w' w'.heap.size A (brCells r.1.brs) ∧ Below w.heap.size w w'

def DecRel (bs : List UInt8) (w : World) (b l : Value) (wr : World) : Prop :=
  ∃ (ns : List Int) (n : Nat) (AL : Option Addr) (cL : Nat) (r : List UInt8) (A2 : Option Addr) (c2 : Nat), l = .slice AL n cL ∧ b = .slice A2 r.length c2 ∧ Hid (n = ns.length) ∧ n ≤ 27 ∧ Hid (numsIn bs = (numsIn r).map (ns ++ ·)) ∧ Hid (∀ x ∈ ns, 0 ≤ x ∧ x ≤ 1125899906842624) ∧ r.length ≤ c2 ∧ r.length ≤ bs.length ∧
    wr.ownsRow w.heap.size 2 1 (.slice AL n cL) n (i64s ns) ∧ Bytes wr wr.heap.size A2 r ∧ Away (InRow AL) A2 r ∧ Below w.heap.size w wr

/-- The result's box. -/
def Res6 (q : Nat) (W : World) : Prop := W.heap[q]? = some (.cells #[.slice none 0 0, .int .i64 0, .int .i64 0, .int .i64 0, .int .i64 0, .int .i64 0] 24 (0, 0))
theorem Res6.below {q : Nat} {W W' : World} {B : Nat} (h : Res6 q W) (hb : Below B W W') (hq : q < B) : Res6 q W' := (hb.block q hq).trans h
theorem Res6.cell {q : Nat} {W : World} (h : Res6 q W) (i : Nat) : W.cell? ⟨q, i, none⟩ = (#[.slice none 0 0, .int .i64 0, .int .i64 0, .int .i64 0, .int .i64 0, .int .i64 0] : Array Value)[i]? := Joins.cell_of_block h i
theorem Res6.free {q : Nat} {W : World} (h : Res6 q W) (i : Nat) : W.frozen? ⟨q, i, none⟩ = false := Joins.unfrozen_of_block h i
theorem money_nat {m : Nat} (hm : m ≤ 1125899906842624) : (m : Int) ≤ 1125899906842624 := by omega
theorem money_not {m : Nat} (hm : ¬ m ≤ 1125899906842624) : 1125899906842624 < (m : Int) := by omega
theorem money_wrap {m : Nat} (hm : (m : Int) ≤ 1125899906842624) : wrap64 (m : Int) = (m : Int) := IntWalk.wrap64_in (m : Int) (by omega)
theorem money_wrap2 {m : Nat} (hm : (m : Int) ≤ 1125899906842624) : IntKind.i64.wrap (m : Int) = (m : Int) := by rw [IntKind.wrap_i64]; omega
theorem own_below8 {w w' : World} {base size : Nat} {e : TypeId} {A : Option Addr} {n m c : Nat} {xs : List Value} (h : w.ownsRow base e size (.slice A n c) m xs) (hb : Below w.heap.size w w') : w'.ownsRow base e size (.slice A n c) m xs := by
  refine World.ownsRow.kept h (row := none) ⟨hb.os, hb.tape, hb.output, hb.size, fun k hk _ => hb.block k hk⟩ ?_
  rw [ownBlock_slice]
  cases A with
  | none => exact .inl rfl
  | some a => exact .inr (by simp)
theorem cut_row {P : Program} {ad : Addr} {n c : Nat} {t : TypeId} (ht : P.underlying t = some (.slice (P.elem t))) (hsz : ∀ w' : World, (sizeOf (P.elem t)).run P w' = .ok 1 w') (l : Int) (k : Nat) (hl : l = (k : Int)) (hk : k ≤ n) (hn : n ≤ c) (hc : k < c) (kd : IntKind) :
    ∀ w' : World, (Instr.slice t (.slice (some ad) n c) (some (.int kd l)) none none).run P w' = .ok (.slice (some (ad.add k)) (n - k) (c - k)) w' := by
  intro w'
  subst hl
  rw [run_slice_l w' t (some ad) n c ht kd (k : Int) (by omega) (by omega), hsz]
  simp only [Result.andThen, sliced, Int.toNat_natCast, Nat.mul_one]
  rw [if_neg (by omega)]
  rfl
theorem elem_i64s : Try.prog.underlying 55 = some (.slice (Try.prog.elem 55)) := by kernel_rfl
theorem size_i64 (w : World) : (sizeOf (Try.prog.elem 55)).run Try.prog w = .ok 1 w := by kernel_rfl
theorem info_br : (Try.prog.info? 32).map (fun i => (i.zero, i.size, i.bytes)) = some (some (.agg #[.int .i64 0, .int .i64 0]), 2, 16) := by kernel_rfl

/-- The box of the schedule that is being made. -/
def Box6 (q : Nat) (v : Value) (W : World) : Prop := W.heap[q]? = some (.cells #[v, .int .i64 0, .int .i64 0, .int .i64 0, .int .i64 0, .int .i64 0] 24 (0, 0))
/-- Its loop. -/
def BrRel (ns : List Int) (ad : Addr) (n c : Nat) (q : Nat) (W : World) (rs i : Value) (wr : World) : Prop :=
  ∃ (j : Nat) (AB : Option Addr) (cB : Nat), 2 * j + 6 ≤ n ∧ i = .int .i64 (j : Int) ∧ rs = .slice (some (ad.add (1 + 2 * j))) (n - (1 + 2 * j)) (c - (1 + 2 * j)) ∧ Box6 q (.slice AB j cB) wr ∧ wr.ownsRow (q + 1) 32 2 (.slice AB j cB) j (brCells (pairsOf ((ns.drop 1).take (2 * j)))) ∧ Below q W wr
theorem below_set {B : Nat} {a w : World} (h : Below B a w) (i : Nat) (u : Value) : Below B a (w.setCell ⟨B, i, none⟩ u) := h.setCell (p := ⟨B, i, none⟩) (Nat.le_refl _) u
theorem own_set {w : World} {q size n : Nat} {e : TypeId} {A : Option Addr} {c : Nat} {xs : List Value} (h : w.ownsRow (q + 1) e size (.slice A n c) n xs) (i : Nat) (u : Value) : (w.setCell ⟨q, i, none⟩ u).ownsRow (q + 1) e size (.slice A n c) n xs := by
  refine h.kept (row := some q) ⟨rfl, rfl, rfl, (KeepsWalks.setCell w _ u).size, fun k _ hk => Below.heap_setCell _ _ _ k (fun e => hk (by rw [e]))⟩ ?_
  rw [ownBlock_slice]
  cases hA : A with
  | none => exact .inl rfl
  | some a =>
    refine .inr fun e => ?_
    have := (World.ownsRow.lt h q (by rw [hA, ownBlock_slice]; exact e)).1
    omega
theorem pairsOf_next {l : List Int} {j : Nat} {x y : Int} (hx : l[2 * j]? = some x) (hy : l[2 * j + 1]? = some y) : pairsOf (l.take (2 * (j + 1))) = pairsOf (l.take (2 * j)) ++ [(x, y)] := by
  induction j generalizing l with
  | zero =>
    match l, hx, hy with
    | a :: b :: r, hx, hy =>
      simp at hx hy
      subst hx hy
      simp [pairsOf]
  | succ j ih =>
    match l, hx, hy with
    | [], hx, hy => simp at hx
    | [a], hx, hy => rw [show 2 * (j + 1) + 1 = (2 * (j + 1)) + 1 from rfl] at hy; simp at hy
    | a :: b :: r, hx, hy =>
      rw [show 2 * (j + 1) = 2 * j + 1 + 1 by omega] at hx
      rw [show 2 * (j + 1) + 1 = (2 * j + 1) + 1 + 1 by omega] at hy
      simp only [List.getElem?_cons_succ] at hx hy
      rw [show 2 * (j + 1 + 1) = 2 * (j + 1) + 1 + 1 by omega, show 2 * (j + 1) = 2 * j + 1 + 1 by omega]
      simp only [List.take_succ_cons, pairsOf]
      rw [show 2 * j + 1 + 1 = 2 * (j + 1) by omega, ih hx hy]
      rfl
theorem brCells_append (a b : List (Int × Int)) : brCells (a ++ b) = brCells a ++ brCells b := by unfold brCells; rw [List.flatMap_append]
theorem own_cap8 {w : World} {base size : Nat} {e : TypeId} {A : Option Addr} {n c : Nat} {xs : List Value} (h : w.ownsRow base e size (.slice A n c) n xs) : n ≤ c := by
  obtain ⟨_, c2, e2, h1, _⟩ := own_shape h
  injection e2 with _ _ e3
  subst e3
  exact h1
theorem failed {W W' : World} (h : Below W.heap.size W W') {R : Sch × Int} (hR : R = (schZ, 3)) : DecP W W' (.returned (.tuple #[schV schZ none 0, .int .i64 3])) R := by
  subst hR
  exact ⟨none, 0, rfl, Row.nil, h⟩
theorem below6 {B : Nat} {a w : World} (h : Below B a w) {q : Nat} (hq : B ≤ q) (u0 u1 u2 u3 u4 u5 : Value) :
    Below B a ((((((w.setCell ⟨q, 0, none⟩ u0).setCell ⟨q, 1, none⟩ u1).setCell ⟨q, 2, none⟩ u2).setCell ⟨q, 3, none⟩ u3).setCell ⟨q, 4, none⟩ u4).setCell ⟨q, 5, none⟩ u5) :=
  (((((h.setCell (p := ⟨q, 0, none⟩) hq _).setCell (p := ⟨q, 1, none⟩) hq _).setCell (p := ⟨q, 2, none⟩) hq _).setCell (p := ⟨q, 3, none⟩) hq _).setCell (p := ⟨q, 4, none⟩) hq _).setCell (p := ⟨q, 5, none⟩) hq _

set_option maxRecDepth 100000 in
set_option maxHeartbeats 16000000 in
theorem decode_any (A : Option Addr) (c n : Nat) (bs : List UInt8) (w : World) (hn : bs.length = n) (hr : Bytes w w.heap.size A bs) (hl : bs.length ≤ 1000000) (hc : bs.length ≤ c) :
    Calls Try.prog 18 #[.slice A n c] w fun e w' => DecP w w' e (decR bs) := by
  subst hn
  obtain ⟨i0, hi, hz0, hz1, hz2⟩ := info_parts info_i64
  obtain ⟨R, HRR⟩ : ∃ R, Hid (R = decR bs) := ⟨_, rfl⟩
  rw [← HRR.out]
  go_enter Try.func18, Try.ntmps18
  have hbW : Below w.heap.size w (w.alloc (.cells #[.slice none 0 0, .int .i64 0, .int .i64 0, .int .i64 0, .int .i64 0, .int .i64 0] 24)) := (Below.refl _ _).alloc (Nat.le_refl _) _
  have hsW : (w.alloc (.cells #[.slice none 0 0, .int .i64 0, .int .i64 0, .int .i64 0, .int .i64 0, .int .i64 0] 24)).heap.size = w.heap.size + 1 := World.size_alloc ..
  have hqW : (w.alloc (.cells #[.slice none 0 0, .int .i64 0, .int .i64 0, .int .i64 0, .int .i64 0, .int .i64 0] 24)).heap[w.heap.size]? = some (.cells #[.slice none 0 0, .int .i64 0, .int .i64 0, .int .i64 0, .int .i64 0, .int .i64 0] 24 (0, 0)) := heap_alloc_new w _
  go_wp2
  generalize w.alloc (.cells #[.slice none 0 0, .int .i64 0, .int .i64 0, .int .i64 0, .int .i64 0, .int .i64 0] 24) = W at *
  have hrW : Bytes W W.heap.size A bs := (hr.below hbW).more hbW.size
  clear hr
  go_loopw [0, 4] (fun b l wr => DecRel bs W b l wr) (fun b _ _ => match b with | .slice _ n _ => n | _ => 0)
  case atStart =>
    exact ⟨[], 0, none, 0, bs, A, c, rfl, rfl, rfl, by omega, by show _ = _; cases numsIn bs <;> rfl, by show ∀ _, _; simp, hc, by omega, World.ownsRow_nil _ _ _ _, hrW, (fun _ _ _ h => by unfold InRow at h; simp at h), Below.refl _ _⟩
  case round =>
    obtain ⟨ns, n, AL, cL, r, A2, c2, rfl, rfl, HN, hn27, HNB, HNS, hc2, hrl, hown, hr2, haw2, hb⟩ := hrel
    by_cases hgo : 0 < r.length ∧ n ≤ 26
    · obtain ⟨hr0, hn26⟩ := hgo
      have htk := takeNumber_any A2 wr.heap.size c2 _ r wr rfl hr2 (Nat.le_refl _) (by omega) hc2 haw2 (fun k hk => (World.ownsRow.lt hown k (by rw [ownBlock_slice]; exact hk)).2)
      have hrne : r ≠ [] := by intro e; subst e; simp at hr0
      cases ht : takeN r with
      | none =>
        rw [ht] at htk
        have HT := hide htk
        have hd : R = (schZ, 3) := by rw [HRR.out]; exact decR_none (by rw [HNB.out, numsIn_none hrne ht]; rfl)
        have HDD := hide hd
        clear htk ht hd
        go_wp2_with (go_at_call 32; refine halted ?_)
        refine go_on ?_
        refine HT.out.mono ?_
        rintro e w1 ⟨A3, c3, rfl, h2, h3, h4, -⟩
        dsimp only [tookR] at *
        have hbN : Below w.heap.size w w1 := hbW.trans ((hb.trans (h4.mono hb.size)).mono hbW.size)
        have hres : Res6 w.heap.size w1 := Res6.below (Res6.below hqW hb (by omega)) h4 (by have := hb.size; omega)
        clear hown hr2 haw2 hrW h2 h4 hb
        have z0 := hres.cell 0
        have z1 := hres.cell 1
        have z2 := hres.cell 2
        have z3 := hres.cell 3
        have z4 := hres.cell 4
        have z5 := hres.cell 5
        simp at z0 z1 z2 z3 z4 z5
        have f0 := hres.free 0
        have f1 := hres.free 1
        have f2 := hres.free 2
        have f3 := hres.free 3
        have f4 := hres.free 4
        have f5 := hres.free 5
        clear hres
        go_wp2
        refine bodyPost_ret (v := .tuple #[schV schZ none 0, .int .i64 3]) ?_ rfl (failed (below6 hbN (Nat.le_refl _) _ _ _ _ _ _) HDD.out)
        simp [schV, schZ, results, Try.results18, go_sem, z0, z1, z2, z3, z4, z5]
      | some x =>
        obtain ⟨m, r'⟩ := x
        rw [ht] at htk
        have HT := hide htk
        have HLESS := hide (takeN_less ht)
        have HM64 := hide (takeN_lt ht)
        by_cases hm : m ≤ 1125899906842624
        · have hstep := numsIn_step ht hm
          have HSTEP := hide hstep
          obtain ⟨y, hy⟩ : ∃ y : Int, y = (m : Int) := ⟨_, rfl⟩
          have y0 : 0 ≤ y := by omega
          have y1 : y ≤ 1125899906842624 := by rw [hy]; exact money_nat hm
          have hw : wrap64 y = y := by rw [hy]; exact money_wrap (money_nat hm)
          have hw2 : IntKind.i64.wrap y = y := by rw [hy]; exact money_wrap2 (money_nat hm)
          have HY := hide hy
          have HM := hide hm
          clear htk ht hstep hm hy
          go_wp2_with (go_at_call 32; refine halted ?_)
          refine go_on ?_
          refine HT.out.mono ?_
          rintro e w1 ⟨A3, c3, he, h2, h3, h4, haw3⟩
          dsimp only [tookR] at he h2 h3 haw3
          rw [← HY.out] at he
          subst he
          have hb1 := hb.trans (h4.mono hb.size)
          have o1 := own_below8 hown h4
          clear hown hr2 haw2 hrW
          go_wp2_with (at_builtin; refine halted ?_)
          refine go_on ?_
          have HAW := hide haw3
          have hr3 := h2.alloc (Nat.le_refl _) (.cells #[.int .i64 y] 2)
          refine wpList_append_own _ rfl (.tmp 31) (.tmp 34) 55 rfl W.heap.size 2 i0 _ 1 8 Try.underlying55 hi hz0 hz1 hz2 rfl (by decide) AL n cL (i64s ns) rfl (World.ownsRow.alloc o1 _) _ _ 1 _ [.int .i64 y] rfl rfl (Row.new w1 #[.int .i64 y] 2 (0, 0)) (by intro u hu; simp at hu; subst hu; rfl) (by unfold maxLen; omega) (by omega) (by have := hb1.size; simp; omega) ?_
          intro n' xs' A5 c5 w5 hn' hxs' hnc _ hown5 hg5 hat5
          have hb5 : Below W.heap.size W w5 := (hb1.alloc hb1.size _).grown hg5 (by have := hb1.size; simp; omega) (fun q hq => (World.ownsRow.lt o1 q (by rw [ownBlock_slice]; exact hq)).1)
          have en : n' = n + 1 := hn'.out
          have HN2 : Hid (n' = (ns ++ [y]).length) := by show _ = _; rw [en, List.length_append, ← HN.out]; rfl
          have ex : xs' = i64s (ns ++ [y]) := by rw [hxs'.out, i64s_append]; rfl
          rw [ex] at hown5
          have hr5 := ((HAW.out.grown (w := w1.alloc (.cells #[.int .i64 y] 2)) hr3 (by simp) hg5 (fun k hk => hk)).more (Nat.le_trans (by simp) hg5.size : w1.heap.size ≤ w5.heap.size))
          have haw5 : Away (InRow A5) A3 r' := by
            refine (HAW.out.or (Away.of_bytes h2 (X := fun k => w1.heap.size ≤ k) (fun k hk => hk))).less ?_
            intro k hk
            unfold InRow at hk
            rcases hat5 with e | e
            · rw [e] at hk; exact .inl hk
            · rw [e] at hk; injection hk with hk; right; simp at hk; omega
          have HNB2 : Hid (numsIn bs = (numsIn r').map ((ns ++ [y]) ++ ·)) := by
            show _ = _
            rw [HNB.out, HSTEP.out, Option.map_map, HY.out]
            congr 1
            funext l
            simp
          have HNS2 : Hid (∀ x ∈ ns ++ [y], 0 ≤ x ∧ x ≤ 1125899906842624) := by
            show ∀ _, _
            intro x hx
            rcases List.mem_append.1 hx with h | h
            · exact HNS.out x h
            · simp at h; subst h; exact ⟨y0, y1⟩
          have hl5 : r'.length < r.length := HLESS.out
          clear ex en hn' hxs' hg5 hat5 o1 h2 h4 hr3 HNB HNS HSTEP hb hb1
          go_wp2
          go_roundw
          case rel => exact ⟨ns ++ [y], n', A5, c5, r', A3, c3, rfl, rfl, HN2.out, by have := HN2.out; rw [List.length_append, ← HN.out] at this; simp at this; omega, HNB2.out, HNS2.out, h3, by omega, hown5, hr5, haw5, hb5⟩
          case measure => exact hl5
        · have hd : R = (schZ, 3) := by rw [HRR.out]; exact decR_none (by rw [HNB.out, numsIn_big ht hm]; rfl)
          have HDD := hide hd
          obtain ⟨y, hy⟩ : ∃ y : Int, y = (m : Int) := ⟨_, rfl⟩
          have y0 : 1125899906842624 < y := by rw [hy]; exact money_not hm
          have HY := hide hy
          clear htk ht hd hm hy
          go_wp2_with (go_at_call 32; refine halted ?_)
          refine go_on ?_
          refine HT.out.mono ?_
          rintro e w1 ⟨A3, c3, he, h2, h3, h4, -⟩
          dsimp only [tookR] at he h2 h3
          rw [← HY.out] at he
          subst he
          have hbN : Below w.heap.size w w1 := hbW.trans ((hb.trans (h4.mono hb.size)).mono hbW.size)
          have hres : Res6 w.heap.size w1 := Res6.below (Res6.below hqW hb (by omega)) h4 (by have := hb.size; omega)
          clear hown hr2 haw2 hrW h2 h4 hb
          have z0 := hres.cell 0
          have z1 := hres.cell 1
          have z2 := hres.cell 2
          have z3 := hres.cell 3
          have z4 := hres.cell 4
          have z5 := hres.cell 5
          simp at z0 z1 z2 z3 z4 z5
          have f0 := hres.free 0
          have f1 := hres.free 1
          have f2 := hres.free 2
          have f3 := hres.free 3
          have f4 := hres.free 4
          have f5 := hres.free 5
          clear hres
          go_wp2
          refine bodyPost_ret (v := .tuple #[schV schZ none 0, .int .i64 3]) ?_ rfl (failed (below6 hbN (Nat.le_refl _) _ _ _ _ _ _) HDD.out)
          simp [schV, schZ, results, Try.results18, go_sem, z0, z1, z2, z3, z4, z5]
    · have hlong : 0 < r.length → 26 < n := fun h => by
        rcases Nat.lt_or_ge 26 n with h2 | h2
        · exact h2
        · exact absurd ⟨h, h2⟩ hgo
      have HF : Hid (shapeB ns = false → R = (schZ, 3)) := by
        show _ → _
        intro hsh
        rw [HRR.out]
        by_cases hr0 : 0 < r.length
        · exact decR_long HNB.out (by rw [← HN.out]; exact hlong hr0)
        · have hrn : r = [] := List.eq_nil_of_length_eq_zero (by omega)
          have h1 := HNB.out
          rw [hrn, numsIn_nil] at h1
          refine decR_no (l := ns) (by rw [h1]; simp) ?_
          rw [hsh]
          rintro ⟨h, -⟩
          cases h
      have hway : r.length = 0 ∨ (0 < r.length ∧ 26 < n) := by
        rcases Nat.eq_zero_or_pos r.length with h | h
        · exact .inl h
        · exact .inr ⟨h, hlong h⟩
      clear hgo hlong
      by_cases h6 : n < 6
      · have HSH : Hid (shapeB ns = false) := by
          show _ = _
          unfold shapeB
          rw [← HN.out]
          simp [show ¬ 6 ≤ n by omega]
        rcases hway with hrz | ⟨hrp, hn26⟩
        rotate_left
        · exfalso; omega
        · skip
          have HDD := hide (HF.out HSH.out)
          have hbN : Below w.heap.size w wr := hbW.trans (hb.mono hbW.size)
          have hres : Res6 w.heap.size wr := Res6.below hqW hb (by omega)
          clear hown hr2 haw2 hrW hb
          have z0 := hres.cell 0
          have z1 := hres.cell 1
          have z2 := hres.cell 2
          have z3 := hres.cell 3
          have z4 := hres.cell 4
          have z5 := hres.cell 5
          simp at z0 z1 z2 z3 z4 z5
          have f0 := hres.free 0
          have f1 := hres.free 1
          have f2 := hres.free 2
          have f3 := hres.free 3
          have f4 := hres.free 4
          have f5 := hres.free 5
          clear hres
          go_wp2
          refine bodyPost_ret (v := .tuple #[schV schZ none 0, .int .i64 3]) ?_ rfl (failed (below6 hbN (Nat.le_refl _) _ _ _ _ _ _) HDD.out)
          simp [schV, schZ, results, Try.results18, go_sem, z0, z1, z2, z3, z4, z5]
      have h0 : 0 < ns.length := by rw [← HN.out]; omega
      obtain ⟨x0, hx0⟩ : ∃ x0, Hid (ns[0]? = some x0) := ⟨ns[0], List.getElem?_eq_getElem h0⟩
      clear h0
      have hhd : ns.headD 0 = x0 := by
        have := hx0.out
        cases ns with
        | nil => simp at this
        | cons a t => simp at this; simpa using this
      have HHD := hide hhd
      obtain ⟨b0, b1⟩ := HNS.out x0 (List.mem_of_getElem? hx0.out)
      obtain ⟨ad, hAL, hadb, hc0⟩ := (Row.of_own hown) 0 (.int .i64 x0) (by unfold i64s; rw [List.getElem?_map, hx0.out]; rfl)
      subst hAL
      have hcz : wr.cell? ad = some (.int .i64 x0) := hc0
      clear hhd hc0
      by_cases h10 : 10 < x0
      · have HSH : Hid (shapeB ns = false) := by
          show _ = _
          unfold shapeB
          rw [HHD.out]
          simp [show ¬ x0 ≤ 10 by omega]
        rcases hway with hrz | ⟨hrp, hn26⟩
        all_goals
          first
          | (exfalso; omega)
          | skip
          have HDD := hide (HF.out HSH.out)
          have hbN : Below w.heap.size w wr := hbW.trans (hb.mono hbW.size)
          have hres : Res6 w.heap.size wr := Res6.below hqW hb (by omega)
          clear hown hr2 haw2 hrW hb
          have z0 := hres.cell 0
          have z1 := hres.cell 1
          have z2 := hres.cell 2
          have z3 := hres.cell 3
          have z4 := hres.cell 4
          have z5 := hres.cell 5
          simp at z0 z1 z2 z3 z4 z5
          have f0 := hres.free 0
          have f1 := hres.free 1
          have f2 := hres.free 2
          have f3 := hres.free 3
          have f4 := hres.free 4
          have f5 := hres.free 5
          clear hres
          go_wp2
          refine bodyPost_ret (v := .tuple #[schV schZ none 0, .int .i64 3]) ?_ rfl (failed (below6 hbN (Nat.le_refl _) _ _ _ _ _ _) HDD.out)
          simp [schV, schZ, results, Try.results18, go_sem, z0, z1, z2, z3, z4, z5]
      by_cases heq : (n : Int) = 6 + 2 * x0
      case neg =>
        have HSH : Hid (shapeB ns = false) := by
          show _ = _
          unfold shapeB
          rw [HHD.out, ← HN.out]
          simp [heq]
        have hne : ((n : Int) != 1 + 2 * x0 + 5) = true := by rw [bne_iff_ne]; omega
        rcases hway with hrz | ⟨hrp, hn26⟩
        all_goals
          first
          | (exfalso; omega)
          | skip
          have HDD := hide (HF.out HSH.out)
          have hbN : Below w.heap.size w wr := hbW.trans (hb.mono hbW.size)
          have hres : Res6 w.heap.size wr := Res6.below hqW hb (by omega)
          clear hown hr2 haw2 hrW hb
          have z0 := hres.cell 0
          have z1 := hres.cell 1
          have z2 := hres.cell 2
          have z3 := hres.cell 3
          have z4 := hres.cell 4
          have z5 := hres.cell 5
          simp at z0 z1 z2 z3 z4 z5
          have f0 := hres.free 0
          have f1 := hres.free 1
          have f2 := hres.free 2
          have f3 := hres.free 3
          have f4 := hres.free 4
          have f5 := hres.free 5
          clear hres
          go_wp2
          refine bodyPost_ret (v := .tuple #[schV schZ none 0, .int .i64 3]) ?_ rfl (failed (below6 hbN (Nat.le_refl _) _ _ _ _ _ _) HDD.out)
          simp [schV, schZ, results, Try.results18, go_sem, z0, z1, z2, z3, z4, z5]
      have hne : ((n : Int) != 1 + 2 * x0 + 5) = false := by rw [bne_eq_false_iff_eq]; omega
      have hr0 : r.length = 0 := by omega
      have HEQ := hide heq
      have hnub : n ≤ 26 := by omega
      clear heq hn27 hway
      have hncap : n ≤ cL := own_cap8 hown
      have hcutA := cut_row (ad := ad) (n := n) (c := cL) (k := 1) (l := 1) elem_i64s size_i64 rfl (by omega) hncap (by omega) .i64
      obtain ⟨i1, hj, hw0, hw1, hw2⟩ := info_parts info_br
      have hlrow : Row wr wr.heap.size (some ad) (i64s ns) := Row.of_own hown
      have hbWr : Below w.heap.size w wr := hbW.trans (hb.mono hbW.size)
      have hqr : Res6 w.heap.size wr := Res6.below hqW hb (by omega)
      have hsr : W.heap.size ≤ wr.heap.size := hb.size
      obtain ⟨W0, hW0⟩ : ∃ W0, W0 = wr := ⟨_, rfl⟩
      subst hW0
      have hbs : Box6 W0.heap.size (.slice none 0 0) (W0.alloc (.cells #[.slice none 0 0, .int .i64 0, .int .i64 0, .int .i64 0, .int .i64 0, .int .i64 0] 24)) := heap_alloc_new W0 _
      clear hr2 haw2 hrW hown hb
      go_wp2
      generalize hWq : W0.alloc (.cells #[.slice none 0 0, .int .i64 0, .int .i64 0, .int .i64 0, .int .i64 0, .int .i64 0] 24) = W2 at *
      have hb2 : Below W0.heap.size W0 W2 := by rw [← hWq]; exact (Below.refl _ _).alloc (Nat.le_refl _) _
      clear hWq
      go_loopw [9, 68] (fun rs i w3 => BrRel ns ad n cL W0.heap.size W0 rs i w3) (fun _ i _ => (x0 - intOf i).toNat)
      case atStart => exact ⟨0, none, 0, by omega, rfl, rfl, hbs, World.ownsRow_nil _ _ _ _, hb2⟩
      case round =>
        obtain ⟨j, AB, cB, hj2, rfl, rfl, hbx, hownB, hb3⟩ := hrel
        have hq3 : W0.heap.size < wr.heap.size := (Array.getElem?_eq_some_iff.1 hbx).1
        by_cases hlt : (j : Int) < x0
        · have hj3 : 2 * (j + 1) + 6 ≤ n := by have := HEQ.out; omega
          obtain ⟨x, hx⟩ : ∃ x, ns[1 + 2 * j]? = some x := ⟨_, List.getElem?_eq_getElem (by rw [← HN.out]; omega)⟩
          obtain ⟨y, hy⟩ : ∃ y, ns[1 + 2 * j + 1]? = some y := ⟨_, List.getElem?_eq_getElem (by rw [← HN.out]; omega)⟩
          have hrw := hlrow.below hb3
          obtain ⟨ad1, e1, hb1x, hcx⟩ := hrw (1 + 2 * j) (.int .i64 x) (by unfold i64s; rw [List.getElem?_map, hx]; rfl)
          injection e1 with e1
          subst e1
          obtain ⟨ad1, e1, -, hcy⟩ := hrw (1 + 2 * j + 1) (.int .i64 y) (by unfold i64s; rw [List.getElem?_map, hy]; rfl)
          injection e1 with e1
          subst e1
          rw [← add_add'] at hcy
          have hcy1 : wr.cell? ⟨(ad.add (1 + 2 * j)).block, (ad.add (1 + 2 * j)).off + 1, none⟩ = some (.int .i64 y) := hcy
          have hblk : (ad.add (1 + 2 * j)).block = ad.block := add_block _ _
          have hcutB := cut_row (ad := ad.add (1 + 2 * j)) (n := n - (1 + 2 * j)) (c := cL - (1 + 2 * j)) (k := 2) (l := 2) elem_i64s size_i64 rfl (by omega) (by omega) (by omega) .i64
          rw [add_add', show 1 + 2 * j + 2 = 1 + 2 * (j + 1) by omega, show n - (1 + 2 * j) - 2 = n - (1 + 2 * (j + 1)) by omega, show cL - (1 + 2 * j) - 2 = cL - (1 + 2 * (j + 1)) by omega] at hcutB
          have hpn : pairsOf ((ns.drop 1).take (2 * (j + 1))) = pairsOf ((ns.drop 1).take (2 * j)) ++ [(x, y)] := pairsOf_next (by rw [List.getElem?_drop]; exact hx) (by rw [List.getElem?_drop]; exact hy)
          have HPN := hide hpn
          have HBX := hide hbx
          have HOWNB := hide hownB
          have HB3 := hide hb3
          have hsb : wr.cell? ⟨W0.heap.size, 0, none⟩ = some (.slice AB j cB) := by
            have := Joins.cell_of_block hbx 0
            simpa using this
          generalize ad.add (1 + 2 * j) = RA at *
          have hRAb : RA.block < W0.heap.size := by rw [hblk]; exact hadb
          have hRAw : RA.block < wr.heap.size := Nat.lt_trans hRAb hq3
          have hL7 : 7 ≤ n - (1 + 2 * j) := by omega
          have hLC : n - (1 + 2 * j) ≤ cL - (1 + 2 * j) := by omega
          generalize n - (1 + 2 * j) = L at *
          generalize cL - (1 + 2 * j) = CL at *
          have l0 : 0 < L := by omega
          have l1 : 1 < L := by omega
          have l2 : (1 : Int) < (L : Int) := by omega
          clear hx hy hpn hrw hcy hownB hbx hb3 hblk
          go_wp2
          go_region_law
            (first
              | (refine step_append_own _ rfl (.tmp 71) (.tmp 79) 22 rfl (W0.heap.size + 1) 32 i1 _ 2 16 Try.underlying22 hj hw0 hw1 hw2 rfl (by decide) AB j cB (brCells (pairsOf ((ns.drop 1).take (2 * j)))) rfl (World.ownsRow.alloc (World.ownsRow.drew HOWNB.out) _) _ _ 1 _ [.int .i64 x, .int .i64 y] rfl rfl (Row.new wr.drew #[.int .i64 x, .int .i64 y] 32 (0, 0)) (by intro u hu; simp at hu; rcases hu with rfl | rfl <;> rfl) (by unfold maxLen; omega) (by omega) (by simp; omega) ?_
                 intro n' xs' A5 c5 w5 hn' hxs' hnc _ hown5 hg5 hat5
                 have hb5 : Below W0.heap.size W0 w5 := ((below_drewN' HB3.out 1).alloc HB3.out.size _).grown hg5 (by simp; exact Nat.le_of_lt (Nat.lt_succ_of_lt hq3)) (fun q hq => by have := (World.ownsRow.lt HOWNB.out q (by rw [ownBlock_slice]; exact hq)).1; omega)
                 have hwr5 : Below W0.heap.size wr w5 := ((below_drewN' (Below.refl W0.heap.size wr) 1).alloc (Nat.le_of_lt hq3) _).grown hg5 (by simp; exact Nat.le_of_lt (Nat.lt_succ_of_lt hq3)) (fun q hq => by have := (World.ownsRow.lt HOWNB.out q (by rw [ownBlock_slice]; exact hq)).1; omega)
                 have hbx5 : Box6 W0.heap.size (.slice AB j cB) w5 := (hg5.block _ (by simp; omega) (fun e => by have := (World.ownsRow.lt HOWNB.out W0.heap.size (by rw [ownBlock_slice]; exact e.symm)).1; omega)).trans ((((Below.refl wr.heap.size wr.drew).alloc (Nat.le_refl _) _).block _ hq3).trans HBX.out)
                 have hc5 : w5.cell? ⟨W0.heap.size, 0, none⟩ = some (.slice AB j cB) := by
                   have := Joins.cell_of_block hbx5 0
                   simpa using this
                 have hf5 : w5.frozen? ⟨W0.heap.size, 0, none⟩ = false := Joins.unfrozen_of_block hbx5 0))
          all_goals
            have en : n' = j + 1 := hn'.out
            have ex : xs' = brCells (pairsOf ((ns.drop 1).take (2 * (j + 1)))) := by rw [hxs'.out, HPN.out, brCells_append]; rfl
            rw [ex] at hown5
            subst en
            have g3 := grownBy_setCell' w5 W0.heap.size (.slice A5 (j + 1) c5)
            have hown6 := hown5.kept g3 (by
              rw [ownBlock_slice]
              cases hA5 : A5 with
              | none => exact .inl rfl
              | some a =>
                refine .inr fun e => ?_
                have := (World.ownsRow.lt hown5 W0.heap.size (by rw [hA5, ownBlock_slice]; exact e)).1
                omega)
            have hbx6 : Box6 W0.heap.size (.slice A5 (j + 1) c5) (w5.setCell ⟨W0.heap.size, 0, none⟩ (.slice A5 (j + 1) c5)) := by
              obtain ⟨hlt1, hk1⟩ := Array.getElem?_eq_some_iff.1 hbx5
              show (w5.heap.modify W0.heap.size _)[W0.heap.size]? = _
              rw [Array.getElem?_eq_getElem (by rw [Array.size_modify]; exact hlt1), Array.getElem_modify_self, hk1]
              rfl
            have hb6 : Below W0.heap.size W0 (w5.setCell ⟨W0.heap.size, 0, none⟩ (.slice A5 (j + 1) c5)) := hb5.setCell (p := ⟨W0.heap.size, 0, none⟩) (Nat.le_refl _) _
            clear ex hn' hxs' hg5 hat5 hown5 hb5 hwr5 hbx5 hc5 hf5 g3 hcx hcy1
            go_wp2
            go_roundw
            case rel => exact ⟨j + 1, A5, c5, hj3, by go_num, rfl, hbx6, hown6, hb6⟩
            case measure => simp [intOf]; omega
        · have hjx : 2 * j + 6 = n := by have := HEQ.out; omega
          have hge : ¬ (j : Int) < x0 := hlt
          have hrw := hlrow.below hb3
          have hel : ∀ i, i < 5 → ∃ x, ns[1 + 2 * j + i]? = some x ∧ wr.cell? ((ad.add (1 + 2 * j)).add i) = some (.int .i64 x) := by
            intro i hi5
            have h1 : 1 + 2 * j + i < ns.length := by rw [← HN.out]; omega
            obtain ⟨ad1, e1, -, hc1⟩ := hrw (1 + 2 * j + i) (.int .i64 ns[1 + 2 * j + i]) (by unfold i64s; rw [List.getElem?_map, List.getElem?_eq_getElem h1]; rfl)
            injection e1 with e1
            subst e1
            exact ⟨_, List.getElem?_eq_getElem h1, by rw [add_add']; exact hc1⟩
          obtain ⟨d0, hd0, c0⟩ := hel 0 (by omega)
          obtain ⟨d1, hd1, c1⟩ := hel 1 (by omega)
          obtain ⟨d2, hd2, c2'⟩ := hel 2 (by omega)
          obtain ⟨d3, hd3, c3⟩ := hel 3 (by omega)
          obtain ⟨d4, hd4, c4⟩ := hel 4 (by omega)
          have hsch : schOf ns = ⟨pairsOf ((ns.drop 1).take (2 * j)), d0, d1, d2, d3, d4⟩ := by
            unfold schOf
            rw [← HN.out, show n - 6 = 2 * j by omega, show n - 5 = 1 + 2 * j + 0 by omega, show n - 4 = 1 + 2 * j + 1 by omega, show n - 3 = 1 + 2 * j + 2 by omega, show n - 2 = 1 + 2 * j + 3 by omega, show n - 1 = 1 + 2 * j + 4 by omega]
            simp only [List.getD_eq_getElem?_getD, hd0, hd1, hd2, hd3, hd4, Option.getD_some]
          have HSCH := hide hsch
          have hblk : (ad.add (1 + 2 * j)).block = ad.block := add_block _ _
          generalize ad.add (1 + 2 * j) = RA at *
          have hRAb : RA.block < W0.heap.size := by rw [hblk]; exact hadb
          have e0 : wr.cell? RA = some (.int .i64 d0) := c0
          have e1 : wr.cell? ⟨RA.block, RA.off + 1, none⟩ = some (.int .i64 d1) := c1
          have e2 : wr.cell? ⟨RA.block, RA.off + 2, none⟩ = some (.int .i64 d2) := c2'
          have e3 : wr.cell? ⟨RA.block, RA.off + 3, none⟩ = some (.int .i64 d3) := c3
          have e4 : wr.cell? ⟨RA.block, RA.off + 4, none⟩ = some (.int .i64 d4) := c4
          have hLv : n - (1 + 2 * j) = 5 := by omega
          rw [hLv]
          have HBX := hide hbx
          clear hel hd0 hd1 hd2 hd3 hd4 c0 c1 c2' c3 c4 hsch hrw hblk hLv hbx
          have hS : ∀ w', Below W0.heap.size wr w' → w'.cell? RA = some (.int .i64 d0) ∧ w'.cell? ⟨RA.block, RA.off + 1, none⟩ = some (.int .i64 d1) ∧ w'.cell? ⟨RA.block, RA.off + 2, none⟩ = some (.int .i64 d2) ∧ w'.cell? ⟨RA.block, RA.off + 3, none⟩ = some (.int .i64 d3) ∧ w'.cell? ⟨RA.block, RA.off + 4, none⟩ = some (.int .i64 d4) :=
            fun w' h => ⟨(h.cell hRAb).trans e0, (h.cell (p := ⟨RA.block, RA.off + 1, none⟩) hRAb).trans e1, (h.cell (p := ⟨RA.block, RA.off + 2, none⟩) hRAb).trans e2, (h.cell (p := ⟨RA.block, RA.off + 3, none⟩) hRAb).trans e3, (h.cell (p := ⟨RA.block, RA.off + 4, none⟩) hRAb).trans e4⟩
          have z0 := Joins.cell_of_block HBX.out 0
          have z1 := Joins.cell_of_block HBX.out 1
          have z2 := Joins.cell_of_block HBX.out 2
          have z3 := Joins.cell_of_block HBX.out 3
          have z4 := Joins.cell_of_block HBX.out 4
          have z5 := Joins.cell_of_block HBX.out 5
          simp at z0 z1 z2 z3 z4 z5
          have f1 := Joins.unfrozen_of_block HBX.out 1
          have f2 := Joins.unfrozen_of_block HBX.out 2
          have f3 := Joins.unfrozen_of_block HBX.out 3
          have f4 := Joins.unfrozen_of_block HBX.out 4
          have f5 := Joins.unfrozen_of_block HBX.out 5
          have HS := hide hS
          clear hS
          go_wp2
          go_region_held (fun w' => w'.cell? RA = some (.int .i64 d0) ∧ w'.cell? ⟨RA.block, RA.off + 1, none⟩ = some (.int .i64 d1) ∧ w'.cell? ⟨RA.block, RA.off + 2, none⟩ = some (.int .i64 d2) ∧ w'.cell? ⟨RA.block, RA.off + 3, none⟩ = some (.int .i64 d3) ∧ w'.cell? ⟨RA.block, RA.off + 4, none⟩ = some (.int .i64 d4))
            ((refine HS.out _ (Below.drew ?_); repeat (first | exact Below.refl _ _ | refine below_set ?_ _ _)))
            (fail)
          have hbS : Below W0.heap.size W0 ((((((wr.setCell ⟨W0.heap.size, 1, none⟩ (.int .i64 d0)).setCell ⟨W0.heap.size, 2, none⟩ (.int .i64 d1)).setCell ⟨W0.heap.size, 3, none⟩ (.int .i64 d2)).setCell ⟨W0.heap.size, 4, none⟩ (.int .i64 d3)).setCell ⟨W0.heap.size, 5, none⟩ (.int .i64 d4)).drew) := (below_set (below_set (below_set (below_set (below_set hb3 _ _) _ _) _ _) _ _) _ _).drew
          have hoS : ((((((wr.setCell ⟨W0.heap.size, 1, none⟩ (.int .i64 d0)).setCell ⟨W0.heap.size, 2, none⟩ (.int .i64 d1)).setCell ⟨W0.heap.size, 3, none⟩ (.int .i64 d2)).setCell ⟨W0.heap.size, 4, none⟩ (.int .i64 d3)).setCell ⟨W0.heap.size, 5, none⟩ (.int .i64 d4)).drew).ownsRow (W0.heap.size + 1) 32 2 (.slice AB j cB) j (brCells (pairsOf ((ns.drop 1).take (2 * j)))) := own_set (own_set (own_set (own_set (own_set hownB _ _) _ _) _ _) _ _) _ _
          have hxS : ((((((wr.setCell ⟨W0.heap.size, 1, none⟩ (.int .i64 d0)).setCell ⟨W0.heap.size, 2, none⟩ (.int .i64 d1)).setCell ⟨W0.heap.size, 3, none⟩ (.int .i64 d2)).setCell ⟨W0.heap.size, 4, none⟩ (.int .i64 d3)).setCell ⟨W0.heap.size, 5, none⟩ (.int .i64 d4)).drew).heap[W0.heap.size]? = some (.cells #[.slice AB j cB, .int .i64 d0, .int .i64 d1, .int .i64 d2, .int .i64 d3, .int .i64 d4] 24 (0, 0)) := by
            have := Joins.block_setCell (i := 5) (Joins.block_setCell (i := 4) (Joins.block_setCell (i := 3) (Joins.block_setCell (i := 2) (Joins.block_setCell (i := 1) HBX.out (.int .i64 d0)) (.int .i64 d1)) (.int .i64 d2)) (.int .i64 d3)) (.int .i64 d4)
            refine Eq.trans this ?_
            first | rfl | simp
          generalize (((((wr.setCell ⟨W0.heap.size, 1, none⟩ (.int .i64 d0)).setCell ⟨W0.heap.size, 2, none⟩ (.int .i64 d1)).setCell ⟨W0.heap.size, 3, none⟩ (.int .i64 d2)).setCell ⟨W0.heap.size, 4, none⟩ (.int .i64 d3)).setCell ⟨W0.heap.size, 5, none⟩ (.int .i64 d4)).drew = W5 at *
          have y0 := Joins.cell_of_block hxS 0
          have y1 := Joins.cell_of_block hxS 1
          have y2 := Joins.cell_of_block hxS 2
          have y3 := Joins.cell_of_block hxS 3
          have y4 := Joins.cell_of_block hxS 4
          have y5 := Joins.cell_of_block hxS 5
          simp at y0 y1 y2 y3 y4 y5
          have hjp : (pairsOf ((ns.drop 1).take (2 * j))).length = j := by
            have h1 := hoS.1
            have h2 : ∀ l : List (Int × Int), (brCells l).length = l.length * 2 := by
              intro l
              unfold brCells
              induction l with
              | nil => rfl
              | cons a l ih => simp only [List.flatMap_cons, List.length_append, List.length_cons, List.length_nil, ih]; omega
            rw [h2] at h1
            omega
          have hrB := Row.of_own hoS
          have hjl : j ≤ 26 := by omega
          have hrt := right_any (schOf ns) AB cB W5 (by rw [HSCH.out]; exact hrB) (by rw [HSCH.out]; show (pairsOf _).length ≤ _; rw [hjp]; omega)
          rw [HSCH.out] at hrt
          unfold schV at hrt
          dsimp only at hrt
          rw [hjp] at hrt
          have HRT := hide hrt
          have hnin : numsIn bs = some ns := by
            have h1 := HNB.out
            rw [List.eq_nil_of_length_eq_zero hr0, numsIn_nil] at h1
            rw [h1]
            simp
          have hshp : shapeB ns = true := by
            unfold shapeB
            rw [HHD.out, ← HN.out]
            simp [HEQ.out]
            omega
          have HIN := hide hnin
          have HSHP := hide hshp
          have hqb : w.heap.size < W0.heap.size := by omega
          have hqr5 : Res6 w.heap.size W5 := Res6.below hqr hbS hqb
          have hbW5 : Below w.heap.size w W5 := hbWr.trans (hbS.mono (by omega))
          clear hrt hnin hshp hb3 hownB hbS HBX z0 z1 z2 z3 z4 z5 f1 f2 f3 f4 f5 e0 e1 e2 e3 e4 HS
          cases hright : (schOf ns).right with
          | true =>
            have hd : R = (schOf ns, 0) := by rw [HRR.out]; exact decR_yes HIN.out ⟨HSHP.out, hright⟩
            have HDD := hide hd
            rw [HSCH.out] at hright
            have HRT2 := HRT.out
            rw [hright] at HRT2
            have HRT3 := hide HRT2
            clear hd hright HRT2 HRT
            go_wp2_with (go_at_call 11; refine halted ?_)
            refine go_on ?_
            refine HRT3.out.mono ?_
            rintro e w6 ⟨rfl, hb6⟩
            have hq6 : W0.heap.size < W5.heap.size := (Array.getElem?_eq_some_iff.1 hxS).1
            have x0' := (hb6.cell (p := ⟨W0.heap.size, 0, none⟩) hq6).trans y0
            have x1' := (hb6.cell (p := ⟨W0.heap.size, 1, none⟩) hq6).trans y1
            have x2' := (hb6.cell (p := ⟨W0.heap.size, 2, none⟩) hq6).trans y2
            have x3' := (hb6.cell (p := ⟨W0.heap.size, 3, none⟩) hq6).trans y3
            have x4' := (hb6.cell (p := ⟨W0.heap.size, 4, none⟩) hq6).trans y4
            have x5' := (hb6.cell (p := ⟨W0.heap.size, 5, none⟩) hq6).trans y5
            have hres : Res6 w.heap.size w6 := Res6.below hqr5 hb6 (by omega)
            have hbN : Below w.heap.size w w6 := hbW5.trans (hb6.mono hbW5.size)
            have o6 := Joins.ownsRow_le (own_below8 hoS hb6) (show w.heap.size + 1 ≤ W0.heap.size + 1 by omega)
            have HO6 := hide o6
            have HJP := hide hjp
            clear hrB hoS o6 hjp
            have z0 := hres.cell 0
            have z1 := hres.cell 1
            have z2 := hres.cell 2
            have z3 := hres.cell 3
            have z4 := hres.cell 4
            have z5 := hres.cell 5
            simp at z0 z1 z2 z3 z4 z5
            have f0 := hres.free 0
            have f1 := hres.free 1
            have f2 := hres.free 2
            have f3 := hres.free 3
            have f4 := hres.free 4
            have f5 := hres.free 5
            clear hres
            go_wp2
            refine bodyPost_ret (v := .tuple #[schV (schOf ns) AB cB, .int .i64 0]) ?_ rfl ?_
            · rw [HSCH.out]
              unfold schV
              dsimp only
              rw [HJP.out]
              simp [results, Try.results18, go_sem, z0, z1, z2, z3, z4, z5]
            · rw [HDD.out]
              refine ⟨AB, cB, rfl, ?_, below6 hbN (Nat.le_refl _) _ _ _ _ _ _⟩
              rw [HSCH.out]
              exact Row.of_own (own_set (own_set (own_set (own_set (own_set (own_set HO6.out _ _) _ _) _ _) _ _) _ _) _ _)
          | false =>
            have hd : R = (schZ, 3) := by rw [HRR.out]; exact decR_no HIN.out (by rw [hright]; rintro ⟨-, h⟩; cases h)
            have HDD := hide hd
            rw [HSCH.out] at hright
            have HRT2 := HRT.out
            rw [hright] at HRT2
            have HRT3 := hide HRT2
            clear hd hright HRT2 HRT
            go_wp2_with (go_at_call 11; refine halted ?_)
            refine go_on ?_
            refine HRT3.out.mono ?_
            rintro e w6 ⟨rfl, hb6⟩
            have hres : Res6 w.heap.size w6 := Res6.below hqr5 hb6 (by have := (Array.getElem?_eq_some_iff.1 hxS).1; omega)
            have hbN : Below w.heap.size w w6 := hbW5.trans (hb6.mono hbW5.size)
            clear hb6 hrB
            have z0 := hres.cell 0
            have z1 := hres.cell 1
            have z2 := hres.cell 2
            have z3 := hres.cell 3
            have z4 := hres.cell 4
            have z5 := hres.cell 5
            simp at z0 z1 z2 z3 z4 z5
            have f0 := hres.free 0
            have f1 := hres.free 1
            have f2 := hres.free 2
            have f3 := hres.free 3
            have f4 := hres.free 4
            have f5 := hres.free 5
            clear hres
            go_wp2
            refine bodyPost_ret (v := .tuple #[schV schZ none 0, .int .i64 3]) ?_ rfl (failed (below6 hbN (Nat.le_refl _) _ _ _ _ _ _) HDD.out)
            simp [schV, schZ, results, Try.results18, go_sem, z0, z1, z2, z3, z4, z5]
end Go.Proofs.Ytedaajilmeplnaa
