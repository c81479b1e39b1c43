/-
  slices.Grow of nil, slices.Concat of slices of bytes.
-/
import Derived.Test.YtibanikfalfmcaaRTake
import Derived.Test.YtibanikfalfmcaaCode
import Derived.Lib.AppendZerosOnto
namespace Go.Proofs.Ytibanikfalfmcaa
open Go.RowKit
set_option linter.unusedVariables false

theorem OwnB.empty {w : World} {base : Nat} {e : TypeId} {A : Option Addr} {c : Nat} {bs : List UInt8} (h : OwnB w base e A c bs) : OwnB w base e A c [] := by
  refine ⟨rfl, ?_⟩
  rcases h.2 with ⟨hv, hn⟩ | ⟨g, cap, cur, hv, hb, hg, hnc, hcm, hcs, ht⟩
  · injection hv with h1 h2 h3
    subst h1 h3
    exact .inl ⟨rfl, rfl⟩
  · injection hv with h1 h2 h3
    subst h1 h3
    exact .inr ⟨g, c, cur, rfl, hb, hg, Nat.zero_le _, hcm, hcs, by simp⟩

theorem wpList_append_run {P : Program} (w : World) {ops : Array Oper} {rest : List Oper} {o : Oper} {a : Act} {Q : Exit → Act → World → Prop} (hgd : o.guard = none) (s x : Operand) (t u : TypeId)
    (ho : o.op = .call { callee := .builtin .append, args := #[s, x], argTypes := #[t, u] }) (v1 v2 v' : Value) (w' : World) (hs : a.eval s = v1) (hx : a.eval x = v2)
    (hrun : (Builtin.append_ #[t, u] o.type #[v1, v2]).run P w = .ok v' w') (h : wpList P ops Q rest (a.put o.dst v') w') : wpList P ops Q (o :: rest) a w := by
  refine wpList_plain hgd fun K hK => ?_
  unfold Oper.wp execOp
  simp only [ho, resolve, invoke, builtin, Sem.run_bind, Sem.run_pure, Result.andThen_ok, List.map_toArray, List.map_cons, List.map_nil, hs, hx, hrun]
  exact hK _ _ h

set_option maxHeartbeats 1000000 in
theorem grow_nil (n : Nat) (w : World) (hn : n ≤ 140737488355328) :
    Calls Try.prog 72 #[.slice none 0 0, .int .i64 (n : Int)] w fun e w' => NewB w w' e [] := by
  by_cases h0 : n = 0
  · subst h0
    go_enter Try.func72, Try.ntmps72
    go_wp2
    go_ret
    exact ⟨none, 0, rfl, OwnB.nil _ _ _, Below.refl _ _⟩
  have hn0 : 0 < n := by omega
  clear h0
  go_enter Try.func72, Try.ntmps72
  go_wp2_with (at_builtin; refine halted ?_)
  refine go_on ?_
  obtain ⟨i0, hi, hz0, hz1, hz2⟩ := info_parts info_u8
  have hrz : ∀ ty, (Builtin.append_ #[40, 3] ty #[.slice none 0 0, .int .i64 (n : Int)]).run Try.prog w =
      .ok (.slice (some ⟨w.heap.size, 0, none⟩) (0 + n) (grownCap w (0 + n) 0 5)) (w.drew.alloc (.cells (([] : List Value).toArray ++ Builtin.zeroCells (Value.int .u8 0).cells n ++ Builtin.zeroCells (Value.int .u8 0).cells (grownCap w (0 + n) 0 5 - (0 + n))) 5)) := fun ty =>
    Lib.run_append_grow_zeros w 40 3 ty 5 i0 _ .i64 .i64 Try.underlying40 Try.underlying3 hi hz0 none 0 0 [] (run_firstCells_none w.drew i0.size 0 0 0) n hn0 (by omega) (by omega) (by omega) (by rw [hz2]; omega)
      (by rw [hz2]; exact growslice_fits (by omega) (by omega))
  rw [Nat.zero_add] at hrz
  have hGn : n ≤ grownCap w n 0 5 := grownCap_ge w _ _ _
  have hGm : grownCap w n 0 5 ≤ maxLen := grownCap_le_maxLen w n 0 5 (by unfold maxLen; omega)
  obtain ⟨G, hG⟩ : ∃ G, G = grownCap w n 0 5 := ⟨_, rfl⟩
  rw [← hG] at hrz hGn hGm
  have hsz : ∀ k, (Builtin.zeroCells (Value.int .u8 0).cells k).size = k := fun k => by rw [size_zeroCells]; simp [Value.cells]
  obtain ⟨cur, hcur⟩ : ∃ cur, cur = ([] : List Value).toArray ++ Builtin.zeroCells (Value.int .u8 0).cells n ++ Builtin.zeroCells (Value.int .u8 0).cells (G - n) := ⟨_, rfl⟩
  have hcs : cur.size = G * 1 := by rw [hcur, Array.size_append, Array.size_append, hsz, hsz]; simp; omega
  rw [← hcur] at hrz
  have HG := hide hGm
  have HNB := hide (show NewB w (w.drew.alloc (.cells cur 5)) (.returned (.slice (some ⟨w.heap.size, 0, none⟩) 0 G)) [] from
    ⟨some ⟨w.heap.size, 0, none⟩, G, rfl, ⟨rfl, .inr ⟨w.heap.size, G, cur, rfl, Nat.le_refl _, heap_alloc_new w.drew _, Nat.zero_le _, hGm, hcs, by simp⟩⟩, ((Below.refl w.heap.size w).drew).alloc (Nat.le_refl _) _⟩)
  have hG63 : G ≤ 9223372036854775807 := by unfold maxLen at hGm; omega
  refine wpList_append_run _ rfl (.tmp 20) (.tmp 21) 40 3 rfl (.slice none 0 0) (.int .i64 (n : Int)) _ _ rfl rfl (hrz _) ?_
  clear hrz hG hcur hcs hsz hi hz0 hz1 hz2 hGm
  go_wp2
  go_ret
  exact HNB.out

/-- A slice of bytes in memory. -/
structure Pt where
  A : Option Addr
  c : Nat
  b : List UInt8
def Pt.v (p : Pt) : Value := .slice p.A p.b.length p.c
/-- A list of slices of bytes, in memory. -/
def PtRow (w : World) (B : Nat) (A : Option Addr) (l : List Pt) : Prop := Row w B A (l.map Pt.v) ∧ ∀ p ∈ l, Bytes w w.heap.size p.A p.b
theorem PtRow.at_ {w : World} {B : Nat} {A : Option Addr} {l : List Pt} (h : PtRow w B A l) {k : Nat} (hk : k < l.length) : ∃ ad p, A = some ad ∧ ad.block < B ∧ Hid (l[k]? = some p) ∧ w.cell? (ad.add k) = some (.slice p.A p.b.length p.c) ∧ Bytes w w.heap.size p.A p.b := by
  have hg : l[k]? = some l[k] := List.getElem?_eq_getElem hk
  obtain ⟨ad, hA, hb, hc⟩ := h.1 k l[k].v (by rw [List.getElem?_map, hg]; rfl)
  exact ⟨ad, l[k], hA, hb, hg, hc, h.2 _ (List.getElem_mem hk)⟩
def bytesTo (l : List Pt) (k : Nat) : List UInt8 := (l.take k).flatMap Pt.b
theorem bytesTo_succ {l : List Pt} {k : Nat} {p : Pt} (h : l[k]? = some p) : bytesTo l (k + 1) = bytesTo l k ++ p.b := by
  unfold bytesTo
  rw [List.take_add_one, h, Option.toList_some, List.flatMap_append]
  simp
theorem bytesTo_len (l : List Pt) (k : Nat) : (bytesTo l k).length ≤ (bytesTo l l.length).length := by
  unfold bytesTo
  rw [List.take_length]
  conv => rhs; rw [← List.take_append_drop k l, List.flatMap_append, List.length_append]
  omega

def CatRel (l : List Pt) (w : World) (v i : Value) (wr : World) : Prop :=
  ∃ (k : Nat) (us : List UInt8) (A : Option Addr) (c : Nat), k ≤ l.length ∧ i = .int .i64 (k : Int) ∧ v = .slice A us.length c ∧ Hid (us = bytesTo l k) ∧ OwnB wr w.heap.size 5 A c us ∧ Below w.heap.size w wr

set_option maxRecDepth 100000 in
set_option maxHeartbeats 2000000 in
theorem concat_any (A : Option Addr) (n c : Nat) (l : List Pt) (w : World) (hn : l.length = n) (hrow : PtRow w w.heap.size A l) (hl : l.length ≤ 1000000) (ht : (bytesTo l l.length).length ≤ 140737488355328) :
    Calls Try.prog 35 #[.slice A n c] w fun e w' => NewB w w' e (bytesTo l l.length) := by
  subst hn
  have HT := hide ht
  clear ht
  go_enter Try.func35, Try.ntmps35
  go_wp2
  go_loopw [3, 11] (fun z i wr => ∃ k t : Nat, k ≤ l.length ∧ i = .int .i64 (k : Int) ∧ z = .int .i64 (t : Int) ∧ Hid (t = (bytesTo l k).length) ∧ w = wr) (fun _ i _ => l.length - (intOf i).toNat)
  case atStart => exact ⟨0, 0, by omega, rfl, rfl, rfl, rfl⟩
  case round =>
    obtain ⟨k, t, hk, rfl, rfl, HK, rfl⟩ := hrel
    by_cases hlt : k < l.length
    · obtain ⟨ad, p, rfl, hadb, hg, hc1, hr1⟩ := hrow.at_ hlt
      have e1 := congrArg List.length (bytesTo_succ hg.out)
      have e2 := bytesTo_len l (k + 1)
      have e3 := HT.out
      rw [List.length_append, ← HK.out] at e1
      have hsum : t + p.b.length ≤ 140737488355328 := by omega
      have HE := hide e1
      clear hrow hr1 e1 e2 e3
      go_wp2
      go_roundw
      case rel => exact ⟨k + 1, t + p.b.length, by omega, by go_num, by go_num, HE.out.symm, by trivial⟩
      case measure => simp [intOf]; omega
    · have hkl : k = l.length := by omega
      subst hkl
      have htb : t ≤ 140737488355328 := by rw [HK.out]; exact HT.out
      clear hk
      go_wp2_with (go_at_call 72; refine halted ?_)
      refine go_on ?_
      refine (grow_nil t _ htb).mono ?_
      rintro e w1 ⟨A1, c1, rfl, hown, hb⟩
      go_wp2
      go_loopw [6, 27] (fun v i wr => CatRel l w v i wr) (fun _ i _ => l.length - (intOf i).toNat)
      case atStart => exact ⟨0, [], A1, c1, by omega, rfl, rfl, rfl, hown, hb⟩
      case round =>
        obtain ⟨k, us, A3, c3, hk, rfl, rfl, HU, hown3, hb3⟩ := hrel
        by_cases hlt : k < l.length
        · obtain ⟨ad, p, rfl, hadb, hg, hc1, hr1⟩ := hrow.at_ hlt
          have hc2 := (hb3.cell (p := ad.add k) (by rw [add_block]; exact hadb)).trans hc1
          have hr3 := (hr1.below hb3).more hb3.size
          have e1 := bytesTo_succ hg.out
          have e2 := bytesTo_len l (k + 1)
          have e3 := HT.out
          rw [e1, ← HU.out, List.length_append] at e2
          have E1 := hide e1
          have HSM : Hid (us.length + p.b.length ≤ 140737488355328) := by show _ ≤ _; omega
          clear hr1 e1 e2 e3 hc1
          go_wp2_with (at_builtin; refine halted ?_)
          refine go_on ?_
          refine wpList_append_bytes _ rfl (.tmp 31) (.tmp 32) 40 rfl w.heap.size 5 Try.underlying40 info_u8 _ _ _ us rfl rfl hown3 _ p.A _ p.c p.b rfl rfl hr3 HSM.out hb3.size ?_
          intro ds A4 c4 w4 hds hdl hown4 hg4 _
          have hb4 := hown3.below_grown hb3 hg4 (Nat.le_refl _) hb3.size
          have HU2 : Hid (ds = bytesTo l (k + 1)) := by show _ = _; rw [hds.out, HU.out, E1.out]
          clear hown3 hb3 hg4 hds hr3
          go_wp2
          go_roundw
          case rel => exact ⟨k + 1, ds, A4, c4, by omega, by go_num, rfl, HU2.out, hown4, hb4⟩
          case measure => simp [intOf]; omega
        · have hkl : k = l.length := by omega
          subst hkl
          have hus : us = bytesTo l l.length := HU.out
          have HN := hide (show NewB w wr (.returned (.slice A3 us.length c3)) (bytesTo l l.length) from by rw [← hus]; exact ⟨A3, c3, rfl, hown3, hb3⟩)
          clear hus hk
          go_wp2
          go_ret
          exact HN.out
end Go.Proofs.Ytibanikfalfmcaa
