/-
  The reference's chart: place, Balance, Kind, Accounts; chart's Kind.
-/
import Derived.Test.YtibanikfalfmcaaRRightD
import Derived.Test.YtibanikfalfmcaaIter19
namespace Go.Proofs.Ytibanikfalfmcaa
open Go.RowKit Go.Maps Go.Shelf
set_option linter.unusedVariables false

/-- Accounts as the reference's cells. -/
def acCells (l : Acs) : List Value := l.flatMap fun e => [.int .i64 e.1, .int .i64 e.2.1, .int .i64 e.2.2]
theorem acCells_at {l : Acs} {k : Nat} {e : Int × Int × Int} (h : l[k]? = some e) : (acCells l)[k * 3]? = some (.int .i64 e.1) ∧ (acCells l)[k * 3 + 1]? = some (.int .i64 e.2.1) ∧ (acCells l)[k * 3 + 2]? = some (.int .i64 e.2.2) := by
  induction l generalizing k with
  | nil => simp at h
  | cons a r ih =>
    cases k with
    | zero =>
      simp only [List.getElem?_cons_zero, Option.some.injEq] at h
      subst h
      exact ⟨rfl, rfl, rfl⟩
    | succ k =>
      simp only [List.getElem?_cons_succ] at h
      have := ih h
      have e1 : (k + 1) * 3 = k * 3 + 3 := by omega
      rw [e1]
      exact this
theorem acCells_len (l : Acs) : (acCells l).length = l.length * 3 := by
  unfold acCells
  induction l with
  | nil => rfl
  | cons x r ih => rw [List.flatMap_cons, List.length_append, ih]; simp; omega
theorem acCells_append (a b : Acs) : acCells (a ++ b) = acCells a ++ acCells b := by unfold acCells; rw [List.flatMap_append]
theorem acCells_one (l : Acs) : ∀ u ∈ acCells l, u.oneCell' = true := by
  intro u hu
  obtain ⟨x, _, h⟩ := List.mem_flatMap.1 hu
  simp at h
  rcases h with rfl | rfl | rfl <;> rfl
theorem Row.acc {w : World} {B : Nat} {A : Option Addr} {l : Acs} (h : Row w B A (acCells l)) {k : Nat} {e : Int × Int × Int} (hk : l[k]? = some e) :
    ∃ ad, A = some ad ∧ ad.block < B ∧ w.cell? (ad.add (k * 3)) = some (.int .i64 e.1) ∧ w.cell? ⟨(ad.add (k * 3)).block, (ad.add (k * 3)).off + 1, none⟩ = some (.int .i64 e.2.1) ∧ w.cell? ⟨(ad.add (k * 3)).block, (ad.add (k * 3)).off + 2, none⟩ = some (.int .i64 e.2.2) := by
  obtain ⟨h1, h2, h3⟩ := acCells_at hk
  obtain ⟨ad, hA, hlt, hc⟩ := h _ _ h1
  obtain ⟨ad', hA', _, hc'⟩ := h _ _ h2
  obtain ⟨ad'', hA'', _, hc''⟩ := h _ _ h3
  rw [hA] at hA' hA''
  injection hA' with hA'
  injection hA'' with hA''
  subst hA'
  subst hA''
  have e2 : ad.add (k * 3 + 2) = ⟨(ad.add (k * 3)).block, (ad.add (k * 3)).off + 2, none⟩ := by
    rw [← add_add' ad (k * 3) 2]
    generalize ad.add (k * 3) = a
    unfold Addr.add
    simp
  exact ⟨ad, hA, hlt, hc, by rw [← add_add'] at hc'; exact hc', by rw [e2] at hc''; exact hc''⟩
/-- The reference's chart: its box, its row. -/
structure Rc (r base : Nat) (A : Option Addr) (c : Nat) (l : Acs) (w : World) : Prop where
  box : w.heap[r]? = some (.cells #[.slice A l.length c] 67 (0, 0))
  own : w.ownsRow base 98 3 (.slice A l.length c) l.length (acCells l)
  lt : r < base
theorem Rc.kept {S : Nat → Prop} {w w' : World} {r base : Nat} {A : Option Addr} {c : Nat} {l : Acs} (h : Rc r base A c l w) (hk : Kept S w w') (hs : ¬ S r) (hb : ∀ k, InRow A k → ¬ S k) : Rc r base A c l w' :=
  ⟨(hk.block r (Array.getElem?_eq_some_iff.1 h.box).1 hs).trans h.box, hk.own h.own hb, h.lt⟩
theorem Rc.call {w w' : World} {r base : Nat} {A : Option Addr} {c : Nat} {l : Acs} (h : Rc r base A c l w) (hb : Below w.heap.size w w') : Rc r base A c l w' := h.kept (S := fun _ => False) (Kept.of_below hb) (fun e => e) (fun _ _ e => e)
theorem Rc.row {w : World} {r base : Nat} {A : Option Addr} {c : Nat} {l : Acs} (h : Rc r base A c l w) : Row w w.heap.size A (acCells l) := Row.of_own h.own
theorem Rc.cell {w : World} {r base : Nat} {A : Option Addr} {c : Nat} {l : Acs} (h : Rc r base A c l w) : w.cell? ⟨r, 0, none⟩ = some (.slice A l.length c) := by
  have := Joins.cell_of_block h.box 0
  simpa using this
theorem Rc.low {w : World} {r base : Nat} {A : Option Addr} {c : Nat} {l : Acs} (h : Rc r base A c l w) : ∀ k, InRow A k → base ≤ k ∧ k < w.heap.size := fun k hk => World.ownsRow.lt h.own k (by rw [ownBlock_slice]; exact hk)

/-- Where an account stands. -/
def placeL (n : Int) : Acs → Int → Int
  | [], _ => -1
  | e :: r, k => if e.1 = n then k else placeL n r (k + 1)
def placeE (l : Acs) (n : Int) : Int := placeL n l 0
theorem placeL_at {l : Acs} {k : Nat} {e : Int × Int × Int} (h : l[k]? = some e) (n : Int) : placeL n (l.drop k) (k : Int) = if e.1 = n then (k : Int) else placeL n (l.drop (k + 1)) ((k : Int) + 1) := by
  have hk : k < l.length := (List.getElem?_eq_some_iff.1 h).1
  have hx : l[k] = e := (List.getElem?_eq_some_iff.1 h).2
  rw [List.drop_eq_getElem_cons hk, hx]
  rfl
theorem placeL_some {n : Int} {x : Int × Int} : ∀ {l : Acs} {k : Int}, aFind l n = some x → ∃ j : Nat, placeL n l k = k + j ∧ l[j]? = some (n, x)
  | [], _, h => by simp [aFind] at h
  | e :: r, k, h => by
    unfold placeL
    by_cases he : e.1 = n
    · rw [if_pos he]
      refine ⟨0, by simp, ?_⟩
      unfold aFind at h
      rw [List.find?_cons_of_pos (by simpa using he)] at h
      injection h with h
      simp only [List.getElem?_cons_zero, Option.some.injEq]
      rw [← he, ← h]
    · rw [if_neg he]
      have h2 : aFind r n = some x := by
        unfold aFind at h ⊢
        rw [List.find?_cons_of_neg (by simpa using he)] at h
        exact h
      obtain ⟨j, h3, h4⟩ := placeL_some (k := k + 1) h2
      exact ⟨j + 1, by rw [h3]; omega, by simpa using h4⟩
theorem placeL_none {n : Int} : ∀ {l : Acs} {k : Int}, aFind l n = none → placeL n l k = -1
  | [], _, _ => rfl
  | e :: r, k, h => by
    unfold placeL
    by_cases he : e.1 = n
    · unfold aFind at h
      rw [List.find?_cons_of_pos (by simpa using he)] at h
      cases h
    · rw [if_neg he]
      refine placeL_none ?_
      unfold aFind at h ⊢
      rw [List.find?_cons_of_neg (by simpa using he)] at h
      exact h
theorem placeE_some {l : Acs} {n : Int} {x : Int × Int} (h : aFind l n = some x) : ∃ j : Nat, placeE l n = (j : Int) ∧ l[j]? = some (n, x) ∧ j < l.length := by
  obtain ⟨j, h1, h2⟩ := placeL_some (k := 0) h
  exact ⟨j, by unfold placeE; rw [h1]; omega, h2, (List.getElem?_eq_some_iff.1 h2).1⟩
theorem placeE_none {l : Acs} {n : Int} (h : aFind l n = none) : placeE l n = -1 := placeL_none h

set_option maxRecDepth 100000 in
set_option maxHeartbeats 2000000 in
theorem place_any (r base : Nat) (A : Option Addr) (c : Nat) (l : Acs) (w : World) (h : Rc r base A c l w) (n : Int) (hl : l.length ≤ 1000000000) :
    Calls Try.prog 58 #[.pointer (some ⟨r, 0, none⟩), .int .i64 n] w fun e w' => e = .returned (.int .i64 (placeE l n)) ∧ w = w' := by
  have c0 := h.cell
  have HR := hide h.row
  clear h
  obtain ⟨E, HE⟩ : ∃ E, Hid (E = placeE l n) := ⟨_, rfl⟩
  rw [← HE.out]
  go_enter Try.func58, Try.ntmps58
  go_wp2
  go_loop [5] (fun i => ∃ k : Nat, k ≤ l.length ∧ i = .int .i64 (k : Int) ∧ Hid (placeE l n = placeL n (l.drop k) (k : Int))) (fun i => l.length - (intOf i).toNat)
  case atStart => exact ⟨0, Nat.zero_le _, rfl, rfl⟩
  case round =>
    obtain ⟨k, hk, rfl, HP⟩ := hrel
    by_cases hlt : k < l.length
    · obtain ⟨e, he⟩ : ∃ e, l[k]? = some e := ⟨_, List.getElem?_eq_getElem hlt⟩
      obtain ⟨ad, rfl, hadb, ha, -, -⟩ := HR.out.acc he
      have hpl := placeL_at he n
      obtain ⟨a, x⟩ := e
      dsimp only at ha hpl
      have hlt' : (k : Int) < (l.length : Int) := by omega
      by_cases hn : a = n
      · have HF := hide (show E = (k : Int) from by rw [HE.out, HP.out, hpl, if_pos hn])
        subst hn
        clear hpl he HP
        go_wp2
        go_ret
        exact ⟨by rw [HF.out]; rfl, rfl⟩
      · have HN := hide (show placeE l n = placeL n (l.drop (k + 1)) (((k + 1 : Nat)) : Int) from by rw [HP.out, hpl, if_neg hn]; rfl)
        have hn' : (a == n) = false := by simpa using hn
        clear hpl he HP
        go_wp2
        go_round
        case rel => exact ⟨k + 1, hlt, by go_num, HN.out⟩
        case measure => simp [intOf]; omega
    · have hkE : k = l.length := by omega
      subst hkE
      have HF := hide (show E = -1 from by rw [HE.out, HP.out, List.drop_length]; rfl)
      clear HP
      go_wp2
      go_ret
      exact ⟨by rw [HF.out]; rfl, rfl⟩

set_option maxRecDepth 100000 in
set_option maxHeartbeats 2000000 in
theorem rbalance_any (r base : Nat) (A : Option Addr) (c : Nat) (l : Acs) (w : World) (h : Rc r base A c l w) (n : Int) (hl : l.length ≤ 1000000000) :
    Calls Try.prog 66 #[.pointer (some ⟨r, 0, none⟩), .int .i64 n] w (NumR w (balE l n)) := by
  have c0 := h.cell
  have HPL := hide (place_any r base A c l w h n hl)
  obtain ⟨E, HE⟩ : ∃ E, Hid (E = balE l n) := ⟨_, rfl⟩
  rw [← HE.out]
  cases hf : aFind l n with
  | none =>
    have HE0 := hide (show E = (0, 4) from by rw [HE.out]; unfold balE; rw [hf])
    rw [placeE_none hf] at HPL
    clear h hf
    go_enter Try.func66, Try.ntmps66
    go_wp2_with (go_at_call 58; refine halted ?_)
    refine go_on ?_
    refine HPL.out.mono ?_
    rintro e w' ⟨rfl, rfl⟩
    go_wp2
    go_ret2
    exact ⟨by rw [HE0.out]; rfl, Below.refl _ _⟩
  | some x =>
    have HE0 := hide (show E = (x.2, 0) from by rw [HE.out]; unfold balE; rw [hf])
    obtain ⟨j, hj, hjl, hlt⟩ := placeE_some hf
    rw [hj] at HPL
    obtain ⟨ad, rfl, hadb, -, -, hb⟩ := h.row.acc hjl
    dsimp only at hb
    have hlt' : (j : Int) < (l.length : Int) := by omega
    clear h hf hj hjl
    go_enter Try.func66, Try.ntmps66
    go_wp2_with (go_at_call 58; refine halted ?_)
    refine go_on ?_
    refine HPL.out.mono ?_
    rintro e w' ⟨rfl, rfl⟩
    go_wp2
    go_ret2
    exact ⟨by rw [HE0.out]; rfl, Below.refl _ _⟩

/-- What a chart tells of an account's kind. -/
def kindE (l : Acs) (n : Int) : Int × Int := match aFind l n with
  | some x => (x.1, 0)
  | none => (0, 4)
set_option maxRecDepth 100000 in
set_option maxHeartbeats 2000000 in
theorem rkind_any (r base : Nat) (A : Option Addr) (c : Nat) (l : Acs) (w : World) (h : Rc r base A c l w) (n : Int) (hl : l.length ≤ 1000000000) :
    Calls Try.prog 68 #[.pointer (some ⟨r, 0, none⟩), .int .i64 n] w (NumR w (kindE l n)) := by
  have c0 := h.cell
  have HPL := hide (place_any r base A c l w h n hl)
  obtain ⟨E, HE⟩ : ∃ E, Hid (E = kindE l n) := ⟨_, rfl⟩
  rw [← HE.out]
  cases hf : aFind l n with
  | none =>
    have HE0 := hide (show E = (0, 4) from by rw [HE.out]; unfold kindE; rw [hf])
    rw [placeE_none hf] at HPL
    clear h hf
    go_enter Try.func68, Try.ntmps68
    go_wp2_with (go_at_call 58; refine halted ?_)
    refine go_on ?_
    refine HPL.out.mono ?_
    rintro e w' ⟨rfl, rfl⟩
    go_wp2
    go_ret2
    exact ⟨by rw [HE0.out]; rfl, Below.refl _ _⟩
  | some x =>
    have HE0 := hide (show E = (x.1, 0) from by rw [HE.out]; unfold kindE; rw [hf])
    obtain ⟨j, hj, hjl, hlt⟩ := placeE_some hf
    rw [hj] at HPL
    obtain ⟨ad, rfl, hadb, -, hb, -⟩ := h.row.acc hjl
    dsimp only at hb
    have hlt' : (j : Int) < (l.length : Int) := by omega
    clear h hf hj hjl
    go_enter Try.func68, Try.ntmps68
    go_wp2_with (go_at_call 58; refine halted ?_)
    refine go_on ?_
    refine HPL.out.mono ?_
    rintro e w' ⟨rfl, rfl⟩
    go_wp2
    go_ret2
    exact ⟨by rw [HE0.out]; rfl, Below.refl _ _⟩
set_option maxRecDepth 100000 in
set_option maxHeartbeats 4000000 in
theorem kind_any (q b : Nat) (l : Acs) (w : World) (hs : Ch q b l w) (n : Int) (hn : (Lit.int .i64 n).wf = true) :
    Calls Try.prog 67 #[.pointer (some ⟨q, 0, none⟩), .int .i64 n] w (NumR w (kindE l n)) := by
  have c0 := Joins.cell_of_block hs.box 0
  simp at c0
  have hlook := look_acs hs.map hn
  obtain ⟨E, HE⟩ : ∃ E, Hid (E = kindE l n) := ⟨_, rfl⟩
  rw [← HE.out]
  cases hfd : aFind l n with
  | none =>
    have hE : E = (0, 4) := by rw [HE.out]; unfold kindE; rw [hfd]
    have HE0 := hide hE
    have hx : lookA l n = (0, 0) := by unfold lookA; rw [hfd]; rfl
    rw [hfd, hx] at hlook
    dsimp only [Option.isSome] at hlook
    have HB := hide (below_new w (.cells #[.int .i64 0, .int .i64 0] 73))
    clear hE hx hfd hs
    go_enter Try.func67, Try.ntmps67
    go_wp2
    go_ret2
    exact ⟨by rw [HE0.out]; rfl, HB.out⟩
  | some x =>
    have hE : E = (x.1, 0) := by rw [HE.out]; unfold kindE; rw [hfd]
    have HE0 := hide hE
    have hx : lookA l n = x := by unfold lookA; rw [hfd]; rfl
    rw [hfd, hx] at hlook
    dsimp only [Option.isSome] at hlook
    have HB := hide (below_new w (.cells #[.int .i64 x.1, .int .i64 x.2] 73))
    clear hE hx hfd hs
    go_enter Try.func67, Try.ntmps67
    go_wp2
    go_ret2
    exact ⟨by rw [HE0.out]; rfl, HB.out⟩

/-- The state of 'Accounts' ahead of the k-th one. -/
def RaRel (l : Acs) (w : World) (v i : Value) (wr : World) : Prop :=
  ∃ (k : Nat) (A' : Option Addr) (c' : Nat), k ≤ l.length ∧ i = .int .i64 (k : Int) ∧ v = .slice A' k c' ∧ wr.ownsRow w.heap.size 3 1 (.slice A' k c') k (((l.take k).map (·.1)).map encZ) ∧ Below w.heap.size w wr
theorem info_intR : (Try.prog.info? 3).map (fun i => (i.zero, i.size, i.bytes)) = some (some (.int .i64 0), 1, 8) := by kernel_rfl

set_option maxRecDepth 100000 in
set_option maxHeartbeats 2000000 in
theorem raccounts_any (r base : Nat) (A : Option Addr) (c : Nat) (l : Acs) (w : World) (h : Rc r base A c l w) (hl : l.length ≤ 1000000000) :
    Calls Try.prog 64 #[.pointer (some ⟨r, 0, none⟩)] w (AccR w l) := by
  have HC := hide (show ∀ W, Below w.heap.size w W → W.cell? ⟨r, 0, none⟩ = some (.slice A l.length c) from fun W hW => (h.call hW).cell)
  have HR := hide h.row
  obtain ⟨i0, hi, hz0, hz1, hz2⟩ := info_parts info_intR
  have HRB := hide (Array.getElem?_eq_some_iff.1 h.box).1
  clear h
  go_enter Try.func64, Try.ntmps64
  go_wp2
  go_loopw [3, 4] (fun v i wr => RaRel l w v i wr) (fun _ i _ => l.length - (intOf i).toNat)
  case atStart => exact ⟨0, none, 0, Nat.zero_le _, rfl, rfl, World.ownsRow_nil _ _ _ _, Below.refl _ _⟩
  case round =>
    obtain ⟨k, A', c', hk, rfl, rfl, hown, hb⟩ := hrel
    have c0 := HC.out wr hb
    by_cases hlt : k < l.length
    · obtain ⟨e, he⟩ : ∃ e, l[k]? = some e := ⟨_, List.getElem?_eq_getElem hlt⟩
      obtain ⟨ad, rfl, hadb, ha, -, -⟩ := (HR.out.belowLe hb (Nat.le_refl _)).acc he
      have HOWN := hide hown
      have HB := hide hb
      have HTK := hide (take_next he)
      obtain ⟨a, x⟩ := e
      dsimp only at ha
      have hlt' : (k : Int) < (l.length : Int) := by omega
      clear hown hb he
      go_wp2_with (at_builtin; refine halted ?_)
      refine go_on ?_
      refine wpList_append_own _ rfl (.tmp 14) (.tmp 23) 35 rfl w.heap.size 3 i0 _ 1 8 Try.underlying35 hi hz0 hz1 hz2 rfl (by decide) A' k c' _ rfl (World.ownsRow.alloc HOWN.out _) _ _ 1 _ [.int .i64 a] rfl rfl (Row.new wr #[.int .i64 a] 3 (0, 0)) (by intro u hu; simp at hu; subst hu; rfl) (by unfold maxLen; omega) (by omega) (by have := HB.out.size; simp; exact Nat.le_succ_of_le this) ?_
      intro n' xs' A5 c5 w5 hn' hxs' hnc _ hown5 hg5 hat5
      obtain rfl : n' = k + 1 := hn'.out
      have hb5 : Below w.heap.size w w5 := (HB.out.alloc HB.out.size _).grown hg5 (by have := HB.out.size; simp; exact Nat.le_succ_of_le this) (fun q hq => (World.ownsRow.lt HOWN.out q (by rw [ownBlock_slice]; exact hq)).1)
      have ex : xs' = ((l.take (k + 1)).map (·.1)).map encZ := by
        rw [hxs'.out, HTK.out, List.map_append, List.map_append]
        rfl
      rw [ex] at hown5
      have hrel2 : RaRel l w (.slice A5 (k + 1) c5) (.int .i64 ((k : Int) + 1)) w5 := ⟨k + 1, A5, c5, hlt, by simp, rfl, hown5, hb5⟩
      have HR2 := hide hrel2
      clear hn' hxs' hown5 hg5 hat5 hb5 ex hrel2 ha hadb c0
      go_wp2
      case roundEnd => exact ⟨HR2.out, by simp [intOf]; omega⟩
    · have hkE : k = l.length := by omega
      subst hkE
      rw [List.take_of_length_le (Nat.le_refl _)] at hown
      have HF := hide (show AccR w l (.returned (.slice A' l.length c')) wr from ⟨A', c', rfl, hown, hb⟩)
      clear hown hb
      go_wp2
      go_ret
      exact HF.out
end Go.Proofs.Ytibanikfalfmcaa
