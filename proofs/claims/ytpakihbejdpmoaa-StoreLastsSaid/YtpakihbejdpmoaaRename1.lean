/-
  store's Rename: what it does with a file.
-/
import Derived.Test.YtpakihbejdpmoaaChangeR
import Derived.Test.YtpakihbejdpmoaaWith1
namespace Go.Proofs.Ytpakihbejdpmoaa
open Go.RowKit Go.Maps
set_option linter.unusedVariables false

/-- What an operation does that keeps a function with the boxes of a caller. -/
structure Dib (q : Nat) (s : SS) (w : World) (b1 b3 : Nat) (s' : SS) (w' : World) : Prop where
  sm : Sm q s' w'
  kept : Kept (s.own q) w w'
  own : ∀ k, s'.own q k → s.own q k ∨ w.heap.size ≤ k ∨ k = b1 ∨ k = b3
/-- What a renaming leaves. -/
def RenS (s : SS) (fr to : ByteArray) (qf : Nat) (s' : SS) : Prop :=
  s'.room = s.room ∧ s'.disk = s.disk ∧ s'.plan = s.plan ∧ s'.off = s.off ∧ s'.files = s.files ∧ s'.now = (if fr = to then s.now else dPut (dDel s.now fr.data.toList) to.data.toList qf) ∧
    s'.kept.map (·.ch) = if fr = to then s.kept.map (·.ch) else s.kept.map (·.ch) ++ [.ren fr to qf]
def RenP (q : Nat) (s : SS) (w : World) (b1 b3 : Nat) (fr to : ByteArray) (qf : Nat) (e : Ending) (w' : World) : Prop :=
  e = .returned (.int .i64 0) ∧ ∃ s', Dib q s w b1 b3 s' w' ∧ RenS s fr to qf s'

set_option maxRecDepth 100000 in
set_option maxHeartbeats 4000000 in
theorem rename2_any (q : Nat) (s : SS) (w : World) (hs : Sm q s w) (qf b1 b2 b3 : Nat) (fr to : ByteArray) (h1 : BxS b1 fr w) (h2 : BxS b2 to w) (h3 : BxQ b3 q w) (hl : s.now.length ≤ 1000000000) (hkl : s.kept.length ≤ 1000000000) (hnm : fr.size ≤ maxLen) (hnt : to.size ≤ maxLen) (hq : ∃ f ∈ s.files, f.q = qf) :
    Calls Try.prog 45 #[.pointer (some ⟨qf, 0, none⟩), .pointer (some ⟨b1, 0, none⟩), .pointer (some ⟨b2, 0, none⟩), .pointer (some ⟨b3, 0, none⟩)] w (RenP q s w b1 b2 fr to qf) := by
  have c1 := Joins.cell_of_block h1 0
  have c2 := Joins.cell_of_block h2 0
  have c3 := Joins.cell_of_block h3 0
  simp at c1 c2 c3
  have hA : Below w.heap.size w (w.alloc (.cells #[.pointer (some ⟨qf, 0, none⟩)] 68)) := (Below.refl _ _).alloc (Nat.le_refl _) _
  have l1 := (Array.getElem?_eq_some_iff.1 h1).1
  have l2 := (Array.getElem?_eq_some_iff.1 h2).1
  have l3 := (Array.getElem?_eq_some_iff.1 h3).1
  have d1 := (hA.cell (p := ⟨b1, 0, none⟩) l1).trans c1
  have d2 := (hA.cell (p := ⟨b2, 0, none⟩) l2).trans c2
  have d3 := (hA.cell (p := ⟨b3, 0, none⟩) l3).trans c3
  have hpb : BxP w.heap.size qf (w.alloc (.cells #[.pointer (some ⟨qf, 0, none⟩)] 68)) := heap_alloc_new w (.cells #[.pointer (some ⟨qf, 0, none⟩)] 68)
  have HA := hide hA
  have HPB := hide hpb
  clear hA hpb l1 l2 l3 c1 c2 c3
  have HS := hide hs
  have H1 := hide h1
  have H2 := hide h2
  have H3 := hide h3
  clear hs h1 h2 h3
  go_enter Try.func45, Try.ntmps45
  by_cases he : fr = to
  · have HE := hide he
    subst he
    go_wp2
    go_ret
    refine ⟨rfl, s, ⟨HS.out.call HA.out, (Did.call HS.out HA.out).kept, fun k h => .inl h⟩, rfl, rfl, rfl, rfl, rfl, ?_, ?_⟩
    · rw [if_pos rfl]
    · rw [if_pos rfl]
  · have e1 : (fr.toList == to.toList) = false := by
      rw [beq_eq_false_iff_ne, ByteArray.toList_eq, ByteArray.toList_eq]
      intro h
      exact he (ByteArray.ext (Array.toList_inj.1 h))
    have HE := hide he
    clear he
    go_wp2_with (go_at_call 40; refine halted ?_)
    refine go_on ?_
    have hA := HA.out
    have hpb := HPB.out
    clear HA HPB
    generalize (w.alloc (.cells #[.pointer (some ⟨qf, 0, none⟩)] 68)) = u at *
    have hb1 : BxS b1 fr u := H1.out.kept (Kept.of_below (S := fun _ => False) hA) (fun h => h)
    have hb2 : BxS b2 to u := H2.out.kept (Kept.of_below (S := fun _ => False) hA) (fun h => h)
    refine (changeR_any q s u (HS.out.call hA) b1 w.heap.size b2 qf fr to hb1 hpb hb2 hl hkl hnm hnt hq).mono ?_
    rintro e w2 ⟨rfl, AK, cK, hch⟩
    have hz := hA.size
    have hfin : Dib q s w b1 b2 _ w2 := ⟨hch.sm, (Kept.of_below hA).trans_in hch.kept (fun k _ h => h), fun k h => by
      rcases hch.own k h with g | g | g
      · exact .inl g
      · exact .inr (.inl (by omega))
      · have g : k = b1 ∨ k = w.heap.size ∨ k = b2 := g
        rcases g with g | g | g
        · exact .inr (.inr (.inl g))
        · exact .inr (.inl (by omega))
        · exact .inr (.inr (.inr g))⟩
    have HF := hide hfin
    clear hfin hch hb1 hb2 hpb hA d1 d2 d3
    go_wp2
    go_ret
    refine ⟨rfl, _, HF.out, rfl, rfl, rfl, rfl, rfl, ?_, ?_⟩
    · rw [if_neg HE.out]; rfl
    · rw [if_neg HE.out, List.map_append]; rfl
end Go.Proofs.Ytpakihbejdpmoaa
