/-
  Stores of no file, of one, of two: the plain laws.
-/
import Derived.Test.YtpakihbejdpmoaaRename
import Derived.Test.YtpakihbejdpmoaaRead06
namespace Go.Proofs.Ytpakihbejdpmoaa
open Go.RowKit Go.Maps
set_option linter.unusedVariables false

/-- A store as StoreMoves has it. -/
def Stn (s : SS) (k : Nat) : Prop := s.room = 30000 ∧ s.plan = [] ∧ s.off = false ∧ s.kept.length ≤ k
def Szn (s : SS) (N : Nat) : Prop := sizeS s ≤ N ∧ (∀ f ∈ s.files, f.bs.length ≤ N) ∧ s.now.length ≤ 2
theorem meetE_on (b : Bool) : meetE b false [] = (if b = true then 0 else 1, [], false) := by cases b <;> rfl
theorem Stn.cre {s s' : SS} {k : Nat} {nm : ByteArray} {b : Bool} (h : Stn s k) (g : CreS s nm (meetE b s.off s.plan) s') : Stn s' (k + 1) := by
  obtain ⟨h1, h2, h3, h4⟩ := h
  obtain ⟨g1, g2, g3, g4, g5⟩ := g
  rw [h2, h3, meetE_on] at g3 g4
  refine ⟨g1.trans h1, g3, g4, ?_⟩
  split at g5
  · obtain ⟨qf, _, _, _, hk⟩ := g5
    have := congrArg List.length hk
    simp at this
    omega
  · rw [g5.2.2]; omega
theorem Stn.app {s s' : SS} {k : Nat} {nm : ByteArray} {b : Bool} {ds : List UInt8} {E : Int} (h : Stn s k) (g : AppS s nm ds (meetE b s.off s.plan) E s') : Stn s' k := by
  obtain ⟨h1, h2, h3, h4⟩ := h
  obtain ⟨g1, g2, g3, g4, g5, g6, g7⟩ := g
  rw [h2, h3, meetE_on] at g5 g6
  exact ⟨g1.trans h1, g5, g6, by rw [g4]; exact h4⟩
/-- A store of no file. -/
def Emp (s : SS) : Prop := s.files = [] ∧ s.now = []
theorem Emp.size {s : SS} (h : Emp s) : Szn s 0 := by
  obtain ⟨h1, h2⟩ := h
  refine ⟨?_, ?_, ?_⟩
  · unfold sizeS; rw [h2]; exact Nat.le_refl _
  · intro f hf; rw [h1] at hf; cases hf
  · rw [h2]; exact Nat.zero_le _
theorem One.szn {s : SS} {room : Int} {nm : ByteArray} {bs : List UInt8} (h : One s room nm bs) : Szn s bs.length := by
  refine ⟨by rw [h.size]; exact Nat.le_refl _, fun f hf => by rw [h.len f hf]; exact Nat.le_refl _, ?_⟩
  obtain ⟨_, f, h1, h2, h3⟩ := h
  rw [h3]
  exact Nat.le_succ _
theorem CreS.no {s s' : SS} {nm : ByteArray} {m : Int × List UInt8 × Bool} (h : CreS s nm m s') (hE : createE m (dFind s.now nm.data.toList).isSome ≠ 0) : s'.files = s.files ∧ s'.now = s.now ∧ s'.kept = s.kept := by
  obtain ⟨_, _, _, _, h5⟩ := h
  rw [if_neg hE] at h5
  exact h5
theorem CreS.yes {s s' : SS} {nm : ByteArray} {m : Int × List UInt8 × Bool} (h : CreS s nm m s') (hE : createE m (dFind s.now nm.data.toList).isSome = 0) : ∃ qf, (∀ g ∈ s.files, g.q ≠ qf) ∧ s'.files = s.files ++ [⟨qf, none, 0, [], 0⟩] ∧ s'.now = dPut s.now nm.data.toList qf := by
  obtain ⟨_, _, _, _, h5⟩ := h
  rw [if_pos hE] at h5
  obtain ⟨qf, h1, h2, h3, _⟩ := h5
  exact ⟨qf, h1, h2, h3⟩
theorem One.not {s s' : SS} {room : Int} {fr nm : ByteArray} {bs : List UInt8} {m : Int × List UInt8 × Bool} (h : One s room fr bs) (g : CreS s nm m s') (hE : createE m (dFind s.now nm.data.toList).isSome ≠ 0) : One s' room fr bs := by
  obtain ⟨h1, f, h2, h3, h4⟩ := h
  have g' := g.no hE
  exact ⟨g.1.trans h1, f, g'.1.trans h2, h3, g'.2.1.trans h4⟩
/-- A store of two files. -/
def Two (s : SS) (fr to : ByteArray) (ls bs : List UInt8) : Prop := ∃ f1 f2 : Fi, s.files = [f1, f2] ∧ f1.q ≠ f2.q ∧ f1.bs = ls ∧ f2.bs = bs ∧ s.now = dIns (to.data.toList, f2.q) [(fr.data.toList, f1.q)]
theorem dIns_one (e x : List UInt8 × Nat) : dIns e [x] = [e, x] ∨ dIns e [x] = [x, e] := by
  unfold dIns
  split
  · exact .inl rfl
  · exact .inr rfl
theorem data_ne {fr to : ByteArray} (h : fr ≠ to) : fr.data.toList ≠ to.data.toList := fun e => h (ByteArray.ext (Array.toList_inj.1 e))
theorem Two.made {s s' : SS} {room : Int} {fr to : ByteArray} {ls : List UInt8} {m : Int × List UInt8 × Bool} (hne : fr ≠ to) (h : One s room fr ls) (g : CreS s to m s') (hE : createE m (dFind s.now to.data.toList).isSome = 0) : Two s' fr to ls [] := by
  obtain ⟨h1, f, h2, h3, h4⟩ := h
  obtain ⟨qf, g1, g2, g3⟩ := g.yes hE
  refine ⟨f, ⟨qf, none, 0, [], 0⟩, by rw [g2, h2]; rfl, g1 f (by rw [h2]; exact List.mem_singleton_self _), h3, rfl, ?_⟩
  rw [g3, h4]
  unfold dPut
  have : dDel [(fr.data.toList, f.q)] to.data.toList = [(fr.data.toList, f.q)] := by
    unfold dDel
    simp [data_ne hne]
  rw [this]
section
variable {s s' : SS} {fr to : ByteArray} {ls bs ds : List UInt8}
theorem Two.find (h : Two s fr to ls bs) : ∃ f1 f2 : Fi, s.files = [f1, f2] ∧ f1.q ≠ f2.q ∧ f1.bs = ls ∧ f2.bs = bs ∧ (fr ≠ to → dFind s.now fr.data.toList = some f1.q ∧ dFind s.now to.data.toList = some f2.q ∧ sizeS s = ls.length + bs.length ∧ dPut (dDel s.now fr.data.toList) to.data.toList f1.q = [(to.data.toList, f1.q)]) := by
  obtain ⟨f1, f2, h1, h2, h3, h4, h5⟩ := h
  refine ⟨f1, f2, h1, h2, h3, h4, fun hne => ?_⟩
  have hd := data_ne hne
  have hd1 : ¬ fr.data = to.data := fun e => hd (by rw [e])
  have hd' : ¬ to.data = fr.data := fun e => hd (by rw [e])
  have e1 : lenOf s.files f1.q = ls.length := by rw [h1]; simp [lenOf, h3]
  have e2 : lenOf s.files f2.q = bs.length := by
    rw [h1]
    simp [lenOf, h4, h2]
  have hp : dPut (dDel s.now fr.data.toList) to.data.toList f1.q = [(to.data.toList, f1.q)] := by
    rw [h5]
    rcases dIns_one (to.data.toList, f2.q) (fr.data.toList, f1.q) with e | e
    · rw [e]; simp [dDel, dPut, dIns]
    · rw [e]; simp [dDel, dPut, dIns]
  refine ⟨?_, ?_, ?_, hp⟩
  · rw [h5]
    rcases dIns_one (to.data.toList, f2.q) (fr.data.toList, f1.q) with e | e
    · rw [e]; simp [dFind, hd']
    · rw [e]; simp [dFind]
  · rw [h5]
    rcases dIns_one (to.data.toList, f2.q) (fr.data.toList, f1.q) with e | e
    · rw [e]; simp [dFind]
    · rw [e]; simp [dFind, hd1]
  · unfold sizeS
    rw [h5]
    rcases dIns_one (to.data.toList, f2.q) (fr.data.toList, f1.q) with e | e
    · rw [e]; simp [e1, e2]; omega
    · rw [e]; simp [e1, e2]
theorem Two.szn (h : Two s fr to ls bs) (hne : fr ≠ to) : Szn s (ls.length + bs.length) := by
  obtain ⟨f1, f2, h1, h2, h3, h4, h5⟩ := h.find
  obtain ⟨_, _, h6, _⟩ := h5 hne
  refine ⟨by rw [h6]; exact Nat.le_refl _, ?_, ?_⟩
  · intro f hf
    rw [h1] at hf
    simp at hf
    rcases hf with rfl | rfl
    · rw [h3]; omega
    · rw [h4]; omega
  · obtain ⟨g1, g2, _, _, _, _, hn⟩ := h
    rw [hn]
    rcases dIns_one (to.data.toList, g2.q) (fr.data.toList, g1.q) with e | e
    · rw [e]; exact Nat.le_refl _
    · rw [e]; exact Nat.le_refl _
theorem Two.put {m : Int × List UInt8 × Bool} (hne : fr ≠ to) (h : Two s fr to ls bs) (g : AppS s to ds m 0 s') : Two s' fr to ls (bs ++ ds) := by
  obtain ⟨f1, f2, h1, h2, h3, h4, h5⟩ := h.find
  obtain ⟨_, hf2, _, _⟩ := h5 hne
  obtain ⟨_, _, gn, _, _, _, g7, _⟩ := g
  obtain ⟨f, hf, hfd, A, c, hfs⟩ := g7 rfl
  rw [hf2] at hfd
  injection hfd with hfd
  have hff : f = f2 := by
    rw [h1] at hf
    simp at hf
    rcases hf with rfl | rfl
    · exact absurd hfd.symm h2
    · rfl
  subst hff
  obtain ⟨g1, g2, k1, k2, k3, k4, hn⟩ := h
  rw [h1] at k1
  injection k1 with e1 e2
  injection e2 with e2 _
  subst e1
  subst e2
  refine ⟨f1, { f with A := A, c := c, bs := f.bs ++ ds }, ?_, h2, h3, by rw [h4], gn.trans hn⟩
  rw [hfs, h1]
  simp [upd, h2]
theorem Two.renamed {m : Int × List UInt8 × Bool} (hne : fr ≠ to) (h : Two s fr to ls bs) (hm : m.2.2 = false) (g : RenT s fr to m 0 s') :
    s'.off = false ∧ (∃ qf, dFind s'.now to.data.toList = some qf ∧ ∀ f ∈ s'.files, f.q = qf → f.bs = ls) ∧ dFind s'.now fr.data.toList = none ∧ sizeS s' = ls.length ∧ ∀ f ∈ s'.files, f.bs.length ≤ ls.length + bs.length := by
  obtain ⟨f1, f2, h1, h2, h3, h4, h5⟩ := h.find
  obtain ⟨k1, k2, k3, k4⟩ := h5 hne
  obtain ⟨qf, AP, cP, hqf, g1, g2, g3, g4, g5, g6, g7⟩ := g.1 rfl
  rw [k1] at hqf
  injection hqf with hqf
  subst hqf
  have g5 : s'.files = s.files := g5
  have g6 : s'.now = [(to.data.toList, f1.q)] := by rw [g6, if_neg hne]; exact k4
  have hd1 : ¬ to.data = fr.data := fun e => data_ne hne (by rw [e])
  refine ⟨g4.trans hm, ⟨f1.q, by rw [g6]; simp [dFind], ?_⟩, by rw [g6]; simp [dFind, hd1], ?_, ?_⟩
  · intro f hf e
    rw [g5, h1] at hf
    simp at hf
    rcases hf with rfl | rfl
    · exact h3
    · exact absurd e.symm h2
  · unfold sizeS
    rw [g6, g5, h1]
    simp [lenOf, h3]
  · intro f hf
    rw [g5, h1] at hf
    simp at hf
    rcases hf with rfl | rfl
    · rw [h3]; omega
    · rw [h4]; omega
end
theorem away_old {w : World} {A : Option Addr} {bs : List UInt8} {X : Nat → Prop} (h : Bytes w w.heap.size A bs) (hX : ∀ k, X k → w.heap.size ≤ k) : Away X A bs := by
  intro hne a ha hx
  obtain ⟨ad, b, h1, h2, _⟩ := h.at_ (k := 0) (by cases bs with | nil => exact absurd rfl hne | cons x r => simp)
  rw [ha] at h1
  injection h1 with h1
  subst h1
  have := hX _ hx
  omega
end Go.Proofs.Ytpakihbejdpmoaa
