/-
  A store in memory.
-/
import Derived.Test.YtpakihbejdpmoaaDir
import Derived.Test.YtpakihbejdpmoaaClone
import Derived.Lib.SmallJoins
namespace Go.Proofs.Ytpakihbejdpmoaa
open Go.RowKit
set_option linter.unusedVariables false

/-- A file: its block, its bytes, how many of them are synced. -/
structure Fi where
  q : Nat
  A : Option Addr
  c : Nat
  bs : List UInt8
  sure : Nat
/-- A change of the directory: a name for a file; a name is another one's; a name is gone. -/
inductive Chg where
  | put (nm : ByteArray) (q : Nat)
  | ren (a b : ByteArray) (q : Nat)
  | del (nm : ByteArray)
/-- A change kept: the boxes that its function holds. -/
structure Kp where
  b1 : Nat
  b2 : Nat
  b3 : Nat
  ch : Chg
def Kp.v (p : Kp) : Value := match p.ch with
  | .put _ _ => .func (.func 41) #[] #[.pointer (some ⟨p.b1, 0, none⟩), .pointer (some ⟨p.b2, 0, none⟩)]
  | .ren _ _ _ => .func (.func 46) #[] #[.pointer (some ⟨p.b1, 0, none⟩), .pointer (some ⟨p.b2, 0, none⟩), .pointer (some ⟨p.b3, 0, none⟩)]
  | .del _ => .func (.func 56) #[] #[.pointer (some ⟨p.b1, 0, none⟩)]
def BxS (b : Nat) (s : ByteArray) (w : World) : Prop := w.heap[b]? = some (.cells #[.string s] 9 (0, 0))
def BxP (b q : Nat) (w : World) : Prop := w.heap[b]? = some (.cells #[.pointer (some ⟨q, 0, none⟩)] 68 (0, 0))
def Kp.Ok (p : Kp) (w : World) : Prop := match p.ch with
  | .put nm q => BxP p.b1 q w ∧ BxS p.b2 nm w
  | .ren a b q => BxS p.b1 a w ∧ BxP p.b2 q w ∧ BxS p.b3 b w
  | .del nm => BxS p.b1 nm w
def Kp.box (p : Kp) (k : Nat) : Prop := match p.ch with
  | .put _ _ => k = p.b1 ∨ k = p.b2
  | .ren _ _ _ => k = p.b1 ∨ k = p.b2 ∨ k = p.b3
  | .del _ => k = p.b1
/-- The file of a change is among files. -/
def Chg.among (c : Chg) (files : List Fi) : Prop := match c with
  | .put _ q => ∃ f ∈ files, f.q = q
  | .ren _ _ q => ∃ f ∈ files, f.q = q
  | .del _ => True
/-- A store: its room; the directory as it is now and as it was synced, with their blocks; the changes kept; the plan; is the power off; all files. -/
structure SS where
  room : Int
  bn : Nat
  bd : Nat
  now : Dir
  disk : Dir
  AK : Option Addr
  cK : Nat
  kept : List Kp
  AP : Option Addr
  cP : Nat
  plan : List UInt8
  off : Bool
  files : List Fi

/-- What kind of block. -/
def Kb (w : World) (k : Nat) (t : TypeId) : Prop := ∃ cs fr, w.heap[k]? = some (.cells cs t fr)
def Km (w : World) (k : Nat) : Prop := ∃ es clock, w.heap[k]? = some (.map es clock)
theorem Kb.ne {w : World} {k j : Nat} {t u : TypeId} (h : Kb w k t) (g : Kb w j u) (hne : t ≠ u) : k ≠ j := by
  rintro rfl
  obtain ⟨cs, fr, h⟩ := h
  obtain ⟨cs2, fr2, g⟩ := g
  rw [h] at g
  injection g with g
  injection g with _ g
  exact hne g
theorem Kb.nem {w : World} {k j : Nat} {t : TypeId} (h : Kb w k t) (g : Km w j) : k ≠ j := by
  rintro rfl
  obtain ⟨cs, fr, h⟩ := h
  obtain ⟨es, c, g⟩ := g
  rw [h] at g
  cases g
theorem Kb.lt {w : World} {k : Nat} {t : TypeId} (h : Kb w k t) : k < w.heap.size := by
  obtain ⟨cs, fr, h⟩ := h
  exact (Array.getElem?_eq_some_iff.1 h).1
theorem Km.lt {w : World} {k : Nat} (h : Km w k) : k < w.heap.size := by
  obtain ⟨cs, fr, h⟩ := h
  exact (Array.getElem?_eq_some_iff.1 h).1
theorem Kb.of_row {w : World} {base size n m c : Nat} {e : TypeId} {A : Option Addr} {xs : List Value} (h : w.ownsRow base e size (.slice A n c) m xs) {k : Nat} (hk : InRow A k) : Kb w k e := by
  rcases h.2 with ⟨h1, _⟩ | ⟨g, cap, cur, e1, _, h3, _⟩
  · injection h1 with h1
    subst h1
    unfold InRow at hk
    simp at hk
  · injection e1 with e1
    subst e1
    unfold InRow at hk
    injection hk with hk
    subst hk
    exact ⟨_, _, h3⟩
theorem Kb.kept {S : Nat → Prop} {w w' : World} {k : Nat} {t : TypeId} (h : Kb w k t) (hk : Kept S w w') (hs : ¬ S k) : Kb w' k t := by
  have hlt := h.lt
  obtain ⟨cs, fr, h⟩ := h
  exact ⟨cs, fr, (hk.block k hlt hs).trans h⟩
def OwnsDir (w : World) (b : Nat) (l : Dir) : Prop := w.ownsMap Try.prog 9 ptrR b l.length (dirD l)
theorem OwnsDir.of {w : World} {b n : Nat} {l : Dir} (h : w.ownsMap Try.prog 9 ptrR b n (dirD l)) : OwnsDir w b l := by
  obtain ⟨es, clock, hb, F, hs, hD⟩ := h
  refine ⟨es, clock, hb, F, ?_, hD⟩
  have := congrArg Maps.size hD
  rw [dirD_size, Maps.size_eq, length_sorted, List.length_map] at this
  rw [this]
  simp
theorem Km.of_dir {w : World} {b : Nat} {l : Dir} (h : OwnsDir w b l) : Km w b := by
  obtain ⟨es, clock, hb, _⟩ := h
  exact ⟨es, clock, hb⟩
theorem dir_kept {S : Nat → Prop} {w w' : World} {b : Nat} {l : Dir} (h : OwnsDir w b l) (hk : Kept S w w') (hs : ¬ S b) : OwnsDir w' b l := by
  have hlt := (Km.of_dir h).lt
  obtain ⟨es, clock, hb, h⟩ := h
  exact ⟨es, clock, (hk.block b hlt hs).trans hb, h⟩

/-- The store's box. -/
def StB (q : Nat) (s : SS) (w : World) : Prop := w.heap[q]? = some (.cells #[.int .i64 s.room, .map (some s.bn), .map (some s.bd), .slice s.AK s.kept.length s.cK, .slice s.AP s.plan.length s.cP, .bool s.off] 58 (0, 0))
/-- A file's box. -/
def FiB (f : Fi) (w : World) : Prop := w.heap[f.q]? = some (.cells #[.slice f.A f.bs.length f.c, .int .i64 (f.sure : Int)] 71 (0, 0))
/-- The blocks of a store. -/
def SS.own (q : Nat) (s : SS) (k : Nat) : Prop := k = q ∨ k = s.bn ∨ k = s.bd ∨ InRow s.AK k ∨ InRow s.AP k ∨ (∃ f ∈ s.files, k = f.q ∨ InRow f.A k) ∨ ∃ p ∈ s.kept, p.box k
structure Sm (q : Nat) (s : SS) (w : World) : Prop where
  box : StB q s w
  mnow : OwnsDir w s.bn s.now
  mdisk : OwnsDir w s.bd s.disk
  ne : s.bn ≠ s.bd
  row : w.ownsRow 0 73 1 (.slice s.AK s.kept.length s.cK) s.kept.length (s.kept.map Kp.v)
  plan : Bytes w w.heap.size s.AP s.plan
  pcap : s.plan.length ≤ s.cP
  planK : ∀ k, InRow s.AP k → Kb w k 5
  fbox : ∀ f ∈ s.files, FiB f w
  frow : ∀ f ∈ s.files, OwnB w 0 5 f.A f.c f.bs
  fsure : ∀ f ∈ s.files, f.sure ≤ f.bs.length
  fap : s.files.Pairwise fun f g => f.q ≠ g.q ∧ Apart f.A g.A
  fplan : ∀ f ∈ s.files, ∀ k, InRow s.AP k → ¬ InRow f.A k
  nnow : ∀ e ∈ s.now, ∃ f ∈ s.files, f.q = e.2
  ndisk : ∀ e ∈ s.disk, ∃ f ∈ s.files, f.q = e.2
  kp : ∀ p ∈ s.kept, p.Ok w ∧ p.ch.among s.files

theorem BxS.kept {S : Nat → Prop} {b : Nat} {s : ByteArray} {w w' : World} (h : BxS b s w) (hk : Kept S w w') (hs : ¬ S b) : BxS b s w' := (hk.block b (Array.getElem?_eq_some_iff.1 h).1 hs).trans h
theorem BxP.kept {S : Nat → Prop} {b q : Nat} {w w' : World} (h : BxP b q w) (hk : Kept S w w') (hs : ¬ S b) : BxP b q w' := (hk.block b (Array.getElem?_eq_some_iff.1 h).1 hs).trans h
theorem Kp.Ok.kept {S : Nat → Prop} {p : Kp} {w w' : World} (h : p.Ok w) (hk : Kept S w w') (hs : ∀ k, p.box k → ¬ S k) : p.Ok w' := by
  unfold Kp.Ok at h ⊢
  unfold Kp.box at hs
  cases hc : p.ch with
  | put nm q => rw [hc] at h hs; exact ⟨h.1.kept hk (hs _ (.inl rfl)), h.2.kept hk (hs _ (.inr rfl))⟩
  | ren a b q => rw [hc] at h hs; exact ⟨h.1.kept hk (hs _ (.inl rfl)), h.2.1.kept hk (hs _ (.inr (.inl rfl))), h.2.2.kept hk (hs _ (.inr (.inr rfl)))⟩
  | del nm => rw [hc] at h hs; exact BxS.kept h hk (hs _ rfl)
/-- Of which kind a box is. -/
theorem Kp.Ok.kind {p : Kp} {w : World} (h : p.Ok w) {k : Nat} (hk : p.box k) : Kb w k 9 ∨ Kb w k 68 := by
  unfold Kp.Ok at h
  unfold Kp.box at hk
  cases hc : p.ch with
  | put nm q =>
    rw [hc] at h hk
    rcases hk with rfl | rfl
    · exact .inr ⟨_, _, h.1⟩
    · exact .inl ⟨_, _, h.2⟩
  | ren a b q =>
    rw [hc] at h hk
    rcases hk with rfl | rfl | rfl
    · exact .inl ⟨_, _, h.1⟩
    · exact .inr ⟨_, _, h.2.1⟩
    · exact .inl ⟨_, _, h.2.2⟩
  | del nm =>
    rw [hc] at h hk
    have hk : k = p.b1 := hk
    subst hk
    exact .inl ⟨_, _, h⟩
theorem Kp.Ok.lt {p : Kp} {w : World} (h : p.Ok w) {k : Nat} (hk : p.box k) : k < w.heap.size := by
  rcases h.kind hk with h | h
  · exact h.lt
  · exact h.lt
theorem Kp.Ok.ne {p : Kp} {w : World} (h : p.Ok w) {k j : Nat} (hk : p.box k) {t : TypeId} (hj : Kb w j t) (h1 : 9 ≠ t) (h2 : 68 ≠ t) : k ≠ j := by
  rcases h.kind hk with h | h
  · exact h.ne hj h1
  · exact h.ne hj h2
theorem Kp.Ok.nem {p : Kp} {w : World} (h : p.Ok w) {k j : Nat} (hk : p.box k) (hj : Km w j) : k ≠ j := by
  rcases h.kind hk with h | h
  · exact h.nem hj
  · exact h.nem hj

section
variable {q : Nat} {s : SS} {w w' : World} {S : Nat → Prop}
theorem Sm.kq (h : Sm q s w) : Kb w q 58 := ⟨_, _, h.box⟩
theorem Sm.kn (h : Sm q s w) : Km w s.bn := Km.of_dir h.mnow
theorem Sm.kd (h : Sm q s w) : Km w s.bd := Km.of_dir h.mdisk
theorem Sm.kk (h : Sm q s w) {k : Nat} (hk : InRow s.AK k) : Kb w k 73 := Kb.of_row h.row hk
theorem Sm.kf (h : Sm q s w) {f : Fi} (hf : f ∈ s.files) : Kb w f.q 71 := ⟨_, _, h.fbox f hf⟩
theorem Sm.kr (h : Sm q s w) {f : Fi} (hf : f ∈ s.files) {k : Nat} (hk : InRow f.A k) : Kb w k 5 := Kb.of_row (h.frow f hf) hk
theorem Sm.lt (h : Sm q s w) {k : Nat} (hk : s.own q k) : k < w.heap.size := by
  rcases hk with rfl | rfl | rfl | hk | hk | ⟨f, hf, rfl | hk⟩ | ⟨p, hp, hk⟩
  · exact h.kq.lt
  · exact h.kn.lt
  · exact h.kd.lt
  · exact (h.kk hk).lt
  · exact (h.planK k hk).lt
  · exact (h.kf hf).lt
  · exact (h.kr hf hk).lt
  · exact (h.kp p hp).1.lt hk
/-- Where none of its blocks turns. -/
theorem Sm.stay (h : Sm q s w) (hk : Kept S w w') (hs : ∀ k, S k → ¬ s.own q k) : Sm q s w' := by
  have ns : ∀ k, s.own q k → ¬ S k := fun k h1 h2 => hs k h2 h1
  refine ⟨(hk.block q h.kq.lt (ns q (.inl rfl))).trans h.box, dir_kept h.mnow hk (ns _ (.inr (.inl rfl))), dir_kept h.mdisk hk (ns _ (.inr (.inr (.inl rfl)))), h.ne,
    hk.own h.row (fun k hk => ns k (.inr (.inr (.inr (.inl hk))))), (hk.bytes h.plan (Nat.le_refl _) ?_).more hk.size, h.pcap, fun k hk' => (h.planK k hk').kept hk (ns k (.inr (.inr (.inr (.inr (.inl hk')))))),
    fun f hf => (hk.block f.q (h.kf hf).lt (ns _ (.inr (.inr (.inr (.inr (.inr (.inl ⟨f, hf, .inl rfl⟩)))))))).trans (h.fbox f hf), fun f hf => hk.own (h.frow f hf) (fun k hk => ns k (.inr (.inr (.inr (.inr (.inr (.inl ⟨f, hf, .inr hk⟩))))))),
    h.fsure, h.fap, h.fplan, h.nnow, h.ndisk, fun p hp => ⟨(h.kp p hp).1.kept hk (fun k hb => ns k (.inr (.inr (.inr (.inr (.inr (.inr ⟨p, hp, hb⟩))))))), (h.kp p hp).2⟩⟩
  intro _ a ha hsa
  exact ns a.block (.inr (.inr (.inr (.inr (.inl (by unfold InRow; rw [ha]; rfl)))))) hsa
theorem Sm.call (h : Sm q s w) (hb : Below w.heap.size w w') : Sm q s w' := h.stay (S := fun _ => False) (Kept.of_below hb) (fun _ h => h.elim)
/-- What an operation does: it turns blocks of the store alone, and those that it has behind it are its own or new. -/
structure Did (q : Nat) (s : SS) (w : World) (s' : SS) (w' : World) : Prop where
  sm : Sm q s' w'
  kept : Kept (s.own q) w w'
  own : ∀ k, s'.own q k → s.own q k ∨ w.heap.size ≤ k
theorem Did.refl (h : Sm q s w) : Did q s w s w := ⟨h, Kept.refl _, fun _ h => .inl h⟩
theorem Did.trans {s1 s2 : SS} {w1 w2 : World} (h : Did q s w s1 w1) (g : Did q s1 w1 s2 w2) : Did q s w s2 w2 :=
  ⟨g.sm, ⟨g.kept.os.trans h.kept.os, g.kept.tape.trans h.kept.tape, g.kept.output.trans h.kept.output, Nat.le_trans h.kept.size g.kept.size, fun k hk hs => (g.kept.block k (Nat.lt_of_lt_of_le hk h.kept.size) (fun e => by
      rcases h.own k e with h1 | h1
      · exact hs h1
      · omega)).trans (h.kept.block k hk hs)⟩, fun k hk => by
    rcases g.own k hk with h1 | h1
    · exact h.own k h1
    · exact .inr (Nat.le_trans h.kept.size h1)⟩
theorem Did.call (h : Sm q s w) (hb : Below w.heap.size w w') : Did q s w s w' := ⟨h.call hb, Kept.of_below hb, fun _ h => .inl h⟩
/-- Behind it what lies below a bound that all its blocks are above. -/
theorem Did.below {s' : SS} {B : Nat} (h : Did q s w s' w') (hB : ∀ k, s.own q k → B ≤ k) (hBw : B ≤ w.heap.size) : Below B w w' ∧ ∀ k, s'.own q k → B ≤ k :=
  ⟨h.kept.below hB hBw, fun k hk => by
    rcases h.own k hk with h1 | h1
    · exact hB k h1
    · omega⟩
end
end Go.Proofs.Ytpakihbejdpmoaa
