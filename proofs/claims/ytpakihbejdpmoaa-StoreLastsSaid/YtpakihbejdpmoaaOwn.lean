/-
  append onto a slice of the call's own, the source a slice that reads as a list (nil or not).
-/
import Derived.Test.YtpakihbejdpmoaaBase
import Derived.Maps.AppendAt
import Derived.OwnWalk
namespace Go.Proofs.Ytpakihbejdpmoaa
open Go.RowKit
set_option linter.unusedVariables false

section
variable {P : Program}

theorem run_append_row (w : World) (base : Nat) (t ty e : TypeId) (i : TypeInfo) (z : Value) (size bytes : Nat) (ht : P.underlying t = some (.slice e)) (hi : P.info? e = some i) (hz : i.zero = some z)
    (hsize : i.size = size) (hby : i.bytes = bytes) (hzs : z.cells.size = size) (hsz : 0 < size) (v : Value) (n : Nat) (xs : List Value) (hown : w.ownsRow base e size v n xs)
    (B : Nat) (A : Option Addr) (m c : Nat) (news : List Value) (hl : news.length = m * size) (hr : Row w B A news) (h1 : ∀ u ∈ news, u.oneCell' = true)
    (h63 : n + m ≤ maxLen) (hbytes : (n + m) * bytes ≤ 140737488355328) (hbase : base ≤ w.heap.size) :
    ∃ v' w', (Builtin.append_ #[t, t] ty #[v, .slice A m c]).run P w = .ok v' w' ∧ w'.ownsRow base e size v' (n + m) (xs ++ news) ∧ w.grownBy w' v.ownBlock ∧
      (v'.ownBlock = v.ownBlock ∨ v'.ownBlock = some w.heap.size) := by
  cases A with
  | none =>
    have hn := hr.eq_nil_of_none
    subst hn
    have hm : m = 0 := by
      rcases Nat.eq_zero_or_pos m with h | h
      · exact h
      · have := Nat.mul_pos h hsz; simp at hl; omega
    subst hm
    refine ⟨v, w, ?_, by simpa using hown, World.grownBy.refl w _, .inl rfl⟩
    rcases hown.2 with ⟨rfl, rfl⟩ | ⟨g, cap, cur, rfl, _, _, hnc, _⟩
    · simp [Builtin.append_, run_underlying ht, sizeOf, typeInfo, hi, Builtin.lenOf, Builtin.firstCells]
    · simp [Builtin.append_, run_underlying ht, sizeOf, typeInfo, hi, Builtin.lenOf, Builtin.firstCells, hnc, storeCells]
  | some ad =>
    have hcells : ∀ j u, news[j]? = some u → w.cell? (ad.add j) = some u := by
      intro j u hj
      obtain ⟨ad', h, _, hc⟩ := hr j u hj
      injection h with h
      subst h
      exact hc
    obtain ⟨v', w', h2, h3, h4, _, h6⟩ := run_append_own_at (P := P) w base t ty e i z size bytes ht hi hz hsize hby hzs hsz v n xs hown ad m c news hl hcells h1 h63 hbytes hbase
    exact ⟨v', w', h2, h3, h4, h6⟩

theorem own_shape {w : World} {base : Nat} {e : TypeId} {size : Nat} {v : Value} {n : Nat} {xs : List Value} (h : w.ownsRow base e size v n xs) : ∃ A c, v = .slice A n c ∧ n ≤ c ∧ c ≤ maxLen := by
  rcases h.2 with ⟨rfl, rfl⟩ | ⟨g, cap, cur, rfl, _, _, hnc, hcm, _⟩
  · exact ⟨none, 0, rfl, Nat.le_refl _, by unfold maxLen; omega⟩
  · exact ⟨_, cap, rfl, hnc, hcm⟩

/-- Where an own row lies. -/
def OwnAt (A A' : Option Addr) (size : Nat) : Prop := A'.map (·.block) = A.map (·.block) ∨ A'.map (·.block) = some size

theorem ownBlock_slice (A : Option Addr) (n c : Nat) : (Value.slice A n c).ownBlock = A.map (·.block) := by cases A <;> rfl

theorem wpList_append_row (w : World) {ops : Array Oper} {rest : List Oper} {o : Oper} {a : Act} {Q : Exit → Act → World → Prop} (hgd : o.guard = none) (s x : Operand) (t : TypeId)
    (ho : o.op = .call { callee := .builtin .append, args := #[s, x], argTypes := #[t, t] })
    (base : Nat) (e : TypeId) (i : TypeInfo) (z : Value) (size bytes : Nat) (ht : P.underlying t = some (.slice e)) (hi : P.info? e = some i) (hz : i.zero = some z)
    (hsize : i.size = size) (hby : i.bytes = bytes) (hzs : z.cells.size = size) (hsz : 0 < size)
    (v : Value) (n : Nat) (xs : List Value) (hs : a.eval s = v) (hown : w.ownsRow base e size v n xs)
    (B : Nat) (A : Option Addr) (m c : Nat) (news : List Value) (hx : a.eval x = .slice A m c) (hl : news.length = m * size) (hr : Row w B A news) (h1 : ∀ u ∈ news, u.oneCell' = true)
    (h63 : n + m ≤ maxLen) (hbytes : (n + m) * bytes ≤ 140737488355328) (hbase : base ≤ w.heap.size)
    (h : ∀ (n' : Nat) (xs' : List Value) (A' : Option Addr) (c' : Nat) (w' : World), Hid (n' = n + m) → Hid (xs' = xs ++ news) → n' ≤ c' → c' ≤ maxLen → w'.ownsRow base e size (.slice A' n' c') n' xs' → w.grownBy w' v.ownBlock →
      (A'.map (·.block) = v.ownBlock ∨ A'.map (·.block) = some w.heap.size) → wpList P ops Q rest (a.put o.dst (.slice A' n' c')) w') : wpList P ops Q (o :: rest) a w := by
  refine wpList_plain hgd fun K hK => ?_
  obtain ⟨v', w', hrun, h2, h3, h4⟩ := run_append_row (P := P) w base t o.type e i z size bytes ht hi hz hsize hby hzs hsz v n xs hown B A m c news hl hr h1 h63 hbytes hbase
  obtain ⟨A', c', rfl, hc1, hc2⟩ := own_shape h2
  rw [ownBlock_slice] at h4
  unfold Oper.wp execOp
  simp only [ho, resolve, invoke, builtin, Sem.run_bind, Sem.run_pure, Result.andThen_ok, List.map_toArray, List.map_cons, List.map_nil, hs, hx, hrun]
  exact hK _ _ (h _ _ A' c' w' rfl rfl hc1 hc2 h2 h3 h4)

/-- The same, for a walk. -/
theorem wpList_append_own (w : World) {ops : Array Oper} {rest : List Oper} {o : Oper} {a : Act} {Q : Exit → Act → World → Prop} (hgd : o.guard = none) (s x : Operand) (t : TypeId)
    (ho : o.op = .call { callee := .builtin .append, args := #[s, x], argTypes := #[t, t] })
    (base : Nat) (e : TypeId) (i : TypeInfo) (z : Value) (size bytes : Nat) (ht : P.underlying t = some (.slice e)) (hi : P.info? e = some i) (hz : i.zero = some z)
    (hsize : i.size = size) (hby : i.bytes = bytes) (hzs : z.cells.size = size) (hsz : 0 < size)
    (A0 : Option Addr) (n c0 : Nat) (xs : List Value) (hs : a.eval s = .slice A0 n c0) (hown : w.ownsRow base e size (.slice A0 n c0) n xs)
    (B : Nat) (A : Option Addr) (m c : Nat) (news : List Value) (hx : a.eval x = .slice A m c) (hl : news.length = m * size) (hr : Row w B A news) (h1 : ∀ u ∈ news, u.oneCell' = true)
    (h63 : n + m ≤ maxLen) (hbytes : (n + m) * bytes ≤ 140737488355328) (hbase : base ≤ w.heap.size)
    (h : ∀ (n' : Nat) (xs' : List Value) (A' : Option Addr) (c' : Nat) (w' : World), Hid (n' = n + m) → Hid (xs' = xs ++ news) → n' ≤ c' → c' ≤ maxLen → w'.ownsRow base e size (.slice A' n' c') n' xs' → w.grownBy w' (A0.map (·.block)) →
      (A'.map (·.block) = A0.map (·.block) ∨ A'.map (·.block) = some w.heap.size) → wpList P ops Q rest (a.put o.dst (.slice A' n' c')) w') : wpList P ops Q (o :: rest) a w :=
  wpList_append_row w hgd s x t ho base e i z size bytes ht hi hz hsize hby hzs hsz _ n xs hs hown B A m c news hx hl hr h1 h63 hbytes hbase
    fun n' xs' A' c' w' q1 q2 q3 q4 q5 q6 q7 => h n' xs' A' c' w' q1 q2 q3 q4 q5 (by rw [ownBlock_slice] at q6; exact q6) (by rw [ownBlock_slice] at q7; exact q7)

/-- A slice of bytes of the call's own. -/
def OwnB (w : World) (base : Nat) (e : TypeId) (A : Option Addr) (c : Nat) (bs : List UInt8) : Prop := w.ownsRow base e 1 (.slice A bs.length c) bs.length (bs.map byv)

theorem OwnB.bytes {w : World} {base : Nat} {e : TypeId} {A : Option Addr} {c : Nat} {bs : List UInt8} (h : OwnB w base e A c bs) : Bytes w w.heap.size A bs := Bytes.of_own h

theorem byv_one (bs : List UInt8) : ∀ u ∈ bs.map byv, u.oneCell' = true := by
  intro u hu
  obtain ⟨b, _, rfl⟩ := List.mem_map.1 hu
  rfl

theorem OwnB.nil (w : World) (base : Nat) (e : TypeId) : OwnB w base e none 0 [] := World.ownsRow_nil w base e 1

theorem OwnB.lit (w : World) {base : Nat} (e : TypeId) (bs : List UInt8) (hb : base ≤ w.heap.size) (hl : bs.length ≤ maxLen) : OwnB (w.alloc (.cells (bs.map byv).toArray e)) base e (some ⟨w.heap.size, 0, none⟩) bs.length bs := by
  have := World.ownsRow_lit (base := base) (e := e) (size := 1) w (bs.map byv).toArray bs.length hb hl (by simp)
  simpa [OwnB] using this

theorem OwnB.kept {w w' : World} {base : Nat} {e : TypeId} {A : Option Addr} {c : Nat} {bs : List UInt8} {row : Option Nat} (h : OwnB w base e A c bs) (hg : w.grownBy w' row) (hne : A.map (·.block) = none ∨ A.map (·.block) ≠ row) : OwnB w' base e A c bs :=
  World.ownsRow.kept h hg (by rw [ownBlock_slice]; exact hne)
theorem OwnB.alloc {w : World} {base : Nat} {e : TypeId} {A : Option Addr} {c : Nat} {bs : List UInt8} (h : OwnB w base e A c bs) (o : Obj) : OwnB (w.alloc o) base e A c bs := World.ownsRow.alloc h o
theorem OwnB.lt {w : World} {base : Nat} {e : TypeId} {A : Option Addr} {c : Nat} {bs : List UInt8} (h : OwnB w base e A c bs) {k : Nat} (hk : A.map (·.block) = some k) : base ≤ k ∧ k < w.heap.size :=
  World.ownsRow.lt h k (by rw [ownBlock_slice]; exact hk)
theorem OwnB.more {w : World} {base base' : Nat} {e : TypeId} {A : Option Addr} {c : Nat} {bs : List UInt8} (h : OwnB w base e A c bs) (hb : base' ≤ base) : OwnB w base' e A c bs := by
  refine ⟨h.1, ?_⟩
  rcases h.2 with h' | ⟨g, cap, cur, h1, h2, h3⟩
  · exact .inl h'
  · exact .inr ⟨g, cap, cur, h1, Nat.le_trans hb h2, h3⟩
theorem OwnB.below {w w' : World} {base B : Nat} {e : TypeId} {A : Option Addr} {c : Nat} {bs : List UInt8} (h : OwnB w base e A c bs) (hb : Below B w w') (hB : w.heap.size ≤ B) : OwnB w' base e A c bs := by
  refine World.ownsRow.kept h (row := none) ⟨hb.os, hb.tape, hb.output, hb.size, fun k hk _ => hb.block k (Nat.lt_of_lt_of_le hk hB)⟩ ?_
  rw [ownBlock_slice]
  cases A with
  | none => exact .inl rfl
  | some a => exact .inr (by simp)

theorem OwnB.below_grown {w0 w w' : World} {base B : Nat} {e : TypeId} {A : Option Addr} {c : Nat} {bs : List UInt8} (h : OwnB w base e A c bs) (hb : Below B w0 w) (hg : w.grownBy w' (A.map (·.block))) (hB : B ≤ base) (hB' : B ≤ w.heap.size) : Below B w0 w' :=
  hb.grown hg hB' (fun k hk => Nat.le_trans hB (h.lt hk).1)
theorem OwnB.le {w : World} {base : Nat} {e : TypeId} {A : Option Addr} {c : Nat} {bs : List UInt8} (h : OwnB w base e A c bs) : ∀ k, A.map (·.block) = some k → base ≤ k := fun k hk => (h.lt hk).1

/-- A cell of an own row, and a store into it. -/
theorem OwnB.form {w : World} {base : Nat} {e : TypeId} {A : Option Addr} {c : Nat} {bs : List UInt8} (h : OwnB w base e A c bs) (hn : 0 < bs.length) : ∃ g, A = some ⟨g, 0, none⟩ ∧ base ≤ g ∧ g < w.heap.size := by
  rcases h.2 with ⟨_, h0⟩ | ⟨g, cap, cur, hv, hb, hg, _⟩
  · omega
  · injection hv with hA
    refine ⟨g, hA, hb, ?_⟩
    rcases Nat.lt_or_ge g w.heap.size with hlt | hge
    · exact hlt
    · rw [Array.getElem?_eq_none hge] at hg; cases hg
theorem OwnB.cellAt {w : World} {base : Nat} {e : TypeId} {g : Nat} {c : Nat} {bs : List UInt8} (h : OwnB w base e (some ⟨g, 0, none⟩) c bs) {j : Nat} {b : UInt8} (hj : bs[j]? = some b) : w.cell? ⟨g, j, none⟩ = some (.int .u8 (b.toNat : Int)) := by
  have := World.ownsRow.cellAt h j (by have := lt_of_some hj; omega)
  rw [this, List.getElem?_map, hj]
  rfl
theorem OwnB.frozenAt {w : World} {base : Nat} {e : TypeId} {g : Nat} {c : Nat} {bs : List UInt8} (h : OwnB w base e (some ⟨g, 0, none⟩) c bs) (j : Nat) : w.frozen? ⟨g, j, none⟩ = false := World.ownsRow.frozenAt h j
theorem OwnB.stored {w : World} {base : Nat} {e : TypeId} {g : Nat} {c : Nat} {bs : List UInt8} (h : OwnB w base e (some ⟨g, 0, none⟩) c bs) (j : Nat) (b : UInt8) : OwnB (w.setCell ⟨g, j, none⟩ (.int .u8 (b.toNat : Int))) base e (some ⟨g, 0, none⟩) c (bs.set j b) := by
  have := (World.ownsRow.stored h j (.int .u8 (b.toNat : Int))).1
  unfold OwnB
  rw [List.length_set, List.map_set]
  exact this

/-- Behind an append onto a row of the call's own nothing below base has turned. -/
theorem below_own {w0 w w' : World} {B base : Nat} {e : TypeId} {size n : Nat} {v : Value} {xs : List Value} (h : Below B w0 w) (hown : w.ownsRow base e size v n xs) (hg : w.grownBy w' v.ownBlock) (hB : B ≤ base) (hB' : B ≤ w.heap.size) : Below B w0 w' :=
  h.grown hg hB' (fun k hk => Nat.le_trans hB (hown.lt k hk).1)

theorem wpList_append_bytes (w : World) {ops : Array Oper} {rest : List Oper} {o : Oper} {a : Act} {Q : Exit → Act → World → Prop} (hgd : o.guard = none) (s x : Operand) (t : TypeId)
    (ho : o.op = .call { callee := .builtin .append, args := #[s, x], argTypes := #[t, t] })
    (base : Nat) (e : TypeId) (ht : P.underlying t = some (.slice e)) (hinf : (P.info? e).map (fun i => (i.zero, i.size, i.bytes)) = some (some (.int .u8 0), 1, 1))
    (A0 : Option Addr) (n0 c0 : Nat) (bs : List UInt8) (hs : a.eval s = .slice A0 n0 c0) (hn0 : n0 = bs.length) (hown : OwnB w base e A0 c0 bs)
    (B : Nat) (A : Option Addr) (m c : Nat) (cs : List UInt8) (hx : a.eval x = .slice A m c) (hm : m = cs.length) (hr : Bytes w B A cs)
    (hbytes : bs.length + cs.length ≤ 140737488355328) (hbase : base ≤ w.heap.size)
    (h : ∀ (ds : List UInt8) (A' : Option Addr) (c' : Nat) (w' : World), Hid (ds = bs ++ cs) → ds.length ≤ 140737488355328 → OwnB w' base e A' c' ds → w.grownBy w' (A0.map (·.block)) →
      (A'.map (·.block) = A0.map (·.block) ∨ A'.map (·.block) = some w.heap.size) → wpList P ops Q rest (a.put o.dst (.slice A' ds.length c')) w') : wpList P ops Q (o :: rest) a w := by
  obtain ⟨i, hi, hz, hsz, hby⟩ := info_parts hinf
  subst hn0 hm
  refine wpList_append_row w hgd s x t ho base e i _ 1 1 ht hi hz hsz hby rfl (by omega) _ bs.length (bs.map byv) hs hown B A cs.length c (cs.map byv) hx (by simp) hr (byv_one cs)
    (by unfold maxLen; omega) (by omega) hbase ?_
  intro n' xs' A' c' w' hn' hxs' hc1 hc2 hown' hg hat
  have e1 : n' = (bs ++ cs).length := by rw [hn'.out, List.length_append]
  have e2 : xs' = (bs ++ cs).map byv := by rw [hxs'.out, List.map_append]
  subst e1 e2
  rw [ownBlock_slice] at hg hat
  exact h _ A' c' w' rfl (by rw [List.length_append]; omega) hown' hg hat
end

theorem info_u8 : (Try.prog.info? 5).map (fun i => (i.zero, i.size, i.bytes)) = some (some (.int .u8 0), 1, 1) := by kernel_rfl
end Go.Proofs.Ytpakihbejdpmoaa
