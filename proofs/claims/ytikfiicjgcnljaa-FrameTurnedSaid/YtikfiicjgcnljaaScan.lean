/-
  frame.Scan: what it does.
-/
import Derived.Test.YtikfiicjgcnljaaFrames
import Derived.Test.YtikfiicjgcnljaaRange
namespace Go.Proofs.Ytikfiicjgcnljaa
open Go.RowKit Go.Shelf
set_option linter.unusedVariables false
attribute [local go_sem] Oper.semAt_some

theorem wpListIn_append_row {F : Fence} {n : Nat} {P : Program} (w : World) {ops : Array Oper} {rest : List Oper} {o : Oper} {a : Act} {Q : Exit → Act → World → Prop} (hgd : o.guard = none) (s x : Operand) (t : TypeId)
    (ho : o.op = .call { callee := .builtin .append, args := #[s, x], argTypes := #[t, t] })
    (base : Nat) (e : TypeId) (i : TypeInfo) (z : Value) (size bytes : Nat) (ht : P.underlying t = some (.slice e)) (hi : P.info? e = some i) (hz : i.zero = some z)
    (hsize : i.size = size) (hby : i.bytes = bytes) (hzs : z.cells.size = size) (hsz : 0 < size)
    (A0 : Option Addr) (n0 c0 : Nat) (xs : List Value) (hs : a.eval s = .slice A0 n0 c0) (hown : w.ownsRow base e size (.slice A0 n0 c0) n0 xs)
    (B : Nat) (A : Option Addr) (m c : Nat) (news : List Value) (hx : a.eval x = .slice A m c) (hl : news.length = m * size) (hr : Row w B A news) (h1 : ∀ u ∈ news, u.oneCell' = true)
    (h63 : n0 + m ≤ maxLen) (hbytes : (n0 + m) * bytes ≤ 140737488355328) (hbase : base ≤ w.heap.size)
    (h : ∀ (A' : Option Addr) (c' : Nat) (w' : World), w'.ownsRow base e size (.slice A' (n0 + m) c') (n0 + m) (xs ++ news) → w.grownBy w' (A0.map (·.block)) →
      (A'.map (·.block) = A0.map (·.block) ∨ A'.map (·.block) = some w.heap.size) → wpListIn F n P ops Q rest (a.put o.dst (.slice A' (n0 + m) c')) w') : wpListIn F n P ops Q (o :: rest) a w := by
  refine wpListIn_plain hgd fun K hK => ?_
  obtain ⟨v', w', hrun, h2, h3, h4⟩ := run_append_row (P := P) w base t o.type e i z size bytes ht hi hz hsize hby hzs hsz _ n0 xs hown B A m c news hl hr h1 h63 hbytes hbase
  obtain ⟨A', c', rfl, hc1, hc2⟩ := own_shape h2
  rw [ownBlock_slice] at h3
  rw [ownBlock_slice, ownBlock_slice] at h4
  unfold Oper.wpIn
  refine ⟨by simp [Oper.about, ho, resolve, Target.leads, Sem.run_pure], ?_⟩
  rw [Oper.semAt_plain F _ _ (by rw [ho]; intro c hc'; cases hc')]
  simp [execOp, ho, resolve, invoke, builtin, hs, hx, hrun, Result.andThen]
  exact hK _ _ (h A' c' w' h2 h3 h4)

theorem frames_in (n : Nat) (A : Option Addr) (l c : Nat) (w : World) :
    CallsIn Fence.wide n Try.prog 24 #[.slice A l c] w fun e w' => e = .returned (.func (.func 34) #[] #[.pointer (some ⟨w.heap.size, 0, none⟩)]) ∧ w' = w.alloc (.cells #[.slice A l c] 22) := by
  refine callsIn_of_wp Try.func24 rfl trivial ?_ rfl
  simp only [Try.ntmps24, List.size_toArray, List.length_cons, List.length_nil, Nat.reduceAdd, Nat.reduceSub, Array.replicate_succ, Array.replicate_zero, List.push_toArray, List.append_toArray, List.nil_append, List.cons_append]
  gi_wp2
  go_ret
  exact ⟨rfl, rfl⟩

theorem info_frame : (Try.prog.info? 29).map (fun i => (i.zero, i.size, i.bytes)) = some (some (.agg #[.int .u8 0, .slice none 0 0]), 2, 32) := by kernel_rfl

/-- What holds between two rounds. -/
def ScanJ (rec : LoopState → Option Code → Loop) (w : World) (l : List Fr) (A : Option Addr) (b : Nat) (W : World) : Prop :=
  ∃ c, Boxed W w.heap.size 36 (.slice A l.length c) ∧ Boxed W (w.heap.size + 1) 3 (.int .i64 (b : Int)) ∧ W.ownsRow (w.heap.size + 5) 29 2 (.slice A l.length c) l.length (l.flatMap Fr.cells) ∧
    Bodies (fun k => InRow A k ∨ (w.heap.size ≤ k ∧ k < w.heap.size + 5)) W l ∧ W.heap[w.heap.size + 4]? = some (.loop (rec .ready none)) ∧ W.heap[w.heap.size + 3]? = some (.deferred (some [])) ∧ Below w.heap.size w W ∧ w.heap.size + 5 ≤ W.heap.size

theorem ScanJ.grown {rec : LoopState → Option Code → Loop} {w : World} {l : List Fr} {A : Option Addr} {b : Nat} {W W' : World} {row : Option Nat} (h : ScanJ rec w l A b W) (hg : W.grownBy W' row) (hrow : ∀ r, row = some r → r = w.heap.size + 2) : ScanJ rec w l A b W' := by
  obtain ⟨c, h1, h2, h3, h4, h5, h6, h7, h8⟩ := h
  have hne : ∀ k, k ≠ w.heap.size + 2 → some k ≠ row := fun k hk e => hk (hrow k e.symm)
  refine ⟨c, h1.kept hg (hne _ (by omega)), h2.kept hg (hne _ (by omega)), World.ownsRow.kept h3 hg ?_, (h4.grown hg (fun k hk => by right; have := hrow k hk; omega)).less (fun k hk => .inl hk), (hg.block _ (by omega) (hne _ (by omega))).trans h5, (hg.block _ (by omega) (hne _ (by omega))).trans h6, h7.grown hg h7.size (fun k hk => by have := hrow k hk; omega), Nat.le_trans h8 hg.size⟩
  rw [ownBlock_slice]
  cases hA : A.map (·.block) with
  | none => exact .inl rfl
  | some k =>
    refine .inr (hne k ?_)
    have := (own_in h3 hA).1
    omega

/-- A block of the loop's own turned. -/
theorem row_turn {X Y : World} {s j : Nat} (hg : X.grownBy Y (some j)) (hj : s ≤ j ∧ j < s + 5) {e : TypeId} {A : Option Addr} {n c : Nat} {xs : List Value} (h : X.ownsRow (s + 5) e 2 (.slice A n c) n xs) : Y.ownsRow (s + 5) e 2 (.slice A n c) n xs := by
  refine World.ownsRow.kept h hg ?_
  rw [ownBlock_slice]
  cases hA : A.map (·.block) with
  | none => exact .inl rfl
  | some k =>
    refine .inr (fun e => ?_)
    injection e with e
    have := (own_in h hA).1
    omega
theorem bodies_turn {X Y : World} {s j : Nat} (hg : X.grownBy Y (some j)) (hj : s ≤ j ∧ j < s + 5) {A : Option Addr} {l : List Fr} (h : Bodies (fun k => InRow A k ∨ (s ≤ k ∧ k < s + 5)) X l) : Bodies (fun k => InRow A k ∨ (s ≤ k ∧ k < s + 5)) Y l :=
  (h.grown hg (fun k hk => by cases hk; exact .inr hj)).less (fun k hk => .inl hk)
theorem turns_turn {W X Y : World} {s j : Nat} (hg : X.grownBy Y (some j)) (hj : s ≤ j ∧ j < s + 5 ∧ j ≠ s + 2) {A : Option Addr} (h : Turns (fun k => InRow A k ∨ (s ≤ k ∧ k < s + 5 ∧ k ≠ s + 2)) W X) : Turns (fun k => InRow A k ∨ (s ≤ k ∧ k < s + 5 ∧ k ≠ s + 2)) W Y :=
  ⟨hg.os.trans h.os, hg.tape.trans h.tape, hg.output.trans h.output, Nat.le_trans h.size hg.size, fun k hk hz => (hg.block k (Nat.lt_of_lt_of_le hk h.size) (fun e => by cases e; exact hz (.inr hj))).trans (h.block k hk hz)⟩

set_option maxRecDepth 100000 in
set_option maxHeartbeats 2000000 in
theorem scan_any (A : Option Addr) (c n : Nat) (bs : List UInt8) (w : World) (hn : bs.length = n) (hr : Bytes w w.heap.size A bs) (hl : bs.length ≤ 1000000) (hc : bs.length ≤ c) :
    Calls Try.prog 14 #[.slice A n c] w fun e w' => ScanP w w' e bs := by
  subst hn
  obtain ⟨i0, hi, hz0, hz1, hz2⟩ := info_parts info_frame
  refine (callsIn_wide (n := 3)).1 ?_
  refine callsIn_of_wp_marks Try.func14 rfl trivial ?_ rfl
  simp only [Try.ntmps14, List.size_toArray, List.length_cons, List.length_nil, Nat.reduceAdd, Nat.reduceSub, Array.replicate_succ, Array.replicate_zero, List.push_toArray, List.append_toArray, List.nil_append, List.cons_append]
  gi_wp2_with (gi_at_call 24; refine halted ?_)
  refine go_on ?_
  refine ⟨trivial, (frames_in 2 _ _ _ _).mono ?_⟩
  rintro e w' ⟨rfl, rfl⟩
  have b0 := Boxed.new w 36 (.slice none 0 0)
  have b1 := Boxed.new (w.alloc (.cells #[.slice none 0 0] 36)) 3 (.int .i64 (bs.length : Int))
  have b2 := Boxed.new ((w.alloc (.cells #[.slice none 0 0] 36)).alloc (.cells #[.int .i64 (bs.length : Int)] 3)) 22 (.slice A bs.length c)
  rw [World.size_alloc] at b1
  rw [World.size_alloc, World.size_alloc] at b2
  have b0' := (b0.alloc (.cells #[.int .i64 (bs.length : Int)] 3)).alloc (.cells #[.slice A bs.length c] 22)
  have b1' := b1.alloc (.cells #[.slice A bs.length c] 22)
  have hbw : Below w.heap.size w (((w.alloc (.cells #[.slice none 0 0] 36)).alloc (.cells #[.int .i64 (bs.length : Int)] 3)).alloc (.cells #[.slice A bs.length c] 22)) :=
    (((Below.refl _ w).alloc (Nat.le_refl _) _).alloc (by simp) _).alloc (by simp; omega) _
  have hsz : (((w.alloc (.cells #[.slice none 0 0] 36)).alloc (.cells #[.int .i64 (bs.length : Int)] 3)).alloc (.cells #[.slice A bs.length c] 22)).heap.size = w.heap.size + 3 := by simp
  have hs2 : ((w.alloc (.cells #[.slice none 0 0] 36)).alloc (.cells #[.int .i64 (bs.length : Int)] 3)).heap.size = w.heap.size + 2 := by simp
  rw [hs2]
  clear b0 b1 hs2
  generalize hW0 : (((w.alloc (.cells #[.slice none 0 0] 36)).alloc (.cells #[.int .i64 (bs.length : Int)] 3)).alloc (.cells #[.slice A bs.length c] 22)) = W0 at *
  clear hW0
  gi_wp2
  refine range_enter (by omega) (gf := 34) (lb := #[.pointer (some ⟨w.heap.size + 2, 0, none⟩)]) rfl (enters_of Try.func34 (by kernel_rfl) rfl) ?_
  intro fn rec hrec
  rw [hsz]
  have h4 : w.heap.size + 3 + 1 = w.heap.size + 4 := by omega
  rw [h4]
  have hJ0 : ScanJ rec w [] none bs.length ((W0.alloc (.deferred (some []))).alloc (.loop (rec .ready none))) := by
    refine ⟨0, (b0'.alloc _).alloc _, (b1'.alloc _).alloc _, World.ownsRow_nil _ _ _ _, Bodies.nil, ?_, ?_, ?_, ?_⟩
    · have := World.alloc_heap_new (W0.alloc (.deferred (some []))) (.loop (rec .ready none))
      rwa [World.size_alloc, hsz, h4] at this
    · have := World.alloc_heap_new W0 (.deferred (some []))
      rw [hsz] at this
      exact (Below.heap_alloc _ _ _ (by simp; omega)).trans this
    · exact (hbw.alloc (by omega) _).alloc (by simp; omega) _
    · simp; omega
  refine (frames1_in 2 (w.heap.size + 4) w.heap.size (by omega) (ScanJ rec w) bs hl (fun l A b W W' row h hg hrow => h.grown hg hrow) ?_ ?_ _ A c ((b2.alloc _).alloc _) ?_ hc hJ0).mono ?_
  · rintro l A1 b W ⟨c1, _, _, h3, _, _, _, _, h8⟩
    exact ⟨h8, fun k hk => own_in h3 hk⟩
  · intro l A1 b b' f W hJ hf hfc hfa hll hbl
    obtain ⟨c1, h0, h1, h3, h5, hL, hD, hB, hS⟩ := hJ
    refine range_yield hrec rfl hL ?_
    gi_wp2
    have hLt := (Array.getElem?_eq_some_iff.1 hL).1
    refine ⟨(Below.heap_alloc W _ _ hLt).trans hL, ?_⟩
    have hbA : Below W.heap.size W (W.alloc (.cells #[.int .u8 (f.k.toNat : Int), .slice f.A f.b.length f.c] 29)) := (Below.refl _ _).alloc (Nat.le_refl _) _
    have g := grownBy_putObj' (W.alloc (.cells #[.int .u8 (f.k.toNat : Int), .slice f.A f.b.length f.c] 29)) (w.heap.size + 4) (.loop (rec .busy none))
    have a0 := (h0.alloc (.cells #[.int .u8 (f.k.toNat : Int), .slice f.A f.b.length f.c] 29)).kept g (by simp)
    have a1 := (h1.alloc (.cells #[.int .u8 (f.k.toNat : Int), .slice f.A f.b.length f.c] 29)).kept g (by simp)
    have a3 := ownsRow_putObj (own_below h3 hbA) (.loop (rec .busy none)) ((Below.heap_alloc W _ _ hLt).trans hL) rfl
    have a5 := ((h5.below hbA).grown g (fun k hk => by cases hk; right; omega)).less (Y := fun k => InRow A1 k ∨ (w.heap.size ≤ k ∧ k < w.heap.size + 5)) (fun k hk => .inl hk)
    have af := (hfa.grown ((hf.below hbA).more hbA.size) (Nat.le_refl _) g (fun k hk => by cases hk; right; omega)).more g.size
    have aL : ((W.alloc (.cells #[.int .u8 (f.k.toNat : Int), .slice f.A f.b.length f.c] 29)).putObj (w.heap.size + 4) (.loop (rec .busy none))).heap[w.heap.size + 4]? = some (.loop (rec .busy none)) := World.putObj_heap_same (by simp; omega)
    have aD := (g.block (w.heap.size + 3) (by simp; omega) (by simp)).trans ((Below.heap_alloc W _ _ (by omega)).trans hD)
    have aB := (hB.trans (hbA.mono hB.size)).grown g (hB.trans (hbA.mono hB.size)).size (fun k hk => by cases hk; omega)
    have aC : ((W.alloc (.cells #[.int .u8 (f.k.toNat : Int), .slice f.A f.b.length f.c] 29)).putObj (w.heap.size + 4) (.loop (rec .busy none))).heap[W.heap.size]? = some (.cells #[.int .u8 (f.k.toNat : Int), .slice f.A f.b.length f.c] 29 (0, 0)) := (World.putObj_heap_other (by omega)).trans (World.alloc_heap_new W _)
    have aT : Turns (fun k => InRow A1 k ∨ (w.heap.size ≤ k ∧ k < w.heap.size + 5 ∧ k ≠ w.heap.size + 2)) W ((W.alloc (.cells #[.int .u8 (f.k.toNat : Int), .slice f.A f.b.length f.c] 29)).putObj (w.heap.size + 4) (.loop (rec .busy none))) :=
      ⟨rfl, rfl, rfl, by simp, fun k hk hz => (World.putObj_heap_other (by rintro rfl; exact hz (.inr ⟨by omega, by omega, by omega⟩))).trans (Below.heap_alloc W _ k hk)⟩
    have aS : ((W.alloc (.cells #[.int .u8 (f.k.toNat : Int), .slice f.A f.b.length f.c] 29)).putObj (w.heap.size + 4) (.loop (rec .busy none))).heap.size = W.heap.size + 1 := by simp
    clear g hbA h0 h1 h3 h5 hf hL hD hB hJ0 b0' b1' b2
    generalize ((W.alloc (.cells #[.int .u8 (f.k.toNat : Int), .slice f.A f.b.length f.c] 29)).putObj (w.heap.size + 4) (.loop (rec .busy none))) = WA at *
    have c0 := a0.cell
    have c1' := a1.cell
    have e0 : WA.cell? ⟨W.heap.size, 0, none⟩ = some (.int .u8 (f.k.toNat : Int)) := by simp [World.cell?, aC]
    have e1 : WA.cell? ⟨W.heap.size, 1, none⟩ = some (.slice f.A f.b.length f.c) := by simp [World.cell?, aC]
    gi_wp2_with (gi_at_builtin; refine halted ?_)
    refine go_on ?_
    have hlit : Below WA.heap.size WA (WA.alloc (.cells #[.int .u8 (f.k.toNat : Int), .slice f.A f.b.length f.c] 29)) := (Below.refl _ _).alloc (Nat.le_refl _) _
    have m0 := a0.alloc (.cells #[.int .u8 (f.k.toNat : Int), .slice f.A f.b.length f.c] 29)
    have m1 := a1.alloc (.cells #[.int .u8 (f.k.toNat : Int), .slice f.A f.b.length f.c] 29)
    have m3 := own_below a3 hlit
    have m5 := (a5.below hlit).snoc (f := f) ⟨(af.below hlit).more hlit.size, hfc, hfa⟩
    have mL := (hlit.block _ (by omega)).trans aL
    have mD := (hlit.block _ (by omega)).trans aD
    have mB := aB.trans (hlit.mono aB.size)
    have mrow := Row.new WA #[.int .u8 (f.k.toNat : Int), .slice f.A f.b.length f.c] 29 (0, 0)
    rw [aS] at mrow
    have mS : (WA.alloc (.cells #[.int .u8 (f.k.toNat : Int), .slice f.A f.b.length f.c] 29)).heap.size = W.heap.size + 2 := by simp; omega
    have mT : Turns (fun k => InRow A1 k ∨ (w.heap.size ≤ k ∧ k < w.heap.size + 5 ∧ k ≠ w.heap.size + 2)) W (WA.alloc (.cells #[.int .u8 (f.k.toNat : Int), .slice f.A f.b.length f.c] 29)) := ⟨aT.os, aT.tape, aT.output, by omega, fun k hk hz => (hlit.block k (by omega)).trans (aT.block k hk hz)⟩
    clear a0 a1 a3 a5 aL aD aB aC aT af hlit e0 e1
    generalize WA.alloc (.cells #[.int .u8 (f.k.toNat : Int), .slice f.A f.b.length f.c] 29) = WM at *
    refine wpListIn_append_row _ rfl (.tmp 14) (.tmp 16) 36 rfl (w.heap.size + 5) 29 i0 _ 2 32 Try.underlying36 hi hz0 hz1 hz2 rfl (by decide) A1 l.length c1 _ rfl m3 _ _ 1 _ _ rfl rfl mrow ?_ ?_ ?_ (by omega) ?_
    · intro u hu
      simp at hu
      rcases hu with rfl | rfl <;> rfl
    · unfold maxLen; omega
    · omega
    intro A5 c5 W5 hown5 hg hat
    have hin : ∀ q, InRow A5 q → InRow A1 q ∨ WM.heap.size ≤ q := fun q hk => hat.imp (fun e => by unfold InRow at *; rw [← e]; exact hk) (fun e => by unfold InRow at hk; rw [e] at hk; injection hk with hk; omega)
    have hrow : ∀ k, A1.map (·.block) = some k → w.heap.size + 5 ≤ k := fun k hk => (own_in m3 hk).1
    have q0 := m0.kept hg (fun e => by have := hrow _ e.symm; omega)
    have q1 := m1.kept hg (fun e => by have := hrow _ e.symm; omega)
    have q5 := (m5.grown hg (fun k hk => .inl hk)).less (Y := fun k => InRow A5 k ∨ (w.heap.size ≤ k ∧ k < w.heap.size + 5)) (fun k hk => by
      rcases hk with hk | hk
      · rcases hin k hk with h | h
        · exact .inl (.inl h)
        · exact .inr h
      · exact .inl (.inr hk))
    have qL := (hg.block _ (by omega) (fun e => by have := hrow _ e.symm; omega)).trans mL
    have qD := (hg.block _ (by omega) (fun e => by have := hrow _ e.symm; omega)).trans mD
    have qB := mB.grown hg mB.size (fun k hk => by have := hrow _ hk; omega)
    have qT : Turns (fun k => InRow A1 k ∨ (w.heap.size ≤ k ∧ k < w.heap.size + 5 ∧ k ≠ w.heap.size + 2)) W W5 := ⟨hg.os.trans mT.os, hg.tape.trans mT.tape, hg.output.trans mT.output, Nat.le_trans mT.size hg.size, fun k hk hz => (hg.block k (by omega) (fun e => hz (.inl e.symm))).trans (mT.block k hk hz)⟩
    have qS := hg.size
    clear m0 m1 m3 m5 mL mD mB mT mrow hg hat
    have c0 := q0.cell
    have f0 := q0.frozen
    have c1' := q1.cell
    have f1 := q1.frozen
    gi_wp2
    have g1 := grownBy_setCell' W5 w.heap.size (.slice A5 (l.length + 1) c5)
    have p0 := q0.set (.slice A5 (l.length + 1) c5)
    have p1 := q1.kept g1 (by simp)
    have p3 := row_turn g1 (by omega) hown5
    have p5 := bodies_turn g1 (by omega) q5
    have pL := (g1.block _ (by omega) (by simp)).trans qL
    have pD := (g1.block _ (by omega) (by simp)).trans qD
    have pB := qB.grown g1 qB.size (fun k hk => by cases hk; omega)
    have pT := turns_turn g1 (by omega) qT
    have pS := g1.size
    clear q0 q1 hown5 q5 qL qD qB qT
    generalize W5.setCell ⟨w.heap.size, 0, none⟩ (.slice A5 (l.length + 1) c5) = Wx at *
    have g2 := grownBy_setCell' Wx (w.heap.size + 1) (.int .i64 (b' : Int))
    have p1 := p1.set (.int .i64 (b' : Int))
    have p0 := p0.kept g2 (by simp)
    have p3 := row_turn g2 (by omega) p3
    have p5 := bodies_turn g2 (by omega) p5
    have pL := (g2.block _ (by omega) (by simp)).trans pL
    have pD := (g2.block _ (by omega) (by simp)).trans pD
    have pB := pB.grown g2 pB.size (fun k hk => by cases hk; omega)
    have pT := turns_turn g2 (by omega) pT
    have pS2 := g2.size
    generalize Wx.setCell ⟨w.heap.size + 1, 0, none⟩ (.int .i64 (b' : Int)) = Wy at *
    refine ⟨none, rfl, pL, rfl, A5, ?_, ?_, ?_⟩
    · have g3 := grownBy_putObj' Wy (w.heap.size + 4) (.loop (rec .ready none))
      refine ⟨c5, ?_, p1.kept g3 (by simp), ?_, bodies_turn g3 (by omega) p5, World.putObj_heap_same (by omega), (g3.block _ (by omega) (by simp)).trans pD, pB.grown g3 pB.size (fun k hk => by cases hk; omega), by rw [World.putObj_size]; omega⟩
      · rw [List.length_append]; exact p0.kept g3 (by simp)
      · rw [List.length_append, flatCells_snoc]; exact row_turn g3 (by omega) p3
    · exact turns_turn (grownBy_putObj' Wy (w.heap.size + 4) (.loop (rec .ready none))) (by omega) pT
    · intro k hk
      exact (hin k hk).imp id (fun h => by omega)
  · exact hr.belowLe ((hbw.alloc (by omega) _).alloc (by simp; omega) _) (Nat.le_refl _)
  · rintro e W2 ⟨⟨v, rfl⟩, l, A2, r, HS, hJ⟩
    obtain ⟨c1, h0, h1, h3, h5, hL, hD, hB, hS⟩ := hJ
    have hlw := (Array.getElem?_eq_some_iff.1 hL).1
    refine ⟨none, _, range_end hrec hL (by simp), ?_⟩
    have g := grownBy_putObj' W2 (w.heap.size + 4) (.loop (rec .exhausted none))
    have k0 := h0.kept g (by simp)
    have k1 := h1.kept g (by simp)
    have k3 := ownsRow_putObj h3 (.loop (rec .exhausted none)) hL rfl
    have k5 := h5.grown g (fun k hk => by cases hk; right; omega)
    have kD := (g.block _ (by omega) (by simp)).trans hD
    have kB := hB.grown g hB.size (fun k hk => by cases hk; omega)
    have kS := Nat.le_trans hS g.size
    clear h0 h1 h3 h5 hD hB hS g hJ0 b0' b1' b2
    generalize (W2.putObj (w.heap.size + 4) (.loop (rec .exhausted none))) = W3 at *
    have c0 := k0.cell
    have c1 := k1.cell
    have hrl : r.length ≤ bs.length := by have := congrArg List.length HS.out.1; rw [List.length_append] at this; omega
    gi_wp2
    gi_region
    gi_wp2
    have kD' : W3.drew.heap[w.heap.size + 3]? = some (.deferred (some [])) := kD
    have g2 := grownBy_putObj' W3.drew (w.heap.size + 3) (.deferred none)
    have r1 := Row.of_own (ownsRow_putObj (W := W3.drew) k3 (.deferred none) kD' rfl)
    have r2 := own_cap k3
    have r3 := (Bodies.grown (w := W3.drew) k5 g2 (fun k hk => by cases hk; left; right; omega)).less (Y := fun _ => False) (fun _ h => h.elim)
    have r4 := (Below.drew kB).grown g2 (by exact kB.size) (fun k hk => by cases hk; omega)
    refine ⟨by simp, .inl ⟨_, _, rfl, run_takeDeferred kD', ?_⟩⟩
    exact ⟨_, results_tmp2 rfl _ _ _, l, r, A2, _, rfl, HS, r1, r2, r3, r4⟩
end Go.Proofs.Ytikfiicjgcnljaa
