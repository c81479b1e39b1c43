/-
  A range over a function whose iterator keeps state of its own in cells: the statement entered, a round out of its body's walk, the end.
-/
import Derived.Test.YtnmgbhpmmbhgoaaBase
import Derived.RangeFuncNested
import Derived.RangeFuncBound
import Derived.RangeFuncCalls
import Derived.RangeFuncLeaves
import Derived.RangeFuncBox
import Derived.Shelf.Abstract
import Derived.Shelf.RegionOpen
namespace Go.Proofs.Ytnmgbhpmmbhgoaa
open Go.RowKit Go.Shelf
set_option linter.unusedVariables false

/-- A loop's record at each state. -/
def IsRec (rec : LoopState → Option Code → Loop) (fn : FuncId) (tmps : Array Value) (ps : Array Tmp) (assign body : Code) : Prop :=
  ∃ D : Nat, rec = fun st pe => { state := st, pending := pe, fn, tmps, params := ps, assign, body, defers := D }

/-- The jump by which a round's body is left. -/
def jumpOf : Exit → Option (Option Code)
  | .normal => some none
  | .ret => some (some .ret)
  | .exit id => some (some (.exit id))
  | .goto t => some (some (.goto t))
  | _ => none

theorem range_enter {P : Program} {n : Nat} {g : Operand} {ps : Array Tmp} {assign body : Code} {Q : Exit → Act → World → Prop} {a : Act} {w : World} (h1 : 1 ≤ n) {gf : Nat} {lb : Array Value} (hg : a.eval g = .func (.func gf) #[] lb) (eg : Enters P gf)
    (h : ∀ fn rec, IsRec rec fn a.tmps ps assign body → CallsIn Fence.wide (n - 1) P gf (#[.func (.yield (w.heap.size + 1)) #[] #[]] ++ lb) ((w.alloc (.deferred (some []))).alloc (.loop (rec .ready none)))
      (rangePost Fence.wide n P (w.heap.size + 1) Q { a with defers := { target := .collected w.heap.size, args := #[] } :: a.defers })) :
    (Code.rangeFunc g ps assign body).wpIn Fence.wide n P Q a w := by
  refine wpIn_rangeFunc ?_
  intro fn _
  rw [show Fence.wide.round = none from rfl]
  have hc := h fn (fun st pe => { state := st, pending := pe, fn, tmps := a.tmps, params := ps, assign, body, defers := w.heap.size }) ⟨w.heap.size, rfl⟩
  have he := run_enterLoop_outer (P := P) (w := w) fn a.tmps ps assign body
  generalize ((w.alloc (.deferred (some []))).alloc (.loop { state := .ready, pending := none, fn, tmps := a.tmps, params := ps, assign, body, defers := w.heap.size })) = W1 at he hc
  refine ⟨w.heap.size + 1, [{ target := .collected w.heap.size, args := #[] }], W1, { target := .fn (.func gf) lb, args := #[.func (.yield (w.heap.size + 1)) #[] #[]] }, W1, gf,
    #[.func (.yield (w.heap.size + 1)) #[] #[]] ++ lb, W1, ?_, ?_, ?_, ?_, ?_, ?_⟩
  · exact he
  · simp only [resolve, hg]
    simp [go_sem]
  · intro f' hf'; exact trivial
  · have e := eg (#[.func (.yield (w.heap.size + 1)) #[] #[]] ++ lb) W1
    simp [invoke, go_sem] at e ⊢
    exact e
  · exact fun _ => h1
  · exact hc

theorem range_yield {P : Program} {n l : Nat} {rec : LoopState → Option Code → Loop} {fn : FuncId} {tmps : Array Value} {ps : Array Tmp} {assign body : Code} (hrec : IsRec rec fn tmps ps assign body) {args : Array Value} (hs : args.size = ps.size) {W : World} {R : Ending → World → Prop}
    (hl : W.heap[l]? = some (.loop (rec .ready none)))
    (h : assign.wpIn (Fence.wide.inRound l) n P (Exit.then (fun a₁ w₁ => w₁.heap[l]? = some (.loop (rec .ready none)) ∧ body.wpIn (Fence.wide.inRound l) n P
        (fun e _ w' => ∃ j, jumpOf e = some j ∧ w'.heap[l]? = some (.loop (rec .busy none)) ∧ R (.returned (.bool j.isNone)) (w'.putObj l (.loop (rec (if j.isNone then .ready else .done) j)))) a₁ (w₁.putObj l (.loop (rec .busy none)))) (fun _ _ _ => False))
      { tmps := (ps.zip args).foldl (fun t (p, v) => t.setIfInBounds p v) tmps, defers := [] } W) : YieldAt Fence.wide n P l args W R := by
  obtain ⟨D, rfl⟩ := hrec
  refine ⟨fn, _, assign, body, run_yield hl hs, roundIn_of_wpIn trivial (wpIn_mono h ?_)⟩
  intro e a1 w1 hp
  cases e with
  | normal =>
    obtain ⟨hl1, hb⟩ := hp
    refine ⟨_, run_beginRound (P := P) hl1 rfl, wpIn_mono hb ?_⟩
    intro e2 a2 w2 hp2
    obtain ⟨j, hj, hl2, hR⟩ := hp2
    have her := run_endRound (P := P) j hl2
    cases e2 <;> simp only [jumpOf, Option.some.injEq, reduceCtorEq] at hj <;> (try subst hj) <;> exact ⟨_, _, her, hR⟩
  | ret => exact hp.elim
  | exit id => exact hp.elim
  | goto t => exact hp.elim
  | panic ch => exact hp.elim
  | outgrown => exact hp.elim

theorem range_end {P : Program} {l : Nat} {rec : LoopState → Option Code → Loop} {fn : FuncId} {tmps : Array Value} {ps : Array Tmp} {assign body : Code} (hrec : IsRec rec fn tmps ps assign body) {W : World} {s : LoopState} {p : Option Code} (hl : W.heap[l]? = some (.loop (rec s p))) (hs : s ≠ .busy) :
    (Instr.endLoop l).run P W = .ok p (W.putObj l (.loop (rec .exhausted p))) := by
  obtain ⟨D, rfl⟩ := hrec
  exact run_endLoop (P := P) hl hs
end Go.Proofs.Ytnmgbhpmmbhgoaa
