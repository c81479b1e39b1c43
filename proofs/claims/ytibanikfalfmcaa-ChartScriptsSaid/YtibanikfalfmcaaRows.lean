/-
  No cell of these rows narrows 'for every input' (looked for: loops, veiled, ifaces, maps, wideKeys, modest, calm, conditions, laid).
  DERIVED. THE GIVEN ROWS OF THIS SEAT. 6 by the template 'for every input the law returns true; each argument reads behind the call as it read before'; 0 by the template 'total and deterministic' (their statements: YtibanikfalfmcaaTotals.lean).
  GIVEN WITH THE SEED: the statements are not yours to turn. If you find one false, say at which input.
  Laid BY PROGRAM, IN A SANDBOX (cutbox-rows.mjs): the forced cells as the released guide's own fill.sh prints them over the translation daf1544a3a0e69aa… (all of the seat's roots in one cut). By AI agents, Wed Nov 11 2026. No macro, syntax, notation, axiom, sorry.
-/
import Derived.Test.YtibanikfalfmcaaChecked
import GoSem.Claim
import GoSem.ClaimJoined
import GoSem.ClaimMapViews
import Derived.JoinedTies
import Derived.KernelRfl
namespace Go.Proofs.Ytibanikfalfmcaa
/- THE CELL 'sum', in the pinned program and in every row, IS THE sha256 OF THE DUMP (.gsa) THAT YtibanikfalfmcaaProg.lean LOADS. Nothing in Lean hashes anything: it is a label: what it is worth is what the hold of that sum in a sandbox is worth. -/
noncomputable def Try.pinned : Pinned := { name := "ytibanikfalfmcaa", sum := "daf1544a3a0e69aae5213d96767c2f5362c6f043d6916f22ddfd6cc29f7e48c1", checked := Try.checked }
namespace Rows
def none {H : Type} : Left H := { results := [], args := [] }

/-- 'tallagelaw19.ChartUndone': WHATEVER THE INPUT: true; the input reads as it did. -/
def chartUndoneSpec : ChangeSpec := { name := "chartUndone", fn := fun _ => fun
  | [d1, d2, d3] => { results := [.lit (.bool true)], args := [d1, d2, d3] }
  | _ => none }
def chartUndoneRow : OpenClaim := { program := "ytibanikfalfmcaa", sum := "daf1544a3a0e69aae5213d96767c2f5362c6f043d6916f22ddfd6cc29f7e48c1", func := "tallage/tallagelaw19.ChartUndone", spec := "chartUndone", inPlace := ["math/bits.Add64"], unfollowed := true, recurses := true, apart := false }
def ChartUndoneSaid : Prop := chartUndoneRow.holds Try.pinned (OpenSpec.ofChange chartUndoneSpec)

/-- ITS FALSE NEIGHBOUR: 'it returns false'. Refute it at one input. -/
def chartUndoneWrong : ChangeSpec := { name := "chartUndone", fn := fun _ => fun
  | [d1, d2, d3] => { results := [.lit (.bool false)], args := [d1, d2, d3] }
  | _ => none }
def ChartUndoneWrongFalsely : Prop := chartUndoneRow.holds Try.pinned (OpenSpec.ofChange chartUndoneWrong)

/-- 'tallagelaw19.ChartCodes': WHATEVER THE INPUT: true; the input reads as it did. -/
def chartCodesSpec : ChangeSpec := { name := "chartCodes", fn := fun _ => fun
  | [d1, d2, d3] => { results := [.lit (.bool true)], args := [d1, d2, d3] }
  | _ => none }
def chartCodesRow : OpenClaim := { program := "ytibanikfalfmcaa", sum := "daf1544a3a0e69aae5213d96767c2f5362c6f043d6916f22ddfd6cc29f7e48c1", func := "tallage/tallagelaw19.ChartCodes", spec := "chartCodes", inPlace := ["math/bits.Add64"], unfollowed := true, recurses := true, apart := false }
def ChartCodesSaid : Prop := chartCodesRow.holds Try.pinned (OpenSpec.ofChange chartCodesSpec)

/-- ITS FALSE NEIGHBOUR: 'it returns false'. Refute it at one input. -/
def chartCodesWrong : ChangeSpec := { name := "chartCodes", fn := fun _ => fun
  | [d1, d2, d3] => { results := [.lit (.bool false)], args := [d1, d2, d3] }
  | _ => none }
def ChartCodesWrongFalsely : Prop := chartCodesRow.holds Try.pinned (OpenSpec.ofChange chartCodesWrong)

/-- 'tallagelaw19.ChartZero': WHATEVER THE INPUT: true; the input reads as it did. -/
def chartZeroSpec : ChangeSpec := { name := "chartZero", fn := fun _ => fun
  | [d] => { results := [.lit (.bool true)], args := [d] }
  | _ => none }
def chartZeroRow : OpenClaim := { program := "ytibanikfalfmcaa", sum := "daf1544a3a0e69aae5213d96767c2f5362c6f043d6916f22ddfd6cc29f7e48c1", func := "tallage/tallagelaw19.ChartZero", spec := "chartZero", inPlace := ["math/bits.Add64"], unfollowed := true, recurses := true, apart := false }
def ChartZeroSaid : Prop := chartZeroRow.holds Try.pinned (OpenSpec.ofChange chartZeroSpec)

/-- ITS FALSE NEIGHBOUR: 'it returns false'. Refute it at one input. -/
def chartZeroWrong : ChangeSpec := { name := "chartZero", fn := fun _ => fun
  | [d] => { results := [.lit (.bool false)], args := [d] }
  | _ => none }
def ChartZeroWrongFalsely : Prop := chartZeroRow.holds Try.pinned (OpenSpec.ofChange chartZeroWrong)

/-- 'tallagelaw19.ChartFull': WHATEVER THE INPUT: true; the input reads as it did. -/
def chartFullSpec : ChangeSpec := { name := "chartFull", fn := fun _ => fun
  | [d] => { results := [.lit (.bool true)], args := [d] }
  | _ => none }
def chartFullRow : OpenClaim := { program := "ytibanikfalfmcaa", sum := "daf1544a3a0e69aae5213d96767c2f5362c6f043d6916f22ddfd6cc29f7e48c1", func := "tallage/tallagelaw19.ChartFull", spec := "chartFull", inPlace := ["math/bits.Add64"], unfollowed := true, recurses := true, apart := false }
def ChartFullSaid : Prop := chartFullRow.holds Try.pinned (OpenSpec.ofChange chartFullSpec)

/-- ITS FALSE NEIGHBOUR: 'it returns false'. Refute it at one input. -/
def chartFullWrong : ChangeSpec := { name := "chartFull", fn := fun _ => fun
  | [d] => { results := [.lit (.bool false)], args := [d] }
  | _ => none }
def ChartFullWrongFalsely : Prop := chartFullRow.holds Try.pinned (OpenSpec.ofChange chartFullWrong)

/-- 'tallagelaw19.ChartTurned': WHATEVER THE INPUT: true; the input reads as it did. -/
def chartTurnedSpec : ChangeSpec := { name := "chartTurned", fn := fun _ => fun
  | [d1, d2, d3] => { results := [.lit (.bool true)], args := [d1, d2, d3] }
  | _ => none }
def chartTurnedRow : OpenClaim := { program := "ytibanikfalfmcaa", sum := "daf1544a3a0e69aae5213d96767c2f5362c6f043d6916f22ddfd6cc29f7e48c1", func := "tallage/tallagelaw19.ChartTurned", spec := "chartTurned", inPlace := ["math/bits.Add64"], unfollowed := true, recurses := true, apart := false }
def ChartTurnedSaid : Prop := chartTurnedRow.holds Try.pinned (OpenSpec.ofChange chartTurnedSpec)

/-- ITS FALSE NEIGHBOUR: 'it returns false'. Refute it at one input. -/
def chartTurnedWrong : ChangeSpec := { name := "chartTurned", fn := fun _ => fun
  | [d1, d2, d3] => { results := [.lit (.bool false)], args := [d1, d2, d3] }
  | _ => none }
def ChartTurnedWrongFalsely : Prop := chartTurnedRow.holds Try.pinned (OpenSpec.ofChange chartTurnedWrong)

/-- 'tallagelaw19.ChartScripts': WHATEVER THE INPUT: true; the input reads as it did. -/
def chartScriptsSpec : ChangeSpec := { name := "chartScripts", fn := fun _ => fun
  | [d] => { results := [.lit (.bool true)], args := [d] }
  | _ => none }
def chartScriptsRow : OpenClaim := { program := "ytibanikfalfmcaa", sum := "daf1544a3a0e69aae5213d96767c2f5362c6f043d6916f22ddfd6cc29f7e48c1", func := "tallage/tallagelaw19.ChartScripts", spec := "chartScripts", inPlace := ["math/bits.Add64"], unfollowed := true, recurses := true, apart := false }
def ChartScriptsSaid : Prop := chartScriptsRow.holds Try.pinned (OpenSpec.ofChange chartScriptsSpec)

/-- ITS FALSE NEIGHBOUR: 'it returns false'. Refute it at one input. -/
def chartScriptsWrong : ChangeSpec := { name := "chartScripts", fn := fun _ => fun
  | [d] => { results := [.lit (.bool false)], args := [d] }
  | _ => none }
def ChartScriptsWrongFalsely : Prop := chartScriptsRow.holds Try.pinned (OpenSpec.ofChange chartScriptsWrong)

/- THE SECOND FORM. 'bulk': how many values and letters a reading holds, each counted each time it is reached (what is shared counts as often as it is met; a slice's spare places count too). A statement '..UptoSaid' is the law's where the arguments, and the package variables that the reading takes, are together of bulk at most 1048576: NARROWER than '..Said'. Prove '..Said' where nothing that the law and all that it calls make is longer than what came in: it says more and counts as full. Else prove '..UptoSaid'. A law counts once. -/
mutual
def uptoBulk {H : Type} : DataW H → Nat
  | .lit (.string bytes) => bytes.length + 1
  | .lit _ => 1
  | .nil => 1
  | .ptr d => uptoBulk d + 1
  | .slice elems spare => uptoBulkAll elems + uptoBulkAll spare + 1
  | .agg parts => uptoBulkAll parts + 1
  | .iface _ d => uptoBulk d + 1
  | .map entries => uptoBulkEntries entries + 1
  | .held _ => 1
def uptoBulkAll {H : Type} : List (DataW H) → Nat
  | [] => 0
  | d :: r => uptoBulk d + uptoBulkAll r
def uptoBulkEntries {H : Type} : List (Lit × DataW H) → Nat
  | [] => 0
  | x :: r => uptoBulkEntry x + uptoBulkEntries r
def uptoBulkEntry {H : Type} : Lit × DataW H → Nat
  | (.string bytes, d) => bytes.length + uptoBulk d + 1
  | (_, d) => uptoBulk d + 1
 end
def uptoSmall : (H : Type) → List (DataW H) → Bool := fun _ ds => decide (uptoBulkAll ds ≤ 1048576)
def OpenSpec.upto (s : _root_.Go.ChangeSpec) : _root_.Go.OpenSpec := { _root_.Go.OpenSpec.ofChange s with cond := some uptoSmall }

/-- 'tallagelaw19.ChartUndone', WHERE WHAT IT READS IS OF BULK AT MOST 1048576: true; the input reads as it did. -/
def chartUndoneUptoRow : OpenClaim := { program := "ytibanikfalfmcaa", sum := "daf1544a3a0e69aae5213d96767c2f5362c6f043d6916f22ddfd6cc29f7e48c1", func := "tallage/tallagelaw19.ChartUndone", spec := "chartUndone", inPlace := ["math/bits.Add64"], unfollowed := true, recurses := true, apart := false, narrowed := true }
def ChartUndoneUptoSaid : Prop := chartUndoneUptoRow.holds Try.pinned (OpenSpec.upto chartUndoneSpec)

/-- 'tallagelaw19.ChartCodes', WHERE WHAT IT READS IS OF BULK AT MOST 1048576: true; the input reads as it did. -/
def chartCodesUptoRow : OpenClaim := { program := "ytibanikfalfmcaa", sum := "daf1544a3a0e69aae5213d96767c2f5362c6f043d6916f22ddfd6cc29f7e48c1", func := "tallage/tallagelaw19.ChartCodes", spec := "chartCodes", inPlace := ["math/bits.Add64"], unfollowed := true, recurses := true, apart := false, narrowed := true }
def ChartCodesUptoSaid : Prop := chartCodesUptoRow.holds Try.pinned (OpenSpec.upto chartCodesSpec)

/-- 'tallagelaw19.ChartZero', WHERE WHAT IT READS IS OF BULK AT MOST 1048576: true; the input reads as it did. -/
def chartZeroUptoRow : OpenClaim := { program := "ytibanikfalfmcaa", sum := "daf1544a3a0e69aae5213d96767c2f5362c6f043d6916f22ddfd6cc29f7e48c1", func := "tallage/tallagelaw19.ChartZero", spec := "chartZero", inPlace := ["math/bits.Add64"], unfollowed := true, recurses := true, apart := false, narrowed := true }
def ChartZeroUptoSaid : Prop := chartZeroUptoRow.holds Try.pinned (OpenSpec.upto chartZeroSpec)

/-- 'tallagelaw19.ChartFull', WHERE WHAT IT READS IS OF BULK AT MOST 1048576: true; the input reads as it did. -/
def chartFullUptoRow : OpenClaim := { program := "ytibanikfalfmcaa", sum := "daf1544a3a0e69aae5213d96767c2f5362c6f043d6916f22ddfd6cc29f7e48c1", func := "tallage/tallagelaw19.ChartFull", spec := "chartFull", inPlace := ["math/bits.Add64"], unfollowed := true, recurses := true, apart := false, narrowed := true }
def ChartFullUptoSaid : Prop := chartFullUptoRow.holds Try.pinned (OpenSpec.upto chartFullSpec)

/-- 'tallagelaw19.ChartTurned', WHERE WHAT IT READS IS OF BULK AT MOST 1048576: true; the input reads as it did. -/
def chartTurnedUptoRow : OpenClaim := { program := "ytibanikfalfmcaa", sum := "daf1544a3a0e69aae5213d96767c2f5362c6f043d6916f22ddfd6cc29f7e48c1", func := "tallage/tallagelaw19.ChartTurned", spec := "chartTurned", inPlace := ["math/bits.Add64"], unfollowed := true, recurses := true, apart := false, narrowed := true }
def ChartTurnedUptoSaid : Prop := chartTurnedUptoRow.holds Try.pinned (OpenSpec.upto chartTurnedSpec)

/-- 'tallagelaw19.ChartScripts', WHERE WHAT IT READS IS OF BULK AT MOST 1048576: true; the input reads as it did. -/
def chartScriptsUptoRow : OpenClaim := { program := "ytibanikfalfmcaa", sum := "daf1544a3a0e69aae5213d96767c2f5362c6f043d6916f22ddfd6cc29f7e48c1", func := "tallage/tallagelaw19.ChartScripts", spec := "chartScripts", inPlace := ["math/bits.Add64"], unfollowed := true, recurses := true, apart := false, narrowed := true }
def ChartScriptsUptoSaid : Prop := chartScriptsUptoRow.holds Try.pinned (OpenSpec.upto chartScriptsSpec)

end Rows
end Go.Proofs.Ytibanikfalfmcaa
