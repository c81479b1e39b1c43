/-
  No cell of these rows narrows 'for every input' (looked for: loops, veiled, ifaces, maps, wideKeys, modest, calm, conditions, laid).
  DERIVED. THE GIVEN ROWS OF THIS SEAT. 6 by the template 'for every input the law returns true; each argument reads behind the call as it read before'; 0 by the template 'total and deterministic' (their statements: YtmcmooggcphelaaTotals.lean).
  GIVEN WITH THE SEED: the statements are not yours to turn. If you find one false, say at which input.
  Laid BY PROGRAM, IN A SANDBOX (cutbox-rows.mjs): the forced cells as the released guide's own fill.sh prints them over the translation 7969880f14cc6332… (all of the seat's roots in one cut). By AI agents, Wed Nov 11 2026. No macro, syntax, notation, axiom, sorry.
-/
import Derived.Test.YtmcmooggcphelaaChecked
import GoSem.Claim
import GoSem.ClaimJoined
import GoSem.ClaimMapViews
import Derived.JoinedTies
import Derived.KernelRfl
namespace Go.Proofs.Ytmcmooggcphelaa
/- THE CELL 'sum', in the pinned program and in every row, IS THE sha256 OF THE DUMP (.gsa) THAT YtmcmooggcphelaaProg.lean LOADS. Nothing in Lean hashes anything: it is a label: what it is worth is what the hold of that sum in a sandbox is worth. -/
noncomputable def Try.pinned : Pinned := { name := "ytmcmooggcphelaa", sum := "7969880f14cc6332363464502409dcea5df6ee9743faafa52b5dc1898aee3aa0", checked := Try.checked }
namespace Rows
def none {H : Type} : Left H := { results := [], args := [] }

/-- 'tallagelaw04.CheckSums': WHATEVER THE INPUT: true; the input reads as it did. -/
def checkSumsSpec : ChangeSpec := { name := "checkSums", fn := fun _ => fun
  | [d1, d2] => { results := [.lit (.bool true)], args := [d1, d2] }
  | _ => none }
def checkSumsRow : OpenClaim := { program := "ytmcmooggcphelaa", sum := "7969880f14cc6332363464502409dcea5df6ee9743faafa52b5dc1898aee3aa0", func := "tallage/tallagelaw04.CheckSums", spec := "checkSums", apart := false }
def CheckSumsSaid : Prop := checkSumsRow.holds Try.pinned (OpenSpec.ofChange checkSumsSpec)

/-- ITS FALSE NEIGHBOUR: 'it returns false'. Refute it at one input. -/
def checkSumsWrong : ChangeSpec := { name := "checkSums", fn := fun _ => fun
  | [d1, d2] => { results := [.lit (.bool false)], args := [d1, d2] }
  | _ => none }
def CheckSumsWrongFalsely : Prop := checkSumsRow.holds Try.pinned (OpenSpec.ofChange checkSumsWrong)

/-- 'tallagelaw04.CheckTurned': WHATEVER THE INPUT: true; the input reads as it did. -/
def checkTurnedSpec : ChangeSpec := { name := "checkTurned", fn := fun _ => fun
  | [d1, d2, d3] => { results := [.lit (.bool true)], args := [d1, d2, d3] }
  | _ => none }
def checkTurnedRow : OpenClaim := { program := "ytmcmooggcphelaa", sum := "7969880f14cc6332363464502409dcea5df6ee9743faafa52b5dc1898aee3aa0", func := "tallage/tallagelaw04.CheckTurned", spec := "checkTurned", apart := false }
def CheckTurnedSaid : Prop := checkTurnedRow.holds Try.pinned (OpenSpec.ofChange checkTurnedSpec)

/-- ITS FALSE NEIGHBOUR: 'it returns false'. Refute it at one input. -/
def checkTurnedWrong : ChangeSpec := { name := "checkTurned", fn := fun _ => fun
  | [d1, d2, d3] => { results := [.lit (.bool false)], args := [d1, d2, d3] }
  | _ => none }
def CheckTurnedWrongFalsely : Prop := checkTurnedRow.holds Try.pinned (OpenSpec.ofChange checkTurnedWrong)

/-- 'tallagelaw04.CheckMoved': WHATEVER THE INPUT: true; the input reads as it did. -/
def checkMovedSpec : ChangeSpec := { name := "checkMoved", fn := fun _ => fun
  | [d1, d2] => { results := [.lit (.bool true)], args := [d1, d2] }
  | _ => none }
def checkMovedRow : OpenClaim := { program := "ytmcmooggcphelaa", sum := "7969880f14cc6332363464502409dcea5df6ee9743faafa52b5dc1898aee3aa0", func := "tallage/tallagelaw04.CheckMoved", spec := "checkMoved", apart := false }
def CheckMovedSaid : Prop := checkMovedRow.holds Try.pinned (OpenSpec.ofChange checkMovedSpec)

/-- ITS FALSE NEIGHBOUR: 'it returns false'. Refute it at one input. -/
def checkMovedWrong : ChangeSpec := { name := "checkMoved", fn := fun _ => fun
  | [d1, d2] => { results := [.lit (.bool false)], args := [d1, d2] }
  | _ => none }
def CheckMovedWrongFalsely : Prop := checkMovedRow.holds Try.pinned (OpenSpec.ofChange checkMovedWrong)

/-- 'tallagelaw04.CheckJoins': WHATEVER THE INPUT: true; the input reads as it did. -/
def checkJoinsSpec : ChangeSpec := { name := "checkJoins", fn := fun _ => fun
  | [d1, d2, d3] => { results := [.lit (.bool true)], args := [d1, d2, d3] }
  | _ => none }
def checkJoinsRow : OpenClaim := { program := "ytmcmooggcphelaa", sum := "7969880f14cc6332363464502409dcea5df6ee9743faafa52b5dc1898aee3aa0", func := "tallage/tallagelaw04.CheckJoins", spec := "checkJoins", apart := false }
def CheckJoinsSaid : Prop := checkJoinsRow.holds Try.pinned (OpenSpec.ofChange checkJoinsSpec)

/-- ITS FALSE NEIGHBOUR: 'it returns false'. Refute it at one input. -/
def checkJoinsWrong : ChangeSpec := { name := "checkJoins", fn := fun _ => fun
  | [d1, d2, d3] => { results := [.lit (.bool false)], args := [d1, d2, d3] }
  | _ => none }
def CheckJoinsWrongFalsely : Prop := checkJoinsRow.holds Try.pinned (OpenSpec.ofChange checkJoinsWrong)

/-- 'tallagelaw04.CheckCuts': WHATEVER THE INPUT: true; the input reads as it did. -/
def checkCutsSpec : ChangeSpec := { name := "checkCuts", fn := fun _ => fun
  | [d1, d2, d3] => { results := [.lit (.bool true)], args := [d1, d2, d3] }
  | _ => none }
def checkCutsRow : OpenClaim := { program := "ytmcmooggcphelaa", sum := "7969880f14cc6332363464502409dcea5df6ee9743faafa52b5dc1898aee3aa0", func := "tallage/tallagelaw04.CheckCuts", spec := "checkCuts", apart := false }
def CheckCutsSaid : Prop := checkCutsRow.holds Try.pinned (OpenSpec.ofChange checkCutsSpec)

/-- ITS FALSE NEIGHBOUR: 'it returns false'. Refute it at one input. -/
def checkCutsWrong : ChangeSpec := { name := "checkCuts", fn := fun _ => fun
  | [d1, d2, d3] => { results := [.lit (.bool false)], args := [d1, d2, d3] }
  | _ => none }
def CheckCutsWrongFalsely : Prop := checkCutsRow.holds Try.pinned (OpenSpec.ofChange checkCutsWrong)

/-- 'tallagelaw04.CheckParts': WHATEVER THE INPUT: true; the input reads as it did. -/
def checkPartsSpec : ChangeSpec := { name := "checkParts", fn := fun _ => fun
  | [d1, d2] => { results := [.lit (.bool true)], args := [d1, d2] }
  | _ => none }
def checkPartsRow : OpenClaim := { program := "ytmcmooggcphelaa", sum := "7969880f14cc6332363464502409dcea5df6ee9743faafa52b5dc1898aee3aa0", func := "tallage/tallagelaw04.CheckParts", spec := "checkParts", apart := false }
def CheckPartsSaid : Prop := checkPartsRow.holds Try.pinned (OpenSpec.ofChange checkPartsSpec)

/-- ITS FALSE NEIGHBOUR: 'it returns false'. Refute it at one input. -/
def checkPartsWrong : ChangeSpec := { name := "checkParts", fn := fun _ => fun
  | [d1, d2] => { results := [.lit (.bool false)], args := [d1, d2] }
  | _ => none }
def CheckPartsWrongFalsely : Prop := checkPartsRow.holds Try.pinned (OpenSpec.ofChange checkPartsWrong)

/- THE SECOND FORM. 'bulk': how many values and letters a reading holds, each counted each time it is reached (what is shared counts as often as it is met; a slice's spare places count too). A statement '..UptoSaid' is the law's where the arguments, and the package variables that the reading takes, are together of bulk at most 1048576: NARROWER than '..Said'. Prove '..Said' where nothing that the law and all that it calls make is longer than what came in: it says more and counts as full. Else prove '..UptoSaid'. A law counts once. -/
mutual
def uptoBulk {H : Type} : DataW H → Nat
  | .lit (.string bytes) => bytes.length + 1
  | .lit _ => 1
  | .nil => 1
  | .ptr d => uptoBulk d + 1
  | .slice elems spare => uptoBulkAll elems + uptoBulkAll spare + 1
  | .agg parts => uptoBulkAll parts + 1
  | .iface _ d => uptoBulk d + 1
  | .map entries => uptoBulkEntries entries + 1
  | .held _ => 1
def uptoBulkAll {H : Type} : List (DataW H) → Nat
  | [] => 0
  | d :: r => uptoBulk d + uptoBulkAll r
def uptoBulkEntries {H : Type} : List (Lit × DataW H) → Nat
  | [] => 0
  | x :: r => uptoBulkEntry x + uptoBulkEntries r
def uptoBulkEntry {H : Type} : Lit × DataW H → Nat
  | (.string bytes, d) => bytes.length + uptoBulk d + 1
  | (_, d) => uptoBulk d + 1
 end
def uptoSmall : (H : Type) → List (DataW H) → Bool := fun _ ds => decide (uptoBulkAll ds ≤ 1048576)
def OpenSpec.upto (s : _root_.Go.ChangeSpec) : _root_.Go.OpenSpec := { _root_.Go.OpenSpec.ofChange s with cond := some uptoSmall }

/-- 'tallagelaw04.CheckSums', WHERE WHAT IT READS IS OF BULK AT MOST 1048576: true; the input reads as it did. -/
def checkSumsUptoRow : OpenClaim := { program := "ytmcmooggcphelaa", sum := "7969880f14cc6332363464502409dcea5df6ee9743faafa52b5dc1898aee3aa0", func := "tallage/tallagelaw04.CheckSums", spec := "checkSums", apart := false, narrowed := true }
def CheckSumsUptoSaid : Prop := checkSumsUptoRow.holds Try.pinned (OpenSpec.upto checkSumsSpec)

/-- 'tallagelaw04.CheckTurned', WHERE WHAT IT READS IS OF BULK AT MOST 1048576: true; the input reads as it did. -/
def checkTurnedUptoRow : OpenClaim := { program := "ytmcmooggcphelaa", sum := "7969880f14cc6332363464502409dcea5df6ee9743faafa52b5dc1898aee3aa0", func := "tallage/tallagelaw04.CheckTurned", spec := "checkTurned", apart := false, narrowed := true }
def CheckTurnedUptoSaid : Prop := checkTurnedUptoRow.holds Try.pinned (OpenSpec.upto checkTurnedSpec)

/-- 'tallagelaw04.CheckMoved', WHERE WHAT IT READS IS OF BULK AT MOST 1048576: true; the input reads as it did. -/
def checkMovedUptoRow : OpenClaim := { program := "ytmcmooggcphelaa", sum := "7969880f14cc6332363464502409dcea5df6ee9743faafa52b5dc1898aee3aa0", func := "tallage/tallagelaw04.CheckMoved", spec := "checkMoved", apart := false, narrowed := true }
def CheckMovedUptoSaid : Prop := checkMovedUptoRow.holds Try.pinned (OpenSpec.upto checkMovedSpec)

/-- 'tallagelaw04.CheckJoins', WHERE WHAT IT READS IS OF BULK AT MOST 1048576: true; the input reads as it did. -/
def checkJoinsUptoRow : OpenClaim := { program := "ytmcmooggcphelaa", sum := "7969880f14cc6332363464502409dcea5df6ee9743faafa52b5dc1898aee3aa0", func := "tallage/tallagelaw04.CheckJoins", spec := "checkJoins", apart := false, narrowed := true }
def CheckJoinsUptoSaid : Prop := checkJoinsUptoRow.holds Try.pinned (OpenSpec.upto checkJoinsSpec)

/-- 'tallagelaw04.CheckCuts', WHERE WHAT IT READS IS OF BULK AT MOST 1048576: true; the input reads as it did. -/
def checkCutsUptoRow : OpenClaim := { program := "ytmcmooggcphelaa", sum := "7969880f14cc6332363464502409dcea5df6ee9743faafa52b5dc1898aee3aa0", func := "tallage/tallagelaw04.CheckCuts", spec := "checkCuts", apart := false, narrowed := true }
def CheckCutsUptoSaid : Prop := checkCutsUptoRow.holds Try.pinned (OpenSpec.upto checkCutsSpec)

/-- 'tallagelaw04.CheckParts', WHERE WHAT IT READS IS OF BULK AT MOST 1048576: true; the input reads as it did. -/
def checkPartsUptoRow : OpenClaim := { program := "ytmcmooggcphelaa", sum := "7969880f14cc6332363464502409dcea5df6ee9743faafa52b5dc1898aee3aa0", func := "tallage/tallagelaw04.CheckParts", spec := "checkParts", apart := false, narrowed := true }
def CheckPartsUptoSaid : Prop := checkPartsUptoRow.holds Try.pinned (OpenSpec.upto checkPartsSpec)

end Rows
end Go.Proofs.Ytmcmooggcphelaa
