/-
  No cell of these rows narrows 'for every input' (looked for: loops, veiled, ifaces, maps, wideKeys, modest, calm, conditions, laid).
  DERIVED. THE GIVEN ROWS OF THIS SEAT. 6 by the template 'for every input the law returns true; each argument reads behind the call as it read before'; 0 by the template 'total and deterministic' (their statements: YtpakihbejdpmoaaTotals.lean).
  GIVEN WITH THE SEED: the statements are not yours to turn. If you find one false, say at which input.
  Laid BY PROGRAM, IN A SANDBOX (cutbox-rows.mjs): the forced cells as the released guide's own fill.sh prints them over the translation 9e3e450c5bd0876e… (all of the seat's roots in one cut). By AI agents, Wed Nov 11 2026. No macro, syntax, notation, axiom, sorry.
-/
import Derived.Test.YtpakihbejdpmoaaChecked
import GoSem.Claim
import GoSem.ClaimJoined
import GoSem.ClaimMapViews
import Derived.JoinedTies
import Derived.KernelRfl
namespace Go.Proofs.Ytpakihbejdpmoaa
/- THE CELL 'sum', in the pinned program and in every row, IS THE sha256 OF THE DUMP (.gsa) THAT YtpakihbejdpmoaaProg.lean LOADS. Nothing in Lean hashes anything: it is a label: what it is worth is what the hold of that sum in a sandbox is worth. -/
noncomputable def Try.pinned : Pinned := { name := "ytpakihbejdpmoaa", sum := "9e3e450c5bd0876e42d79ee167bd9bb0ef33818de5c744e69dd477e128844cbd", checked := Try.checked }
namespace Rows
def none {H : Type} : Left H := { results := [], args := [] }

/-- 'tallagelaw06.StoreScripts': WHATEVER THE INPUT: true; the input reads as it did. -/
def storeScriptsSpec : ChangeSpec := { name := "storeScripts", fn := fun _ => fun
  | [d1, d2] => { results := [.lit (.bool true)], args := [d1, d2] }
  | _ => none }
def storeScriptsRow : OpenClaim := { program := "ytpakihbejdpmoaa", sum := "9e3e450c5bd0876e42d79ee167bd9bb0ef33818de5c744e69dd477e128844cbd", func := "tallage/tallagelaw06.StoreScripts", spec := "storeScripts", inPlace := ["maps.clone"], unfollowed := true, recurses := true, apart := false }
def StoreScriptsSaid : Prop := storeScriptsRow.holds Try.pinned (OpenSpec.ofChange storeScriptsSpec)

/-- ITS FALSE NEIGHBOUR: 'it returns false'. Refute it at one input. -/
def storeScriptsWrong : ChangeSpec := { name := "storeScripts", fn := fun _ => fun
  | [d1, d2] => { results := [.lit (.bool false)], args := [d1, d2] }
  | _ => none }
def StoreScriptsWrongFalsely : Prop := storeScriptsRow.holds Try.pinned (OpenSpec.ofChange storeScriptsWrong)

/-- 'tallagelaw06.StoreNews': WHATEVER THE INPUT: true; the input reads as it did. -/
def storeNewsSpec : ChangeSpec := { name := "storeNews", fn := fun _ => fun
  | [d] => { results := [.lit (.bool true)], args := [d] }
  | _ => none }
def storeNewsRow : OpenClaim := { program := "ytpakihbejdpmoaa", sum := "9e3e450c5bd0876e42d79ee167bd9bb0ef33818de5c744e69dd477e128844cbd", func := "tallage/tallagelaw06.StoreNews", spec := "storeNews", unfollowed := true, recurses := true, apart := false }
def StoreNewsSaid : Prop := storeNewsRow.holds Try.pinned (OpenSpec.ofChange storeNewsSpec)

/-- ITS FALSE NEIGHBOUR: 'it returns false'. Refute it at one input. -/
def storeNewsWrong : ChangeSpec := { name := "storeNews", fn := fun _ => fun
  | [d] => { results := [.lit (.bool false)], args := [d] }
  | _ => none }
def StoreNewsWrongFalsely : Prop := storeNewsRow.holds Try.pinned (OpenSpec.ofChange storeNewsWrong)

/-- 'tallagelaw06.StorePlans': WHATEVER THE INPUT: true; the input reads as it did. -/
def storePlansSpec : ChangeSpec := { name := "storePlans", fn := fun _ => fun
  | [d1, d2] => { results := [.lit (.bool true)], args := [d1, d2] }
  | _ => none }
def storePlansRow : OpenClaim := { program := "ytpakihbejdpmoaa", sum := "9e3e450c5bd0876e42d79ee167bd9bb0ef33818de5c744e69dd477e128844cbd", func := "tallage/tallagelaw06.StorePlans", spec := "storePlans", unfollowed := true, recurses := true, apart := false }
def StorePlansSaid : Prop := storePlansRow.holds Try.pinned (OpenSpec.ofChange storePlansSpec)

/-- ITS FALSE NEIGHBOUR: 'it returns false'. Refute it at one input. -/
def storePlansWrong : ChangeSpec := { name := "storePlans", fn := fun _ => fun
  | [d1, d2] => { results := [.lit (.bool false)], args := [d1, d2] }
  | _ => none }
def StorePlansWrongFalsely : Prop := storePlansRow.holds Try.pinned (OpenSpec.ofChange storePlansWrong)

/-- 'tallagelaw06.StoreMoves': WHATEVER THE INPUT: true; the input reads as it did. -/
def storeMovesSpec : ChangeSpec := { name := "storeMoves", fn := fun _ => fun
  | [d1, d2, d3] => { results := [.lit (.bool true)], args := [d1, d2, d3] }
  | _ => none }
def storeMovesRow : OpenClaim := { program := "ytpakihbejdpmoaa", sum := "9e3e450c5bd0876e42d79ee167bd9bb0ef33818de5c744e69dd477e128844cbd", func := "tallage/tallagelaw06.StoreMoves", spec := "storeMoves", unfollowed := true, recurses := true, apart := false }
def StoreMovesSaid : Prop := storeMovesRow.holds Try.pinned (OpenSpec.ofChange storeMovesSpec)

/-- ITS FALSE NEIGHBOUR: 'it returns false'. Refute it at one input. -/
def storeMovesWrong : ChangeSpec := { name := "storeMoves", fn := fun _ => fun
  | [d1, d2, d3] => { results := [.lit (.bool false)], args := [d1, d2, d3] }
  | _ => none }
def StoreMovesWrongFalsely : Prop := storeMovesRow.holds Try.pinned (OpenSpec.ofChange storeMovesWrong)

/-- 'tallagelaw06.StoreUnnamed': WHATEVER THE INPUT: true; the input reads as it did. -/
def storeUnnamedSpec : ChangeSpec := { name := "storeUnnamed", fn := fun _ => fun
  | [d1, d2] => { results := [.lit (.bool true)], args := [d1, d2] }
  | _ => none }
def storeUnnamedRow : OpenClaim := { program := "ytpakihbejdpmoaa", sum := "9e3e450c5bd0876e42d79ee167bd9bb0ef33818de5c744e69dd477e128844cbd", func := "tallage/tallagelaw06.StoreUnnamed", spec := "storeUnnamed", inPlace := ["maps.clone"], unfollowed := true, recurses := true, apart := false }
def StoreUnnamedSaid : Prop := storeUnnamedRow.holds Try.pinned (OpenSpec.ofChange storeUnnamedSpec)

/-- ITS FALSE NEIGHBOUR: 'it returns false'. Refute it at one input. -/
def storeUnnamedWrong : ChangeSpec := { name := "storeUnnamed", fn := fun _ => fun
  | [d1, d2] => { results := [.lit (.bool false)], args := [d1, d2] }
  | _ => none }
def StoreUnnamedWrongFalsely : Prop := storeUnnamedRow.holds Try.pinned (OpenSpec.ofChange storeUnnamedWrong)

/-- 'tallagelaw06.StoreLasts': WHATEVER THE INPUT: true; the input reads as it did. -/
def storeLastsSpec : ChangeSpec := { name := "storeLasts", fn := fun _ => fun
  | [d1, d2, d3] => { results := [.lit (.bool true)], args := [d1, d2, d3] }
  | _ => none }
def storeLastsRow : OpenClaim := { program := "ytpakihbejdpmoaa", sum := "9e3e450c5bd0876e42d79ee167bd9bb0ef33818de5c744e69dd477e128844cbd", func := "tallage/tallagelaw06.StoreLasts", spec := "storeLasts", inPlace := ["maps.clone"], unfollowed := true, recurses := true, apart := false }
def StoreLastsSaid : Prop := storeLastsRow.holds Try.pinned (OpenSpec.ofChange storeLastsSpec)

/-- ITS FALSE NEIGHBOUR: 'it returns false'. Refute it at one input. -/
def storeLastsWrong : ChangeSpec := { name := "storeLasts", fn := fun _ => fun
  | [d1, d2, d3] => { results := [.lit (.bool false)], args := [d1, d2, d3] }
  | _ => none }
def StoreLastsWrongFalsely : Prop := storeLastsRow.holds Try.pinned (OpenSpec.ofChange storeLastsWrong)

/- THE SECOND FORM. 'bulk': how many values and letters a reading holds, each counted each time it is reached (what is shared counts as often as it is met; a slice's spare places count too). A statement '..UptoSaid' is the law's where the arguments, and the package variables that the reading takes, are together of bulk at most 1048576: NARROWER than '..Said'. Prove '..Said' where nothing that the law and all that it calls make is longer than what came in: it says more and counts as full. Else prove '..UptoSaid'. A law counts once. -/
mutual
def uptoBulk {H : Type} : DataW H → Nat
  | .lit (.string bytes) => bytes.length + 1
  | .lit _ => 1
  | .nil => 1
  | .ptr d => uptoBulk d + 1
  | .slice elems spare => uptoBulkAll elems + uptoBulkAll spare + 1
  | .agg parts => uptoBulkAll parts + 1
  | .iface _ d => uptoBulk d + 1
  | .map entries => uptoBulkEntries entries + 1
  | .held _ => 1
def uptoBulkAll {H : Type} : List (DataW H) → Nat
  | [] => 0
  | d :: r => uptoBulk d + uptoBulkAll r
def uptoBulkEntries {H : Type} : List (Lit × DataW H) → Nat
  | [] => 0
  | x :: r => uptoBulkEntry x + uptoBulkEntries r
def uptoBulkEntry {H : Type} : Lit × DataW H → Nat
  | (.string bytes, d) => bytes.length + uptoBulk d + 1
  | (_, d) => uptoBulk d + 1
 end
def uptoSmall : (H : Type) → List (DataW H) → Bool := fun _ ds => decide (uptoBulkAll ds ≤ 1048576)
def OpenSpec.upto (s : _root_.Go.ChangeSpec) : _root_.Go.OpenSpec := { _root_.Go.OpenSpec.ofChange s with cond := some uptoSmall }

/-- 'tallagelaw06.StoreScripts', WHERE WHAT IT READS IS OF BULK AT MOST 1048576: true; the input reads as it did. -/
def storeScriptsUptoRow : OpenClaim := { program := "ytpakihbejdpmoaa", sum := "9e3e450c5bd0876e42d79ee167bd9bb0ef33818de5c744e69dd477e128844cbd", func := "tallage/tallagelaw06.StoreScripts", spec := "storeScripts", inPlace := ["maps.clone"], unfollowed := true, recurses := true, apart := false, narrowed := true }
def StoreScriptsUptoSaid : Prop := storeScriptsUptoRow.holds Try.pinned (OpenSpec.upto storeScriptsSpec)

/-- 'tallagelaw06.StoreNews', WHERE WHAT IT READS IS OF BULK AT MOST 1048576: true; the input reads as it did. -/
def storeNewsUptoRow : OpenClaim := { program := "ytpakihbejdpmoaa", sum := "9e3e450c5bd0876e42d79ee167bd9bb0ef33818de5c744e69dd477e128844cbd", func := "tallage/tallagelaw06.StoreNews", spec := "storeNews", unfollowed := true, recurses := true, apart := false, narrowed := true }
def StoreNewsUptoSaid : Prop := storeNewsUptoRow.holds Try.pinned (OpenSpec.upto storeNewsSpec)

/-- 'tallagelaw06.StorePlans', WHERE WHAT IT READS IS OF BULK AT MOST 1048576: true; the input reads as it did. -/
def storePlansUptoRow : OpenClaim := { program := "ytpakihbejdpmoaa", sum := "9e3e450c5bd0876e42d79ee167bd9bb0ef33818de5c744e69dd477e128844cbd", func := "tallage/tallagelaw06.StorePlans", spec := "storePlans", unfollowed := true, recurses := true, apart := false, narrowed := true }
def StorePlansUptoSaid : Prop := storePlansUptoRow.holds Try.pinned (OpenSpec.upto storePlansSpec)

/-- 'tallagelaw06.StoreMoves', WHERE WHAT IT READS IS OF BULK AT MOST 1048576: true; the input reads as it did. -/
def storeMovesUptoRow : OpenClaim := { program := "ytpakihbejdpmoaa", sum := "9e3e450c5bd0876e42d79ee167bd9bb0ef33818de5c744e69dd477e128844cbd", func := "tallage/tallagelaw06.StoreMoves", spec := "storeMoves", unfollowed := true, recurses := true, apart := false, narrowed := true }
def StoreMovesUptoSaid : Prop := storeMovesUptoRow.holds Try.pinned (OpenSpec.upto storeMovesSpec)

/-- 'tallagelaw06.StoreUnnamed', WHERE WHAT IT READS IS OF BULK AT MOST 1048576: true; the input reads as it did. -/
def storeUnnamedUptoRow : OpenClaim := { program := "ytpakihbejdpmoaa", sum := "9e3e450c5bd0876e42d79ee167bd9bb0ef33818de5c744e69dd477e128844cbd", func := "tallage/tallagelaw06.StoreUnnamed", spec := "storeUnnamed", inPlace := ["maps.clone"], unfollowed := true, recurses := true, apart := false, narrowed := true }
def StoreUnnamedUptoSaid : Prop := storeUnnamedUptoRow.holds Try.pinned (OpenSpec.upto storeUnnamedSpec)

/-- 'tallagelaw06.StoreLasts', WHERE WHAT IT READS IS OF BULK AT MOST 1048576: true; the input reads as it did. -/
def storeLastsUptoRow : OpenClaim := { program := "ytpakihbejdpmoaa", sum := "9e3e450c5bd0876e42d79ee167bd9bb0ef33818de5c744e69dd477e128844cbd", func := "tallage/tallagelaw06.StoreLasts", spec := "storeLasts", inPlace := ["maps.clone"], unfollowed := true, recurses := true, apart := false, narrowed := true }
def StoreLastsUptoSaid : Prop := storeLastsUptoRow.holds Try.pinned (OpenSpec.upto storeLastsSpec)

end Rows
end Go.Proofs.Ytpakihbejdpmoaa
