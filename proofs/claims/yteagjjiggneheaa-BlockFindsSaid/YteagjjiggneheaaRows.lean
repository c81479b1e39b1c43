/-
  No cell of these rows narrows 'for every input' (looked for: loops, veiled, ifaces, maps, wideKeys, modest, calm, conditions, laid).
  DERIVED. THE GIVEN ROWS OF THIS SEAT. 5 by the template 'for every input the law returns true; each argument reads behind the call as it read before'; 0 by the template 'total and deterministic' (their statements: YteagjjiggneheaaTotals.lean).
  GIVEN WITH THE SEED: the statements are not yours to turn. If you find one false, say at which input.
  Laid BY PROGRAM, IN A SANDBOX (cutbox-rows.mjs): the forced cells as the released guide's own fill.sh prints them over the translation 91b31b80c7e571b8… (all of the seat's roots in one cut). By AI agents, Wed Nov 11 2026. No macro, syntax, notation, axiom, sorry.
-/
import Derived.Test.YteagjjiggneheaaChecked
import GoSem.Claim
import GoSem.ClaimJoined
import GoSem.ClaimMapViews
import Derived.JoinedTies
import Derived.KernelRfl
namespace Go.Proofs.Yteagjjiggneheaa
/- THE CELL 'sum', in the pinned program and in every row, IS THE sha256 OF THE DUMP (.gsa) THAT YteagjjiggneheaaProg.lean LOADS. Nothing in Lean hashes anything: it is a label: what it is worth is what the hold of that sum in a sandbox is worth. -/
noncomputable def Try.pinned : Pinned := { name := "yteagjjiggneheaa", sum := "91b31b80c7e571b8b77b87fdc20ed287f65b29314d9587d87eab57a56f8f40e9", checked := Try.checked }
namespace Rows
def none {H : Type} : Left H := { results := [], args := [] }

/-- 'tallagelaw10.BlockBuilds': WHATEVER THE INPUT: true; the input reads as it did. -/
def blockBuildsSpec : ChangeSpec := { name := "blockBuilds", fn := fun _ => fun
  | [d1, d2] => { results := [.lit (.bool true)], args := [d1, d2] }
  | _ => none }
def blockBuildsRow : OpenClaim := { program := "yteagjjiggneheaa", sum := "91b31b80c7e571b8b77b87fdc20ed287f65b29314d9587d87eab57a56f8f40e9", func := "tallage/tallagelaw10.BlockBuilds", spec := "blockBuilds", inPlace := ["internal/bytealg.Compare"], apart := false }
def BlockBuildsSaid : Prop := blockBuildsRow.holds Try.pinned (OpenSpec.ofChange blockBuildsSpec)

/-- ITS FALSE NEIGHBOUR: 'it returns false'. Refute it at one input. -/
def blockBuildsWrong : ChangeSpec := { name := "blockBuilds", fn := fun _ => fun
  | [d1, d2] => { results := [.lit (.bool false)], args := [d1, d2] }
  | _ => none }
def BlockBuildsWrongFalsely : Prop := blockBuildsRow.holds Try.pinned (OpenSpec.ofChange blockBuildsWrong)

/-- 'tallagelaw10.BlockShorter': WHATEVER THE INPUT: true; the input reads as it did. -/
def blockShorterSpec : ChangeSpec := { name := "blockShorter", fn := fun _ => fun
  | [d1, d2, d3] => { results := [.lit (.bool true)], args := [d1, d2, d3] }
  | _ => none }
def blockShorterRow : OpenClaim := { program := "yteagjjiggneheaa", sum := "91b31b80c7e571b8b77b87fdc20ed287f65b29314d9587d87eab57a56f8f40e9", func := "tallage/tallagelaw10.BlockShorter", spec := "blockShorter", inPlace := ["internal/bytealg.Compare"], apart := false }
def BlockShorterSaid : Prop := blockShorterRow.holds Try.pinned (OpenSpec.ofChange blockShorterSpec)

/-- ITS FALSE NEIGHBOUR: 'it returns false'. Refute it at one input. -/
def blockShorterWrong : ChangeSpec := { name := "blockShorter", fn := fun _ => fun
  | [d1, d2, d3] => { results := [.lit (.bool false)], args := [d1, d2, d3] }
  | _ => none }
def BlockShorterWrongFalsely : Prop := blockShorterRow.holds Try.pinned (OpenSpec.ofChange blockShorterWrong)

/-- 'tallagelaw10.BlockParses': WHATEVER THE INPUT: true; the input reads as it did. -/
def blockParsesSpec : ChangeSpec := { name := "blockParses", fn := fun _ => fun
  | [d1, d2] => { results := [.lit (.bool true)], args := [d1, d2] }
  | _ => none }
def blockParsesRow : OpenClaim := { program := "yteagjjiggneheaa", sum := "91b31b80c7e571b8b77b87fdc20ed287f65b29314d9587d87eab57a56f8f40e9", func := "tallage/tallagelaw10.BlockParses", spec := "blockParses", inPlace := ["internal/bytealg.Compare"], unfollowed := true, recurses := true, apart := false }
def BlockParsesSaid : Prop := blockParsesRow.holds Try.pinned (OpenSpec.ofChange blockParsesSpec)

/-- ITS FALSE NEIGHBOUR: 'it returns false'. Refute it at one input. -/
def blockParsesWrong : ChangeSpec := { name := "blockParses", fn := fun _ => fun
  | [d1, d2] => { results := [.lit (.bool false)], args := [d1, d2] }
  | _ => none }
def BlockParsesWrongFalsely : Prop := blockParsesRow.holds Try.pinned (OpenSpec.ofChange blockParsesWrong)

/-- 'tallagelaw10.BlockBack': WHATEVER THE INPUT: true; the input reads as it did. -/
def blockBackSpec : ChangeSpec := { name := "blockBack", fn := fun _ => fun
  | [d1, d2, d3] => { results := [.lit (.bool true)], args := [d1, d2, d3] }
  | _ => none }
def blockBackRow : OpenClaim := { program := "yteagjjiggneheaa", sum := "91b31b80c7e571b8b77b87fdc20ed287f65b29314d9587d87eab57a56f8f40e9", func := "tallage/tallagelaw10.BlockBack", spec := "blockBack", inPlace := ["internal/bytealg.Compare"], unfollowed := true, recurses := true, apart := false }
def BlockBackSaid : Prop := blockBackRow.holds Try.pinned (OpenSpec.ofChange blockBackSpec)

/-- ITS FALSE NEIGHBOUR: 'it returns false'. Refute it at one input. -/
def blockBackWrong : ChangeSpec := { name := "blockBack", fn := fun _ => fun
  | [d1, d2, d3] => { results := [.lit (.bool false)], args := [d1, d2, d3] }
  | _ => none }
def BlockBackWrongFalsely : Prop := blockBackRow.holds Try.pinned (OpenSpec.ofChange blockBackWrong)

/-- 'tallagelaw10.BlockFinds': WHATEVER THE INPUT: true; the input reads as it did. -/
def blockFindsSpec : ChangeSpec := { name := "blockFinds", fn := fun _ => fun
  | [d1, d2, d3] => { results := [.lit (.bool true)], args := [d1, d2, d3] }
  | _ => none }
def blockFindsRow : OpenClaim := { program := "yteagjjiggneheaa", sum := "91b31b80c7e571b8b77b87fdc20ed287f65b29314d9587d87eab57a56f8f40e9", func := "tallage/tallagelaw10.BlockFinds", spec := "blockFinds", inPlace := ["internal/bytealg.Compare"], unfollowed := true, recurses := true, apart := false }
def BlockFindsSaid : Prop := blockFindsRow.holds Try.pinned (OpenSpec.ofChange blockFindsSpec)

/-- ITS FALSE NEIGHBOUR: 'it returns false'. Refute it at one input. -/
def blockFindsWrong : ChangeSpec := { name := "blockFinds", fn := fun _ => fun
  | [d1, d2, d3] => { results := [.lit (.bool false)], args := [d1, d2, d3] }
  | _ => none }
def BlockFindsWrongFalsely : Prop := blockFindsRow.holds Try.pinned (OpenSpec.ofChange blockFindsWrong)

/- THE SECOND FORM. 'bulk': how many values and letters a reading holds, each counted each time it is reached (what is shared counts as often as it is met; a slice's spare places count too). A statement '..UptoSaid' is the law's where the arguments, and the package variables that the reading takes, are together of bulk at most 1048576: NARROWER than '..Said'. Prove '..Said' where nothing that the law and all that it calls make is longer than what came in: it says more and counts as full. Else prove '..UptoSaid'. A law counts once. -/
mutual
def uptoBulk {H : Type} : DataW H → Nat
  | .lit (.string bytes) => bytes.length + 1
  | .lit _ => 1
  | .nil => 1
  | .ptr d => uptoBulk d + 1
  | .slice elems spare => uptoBulkAll elems + uptoBulkAll spare + 1
  | .agg parts => uptoBulkAll parts + 1
  | .iface _ d => uptoBulk d + 1
  | .map entries => uptoBulkEntries entries + 1
  | .held _ => 1
def uptoBulkAll {H : Type} : List (DataW H) → Nat
  | [] => 0
  | d :: r => uptoBulk d + uptoBulkAll r
def uptoBulkEntries {H : Type} : List (Lit × DataW H) → Nat
  | [] => 0
  | x :: r => uptoBulkEntry x + uptoBulkEntries r
def uptoBulkEntry {H : Type} : Lit × DataW H → Nat
  | (.string bytes, d) => bytes.length + uptoBulk d + 1
  | (_, d) => uptoBulk d + 1
 end
def uptoSmall : (H : Type) → List (DataW H) → Bool := fun _ ds => decide (uptoBulkAll ds ≤ 1048576)
def OpenSpec.upto (s : _root_.Go.ChangeSpec) : _root_.Go.OpenSpec := { _root_.Go.OpenSpec.ofChange s with cond := some uptoSmall }

/-- 'tallagelaw10.BlockBuilds', WHERE WHAT IT READS IS OF BULK AT MOST 1048576: true; the input reads as it did. -/
def blockBuildsUptoRow : OpenClaim := { program := "yteagjjiggneheaa", sum := "91b31b80c7e571b8b77b87fdc20ed287f65b29314d9587d87eab57a56f8f40e9", func := "tallage/tallagelaw10.BlockBuilds", spec := "blockBuilds", inPlace := ["internal/bytealg.Compare"], apart := false, narrowed := true }
def BlockBuildsUptoSaid : Prop := blockBuildsUptoRow.holds Try.pinned (OpenSpec.upto blockBuildsSpec)

/-- 'tallagelaw10.BlockShorter', WHERE WHAT IT READS IS OF BULK AT MOST 1048576: true; the input reads as it did. -/
def blockShorterUptoRow : OpenClaim := { program := "yteagjjiggneheaa", sum := "91b31b80c7e571b8b77b87fdc20ed287f65b29314d9587d87eab57a56f8f40e9", func := "tallage/tallagelaw10.BlockShorter", spec := "blockShorter", inPlace := ["internal/bytealg.Compare"], apart := false, narrowed := true }
def BlockShorterUptoSaid : Prop := blockShorterUptoRow.holds Try.pinned (OpenSpec.upto blockShorterSpec)

/-- 'tallagelaw10.BlockParses', WHERE WHAT IT READS IS OF BULK AT MOST 1048576: true; the input reads as it did. -/
def blockParsesUptoRow : OpenClaim := { program := "yteagjjiggneheaa", sum := "91b31b80c7e571b8b77b87fdc20ed287f65b29314d9587d87eab57a56f8f40e9", func := "tallage/tallagelaw10.BlockParses", spec := "blockParses", inPlace := ["internal/bytealg.Compare"], unfollowed := true, recurses := true, apart := false, narrowed := true }
def BlockParsesUptoSaid : Prop := blockParsesUptoRow.holds Try.pinned (OpenSpec.upto blockParsesSpec)

/-- 'tallagelaw10.BlockBack', WHERE WHAT IT READS IS OF BULK AT MOST 1048576: true; the input reads as it did. -/
def blockBackUptoRow : OpenClaim := { program := "yteagjjiggneheaa", sum := "91b31b80c7e571b8b77b87fdc20ed287f65b29314d9587d87eab57a56f8f40e9", func := "tallage/tallagelaw10.BlockBack", spec := "blockBack", inPlace := ["internal/bytealg.Compare"], unfollowed := true, recurses := true, apart := false, narrowed := true }
def BlockBackUptoSaid : Prop := blockBackUptoRow.holds Try.pinned (OpenSpec.upto blockBackSpec)

/-- 'tallagelaw10.BlockFinds', WHERE WHAT IT READS IS OF BULK AT MOST 1048576: true; the input reads as it did. -/
def blockFindsUptoRow : OpenClaim := { program := "yteagjjiggneheaa", sum := "91b31b80c7e571b8b77b87fdc20ed287f65b29314d9587d87eab57a56f8f40e9", func := "tallage/tallagelaw10.BlockFinds", spec := "blockFinds", inPlace := ["internal/bytealg.Compare"], unfollowed := true, recurses := true, apart := false, narrowed := true }
def BlockFindsUptoSaid : Prop := blockFindsUptoRow.holds Try.pinned (OpenSpec.upto blockFindsSpec)

end Rows
end Go.Proofs.Yteagjjiggneheaa
