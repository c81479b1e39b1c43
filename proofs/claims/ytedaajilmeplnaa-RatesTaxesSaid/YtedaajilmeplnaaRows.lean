/-
  No cell of these rows narrows 'for every input' (looked for: loops, veiled, ifaces, maps, wideKeys, modest, calm, conditions, laid).
  DERIVED. THE GIVEN ROWS OF THIS SEAT. 6 by the template 'for every input the law returns true; each argument reads behind the call as it read before'; 0 by the template 'total and deterministic' (their statements: YtedaajilmeplnaaTotals.lean).
  GIVEN WITH THE SEED: the statements are not yours to turn. If you find one false, say at which input.
  Laid BY PROGRAM, IN A SANDBOX (cutbox-rows.mjs): the forced cells as the released guide's own fill.sh prints them over the translation 45dc8fc97e3ef387… (all of the seat's roots in one cut). By AI agents, Wed Nov 11 2026. No macro, syntax, notation, axiom, sorry.
-/
import Derived.Test.YtedaajilmeplnaaChecked
import GoSem.Claim
import GoSem.ClaimJoined
import GoSem.ClaimMapViews
import Derived.JoinedTies
import Derived.KernelRfl
namespace Go.Proofs.Ytedaajilmeplnaa
/- THE CELL 'sum', in the pinned program and in every row, IS THE sha256 OF THE DUMP (.gsa) THAT YtedaajilmeplnaaProg.lean LOADS. Nothing in Lean hashes anything: it is a label: what it is worth is what the hold of that sum in a sandbox is worth. -/
noncomputable def Try.pinned : Pinned := { name := "ytedaajilmeplnaa", sum := "45dc8fc97e3ef3870dd62fd2678a45cf53f5e8ada86c8a9d703c07c82b25da5e", checked := Try.checked }
namespace Rows
def none {H : Type} : Left H := { results := [], args := [] }

/-- 'tallagelaw15.RatesRises': WHATEVER THE INPUT: true; the input reads as it did. -/
def ratesRisesSpec : ChangeSpec := { name := "ratesRises", fn := fun _ => fun
  | [d1, d2, d3] => { results := [.lit (.bool true)], args := [d1, d2, d3] }
  | _ => none }
def ratesRisesRow : OpenClaim := { program := "ytedaajilmeplnaa", sum := "45dc8fc97e3ef3870dd62fd2678a45cf53f5e8ada86c8a9d703c07c82b25da5e", func := "tallage/tallagelaw15.RatesRises", spec := "ratesRises", apart := false }
def RatesRisesSaid : Prop := ratesRisesRow.holds Try.pinned (OpenSpec.ofChange ratesRisesSpec)

/-- ITS FALSE NEIGHBOUR: 'it returns false'. Refute it at one input. -/
def ratesRisesWrong : ChangeSpec := { name := "ratesRises", fn := fun _ => fun
  | [d1, d2, d3] => { results := [.lit (.bool false)], args := [d1, d2, d3] }
  | _ => none }
def RatesRisesWrongFalsely : Prop := ratesRisesRow.holds Try.pinned (OpenSpec.ofChange ratesRisesWrong)

/-- 'tallagelaw15.RatesJoins': WHATEVER THE INPUT: true; the input reads as it did. -/
def ratesJoinsSpec : ChangeSpec := { name := "ratesJoins", fn := fun _ => fun
  | [d1, d2, d3] => { results := [.lit (.bool true)], args := [d1, d2, d3] }
  | _ => none }
def ratesJoinsRow : OpenClaim := { program := "ytedaajilmeplnaa", sum := "45dc8fc97e3ef3870dd62fd2678a45cf53f5e8ada86c8a9d703c07c82b25da5e", func := "tallage/tallagelaw15.RatesJoins", spec := "ratesJoins", apart := false }
def RatesJoinsSaid : Prop := ratesJoinsRow.holds Try.pinned (OpenSpec.ofChange ratesJoinsSpec)

/-- ITS FALSE NEIGHBOUR: 'it returns false'. Refute it at one input. -/
def ratesJoinsWrong : ChangeSpec := { name := "ratesJoins", fn := fun _ => fun
  | [d1, d2, d3] => { results := [.lit (.bool false)], args := [d1, d2, d3] }
  | _ => none }
def RatesJoinsWrongFalsely : Prop := ratesJoinsRow.holds Try.pinned (OpenSpec.ofChange ratesJoinsWrong)

/-- 'tallagelaw15.RatesFlat': WHATEVER THE INPUT: true; the input reads as it did. -/
def ratesFlatSpec : ChangeSpec := { name := "ratesFlat", fn := fun _ => fun
  | [d1, d2] => { results := [.lit (.bool true)], args := [d1, d2] }
  | _ => none }
def ratesFlatRow : OpenClaim := { program := "ytedaajilmeplnaa", sum := "45dc8fc97e3ef3870dd62fd2678a45cf53f5e8ada86c8a9d703c07c82b25da5e", func := "tallage/tallagelaw15.RatesFlat", spec := "ratesFlat", apart := false }
def RatesFlatSaid : Prop := ratesFlatRow.holds Try.pinned (OpenSpec.ofChange ratesFlatSpec)

/-- ITS FALSE NEIGHBOUR: 'it returns false'. Refute it at one input. -/
def ratesFlatWrong : ChangeSpec := { name := "ratesFlat", fn := fun _ => fun
  | [d1, d2] => { results := [.lit (.bool false)], args := [d1, d2] }
  | _ => none }
def RatesFlatWrongFalsely : Prop := ratesFlatRow.holds Try.pinned (OpenSpec.ofChange ratesFlatWrong)

/-- 'tallagelaw15.RatesTaxes': WHATEVER THE INPUT: true; the input reads as it did. -/
def ratesTaxesSpec : ChangeSpec := { name := "ratesTaxes", fn := fun _ => fun
  | [d1, d2] => { results := [.lit (.bool true)], args := [d1, d2] }
  | _ => none }
def ratesTaxesRow : OpenClaim := { program := "ytedaajilmeplnaa", sum := "45dc8fc97e3ef3870dd62fd2678a45cf53f5e8ada86c8a9d703c07c82b25da5e", func := "tallage/tallagelaw15.RatesTaxes", spec := "ratesTaxes", apart := false }
def RatesTaxesSaid : Prop := ratesTaxesRow.holds Try.pinned (OpenSpec.ofChange ratesTaxesSpec)

/-- ITS FALSE NEIGHBOUR: 'it returns false'. Refute it at one input. -/
def ratesTaxesWrong : ChangeSpec := { name := "ratesTaxes", fn := fun _ => fun
  | [d1, d2] => { results := [.lit (.bool false)], args := [d1, d2] }
  | _ => none }
def RatesTaxesWrongFalsely : Prop := ratesTaxesRow.holds Try.pinned (OpenSpec.ofChange ratesTaxesWrong)

/-- 'tallagelaw15.RatesCodes': WHATEVER THE INPUT: true; the input reads as it did. -/
def ratesCodesSpec : ChangeSpec := { name := "ratesCodes", fn := fun _ => fun
  | [d1, d2] => { results := [.lit (.bool true)], args := [d1, d2] }
  | _ => none }
def ratesCodesRow : OpenClaim := { program := "ytedaajilmeplnaa", sum := "45dc8fc97e3ef3870dd62fd2678a45cf53f5e8ada86c8a9d703c07c82b25da5e", func := "tallage/tallagelaw15.RatesCodes", spec := "ratesCodes", unfollowed := true, recurses := true, apart := false }
def RatesCodesSaid : Prop := ratesCodesRow.holds Try.pinned (OpenSpec.ofChange ratesCodesSpec)

/-- ITS FALSE NEIGHBOUR: 'it returns false'. Refute it at one input. -/
def ratesCodesWrong : ChangeSpec := { name := "ratesCodes", fn := fun _ => fun
  | [d1, d2] => { results := [.lit (.bool false)], args := [d1, d2] }
  | _ => none }
def RatesCodesWrongFalsely : Prop := ratesCodesRow.holds Try.pinned (OpenSpec.ofChange ratesCodesWrong)

/-- 'tallagelaw15.RatesBack': WHATEVER THE INPUT: true; the input reads as it did. -/
def ratesBackSpec : ChangeSpec := { name := "ratesBack", fn := fun _ => fun
  | [d] => { results := [.lit (.bool true)], args := [d] }
  | _ => none }
def ratesBackRow : OpenClaim := { program := "ytedaajilmeplnaa", sum := "45dc8fc97e3ef3870dd62fd2678a45cf53f5e8ada86c8a9d703c07c82b25da5e", func := "tallage/tallagelaw15.RatesBack", spec := "ratesBack", unfollowed := true, recurses := true, apart := false }
def RatesBackSaid : Prop := ratesBackRow.holds Try.pinned (OpenSpec.ofChange ratesBackSpec)

/-- ITS FALSE NEIGHBOUR: 'it returns false'. Refute it at one input. -/
def ratesBackWrong : ChangeSpec := { name := "ratesBack", fn := fun _ => fun
  | [d] => { results := [.lit (.bool false)], args := [d] }
  | _ => none }
def RatesBackWrongFalsely : Prop := ratesBackRow.holds Try.pinned (OpenSpec.ofChange ratesBackWrong)

/- THE SECOND FORM. 'bulk': how many values and letters a reading holds, each counted each time it is reached (what is shared counts as often as it is met; a slice's spare places count too). A statement '..UptoSaid' is the law's where the arguments, and the package variables that the reading takes, are together of bulk at most 1048576: NARROWER than '..Said'. Prove '..Said' where nothing that the law and all that it calls make is longer than what came in: it says more and counts as full. Else prove '..UptoSaid'. A law counts once. -/
mutual
def uptoBulk {H : Type} : DataW H → Nat
  | .lit (.string bytes) => bytes.length + 1
  | .lit _ => 1
  | .nil => 1
  | .ptr d => uptoBulk d + 1
  | .slice elems spare => uptoBulkAll elems + uptoBulkAll spare + 1
  | .agg parts => uptoBulkAll parts + 1
  | .iface _ d => uptoBulk d + 1
  | .map entries => uptoBulkEntries entries + 1
  | .held _ => 1
def uptoBulkAll {H : Type} : List (DataW H) → Nat
  | [] => 0
  | d :: r => uptoBulk d + uptoBulkAll r
def uptoBulkEntries {H : Type} : List (Lit × DataW H) → Nat
  | [] => 0
  | x :: r => uptoBulkEntry x + uptoBulkEntries r
def uptoBulkEntry {H : Type} : Lit × DataW H → Nat
  | (.string bytes, d) => bytes.length + uptoBulk d + 1
  | (_, d) => uptoBulk d + 1
 end
def uptoSmall : (H : Type) → List (DataW H) → Bool := fun _ ds => decide (uptoBulkAll ds ≤ 1048576)
def OpenSpec.upto (s : _root_.Go.ChangeSpec) : _root_.Go.OpenSpec := { _root_.Go.OpenSpec.ofChange s with cond := some uptoSmall }

/-- 'tallagelaw15.RatesRises', WHERE WHAT IT READS IS OF BULK AT MOST 1048576: true; the input reads as it did. -/
def ratesRisesUptoRow : OpenClaim := { program := "ytedaajilmeplnaa", sum := "45dc8fc97e3ef3870dd62fd2678a45cf53f5e8ada86c8a9d703c07c82b25da5e", func := "tallage/tallagelaw15.RatesRises", spec := "ratesRises", apart := false, narrowed := true }
def RatesRisesUptoSaid : Prop := ratesRisesUptoRow.holds Try.pinned (OpenSpec.upto ratesRisesSpec)

/-- 'tallagelaw15.RatesJoins', WHERE WHAT IT READS IS OF BULK AT MOST 1048576: true; the input reads as it did. -/
def ratesJoinsUptoRow : OpenClaim := { program := "ytedaajilmeplnaa", sum := "45dc8fc97e3ef3870dd62fd2678a45cf53f5e8ada86c8a9d703c07c82b25da5e", func := "tallage/tallagelaw15.RatesJoins", spec := "ratesJoins", apart := false, narrowed := true }
def RatesJoinsUptoSaid : Prop := ratesJoinsUptoRow.holds Try.pinned (OpenSpec.upto ratesJoinsSpec)

/-- 'tallagelaw15.RatesFlat', WHERE WHAT IT READS IS OF BULK AT MOST 1048576: true; the input reads as it did. -/
def ratesFlatUptoRow : OpenClaim := { program := "ytedaajilmeplnaa", sum := "45dc8fc97e3ef3870dd62fd2678a45cf53f5e8ada86c8a9d703c07c82b25da5e", func := "tallage/tallagelaw15.RatesFlat", spec := "ratesFlat", apart := false, narrowed := true }
def RatesFlatUptoSaid : Prop := ratesFlatUptoRow.holds Try.pinned (OpenSpec.upto ratesFlatSpec)

/-- 'tallagelaw15.RatesTaxes', WHERE WHAT IT READS IS OF BULK AT MOST 1048576: true; the input reads as it did. -/
def ratesTaxesUptoRow : OpenClaim := { program := "ytedaajilmeplnaa", sum := "45dc8fc97e3ef3870dd62fd2678a45cf53f5e8ada86c8a9d703c07c82b25da5e", func := "tallage/tallagelaw15.RatesTaxes", spec := "ratesTaxes", apart := false, narrowed := true }
def RatesTaxesUptoSaid : Prop := ratesTaxesUptoRow.holds Try.pinned (OpenSpec.upto ratesTaxesSpec)

/-- 'tallagelaw15.RatesCodes', WHERE WHAT IT READS IS OF BULK AT MOST 1048576: true; the input reads as it did. -/
def ratesCodesUptoRow : OpenClaim := { program := "ytedaajilmeplnaa", sum := "45dc8fc97e3ef3870dd62fd2678a45cf53f5e8ada86c8a9d703c07c82b25da5e", func := "tallage/tallagelaw15.RatesCodes", spec := "ratesCodes", unfollowed := true, recurses := true, apart := false, narrowed := true }
def RatesCodesUptoSaid : Prop := ratesCodesUptoRow.holds Try.pinned (OpenSpec.upto ratesCodesSpec)

/-- 'tallagelaw15.RatesBack', WHERE WHAT IT READS IS OF BULK AT MOST 1048576: true; the input reads as it did. -/
def ratesBackUptoRow : OpenClaim := { program := "ytedaajilmeplnaa", sum := "45dc8fc97e3ef3870dd62fd2678a45cf53f5e8ada86c8a9d703c07c82b25da5e", func := "tallage/tallagelaw15.RatesBack", spec := "ratesBack", unfollowed := true, recurses := true, apart := false, narrowed := true }
def RatesBackUptoSaid : Prop := ratesBackUptoRow.holds Try.pinned (OpenSpec.upto ratesBackSpec)

end Rows
end Go.Proofs.Ytedaajilmeplnaa
