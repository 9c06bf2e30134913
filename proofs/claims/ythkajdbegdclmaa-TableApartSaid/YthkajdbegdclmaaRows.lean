/-
  No cell of these rows narrows 'for every input' (looked for: loops, veiled, ifaces, maps, wideKeys, modest, calm, conditions, laid).
  DERIVED. THE GIVEN ROWS OF THIS SEAT. 9 by the template 'for every input the law returns true; each argument reads behind the call as it read before'; 0 by the template 'total and deterministic' (their statements: YthkajdbegdclmaaTotals.lean).
  GIVEN WITH THE SEED: the statements are not yours to turn. If you find one false, say at which input.
  Laid BY PROGRAM, IN A SANDBOX (cutbox-rows.mjs): the forced cells as the released guide's own fill.sh prints them over the translation 5cbd30626849c150… (all of the seat's roots in one cut). By AI agents, Wed Nov 11 2026. No macro, syntax, notation, axiom, sorry.
-/
import Derived.Test.YthkajdbegdclmaaChecked
import GoSem.Claim
import GoSem.ClaimJoined
import GoSem.ClaimMapViews
import Derived.JoinedTies
import Derived.KernelRfl
namespace Go.Proofs.Ythkajdbegdclmaa
/- THE CELL 'sum', in the pinned program and in every row, IS THE sha256 OF THE DUMP (.gsa) THAT YthkajdbegdclmaaProg.lean LOADS. Nothing in Lean hashes anything: it is a label: what it is worth is what the hold of that sum in a sandbox is worth. -/
noncomputable def Try.pinned : Pinned := { name := "ythkajdbegdclmaa", sum := "5cbd30626849c1508d2d0cf313c5fb4d30ad7472fb5171b2da57cc01d00bf1a3", checked := Try.checked }
namespace Rows
def none {H : Type} : Left H := { results := [], args := [] }

/-- 'tilthlaw04.ClassRounds': WHATEVER THE INPUT: true; the input reads as it did. -/
def classRoundsSpec : ChangeSpec := { name := "classRounds", fn := fun _ => fun
  | [d] => { results := [.lit (.bool true)], args := [d] }
  | _ => none }
def classRoundsRow : OpenClaim := { program := "ythkajdbegdclmaa", sum := "5cbd30626849c1508d2d0cf313c5fb4d30ad7472fb5171b2da57cc01d00bf1a3", func := "tilth/tilthlaw04.ClassRounds", spec := "classRounds", apart := false }
def ClassRoundsSaid : Prop := classRoundsRow.holds Try.pinned (OpenSpec.ofChange classRoundsSpec)

/-- ITS FALSE NEIGHBOUR: 'it returns false'. Refute it at one input. -/
def classRoundsWrong : ChangeSpec := { name := "classRounds", fn := fun _ => fun
  | [d] => { results := [.lit (.bool false)], args := [d] }
  | _ => none }
def ClassRoundsWrongFalsely : Prop := classRoundsRow.holds Try.pinned (OpenSpec.ofChange classRoundsWrong)

/-- 'tilthlaw04.ClassPages': WHATEVER THE INPUT: true; the input reads as it did. -/
def classPagesSpec : ChangeSpec := { name := "classPages", fn := fun _ => fun
  | [d1, d2] => { results := [.lit (.bool true)], args := [d1, d2] }
  | _ => none }
def classPagesRow : OpenClaim := { program := "ythkajdbegdclmaa", sum := "5cbd30626849c1508d2d0cf313c5fb4d30ad7472fb5171b2da57cc01d00bf1a3", func := "tilth/tilthlaw04.ClassPages", spec := "classPages", apart := false }
def ClassPagesSaid : Prop := classPagesRow.holds Try.pinned (OpenSpec.ofChange classPagesSpec)

/-- ITS FALSE NEIGHBOUR: 'it returns false'. Refute it at one input. -/
def classPagesWrong : ChangeSpec := { name := "classPages", fn := fun _ => fun
  | [d1, d2] => { results := [.lit (.bool false)], args := [d1, d2] }
  | _ => none }
def ClassPagesWrongFalsely : Prop := classPagesRow.holds Try.pinned (OpenSpec.ofChange classPagesWrong)

/-- 'tilthlaw04.ClassCells': WHATEVER THE INPUT: true; the input reads as it did. -/
def classCellsSpec : ChangeSpec := { name := "classCells", fn := fun _ => fun
  | [d1, d2] => { results := [.lit (.bool true)], args := [d1, d2] }
  | _ => none }
def classCellsRow : OpenClaim := { program := "ythkajdbegdclmaa", sum := "5cbd30626849c1508d2d0cf313c5fb4d30ad7472fb5171b2da57cc01d00bf1a3", func := "tilth/tilthlaw04.ClassCells", spec := "classCells", apart := false }
def ClassCellsSaid : Prop := classCellsRow.holds Try.pinned (OpenSpec.ofChange classCellsSpec)

/-- ITS FALSE NEIGHBOUR: 'it returns false'. Refute it at one input. -/
def classCellsWrong : ChangeSpec := { name := "classCells", fn := fun _ => fun
  | [d1, d2] => { results := [.lit (.bool false)], args := [d1, d2] }
  | _ => none }
def ClassCellsWrongFalsely : Prop := classCellsRow.holds Try.pinned (OpenSpec.ofChange classCellsWrong)

/-- 'tilthlaw04.ClassTight': WHATEVER THE INPUT: true; the input reads as it did. -/
def classTightSpec : ChangeSpec := { name := "classTight", fn := fun _ => fun
  | [d1, d2] => { results := [.lit (.bool true)], args := [d1, d2] }
  | _ => none }
def classTightRow : OpenClaim := { program := "ythkajdbegdclmaa", sum := "5cbd30626849c1508d2d0cf313c5fb4d30ad7472fb5171b2da57cc01d00bf1a3", func := "tilth/tilthlaw04.ClassTight", spec := "classTight", apart := false }
def ClassTightSaid : Prop := classTightRow.holds Try.pinned (OpenSpec.ofChange classTightSpec)

/-- ITS FALSE NEIGHBOUR: 'it returns false'. Refute it at one input. -/
def classTightWrong : ChangeSpec := { name := "classTight", fn := fun _ => fun
  | [d1, d2] => { results := [.lit (.bool false)], args := [d1, d2] }
  | _ => none }
def ClassTightWrongFalsely : Prop := classTightRow.holds Try.pinned (OpenSpec.ofChange classTightWrong)

/-- 'tilthlaw04.ClassFew': WHATEVER THE INPUT: true; the input reads as it did. -/
def classFewSpec : ChangeSpec := { name := "classFew", fn := fun _ => fun
  | [d] => { results := [.lit (.bool true)], args := [d] }
  | _ => none }
def classFewRow : OpenClaim := { program := "ythkajdbegdclmaa", sum := "5cbd30626849c1508d2d0cf313c5fb4d30ad7472fb5171b2da57cc01d00bf1a3", func := "tilth/tilthlaw04.ClassFew", spec := "classFew", apart := false }
def ClassFewSaid : Prop := classFewRow.holds Try.pinned (OpenSpec.ofChange classFewSpec)

/-- ITS FALSE NEIGHBOUR: 'it returns false'. Refute it at one input. -/
def classFewWrong : ChangeSpec := { name := "classFew", fn := fun _ => fun
  | [d] => { results := [.lit (.bool false)], args := [d] }
  | _ => none }
def ClassFewWrongFalsely : Prop := classFewRow.holds Try.pinned (OpenSpec.ofChange classFewWrong)

/-- 'tilthlaw04.ClassFits': WHATEVER THE INPUT: true; the input reads as it did. -/
def classFitsSpec : ChangeSpec := { name := "classFits", fn := fun _ => fun
  | [d1, d2] => { results := [.lit (.bool true)], args := [d1, d2] }
  | _ => none }
def classFitsRow : OpenClaim := { program := "ythkajdbegdclmaa", sum := "5cbd30626849c1508d2d0cf313c5fb4d30ad7472fb5171b2da57cc01d00bf1a3", func := "tilth/tilthlaw04.ClassFits", spec := "classFits", apart := false }
def ClassFitsSaid : Prop := classFitsRow.holds Try.pinned (OpenSpec.ofChange classFitsSpec)

/-- ITS FALSE NEIGHBOUR: 'it returns false'. Refute it at one input. -/
def classFitsWrong : ChangeSpec := { name := "classFits", fn := fun _ => fun
  | [d1, d2] => { results := [.lit (.bool false)], args := [d1, d2] }
  | _ => none }
def ClassFitsWrongFalsely : Prop := classFitsRow.holds Try.pinned (OpenSpec.ofChange classFitsWrong)

/-- 'tilthlaw12.TablePlays': WHATEVER THE INPUT: true; the input reads as it did. -/
def tablePlaysSpec : ChangeSpec := { name := "tablePlays", fn := fun _ => fun
  | [d1, d2, d3] => { results := [.lit (.bool true)], args := [d1, d2, d3] }
  | _ => none }
def tablePlaysRow : OpenClaim := { program := "ythkajdbegdclmaa", sum := "5cbd30626849c1508d2d0cf313c5fb4d30ad7472fb5171b2da57cc01d00bf1a3", func := "tilth/tilthlaw12.TablePlays", spec := "tablePlays", apart := false }
def TablePlaysSaid : Prop := tablePlaysRow.holds Try.pinned (OpenSpec.ofChange tablePlaysSpec)

/-- ITS FALSE NEIGHBOUR: 'it returns false'. Refute it at one input. -/
def tablePlaysWrong : ChangeSpec := { name := "tablePlays", fn := fun _ => fun
  | [d1, d2, d3] => { results := [.lit (.bool false)], args := [d1, d2, d3] }
  | _ => none }
def TablePlaysWrongFalsely : Prop := tablePlaysRow.holds Try.pinned (OpenSpec.ofChange tablePlaysWrong)

/-- 'tilthlaw12.TableNone': WHATEVER THE INPUT: true; the input reads as it did. -/
def tableNoneSpec : ChangeSpec := { name := "tableNone", fn := fun _ => fun
  | [d1, d2] => { results := [.lit (.bool true)], args := [d1, d2] }
  | _ => none }
def tableNoneRow : OpenClaim := { program := "ythkajdbegdclmaa", sum := "5cbd30626849c1508d2d0cf313c5fb4d30ad7472fb5171b2da57cc01d00bf1a3", func := "tilth/tilthlaw12.TableNone", spec := "tableNone", apart := false }
def TableNoneSaid : Prop := tableNoneRow.holds Try.pinned (OpenSpec.ofChange tableNoneSpec)

/-- ITS FALSE NEIGHBOUR: 'it returns false'. Refute it at one input. -/
def tableNoneWrong : ChangeSpec := { name := "tableNone", fn := fun _ => fun
  | [d1, d2] => { results := [.lit (.bool false)], args := [d1, d2] }
  | _ => none }
def TableNoneWrongFalsely : Prop := tableNoneRow.holds Try.pinned (OpenSpec.ofChange tableNoneWrong)

/-- 'tilthlaw12.TableApart': WHATEVER THE INPUT: true; the input reads as it did. -/
def tableApartSpec : ChangeSpec := { name := "tableApart", fn := fun _ => fun
  | [d1, d2, d3] => { results := [.lit (.bool true)], args := [d1, d2, d3] }
  | _ => none }
def tableApartRow : OpenClaim := { program := "ythkajdbegdclmaa", sum := "5cbd30626849c1508d2d0cf313c5fb4d30ad7472fb5171b2da57cc01d00bf1a3", func := "tilth/tilthlaw12.TableApart", spec := "tableApart", apart := false }
def TableApartSaid : Prop := tableApartRow.holds Try.pinned (OpenSpec.ofChange tableApartSpec)

/-- ITS FALSE NEIGHBOUR: 'it returns false'. Refute it at one input. -/
def tableApartWrong : ChangeSpec := { name := "tableApart", fn := fun _ => fun
  | [d1, d2, d3] => { results := [.lit (.bool false)], args := [d1, d2, d3] }
  | _ => none }
def TableApartWrongFalsely : Prop := tableApartRow.holds Try.pinned (OpenSpec.ofChange tableApartWrong)

/- THE SECOND FORM. 'bulk': how many values and letters a reading holds, each counted each time it is reached (what is shared counts as often as it is met; a slice's spare places count too). A statement '..UptoSaid' is the law's where the arguments, and the package variables that the reading takes, are together of bulk at most 1048576: NARROWER than '..Said'. Prove '..Said' where nothing that the law and all that it calls make is longer than what came in: it says more and counts as full. Else prove '..UptoSaid'. A law counts once. -/
mutual
def uptoBulk {H : Type} : DataW H → Nat
  | .lit (.string bytes) => bytes.length + 1
  | .lit _ => 1
  | .nil => 1
  | .ptr d => uptoBulk d + 1
  | .slice elems spare => uptoBulkAll elems + uptoBulkAll spare + 1
  | .agg parts => uptoBulkAll parts + 1
  | .iface _ d => uptoBulk d + 1
  | .map entries => uptoBulkEntries entries + 1
  | .held _ => 1
def uptoBulkAll {H : Type} : List (DataW H) → Nat
  | [] => 0
  | d :: r => uptoBulk d + uptoBulkAll r
def uptoBulkEntries {H : Type} : List (Lit × DataW H) → Nat
  | [] => 0
  | x :: r => uptoBulkEntry x + uptoBulkEntries r
def uptoBulkEntry {H : Type} : Lit × DataW H → Nat
  | (.string bytes, d) => bytes.length + uptoBulk d + 1
  | (_, d) => uptoBulk d + 1
 end
def uptoSmall : (H : Type) → List (DataW H) → Bool := fun _ ds => decide (uptoBulkAll ds ≤ 1048576)
def OpenSpec.upto (s : _root_.Go.ChangeSpec) : _root_.Go.OpenSpec := { _root_.Go.OpenSpec.ofChange s with cond := some uptoSmall }

/-- 'tilthlaw04.ClassRounds', WHERE WHAT IT READS IS OF BULK AT MOST 1048576: true; the input reads as it did. -/
def classRoundsUptoRow : OpenClaim := { program := "ythkajdbegdclmaa", sum := "5cbd30626849c1508d2d0cf313c5fb4d30ad7472fb5171b2da57cc01d00bf1a3", func := "tilth/tilthlaw04.ClassRounds", spec := "classRounds", apart := false, narrowed := true }
def ClassRoundsUptoSaid : Prop := classRoundsUptoRow.holds Try.pinned (OpenSpec.upto classRoundsSpec)

/-- 'tilthlaw04.ClassPages', WHERE WHAT IT READS IS OF BULK AT MOST 1048576: true; the input reads as it did. -/
def classPagesUptoRow : OpenClaim := { program := "ythkajdbegdclmaa", sum := "5cbd30626849c1508d2d0cf313c5fb4d30ad7472fb5171b2da57cc01d00bf1a3", func := "tilth/tilthlaw04.ClassPages", spec := "classPages", apart := false, narrowed := true }
def ClassPagesUptoSaid : Prop := classPagesUptoRow.holds Try.pinned (OpenSpec.upto classPagesSpec)

/-- 'tilthlaw04.ClassCells', WHERE WHAT IT READS IS OF BULK AT MOST 1048576: true; the input reads as it did. -/
def classCellsUptoRow : OpenClaim := { program := "ythkajdbegdclmaa", sum := "5cbd30626849c1508d2d0cf313c5fb4d30ad7472fb5171b2da57cc01d00bf1a3", func := "tilth/tilthlaw04.ClassCells", spec := "classCells", apart := false, narrowed := true }
def ClassCellsUptoSaid : Prop := classCellsUptoRow.holds Try.pinned (OpenSpec.upto classCellsSpec)

/-- 'tilthlaw04.ClassTight', WHERE WHAT IT READS IS OF BULK AT MOST 1048576: true; the input reads as it did. -/
def classTightUptoRow : OpenClaim := { program := "ythkajdbegdclmaa", sum := "5cbd30626849c1508d2d0cf313c5fb4d30ad7472fb5171b2da57cc01d00bf1a3", func := "tilth/tilthlaw04.ClassTight", spec := "classTight", apart := false, narrowed := true }
def ClassTightUptoSaid : Prop := classTightUptoRow.holds Try.pinned (OpenSpec.upto classTightSpec)

/-- 'tilthlaw04.ClassFew', WHERE WHAT IT READS IS OF BULK AT MOST 1048576: true; the input reads as it did. -/
def classFewUptoRow : OpenClaim := { program := "ythkajdbegdclmaa", sum := "5cbd30626849c1508d2d0cf313c5fb4d30ad7472fb5171b2da57cc01d00bf1a3", func := "tilth/tilthlaw04.ClassFew", spec := "classFew", apart := false, narrowed := true }
def ClassFewUptoSaid : Prop := classFewUptoRow.holds Try.pinned (OpenSpec.upto classFewSpec)

/-- 'tilthlaw04.ClassFits', WHERE WHAT IT READS IS OF BULK AT MOST 1048576: true; the input reads as it did. -/
def classFitsUptoRow : OpenClaim := { program := "ythkajdbegdclmaa", sum := "5cbd30626849c1508d2d0cf313c5fb4d30ad7472fb5171b2da57cc01d00bf1a3", func := "tilth/tilthlaw04.ClassFits", spec := "classFits", apart := false, narrowed := true }
def ClassFitsUptoSaid : Prop := classFitsUptoRow.holds Try.pinned (OpenSpec.upto classFitsSpec)

/-- 'tilthlaw12.TablePlays', WHERE WHAT IT READS IS OF BULK AT MOST 1048576: true; the input reads as it did. -/
def tablePlaysUptoRow : OpenClaim := { program := "ythkajdbegdclmaa", sum := "5cbd30626849c1508d2d0cf313c5fb4d30ad7472fb5171b2da57cc01d00bf1a3", func := "tilth/tilthlaw12.TablePlays", spec := "tablePlays", apart := false, narrowed := true }
def TablePlaysUptoSaid : Prop := tablePlaysUptoRow.holds Try.pinned (OpenSpec.upto tablePlaysSpec)

/-- 'tilthlaw12.TableNone', WHERE WHAT IT READS IS OF BULK AT MOST 1048576: true; the input reads as it did. -/
def tableNoneUptoRow : OpenClaim := { program := "ythkajdbegdclmaa", sum := "5cbd30626849c1508d2d0cf313c5fb4d30ad7472fb5171b2da57cc01d00bf1a3", func := "tilth/tilthlaw12.TableNone", spec := "tableNone", apart := false, narrowed := true }
def TableNoneUptoSaid : Prop := tableNoneUptoRow.holds Try.pinned (OpenSpec.upto tableNoneSpec)

/-- 'tilthlaw12.TableApart', WHERE WHAT IT READS IS OF BULK AT MOST 1048576: true; the input reads as it did. -/
def tableApartUptoRow : OpenClaim := { program := "ythkajdbegdclmaa", sum := "5cbd30626849c1508d2d0cf313c5fb4d30ad7472fb5171b2da57cc01d00bf1a3", func := "tilth/tilthlaw12.TableApart", spec := "tableApart", apart := false, narrowed := true }
def TableApartUptoSaid : Prop := tableApartUptoRow.holds Try.pinned (OpenSpec.upto tableApartSpec)

end Rows
end Go.Proofs.Ythkajdbegdclmaa
