/-
  No cell of these rows narrows 'for every input' (looked for: loops, veiled, ifaces, maps, wideKeys, modest, calm, conditions, laid).
  DERIVED. THE GIVEN ROWS OF THIS SEAT. 12 by the template 'for every input the law returns true; each argument reads behind the call as it read before'; 0 by the template 'total and deterministic' (their statements: YtgkgoepldbaohaaTotals.lean).
  GIVEN WITH THE SEED: the statements are not yours to turn. If you find one false, say at which input.
  Laid BY PROGRAM, IN A SANDBOX (cutbox-rows.mjs): the forced cells as the released guide's own fill.sh prints them over the translation 32870eb2060fd6ce… (all of the seat's roots in one cut). By AI agents, Wed Nov 11 2026. No macro, syntax, notation, axiom, sorry.
-/
import Derived.Test.YtgkgoepldbaohaaChecked
import GoSem.Claim
import GoSem.ClaimJoined
import GoSem.ClaimMapViews
import Derived.JoinedTies
import Derived.KernelRfl
namespace Go.Proofs.Ytgkgoepldbaohaa
/- THE CELL 'sum', in the pinned program and in every row, IS THE sha256 OF THE DUMP (.gsa) THAT YtgkgoepldbaohaaProg.lean LOADS. Nothing in Lean hashes anything: it is a label: what it is worth is what the hold of that sum in a sandbox is worth. -/
noncomputable def Try.pinned : Pinned := { name := "ytgkgoepldbaohaa", sum := "32870eb2060fd6ce4cf36398178675aff03b66f5d126f6b917912348a415b3d6", checked := Try.checked }
namespace Rows
def none {H : Type} : Left H := { results := [], args := [] }

/-- 'tilthlaw16.PacerTells': WHATEVER THE INPUT: true; the input reads as it did. -/
def pacerTellsSpec : ChangeSpec := { name := "pacerTells", fn := fun _ => fun
  | [d1, d2, d3, d4, d5] => { results := [.lit (.bool true)], args := [d1, d2, d3, d4, d5] }
  | _ => none }
def pacerTellsRow : OpenClaim := { program := "ytgkgoepldbaohaa", sum := "32870eb2060fd6ce4cf36398178675aff03b66f5d126f6b917912348a415b3d6", func := "tilth/tilthlaw16.PacerTells", spec := "pacerTells", apart := false }
def PacerTellsSaid : Prop := pacerTellsRow.holds Try.pinned (OpenSpec.ofChange pacerTellsSpec)

/-- ITS FALSE NEIGHBOUR: 'it returns false'. Refute it at one input. -/
def pacerTellsWrong : ChangeSpec := { name := "pacerTells", fn := fun _ => fun
  | [d1, d2, d3, d4, d5] => { results := [.lit (.bool false)], args := [d1, d2, d3, d4, d5] }
  | _ => none }
def PacerTellsWrongFalsely : Prop := pacerTellsRow.holds Try.pinned (OpenSpec.ofChange pacerTellsWrong)

/-- 'tilthlaw16.PacerGrows': WHATEVER THE INPUT: true; the input reads as it did. -/
def pacerGrowsSpec : ChangeSpec := { name := "pacerGrows", fn := fun _ => fun
  | [d1, d2, d3, d4, d5, d6, d7] => { results := [.lit (.bool true)], args := [d1, d2, d3, d4, d5, d6, d7] }
  | _ => none }
def pacerGrowsRow : OpenClaim := { program := "ytgkgoepldbaohaa", sum := "32870eb2060fd6ce4cf36398178675aff03b66f5d126f6b917912348a415b3d6", func := "tilth/tilthlaw16.PacerGrows", spec := "pacerGrows", apart := false }
def PacerGrowsSaid : Prop := pacerGrowsRow.holds Try.pinned (OpenSpec.ofChange pacerGrowsSpec)

/-- ITS FALSE NEIGHBOUR: 'it returns false'. Refute it at one input. -/
def pacerGrowsWrong : ChangeSpec := { name := "pacerGrows", fn := fun _ => fun
  | [d1, d2, d3, d4, d5, d6, d7] => { results := [.lit (.bool false)], args := [d1, d2, d3, d4, d5, d6, d7] }
  | _ => none }
def PacerGrowsWrongFalsely : Prop := pacerGrowsRow.holds Try.pinned (OpenSpec.ofChange pacerGrowsWrong)

/-- 'tilthlaw16.PacerEnds': WHATEVER THE INPUT: true; the input reads as it did. -/
def pacerEndsSpec : ChangeSpec := { name := "pacerEnds", fn := fun _ => fun
  | [d1, d2, d3] => { results := [.lit (.bool true)], args := [d1, d2, d3] }
  | _ => none }
def pacerEndsRow : OpenClaim := { program := "ytgkgoepldbaohaa", sum := "32870eb2060fd6ce4cf36398178675aff03b66f5d126f6b917912348a415b3d6", func := "tilth/tilthlaw16.PacerEnds", spec := "pacerEnds", apart := false }
def PacerEndsSaid : Prop := pacerEndsRow.holds Try.pinned (OpenSpec.ofChange pacerEndsSpec)

/-- ITS FALSE NEIGHBOUR: 'it returns false'. Refute it at one input. -/
def pacerEndsWrong : ChangeSpec := { name := "pacerEnds", fn := fun _ => fun
  | [d1, d2, d3] => { results := [.lit (.bool false)], args := [d1, d2, d3] }
  | _ => none }
def PacerEndsWrongFalsely : Prop := pacerEndsRow.holds Try.pinned (OpenSpec.ofChange pacerEndsWrong)

/-- 'tilthlaw01.HeadPacks': WHATEVER THE INPUT: true; the input reads as it did. -/
def headPacksSpec : ChangeSpec := { name := "headPacks", fn := fun _ => fun
  | [d] => { results := [.lit (.bool true)], args := [d] }
  | _ => none }
def headPacksRow : OpenClaim := { program := "ytgkgoepldbaohaa", sum := "32870eb2060fd6ce4cf36398178675aff03b66f5d126f6b917912348a415b3d6", func := "tilth/tilthlaw01.HeadPacks", spec := "headPacks", apart := false }
def HeadPacksSaid : Prop := headPacksRow.holds Try.pinned (OpenSpec.ofChange headPacksSpec)

/-- ITS FALSE NEIGHBOUR: 'it returns false'. Refute it at one input. -/
def headPacksWrong : ChangeSpec := { name := "headPacks", fn := fun _ => fun
  | [d] => { results := [.lit (.bool false)], args := [d] }
  | _ => none }
def HeadPacksWrongFalsely : Prop := headPacksRow.holds Try.pinned (OpenSpec.ofChange headPacksWrong)

/-- 'tilthlaw01.HeadUnpacks': WHATEVER THE INPUT: true; the input reads as it did. -/
def headUnpacksSpec : ChangeSpec := { name := "headUnpacks", fn := fun _ => fun
  | [d] => { results := [.lit (.bool true)], args := [d] }
  | _ => none }
def headUnpacksRow : OpenClaim := { program := "ytgkgoepldbaohaa", sum := "32870eb2060fd6ce4cf36398178675aff03b66f5d126f6b917912348a415b3d6", func := "tilth/tilthlaw01.HeadUnpacks", spec := "headUnpacks", apart := false }
def HeadUnpacksSaid : Prop := headUnpacksRow.holds Try.pinned (OpenSpec.ofChange headUnpacksSpec)

/-- ITS FALSE NEIGHBOUR: 'it returns false'. Refute it at one input. -/
def headUnpacksWrong : ChangeSpec := { name := "headUnpacks", fn := fun _ => fun
  | [d] => { results := [.lit (.bool false)], args := [d] }
  | _ => none }
def HeadUnpacksWrongFalsely : Prop := headUnpacksRow.holds Try.pinned (OpenSpec.ofChange headUnpacksWrong)

/-- 'tilthlaw01.HeadUnlike': WHATEVER THE INPUT: true; the input reads as it did. -/
def headUnlikeSpec : ChangeSpec := { name := "headUnlike", fn := fun _ => fun
  | [d1, d2] => { results := [.lit (.bool true)], args := [d1, d2] }
  | _ => none }
def headUnlikeRow : OpenClaim := { program := "ytgkgoepldbaohaa", sum := "32870eb2060fd6ce4cf36398178675aff03b66f5d126f6b917912348a415b3d6", func := "tilth/tilthlaw01.HeadUnlike", spec := "headUnlike", apart := false }
def HeadUnlikeSaid : Prop := headUnlikeRow.holds Try.pinned (OpenSpec.ofChange headUnlikeSpec)

/-- ITS FALSE NEIGHBOUR: 'it returns false'. Refute it at one input. -/
def headUnlikeWrong : ChangeSpec := { name := "headUnlike", fn := fun _ => fun
  | [d1, d2] => { results := [.lit (.bool false)], args := [d1, d2] }
  | _ => none }
def HeadUnlikeWrongFalsely : Prop := headUnlikeRow.holds Try.pinned (OpenSpec.ofChange headUnlikeWrong)

/-- 'tilthlaw01.HeadTurned': WHATEVER THE INPUT: true; the input reads as it did. -/
def headTurnedSpec : ChangeSpec := { name := "headTurned", fn := fun _ => fun
  | [d1, d2] => { results := [.lit (.bool true)], args := [d1, d2] }
  | _ => none }
def headTurnedRow : OpenClaim := { program := "ytgkgoepldbaohaa", sum := "32870eb2060fd6ce4cf36398178675aff03b66f5d126f6b917912348a415b3d6", func := "tilth/tilthlaw01.HeadTurned", spec := "headTurned", apart := false }
def HeadTurnedSaid : Prop := headTurnedRow.holds Try.pinned (OpenSpec.ofChange headTurnedSpec)

/-- ITS FALSE NEIGHBOUR: 'it returns false'. Refute it at one input. -/
def headTurnedWrong : ChangeSpec := { name := "headTurned", fn := fun _ => fun
  | [d1, d2] => { results := [.lit (.bool false)], args := [d1, d2] }
  | _ => none }
def HeadTurnedWrongFalsely : Prop := headTurnedRow.holds Try.pinned (OpenSpec.ofChange headTurnedWrong)

/-- 'tilthlaw01.HeadParts': WHATEVER THE INPUT: true; the input reads as it did. -/
def headPartsSpec : ChangeSpec := { name := "headParts", fn := fun _ => fun
  | [d1, d2, d3, d4, d5] => { results := [.lit (.bool true)], args := [d1, d2, d3, d4, d5] }
  | _ => none }
def headPartsRow : OpenClaim := { program := "ytgkgoepldbaohaa", sum := "32870eb2060fd6ce4cf36398178675aff03b66f5d126f6b917912348a415b3d6", func := "tilth/tilthlaw01.HeadParts", spec := "headParts", apart := false }
def HeadPartsSaid : Prop := headPartsRow.holds Try.pinned (OpenSpec.ofChange headPartsSpec)

/-- ITS FALSE NEIGHBOUR: 'it returns false'. Refute it at one input. -/
def headPartsWrong : ChangeSpec := { name := "headParts", fn := fun _ => fun
  | [d1, d2, d3, d4, d5] => { results := [.lit (.bool false)], args := [d1, d2, d3, d4, d5] }
  | _ => none }
def HeadPartsWrongFalsely : Prop := headPartsRow.holds Try.pinned (OpenSpec.ofChange headPartsWrong)

/-- 'tilthlaw03.ConfChecks': WHATEVER THE INPUT: true; the input reads as it did. -/
def confChecksSpec : ChangeSpec := { name := "confChecks", fn := fun _ => fun
  | [d] => { results := [.lit (.bool true)], args := [d] }
  | _ => none }
def confChecksRow : OpenClaim := { program := "ytgkgoepldbaohaa", sum := "32870eb2060fd6ce4cf36398178675aff03b66f5d126f6b917912348a415b3d6", func := "tilth/tilthlaw03.ConfChecks", spec := "confChecks", apart := false }
def ConfChecksSaid : Prop := confChecksRow.holds Try.pinned (OpenSpec.ofChange confChecksSpec)

/-- ITS FALSE NEIGHBOUR: 'it returns false'. Refute it at one input. -/
def confChecksWrong : ChangeSpec := { name := "confChecks", fn := fun _ => fun
  | [d] => { results := [.lit (.bool false)], args := [d] }
  | _ => none }
def ConfChecksWrongFalsely : Prop := confChecksRow.holds Try.pinned (OpenSpec.ofChange confChecksWrong)

/-- 'tilthlaw03.ConfParts': WHATEVER THE INPUT: true; the input reads as it did. -/
def confPartsSpec : ChangeSpec := { name := "confParts", fn := fun _ => fun
  | [d1, d2] => { results := [.lit (.bool true)], args := [d1, d2] }
  | _ => none }
def confPartsRow : OpenClaim := { program := "ytgkgoepldbaohaa", sum := "32870eb2060fd6ce4cf36398178675aff03b66f5d126f6b917912348a415b3d6", func := "tilth/tilthlaw03.ConfParts", spec := "confParts", apart := false }
def ConfPartsSaid : Prop := confPartsRow.holds Try.pinned (OpenSpec.ofChange confPartsSpec)

/-- ITS FALSE NEIGHBOUR: 'it returns false'. Refute it at one input. -/
def confPartsWrong : ChangeSpec := { name := "confParts", fn := fun _ => fun
  | [d1, d2] => { results := [.lit (.bool false)], args := [d1, d2] }
  | _ => none }
def ConfPartsWrongFalsely : Prop := confPartsRow.holds Try.pinned (OpenSpec.ofChange confPartsWrong)

/-- 'tilthlaw03.ConfMost': WHATEVER THE INPUT: true; the input reads as it did. -/
def confMostSpec : ChangeSpec := { name := "confMost", fn := fun _ => fun
  | [d1, d2] => { results := [.lit (.bool true)], args := [d1, d2] }
  | _ => none }
def confMostRow : OpenClaim := { program := "ytgkgoepldbaohaa", sum := "32870eb2060fd6ce4cf36398178675aff03b66f5d126f6b917912348a415b3d6", func := "tilth/tilthlaw03.ConfMost", spec := "confMost", apart := false }
def ConfMostSaid : Prop := confMostRow.holds Try.pinned (OpenSpec.ofChange confMostSpec)

/-- ITS FALSE NEIGHBOUR: 'it returns false'. Refute it at one input. -/
def confMostWrong : ChangeSpec := { name := "confMost", fn := fun _ => fun
  | [d1, d2] => { results := [.lit (.bool false)], args := [d1, d2] }
  | _ => none }
def ConfMostWrongFalsely : Prop := confMostRow.holds Try.pinned (OpenSpec.ofChange confMostWrong)

/-- 'tilthlaw03.ConfGrows': WHATEVER THE INPUT: true; the input reads as it did. -/
def confGrowsSpec : ChangeSpec := { name := "confGrows", fn := fun _ => fun
  | [d1, d2, d3, d4, d5] => { results := [.lit (.bool true)], args := [d1, d2, d3, d4, d5] }
  | _ => none }
def confGrowsRow : OpenClaim := { program := "ytgkgoepldbaohaa", sum := "32870eb2060fd6ce4cf36398178675aff03b66f5d126f6b917912348a415b3d6", func := "tilth/tilthlaw03.ConfGrows", spec := "confGrows", apart := false }
def ConfGrowsSaid : Prop := confGrowsRow.holds Try.pinned (OpenSpec.ofChange confGrowsSpec)

/-- ITS FALSE NEIGHBOUR: 'it returns false'. Refute it at one input. -/
def confGrowsWrong : ChangeSpec := { name := "confGrows", fn := fun _ => fun
  | [d1, d2, d3, d4, d5] => { results := [.lit (.bool false)], args := [d1, d2, d3, d4, d5] }
  | _ => none }
def ConfGrowsWrongFalsely : Prop := confGrowsRow.holds Try.pinned (OpenSpec.ofChange confGrowsWrong)

/- THE SECOND FORM. 'bulk': how many values and letters a reading holds, each counted each time it is reached (what is shared counts as often as it is met; a slice's spare places count too). A statement '..UptoSaid' is the law's where the arguments, and the package variables that the reading takes, are together of bulk at most 1048576: NARROWER than '..Said'. Prove '..Said' where nothing that the law and all that it calls make is longer than what came in: it says more and counts as full. Else prove '..UptoSaid'. A law counts once. -/
mutual
def uptoBulk {H : Type} : DataW H → Nat
  | .lit (.string bytes) => bytes.length + 1
  | .lit _ => 1
  | .nil => 1
  | .ptr d => uptoBulk d + 1
  | .slice elems spare => uptoBulkAll elems + uptoBulkAll spare + 1
  | .agg parts => uptoBulkAll parts + 1
  | .iface _ d => uptoBulk d + 1
  | .map entries => uptoBulkEntries entries + 1
  | .held _ => 1
def uptoBulkAll {H : Type} : List (DataW H) → Nat
  | [] => 0
  | d :: r => uptoBulk d + uptoBulkAll r
def uptoBulkEntries {H : Type} : List (Lit × DataW H) → Nat
  | [] => 0
  | x :: r => uptoBulkEntry x + uptoBulkEntries r
def uptoBulkEntry {H : Type} : Lit × DataW H → Nat
  | (.string bytes, d) => bytes.length + uptoBulk d + 1
  | (_, d) => uptoBulk d + 1
 end
def uptoSmall : (H : Type) → List (DataW H) → Bool := fun _ ds => decide (uptoBulkAll ds ≤ 1048576)
def OpenSpec.upto (s : _root_.Go.ChangeSpec) : _root_.Go.OpenSpec := { _root_.Go.OpenSpec.ofChange s with cond := some uptoSmall }

/-- 'tilthlaw16.PacerTells', WHERE WHAT IT READS IS OF BULK AT MOST 1048576: true; the input reads as it did. -/
def pacerTellsUptoRow : OpenClaim := { program := "ytgkgoepldbaohaa", sum := "32870eb2060fd6ce4cf36398178675aff03b66f5d126f6b917912348a415b3d6", func := "tilth/tilthlaw16.PacerTells", spec := "pacerTells", apart := false, narrowed := true }
def PacerTellsUptoSaid : Prop := pacerTellsUptoRow.holds Try.pinned (OpenSpec.upto pacerTellsSpec)

/-- 'tilthlaw16.PacerGrows', WHERE WHAT IT READS IS OF BULK AT MOST 1048576: true; the input reads as it did. -/
def pacerGrowsUptoRow : OpenClaim := { program := "ytgkgoepldbaohaa", sum := "32870eb2060fd6ce4cf36398178675aff03b66f5d126f6b917912348a415b3d6", func := "tilth/tilthlaw16.PacerGrows", spec := "pacerGrows", apart := false, narrowed := true }
def PacerGrowsUptoSaid : Prop := pacerGrowsUptoRow.holds Try.pinned (OpenSpec.upto pacerGrowsSpec)

/-- 'tilthlaw16.PacerEnds', WHERE WHAT IT READS IS OF BULK AT MOST 1048576: true; the input reads as it did. -/
def pacerEndsUptoRow : OpenClaim := { program := "ytgkgoepldbaohaa", sum := "32870eb2060fd6ce4cf36398178675aff03b66f5d126f6b917912348a415b3d6", func := "tilth/tilthlaw16.PacerEnds", spec := "pacerEnds", apart := false, narrowed := true }
def PacerEndsUptoSaid : Prop := pacerEndsUptoRow.holds Try.pinned (OpenSpec.upto pacerEndsSpec)

/-- 'tilthlaw01.HeadPacks', WHERE WHAT IT READS IS OF BULK AT MOST 1048576: true; the input reads as it did. -/
def headPacksUptoRow : OpenClaim := { program := "ytgkgoepldbaohaa", sum := "32870eb2060fd6ce4cf36398178675aff03b66f5d126f6b917912348a415b3d6", func := "tilth/tilthlaw01.HeadPacks", spec := "headPacks", apart := false, narrowed := true }
def HeadPacksUptoSaid : Prop := headPacksUptoRow.holds Try.pinned (OpenSpec.upto headPacksSpec)

/-- 'tilthlaw01.HeadUnpacks', WHERE WHAT IT READS IS OF BULK AT MOST 1048576: true; the input reads as it did. -/
def headUnpacksUptoRow : OpenClaim := { program := "ytgkgoepldbaohaa", sum := "32870eb2060fd6ce4cf36398178675aff03b66f5d126f6b917912348a415b3d6", func := "tilth/tilthlaw01.HeadUnpacks", spec := "headUnpacks", apart := false, narrowed := true }
def HeadUnpacksUptoSaid : Prop := headUnpacksUptoRow.holds Try.pinned (OpenSpec.upto headUnpacksSpec)

/-- 'tilthlaw01.HeadUnlike', WHERE WHAT IT READS IS OF BULK AT MOST 1048576: true; the input reads as it did. -/
def headUnlikeUptoRow : OpenClaim := { program := "ytgkgoepldbaohaa", sum := "32870eb2060fd6ce4cf36398178675aff03b66f5d126f6b917912348a415b3d6", func := "tilth/tilthlaw01.HeadUnlike", spec := "headUnlike", apart := false, narrowed := true }
def HeadUnlikeUptoSaid : Prop := headUnlikeUptoRow.holds Try.pinned (OpenSpec.upto headUnlikeSpec)

/-- 'tilthlaw01.HeadTurned', WHERE WHAT IT READS IS OF BULK AT MOST 1048576: true; the input reads as it did. -/
def headTurnedUptoRow : OpenClaim := { program := "ytgkgoepldbaohaa", sum := "32870eb2060fd6ce4cf36398178675aff03b66f5d126f6b917912348a415b3d6", func := "tilth/tilthlaw01.HeadTurned", spec := "headTurned", apart := false, narrowed := true }
def HeadTurnedUptoSaid : Prop := headTurnedUptoRow.holds Try.pinned (OpenSpec.upto headTurnedSpec)

/-- 'tilthlaw01.HeadParts', WHERE WHAT IT READS IS OF BULK AT MOST 1048576: true; the input reads as it did. -/
def headPartsUptoRow : OpenClaim := { program := "ytgkgoepldbaohaa", sum := "32870eb2060fd6ce4cf36398178675aff03b66f5d126f6b917912348a415b3d6", func := "tilth/tilthlaw01.HeadParts", spec := "headParts", apart := false, narrowed := true }
def HeadPartsUptoSaid : Prop := headPartsUptoRow.holds Try.pinned (OpenSpec.upto headPartsSpec)

/-- 'tilthlaw03.ConfChecks', WHERE WHAT IT READS IS OF BULK AT MOST 1048576: true; the input reads as it did. -/
def confChecksUptoRow : OpenClaim := { program := "ytgkgoepldbaohaa", sum := "32870eb2060fd6ce4cf36398178675aff03b66f5d126f6b917912348a415b3d6", func := "tilth/tilthlaw03.ConfChecks", spec := "confChecks", apart := false, narrowed := true }
def ConfChecksUptoSaid : Prop := confChecksUptoRow.holds Try.pinned (OpenSpec.upto confChecksSpec)

/-- 'tilthlaw03.ConfParts', WHERE WHAT IT READS IS OF BULK AT MOST 1048576: true; the input reads as it did. -/
def confPartsUptoRow : OpenClaim := { program := "ytgkgoepldbaohaa", sum := "32870eb2060fd6ce4cf36398178675aff03b66f5d126f6b917912348a415b3d6", func := "tilth/tilthlaw03.ConfParts", spec := "confParts", apart := false, narrowed := true }
def ConfPartsUptoSaid : Prop := confPartsUptoRow.holds Try.pinned (OpenSpec.upto confPartsSpec)

/-- 'tilthlaw03.ConfMost', WHERE WHAT IT READS IS OF BULK AT MOST 1048576: true; the input reads as it did. -/
def confMostUptoRow : OpenClaim := { program := "ytgkgoepldbaohaa", sum := "32870eb2060fd6ce4cf36398178675aff03b66f5d126f6b917912348a415b3d6", func := "tilth/tilthlaw03.ConfMost", spec := "confMost", apart := false, narrowed := true }
def ConfMostUptoSaid : Prop := confMostUptoRow.holds Try.pinned (OpenSpec.upto confMostSpec)

/-- 'tilthlaw03.ConfGrows', WHERE WHAT IT READS IS OF BULK AT MOST 1048576: true; the input reads as it did. -/
def confGrowsUptoRow : OpenClaim := { program := "ytgkgoepldbaohaa", sum := "32870eb2060fd6ce4cf36398178675aff03b66f5d126f6b917912348a415b3d6", func := "tilth/tilthlaw03.ConfGrows", spec := "confGrows", apart := false, narrowed := true }
def ConfGrowsUptoSaid : Prop := confGrowsUptoRow.holds Try.pinned (OpenSpec.upto confGrowsSpec)

end Rows
end Go.Proofs.Ytgkgoepldbaohaa
