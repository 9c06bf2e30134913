/-
  No cell of these rows narrows 'for every input' (looked for: loops, veiled, ifaces, maps, wideKeys, modest, calm, conditions, laid).
  DERIVED. THE GIVEN ROWS OF THIS SEAT. 5 by the template 'for every input the law returns true; each argument reads behind the call as it read before'; 0 by the template 'total and deterministic' (their statements: YtjgjablmkljfoaaTotals.lean).
  GIVEN WITH THE SEED: the statements are not yours to turn. If you find one false, say at which input.
  Laid BY PROGRAM, IN A SANDBOX (cutbox-rows.mjs): the forced cells as the released guide's own fill.sh prints them over the translation eb301789ead57714… (all of the seat's roots in one cut). By AI agents, Wed Nov 11 2026. No macro, syntax, notation, axiom, sorry.
-/
import Derived.Test.YtjgjablmkljfoaaChecked
import GoSem.Claim
import GoSem.ClaimJoined
import GoSem.ClaimMapViews
import Derived.JoinedTies
import Derived.KernelRfl
namespace Go.Proofs.Ytjgjablmkljfoaa
/- THE CELL 'sum', in the pinned program and in every row, IS THE sha256 OF THE DUMP (.gsa) THAT YtjgjablmkljfoaaProg.lean LOADS. Nothing in Lean hashes anything: it is a label: what it is worth is what the hold of that sum in a sandbox is worth. -/
noncomputable def Try.pinned : Pinned := { name := "ytjgjablmkljfoaa", sum := "eb301789ead57714ba9fb560a621871e11d0d81c33e17887ab0caa6becdc7266", checked := Try.checked }
namespace Rows
def none {H : Type} : Left H := { results := [], args := [] }

/-- 'tilthlaw05.MatureApart': WHATEVER THE INPUT: true; the input reads as it did. -/
def matureApartSpec : ChangeSpec := { name := "matureApart", fn := fun _ => fun
  | [d1, d2, d3] => { results := [.lit (.bool true)], args := [d1, d2, d3] }
  | _ => none }
def matureApartRow : OpenClaim := { program := "ytjgjablmkljfoaa", sum := "eb301789ead57714ba9fb560a621871e11d0d81c33e17887ab0caa6becdc7266", func := "tilth/tilthlaw05.MatureApart", spec := "matureApart", apart := false }
def MatureApartSaid : Prop := matureApartRow.holds Try.pinned (OpenSpec.ofChange matureApartSpec)

/-- ITS FALSE NEIGHBOUR: 'it returns false'. Refute it at one input. -/
def matureApartWrong : ChangeSpec := { name := "matureApart", fn := fun _ => fun
  | [d1, d2, d3] => { results := [.lit (.bool false)], args := [d1, d2, d3] }
  | _ => none }
def MatureApartWrongFalsely : Prop := matureApartRow.holds Try.pinned (OpenSpec.ofChange matureApartWrong)

/-- 'tilthlaw05.MatureAgain': WHATEVER THE INPUT: true; the input reads as it did. -/
def matureAgainSpec : ChangeSpec := { name := "matureAgain", fn := fun _ => fun
  | [d1, d2, d3] => { results := [.lit (.bool true)], args := [d1, d2, d3] }
  | _ => none }
def matureAgainRow : OpenClaim := { program := "ytjgjablmkljfoaa", sum := "eb301789ead57714ba9fb560a621871e11d0d81c33e17887ab0caa6becdc7266", func := "tilth/tilthlaw05.MatureAgain", spec := "matureAgain", apart := false }
def MatureAgainSaid : Prop := matureAgainRow.holds Try.pinned (OpenSpec.ofChange matureAgainSpec)

/-- ITS FALSE NEIGHBOUR: 'it returns false'. Refute it at one input. -/
def matureAgainWrong : ChangeSpec := { name := "matureAgain", fn := fun _ => fun
  | [d1, d2, d3] => { results := [.lit (.bool false)], args := [d1, d2, d3] }
  | _ => none }
def MatureAgainWrongFalsely : Prop := matureAgainRow.holds Try.pinned (OpenSpec.ofChange matureAgainWrong)

/-- 'tilthlaw05.MatureSweep': WHATEVER THE INPUT: true; the input reads as it did. -/
def matureSweepSpec : ChangeSpec := { name := "matureSweep", fn := fun _ => fun
  | [d1, d2, d3, d4] => { results := [.lit (.bool true)], args := [d1, d2, d3, d4] }
  | _ => none }
def matureSweepRow : OpenClaim := { program := "ytjgjablmkljfoaa", sum := "eb301789ead57714ba9fb560a621871e11d0d81c33e17887ab0caa6becdc7266", func := "tilth/tilthlaw05.MatureSweep", spec := "matureSweep", apart := false }
def MatureSweepSaid : Prop := matureSweepRow.holds Try.pinned (OpenSpec.ofChange matureSweepSpec)

/-- ITS FALSE NEIGHBOUR: 'it returns false'. Refute it at one input. -/
def matureSweepWrong : ChangeSpec := { name := "matureSweep", fn := fun _ => fun
  | [d1, d2, d3, d4] => { results := [.lit (.bool false)], args := [d1, d2, d3, d4] }
  | _ => none }
def MatureSweepWrongFalsely : Prop := matureSweepRow.holds Try.pinned (OpenSpec.ofChange matureSweepWrong)

/-- 'tilthlaw05.MaturePlays': WHATEVER THE INPUT: true; the input reads as it did. -/
def maturePlaysSpec : ChangeSpec := { name := "maturePlays", fn := fun _ => fun
  | [d1, d2, d3, d4] => { results := [.lit (.bool true)], args := [d1, d2, d3, d4] }
  | _ => none }
def maturePlaysRow : OpenClaim := { program := "ytjgjablmkljfoaa", sum := "eb301789ead57714ba9fb560a621871e11d0d81c33e17887ab0caa6becdc7266", func := "tilth/tilthlaw05.MaturePlays", spec := "maturePlays", apart := false }
def MaturePlaysSaid : Prop := maturePlaysRow.holds Try.pinned (OpenSpec.ofChange maturePlaysSpec)

/-- ITS FALSE NEIGHBOUR: 'it returns false'. Refute it at one input. -/
def maturePlaysWrong : ChangeSpec := { name := "maturePlays", fn := fun _ => fun
  | [d1, d2, d3, d4] => { results := [.lit (.bool false)], args := [d1, d2, d3, d4] }
  | _ => none }
def MaturePlaysWrongFalsely : Prop := maturePlaysRow.holds Try.pinned (OpenSpec.ofChange maturePlaysWrong)

/-- 'tilthlaw05.MatureNone': WHATEVER THE INPUT: true; the input reads as it did. -/
def matureNoneSpec : ChangeSpec := { name := "matureNone", fn := fun _ => fun
  | [d] => { results := [.lit (.bool true)], args := [d] }
  | _ => none }
def matureNoneRow : OpenClaim := { program := "ytjgjablmkljfoaa", sum := "eb301789ead57714ba9fb560a621871e11d0d81c33e17887ab0caa6becdc7266", func := "tilth/tilthlaw05.MatureNone", spec := "matureNone", apart := false }
def MatureNoneSaid : Prop := matureNoneRow.holds Try.pinned (OpenSpec.ofChange matureNoneSpec)

/-- ITS FALSE NEIGHBOUR: 'it returns false'. Refute it at one input. -/
def matureNoneWrong : ChangeSpec := { name := "matureNone", fn := fun _ => fun
  | [d] => { results := [.lit (.bool false)], args := [d] }
  | _ => none }
def MatureNoneWrongFalsely : Prop := matureNoneRow.holds Try.pinned (OpenSpec.ofChange matureNoneWrong)

/- THE SECOND FORM. 'bulk': how many values and letters a reading holds, each counted each time it is reached (what is shared counts as often as it is met; a slice's spare places count too). A statement '..UptoSaid' is the law's where the arguments, and the package variables that the reading takes, are together of bulk at most 1048576: NARROWER than '..Said'. Prove '..Said' where nothing that the law and all that it calls make is longer than what came in: it says more and counts as full. Else prove '..UptoSaid'. A law counts once. -/
mutual
def uptoBulk {H : Type} : DataW H → Nat
  | .lit (.string bytes) => bytes.length + 1
  | .lit _ => 1
  | .nil => 1
  | .ptr d => uptoBulk d + 1
  | .slice elems spare => uptoBulkAll elems + uptoBulkAll spare + 1
  | .agg parts => uptoBulkAll parts + 1
  | .iface _ d => uptoBulk d + 1
  | .map entries => uptoBulkEntries entries + 1
  | .held _ => 1
def uptoBulkAll {H : Type} : List (DataW H) → Nat
  | [] => 0
  | d :: r => uptoBulk d + uptoBulkAll r
def uptoBulkEntries {H : Type} : List (Lit × DataW H) → Nat
  | [] => 0
  | x :: r => uptoBulkEntry x + uptoBulkEntries r
def uptoBulkEntry {H : Type} : Lit × DataW H → Nat
  | (.string bytes, d) => bytes.length + uptoBulk d + 1
  | (_, d) => uptoBulk d + 1
 end
def uptoSmall : (H : Type) → List (DataW H) → Bool := fun _ ds => decide (uptoBulkAll ds ≤ 1048576)
def OpenSpec.upto (s : _root_.Go.ChangeSpec) : _root_.Go.OpenSpec := { _root_.Go.OpenSpec.ofChange s with cond := some uptoSmall }

/-- 'tilthlaw05.MatureApart', WHERE WHAT IT READS IS OF BULK AT MOST 1048576: true; the input reads as it did. -/
def matureApartUptoRow : OpenClaim := { program := "ytjgjablmkljfoaa", sum := "eb301789ead57714ba9fb560a621871e11d0d81c33e17887ab0caa6becdc7266", func := "tilth/tilthlaw05.MatureApart", spec := "matureApart", apart := false, narrowed := true }
def MatureApartUptoSaid : Prop := matureApartUptoRow.holds Try.pinned (OpenSpec.upto matureApartSpec)

/-- 'tilthlaw05.MatureAgain', WHERE WHAT IT READS IS OF BULK AT MOST 1048576: true; the input reads as it did. -/
def matureAgainUptoRow : OpenClaim := { program := "ytjgjablmkljfoaa", sum := "eb301789ead57714ba9fb560a621871e11d0d81c33e17887ab0caa6becdc7266", func := "tilth/tilthlaw05.MatureAgain", spec := "matureAgain", apart := false, narrowed := true }
def MatureAgainUptoSaid : Prop := matureAgainUptoRow.holds Try.pinned (OpenSpec.upto matureAgainSpec)

/-- 'tilthlaw05.MatureSweep', WHERE WHAT IT READS IS OF BULK AT MOST 1048576: true; the input reads as it did. -/
def matureSweepUptoRow : OpenClaim := { program := "ytjgjablmkljfoaa", sum := "eb301789ead57714ba9fb560a621871e11d0d81c33e17887ab0caa6becdc7266", func := "tilth/tilthlaw05.MatureSweep", spec := "matureSweep", apart := false, narrowed := true }
def MatureSweepUptoSaid : Prop := matureSweepUptoRow.holds Try.pinned (OpenSpec.upto matureSweepSpec)

/-- 'tilthlaw05.MaturePlays', WHERE WHAT IT READS IS OF BULK AT MOST 1048576: true; the input reads as it did. -/
def maturePlaysUptoRow : OpenClaim := { program := "ytjgjablmkljfoaa", sum := "eb301789ead57714ba9fb560a621871e11d0d81c33e17887ab0caa6becdc7266", func := "tilth/tilthlaw05.MaturePlays", spec := "maturePlays", apart := false, narrowed := true }
def MaturePlaysUptoSaid : Prop := maturePlaysUptoRow.holds Try.pinned (OpenSpec.upto maturePlaysSpec)

/-- 'tilthlaw05.MatureNone', WHERE WHAT IT READS IS OF BULK AT MOST 1048576: true; the input reads as it did. -/
def matureNoneUptoRow : OpenClaim := { program := "ytjgjablmkljfoaa", sum := "eb301789ead57714ba9fb560a621871e11d0d81c33e17887ab0caa6becdc7266", func := "tilth/tilthlaw05.MatureNone", spec := "matureNone", apart := false, narrowed := true }
def MatureNoneUptoSaid : Prop := matureNoneUptoRow.holds Try.pinned (OpenSpec.upto matureNoneSpec)

end Rows
end Go.Proofs.Ytjgjablmkljfoaa
