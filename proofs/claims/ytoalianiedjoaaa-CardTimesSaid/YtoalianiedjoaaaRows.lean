/-
  No cell of these rows narrows 'for every input' (looked for: loops, veiled, ifaces, maps, wideKeys, modest, calm, conditions, laid).
  DERIVED. THE GIVEN ROWS OF THIS SEAT. 9 by the template 'for every input the law returns true; each argument reads behind the call as it read before'; 0 by the template 'total and deterministic' (their statements: YtoalianiedjoaaaTotals.lean).
  GIVEN WITH THE SEED: the statements are not yours to turn. If you find one false, say at which input.
  Laid BY PROGRAM, IN A SANDBOX (cutbox-rows.mjs): the forced cells as the released guide's own fill.sh prints them over the translation c4b2afb2fa0a6913… (all of the seat's roots in one cut). By AI agents, Wed Nov 11 2026. No macro, syntax, notation, axiom, sorry.
-/
import Derived.Test.YtoalianiedjoaaaChecked
import GoSem.Claim
import GoSem.ClaimJoined
import GoSem.ClaimMapViews
import Derived.JoinedTies
import Derived.KernelRfl
namespace Go.Proofs.Ytoalianiedjoaaa
/- THE CELL 'sum', in the pinned program and in every row, IS THE sha256 OF THE DUMP (.gsa) THAT YtoalianiedjoaaaProg.lean LOADS. Nothing in Lean hashes anything: it is a label: what it is worth is what the hold of that sum in a sandbox is worth. -/
noncomputable def Try.pinned : Pinned := { name := "ytoalianiedjoaaa", sum := "c4b2afb2fa0a69134fa79854dbbf33f9066717f4a5dfd0ad71d5d6a0858e989e", checked := Try.checked }
namespace Rows
def none {H : Type} : Left H := { results := [], args := [] }

/-- 'tilthlaw06.BumpWords': WHATEVER THE INPUT: true; the input reads as it did. -/
def bumpWordsSpec : ChangeSpec := { name := "bumpWords", fn := fun _ => fun
  | [d1, d2, d3] => { results := [.lit (.bool true)], args := [d1, d2, d3] }
  | _ => none }
def bumpWordsRow : OpenClaim := { program := "ytoalianiedjoaaa", sum := "c4b2afb2fa0a69134fa79854dbbf33f9066717f4a5dfd0ad71d5d6a0858e989e", func := "tilth/tilthlaw06.BumpWords", spec := "bumpWords", apart := false }
def BumpWordsSaid : Prop := bumpWordsRow.holds Try.pinned (OpenSpec.ofChange bumpWordsSpec)

/-- ITS FALSE NEIGHBOUR: 'it returns false'. Refute it at one input. -/
def bumpWordsWrong : ChangeSpec := { name := "bumpWords", fn := fun _ => fun
  | [d1, d2, d3] => { results := [.lit (.bool false)], args := [d1, d2, d3] }
  | _ => none }
def BumpWordsWrongFalsely : Prop := bumpWordsRow.holds Try.pinned (OpenSpec.ofChange bumpWordsWrong)

/-- 'tilthlaw06.BumpRows': WHATEVER THE INPUT: true; the input reads as it did. -/
def bumpRowsSpec : ChangeSpec := { name := "bumpRows", fn := fun _ => fun
  | [d1, d2] => { results := [.lit (.bool true)], args := [d1, d2] }
  | _ => none }
def bumpRowsRow : OpenClaim := { program := "ytoalianiedjoaaa", sum := "c4b2afb2fa0a69134fa79854dbbf33f9066717f4a5dfd0ad71d5d6a0858e989e", func := "tilth/tilthlaw06.BumpRows", spec := "bumpRows", apart := false }
def BumpRowsSaid : Prop := bumpRowsRow.holds Try.pinned (OpenSpec.ofChange bumpRowsSpec)

/-- ITS FALSE NEIGHBOUR: 'it returns false'. Refute it at one input. -/
def bumpRowsWrong : ChangeSpec := { name := "bumpRows", fn := fun _ => fun
  | [d1, d2] => { results := [.lit (.bool false)], args := [d1, d2] }
  | _ => none }
def BumpRowsWrongFalsely : Prop := bumpRowsRow.holds Try.pinned (OpenSpec.ofChange bumpRowsWrong)

/-- 'tilthlaw06.BumpTurns': WHATEVER THE INPUT: true; the input reads as it did. -/
def bumpTurnsSpec : ChangeSpec := { name := "bumpTurns", fn := fun _ => fun
  | [d1, d2] => { results := [.lit (.bool true)], args := [d1, d2] }
  | _ => none }
def bumpTurnsRow : OpenClaim := { program := "ytoalianiedjoaaa", sum := "c4b2afb2fa0a69134fa79854dbbf33f9066717f4a5dfd0ad71d5d6a0858e989e", func := "tilth/tilthlaw06.BumpTurns", spec := "bumpTurns", apart := false }
def BumpTurnsSaid : Prop := bumpTurnsRow.holds Try.pinned (OpenSpec.ofChange bumpTurnsSpec)

/-- ITS FALSE NEIGHBOUR: 'it returns false'. Refute it at one input. -/
def bumpTurnsWrong : ChangeSpec := { name := "bumpTurns", fn := fun _ => fun
  | [d1, d2] => { results := [.lit (.bool false)], args := [d1, d2] }
  | _ => none }
def BumpTurnsWrongFalsely : Prop := bumpTurnsRow.holds Try.pinned (OpenSpec.ofChange bumpTurnsWrong)

/-- 'tilthlaw06.BumpPlays': WHATEVER THE INPUT: true; the input reads as it did. -/
def bumpPlaysSpec : ChangeSpec := { name := "bumpPlays", fn := fun _ => fun
  | [d1, d2, d3] => { results := [.lit (.bool true)], args := [d1, d2, d3] }
  | _ => none }
def bumpPlaysRow : OpenClaim := { program := "ytoalianiedjoaaa", sum := "c4b2afb2fa0a69134fa79854dbbf33f9066717f4a5dfd0ad71d5d6a0858e989e", func := "tilth/tilthlaw06.BumpPlays", spec := "bumpPlays", apart := false }
def BumpPlaysSaid : Prop := bumpPlaysRow.holds Try.pinned (OpenSpec.ofChange bumpPlaysSpec)

/-- ITS FALSE NEIGHBOUR: 'it returns false'. Refute it at one input. -/
def bumpPlaysWrong : ChangeSpec := { name := "bumpPlays", fn := fun _ => fun
  | [d1, d2, d3] => { results := [.lit (.bool false)], args := [d1, d2, d3] }
  | _ => none }
def BumpPlaysWrongFalsely : Prop := bumpPlaysRow.holds Try.pinned (OpenSpec.ofChange bumpPlaysWrong)

/-- 'tilthlaw06.BumpNone': WHATEVER THE INPUT: true; the input reads as it did. -/
def bumpNoneSpec : ChangeSpec := { name := "bumpNone", fn := fun _ => fun
  | [d] => { results := [.lit (.bool true)], args := [d] }
  | _ => none }
def bumpNoneRow : OpenClaim := { program := "ytoalianiedjoaaa", sum := "c4b2afb2fa0a69134fa79854dbbf33f9066717f4a5dfd0ad71d5d6a0858e989e", func := "tilth/tilthlaw06.BumpNone", spec := "bumpNone", apart := false }
def BumpNoneSaid : Prop := bumpNoneRow.holds Try.pinned (OpenSpec.ofChange bumpNoneSpec)

/-- ITS FALSE NEIGHBOUR: 'it returns false'. Refute it at one input. -/
def bumpNoneWrong : ChangeSpec := { name := "bumpNone", fn := fun _ => fun
  | [d] => { results := [.lit (.bool false)], args := [d] }
  | _ => none }
def BumpNoneWrongFalsely : Prop := bumpNoneRow.holds Try.pinned (OpenSpec.ofChange bumpNoneWrong)

/-- 'tilthlaw08.CardPlays': WHATEVER THE INPUT: true; the input reads as it did. -/
def cardPlaysSpec : ChangeSpec := { name := "cardPlays", fn := fun _ => fun
  | [d1, d2, d3, d4] => { results := [.lit (.bool true)], args := [d1, d2, d3, d4] }
  | _ => none }
def cardPlaysRow : OpenClaim := { program := "ytoalianiedjoaaa", sum := "c4b2afb2fa0a69134fa79854dbbf33f9066717f4a5dfd0ad71d5d6a0858e989e", func := "tilth/tilthlaw08.CardPlays", spec := "cardPlays", apart := false }
def CardPlaysSaid : Prop := cardPlaysRow.holds Try.pinned (OpenSpec.ofChange cardPlaysSpec)

/-- ITS FALSE NEIGHBOUR: 'it returns false'. Refute it at one input. -/
def cardPlaysWrong : ChangeSpec := { name := "cardPlays", fn := fun _ => fun
  | [d1, d2, d3, d4] => { results := [.lit (.bool false)], args := [d1, d2, d3, d4] }
  | _ => none }
def CardPlaysWrongFalsely : Prop := cardPlaysRow.holds Try.pinned (OpenSpec.ofChange cardPlaysWrong)

/-- 'tilthlaw08.CardParts': WHATEVER THE INPUT: true; the input reads as it did. -/
def cardPartsSpec : ChangeSpec := { name := "cardParts", fn := fun _ => fun
  | [d1, d2, d3] => { results := [.lit (.bool true)], args := [d1, d2, d3] }
  | _ => none }
def cardPartsRow : OpenClaim := { program := "ytoalianiedjoaaa", sum := "c4b2afb2fa0a69134fa79854dbbf33f9066717f4a5dfd0ad71d5d6a0858e989e", func := "tilth/tilthlaw08.CardParts", spec := "cardParts", apart := false }
def CardPartsSaid : Prop := cardPartsRow.holds Try.pinned (OpenSpec.ofChange cardPartsSpec)

/-- ITS FALSE NEIGHBOUR: 'it returns false'. Refute it at one input. -/
def cardPartsWrong : ChangeSpec := { name := "cardParts", fn := fun _ => fun
  | [d1, d2, d3] => { results := [.lit (.bool false)], args := [d1, d2, d3] }
  | _ => none }
def CardPartsWrongFalsely : Prop := cardPartsRow.holds Try.pinned (OpenSpec.ofChange cardPartsWrong)

/-- 'tilthlaw08.CardNone': WHATEVER THE INPUT: true; the input reads as it did. -/
def cardNoneSpec : ChangeSpec := { name := "cardNone", fn := fun _ => fun
  | [d] => { results := [.lit (.bool true)], args := [d] }
  | _ => none }
def cardNoneRow : OpenClaim := { program := "ytoalianiedjoaaa", sum := "c4b2afb2fa0a69134fa79854dbbf33f9066717f4a5dfd0ad71d5d6a0858e989e", func := "tilth/tilthlaw08.CardNone", spec := "cardNone", apart := false }
def CardNoneSaid : Prop := cardNoneRow.holds Try.pinned (OpenSpec.ofChange cardNoneSpec)

/-- ITS FALSE NEIGHBOUR: 'it returns false'. Refute it at one input. -/
def cardNoneWrong : ChangeSpec := { name := "cardNone", fn := fun _ => fun
  | [d] => { results := [.lit (.bool false)], args := [d] }
  | _ => none }
def CardNoneWrongFalsely : Prop := cardNoneRow.holds Try.pinned (OpenSpec.ofChange cardNoneWrong)

/-- 'tilthlaw08.CardTimes': WHATEVER THE INPUT: true; the input reads as it did. -/
def cardTimesSpec : ChangeSpec := { name := "cardTimes", fn := fun _ => fun
  | [d] => { results := [.lit (.bool true)], args := [d] }
  | _ => none }
def cardTimesRow : OpenClaim := { program := "ytoalianiedjoaaa", sum := "c4b2afb2fa0a69134fa79854dbbf33f9066717f4a5dfd0ad71d5d6a0858e989e", func := "tilth/tilthlaw08.CardTimes", spec := "cardTimes", apart := false }
def CardTimesSaid : Prop := cardTimesRow.holds Try.pinned (OpenSpec.ofChange cardTimesSpec)

/-- ITS FALSE NEIGHBOUR: 'it returns false'. Refute it at one input. -/
def cardTimesWrong : ChangeSpec := { name := "cardTimes", fn := fun _ => fun
  | [d] => { results := [.lit (.bool false)], args := [d] }
  | _ => none }
def CardTimesWrongFalsely : Prop := cardTimesRow.holds Try.pinned (OpenSpec.ofChange cardTimesWrong)

/- THE SECOND FORM. 'bulk': how many values and letters a reading holds, each counted each time it is reached (what is shared counts as often as it is met; a slice's spare places count too). A statement '..UptoSaid' is the law's where the arguments, and the package variables that the reading takes, are together of bulk at most 1048576: NARROWER than '..Said'. Prove '..Said' where nothing that the law and all that it calls make is longer than what came in: it says more and counts as full. Else prove '..UptoSaid'. A law counts once. -/
mutual
def uptoBulk {H : Type} : DataW H → Nat
  | .lit (.string bytes) => bytes.length + 1
  | .lit _ => 1
  | .nil => 1
  | .ptr d => uptoBulk d + 1
  | .slice elems spare => uptoBulkAll elems + uptoBulkAll spare + 1
  | .agg parts => uptoBulkAll parts + 1
  | .iface _ d => uptoBulk d + 1
  | .map entries => uptoBulkEntries entries + 1
  | .held _ => 1
def uptoBulkAll {H : Type} : List (DataW H) → Nat
  | [] => 0
  | d :: r => uptoBulk d + uptoBulkAll r
def uptoBulkEntries {H : Type} : List (Lit × DataW H) → Nat
  | [] => 0
  | x :: r => uptoBulkEntry x + uptoBulkEntries r
def uptoBulkEntry {H : Type} : Lit × DataW H → Nat
  | (.string bytes, d) => bytes.length + uptoBulk d + 1
  | (_, d) => uptoBulk d + 1
 end
def uptoSmall : (H : Type) → List (DataW H) → Bool := fun _ ds => decide (uptoBulkAll ds ≤ 1048576)
def OpenSpec.upto (s : _root_.Go.ChangeSpec) : _root_.Go.OpenSpec := { _root_.Go.OpenSpec.ofChange s with cond := some uptoSmall }

/-- 'tilthlaw06.BumpWords', WHERE WHAT IT READS IS OF BULK AT MOST 1048576: true; the input reads as it did. -/
def bumpWordsUptoRow : OpenClaim := { program := "ytoalianiedjoaaa", sum := "c4b2afb2fa0a69134fa79854dbbf33f9066717f4a5dfd0ad71d5d6a0858e989e", func := "tilth/tilthlaw06.BumpWords", spec := "bumpWords", apart := false, narrowed := true }
def BumpWordsUptoSaid : Prop := bumpWordsUptoRow.holds Try.pinned (OpenSpec.upto bumpWordsSpec)

/-- 'tilthlaw06.BumpRows', WHERE WHAT IT READS IS OF BULK AT MOST 1048576: true; the input reads as it did. -/
def bumpRowsUptoRow : OpenClaim := { program := "ytoalianiedjoaaa", sum := "c4b2afb2fa0a69134fa79854dbbf33f9066717f4a5dfd0ad71d5d6a0858e989e", func := "tilth/tilthlaw06.BumpRows", spec := "bumpRows", apart := false, narrowed := true }
def BumpRowsUptoSaid : Prop := bumpRowsUptoRow.holds Try.pinned (OpenSpec.upto bumpRowsSpec)

/-- 'tilthlaw06.BumpTurns', WHERE WHAT IT READS IS OF BULK AT MOST 1048576: true; the input reads as it did. -/
def bumpTurnsUptoRow : OpenClaim := { program := "ytoalianiedjoaaa", sum := "c4b2afb2fa0a69134fa79854dbbf33f9066717f4a5dfd0ad71d5d6a0858e989e", func := "tilth/tilthlaw06.BumpTurns", spec := "bumpTurns", apart := false, narrowed := true }
def BumpTurnsUptoSaid : Prop := bumpTurnsUptoRow.holds Try.pinned (OpenSpec.upto bumpTurnsSpec)

/-- 'tilthlaw06.BumpPlays', WHERE WHAT IT READS IS OF BULK AT MOST 1048576: true; the input reads as it did. -/
def bumpPlaysUptoRow : OpenClaim := { program := "ytoalianiedjoaaa", sum := "c4b2afb2fa0a69134fa79854dbbf33f9066717f4a5dfd0ad71d5d6a0858e989e", func := "tilth/tilthlaw06.BumpPlays", spec := "bumpPlays", apart := false, narrowed := true }
def BumpPlaysUptoSaid : Prop := bumpPlaysUptoRow.holds Try.pinned (OpenSpec.upto bumpPlaysSpec)

/-- 'tilthlaw06.BumpNone', WHERE WHAT IT READS IS OF BULK AT MOST 1048576: true; the input reads as it did. -/
def bumpNoneUptoRow : OpenClaim := { program := "ytoalianiedjoaaa", sum := "c4b2afb2fa0a69134fa79854dbbf33f9066717f4a5dfd0ad71d5d6a0858e989e", func := "tilth/tilthlaw06.BumpNone", spec := "bumpNone", apart := false, narrowed := true }
def BumpNoneUptoSaid : Prop := bumpNoneUptoRow.holds Try.pinned (OpenSpec.upto bumpNoneSpec)

/-- 'tilthlaw08.CardPlays', WHERE WHAT IT READS IS OF BULK AT MOST 1048576: true; the input reads as it did. -/
def cardPlaysUptoRow : OpenClaim := { program := "ytoalianiedjoaaa", sum := "c4b2afb2fa0a69134fa79854dbbf33f9066717f4a5dfd0ad71d5d6a0858e989e", func := "tilth/tilthlaw08.CardPlays", spec := "cardPlays", apart := false, narrowed := true }
def CardPlaysUptoSaid : Prop := cardPlaysUptoRow.holds Try.pinned (OpenSpec.upto cardPlaysSpec)

/-- 'tilthlaw08.CardParts', WHERE WHAT IT READS IS OF BULK AT MOST 1048576: true; the input reads as it did. -/
def cardPartsUptoRow : OpenClaim := { program := "ytoalianiedjoaaa", sum := "c4b2afb2fa0a69134fa79854dbbf33f9066717f4a5dfd0ad71d5d6a0858e989e", func := "tilth/tilthlaw08.CardParts", spec := "cardParts", apart := false, narrowed := true }
def CardPartsUptoSaid : Prop := cardPartsUptoRow.holds Try.pinned (OpenSpec.upto cardPartsSpec)

/-- 'tilthlaw08.CardNone', WHERE WHAT IT READS IS OF BULK AT MOST 1048576: true; the input reads as it did. -/
def cardNoneUptoRow : OpenClaim := { program := "ytoalianiedjoaaa", sum := "c4b2afb2fa0a69134fa79854dbbf33f9066717f4a5dfd0ad71d5d6a0858e989e", func := "tilth/tilthlaw08.CardNone", spec := "cardNone", apart := false, narrowed := true }
def CardNoneUptoSaid : Prop := cardNoneUptoRow.holds Try.pinned (OpenSpec.upto cardNoneSpec)

/-- 'tilthlaw08.CardTimes', WHERE WHAT IT READS IS OF BULK AT MOST 1048576: true; the input reads as it did. -/
def cardTimesUptoRow : OpenClaim := { program := "ytoalianiedjoaaa", sum := "c4b2afb2fa0a69134fa79854dbbf33f9066717f4a5dfd0ad71d5d6a0858e989e", func := "tilth/tilthlaw08.CardTimes", spec := "cardTimes", apart := false, narrowed := true }
def CardTimesUptoSaid : Prop := cardTimesUptoRow.holds Try.pinned (OpenSpec.upto cardTimesSpec)

end Rows
end Go.Proofs.Ytoalianiedjoaaa
