/-
  No cell of these rows narrows 'for every input' (looked for: loops, veiled, ifaces, maps, wideKeys, modest, calm, conditions, laid).
  DERIVED. THE GIVEN ROWS OF THIS SEAT. 9 by the template 'for every input the law returns true; each argument reads behind the call as it read before'; 0 by the template 'total and deterministic' (their statements: YtdibadfecoipfaaTotals.lean).
  GIVEN WITH THE SEED: the statements are not yours to turn. If you find one false, say at which input.
  Laid BY PROGRAM, IN A SANDBOX (cutbox-rows.mjs): the forced cells as the released guide's own fill.sh prints them over the translation d8a3f1d0a24fe387… (all of the seat's roots in one cut). By AI agents, Wed Nov 11 2026. No macro, syntax, notation, axiom, sorry.
-/
import Derived.Test.YtdibadfecoipfaaChecked
import GoSem.Claim
import GoSem.ClaimJoined
import GoSem.ClaimMapViews
import Derived.JoinedTies
import Derived.KernelRfl
namespace Go.Proofs.Ytdibadfecoipfaa
/- THE CELL 'sum', in the pinned program and in every row, IS THE sha256 OF THE DUMP (.gsa) THAT YtdibadfecoipfaaProg.lean LOADS. Nothing in Lean hashes anything: it is a label: what it is worth is what the hold of that sum in a sandbox is worth. -/
noncomputable def Try.pinned : Pinned := { name := "ytdibadfecoipfaa", sum := "d8a3f1d0a24fe387b36101996698ec780c1d78b0443a76aba497eec7c25a13bd", checked := Try.checked }
namespace Rows
def none {H : Type} : Left H := { results := [], args := [] }

/-- 'tilthlaw09.BufPlays': WHATEVER THE INPUT: true; the input reads as it did. -/
def bufPlaysSpec : ChangeSpec := { name := "bufPlays", fn := fun _ => fun
  | [d1, d2, d3] => { results := [.lit (.bool true)], args := [d1, d2, d3] }
  | _ => none }
def bufPlaysRow : OpenClaim := { program := "ytdibadfecoipfaa", sum := "d8a3f1d0a24fe387b36101996698ec780c1d78b0443a76aba497eec7c25a13bd", func := "tilth/tilthlaw09.BufPlays", spec := "bufPlays", apart := false }
def BufPlaysSaid : Prop := bufPlaysRow.holds Try.pinned (OpenSpec.ofChange bufPlaysSpec)

/-- ITS FALSE NEIGHBOUR: 'it returns false'. Refute it at one input. -/
def bufPlaysWrong : ChangeSpec := { name := "bufPlays", fn := fun _ => fun
  | [d1, d2, d3] => { results := [.lit (.bool false)], args := [d1, d2, d3] }
  | _ => none }
def BufPlaysWrongFalsely : Prop := bufPlaysRow.holds Try.pinned (OpenSpec.ofChange bufPlaysWrong)

/-- 'tilthlaw09.BufNone': WHATEVER THE INPUT: true; the input reads as it did. -/
def bufNoneSpec : ChangeSpec := { name := "bufNone", fn := fun _ => fun
  | [d] => { results := [.lit (.bool true)], args := [d] }
  | _ => none }
def bufNoneRow : OpenClaim := { program := "ytdibadfecoipfaa", sum := "d8a3f1d0a24fe387b36101996698ec780c1d78b0443a76aba497eec7c25a13bd", func := "tilth/tilthlaw09.BufNone", spec := "bufNone", apart := false }
def BufNoneSaid : Prop := bufNoneRow.holds Try.pinned (OpenSpec.ofChange bufNoneSpec)

/-- ITS FALSE NEIGHBOUR: 'it returns false'. Refute it at one input. -/
def bufNoneWrong : ChangeSpec := { name := "bufNone", fn := fun _ => fun
  | [d] => { results := [.lit (.bool false)], args := [d] }
  | _ => none }
def BufNoneWrongFalsely : Prop := bufNoneRow.holds Try.pinned (OpenSpec.ofChange bufNoneWrong)

/-- 'tilthlaw09.BufOrder': WHATEVER THE INPUT: true; the input reads as it did. -/
def bufOrderSpec : ChangeSpec := { name := "bufOrder", fn := fun _ => fun
  | [d] => { results := [.lit (.bool true)], args := [d] }
  | _ => none }
def bufOrderRow : OpenClaim := { program := "ytdibadfecoipfaa", sum := "d8a3f1d0a24fe387b36101996698ec780c1d78b0443a76aba497eec7c25a13bd", func := "tilth/tilthlaw09.BufOrder", spec := "bufOrder", apart := false }
def BufOrderSaid : Prop := bufOrderRow.holds Try.pinned (OpenSpec.ofChange bufOrderSpec)

/-- ITS FALSE NEIGHBOUR: 'it returns false'. Refute it at one input. -/
def bufOrderWrong : ChangeSpec := { name := "bufOrder", fn := fun _ => fun
  | [d] => { results := [.lit (.bool false)], args := [d] }
  | _ => none }
def BufOrderWrongFalsely : Prop := bufOrderRow.holds Try.pinned (OpenSpec.ofChange bufOrderWrong)

/-- 'tilthlaw09.BufRoom': WHATEVER THE INPUT: true; the input reads as it did. -/
def bufRoomSpec : ChangeSpec := { name := "bufRoom", fn := fun _ => fun
  | [d1, d2] => { results := [.lit (.bool true)], args := [d1, d2] }
  | _ => none }
def bufRoomRow : OpenClaim := { program := "ytdibadfecoipfaa", sum := "d8a3f1d0a24fe387b36101996698ec780c1d78b0443a76aba497eec7c25a13bd", func := "tilth/tilthlaw09.BufRoom", spec := "bufRoom", apart := false }
def BufRoomSaid : Prop := bufRoomRow.holds Try.pinned (OpenSpec.ofChange bufRoomSpec)

/-- ITS FALSE NEIGHBOUR: 'it returns false'. Refute it at one input. -/
def bufRoomWrong : ChangeSpec := { name := "bufRoom", fn := fun _ => fun
  | [d1, d2] => { results := [.lit (.bool false)], args := [d1, d2] }
  | _ => none }
def BufRoomWrongFalsely : Prop := bufRoomRow.holds Try.pinned (OpenSpec.ofChange bufRoomWrong)

/-- 'tilthlaw09.BufTurns': WHATEVER THE INPUT: true; the input reads as it did. -/
def bufTurnsSpec : ChangeSpec := { name := "bufTurns", fn := fun _ => fun
  | [d1, d2] => { results := [.lit (.bool true)], args := [d1, d2] }
  | _ => none }
def bufTurnsRow : OpenClaim := { program := "ytdibadfecoipfaa", sum := "d8a3f1d0a24fe387b36101996698ec780c1d78b0443a76aba497eec7c25a13bd", func := "tilth/tilthlaw09.BufTurns", spec := "bufTurns", apart := false }
def BufTurnsSaid : Prop := bufTurnsRow.holds Try.pinned (OpenSpec.ofChange bufTurnsSpec)

/-- ITS FALSE NEIGHBOUR: 'it returns false'. Refute it at one input. -/
def bufTurnsWrong : ChangeSpec := { name := "bufTurns", fn := fun _ => fun
  | [d1, d2] => { results := [.lit (.bool false)], args := [d1, d2] }
  | _ => none }
def BufTurnsWrongFalsely : Prop := bufTurnsRow.holds Try.pinned (OpenSpec.ofChange bufTurnsWrong)

/-- 'tilthlaw11.GreyPlays': WHATEVER THE INPUT: true; the input reads as it did. -/
def greyPlaysSpec : ChangeSpec := { name := "greyPlays", fn := fun _ => fun
  | [d1, d2] => { results := [.lit (.bool true)], args := [d1, d2] }
  | _ => none }
def greyPlaysRow : OpenClaim := { program := "ytdibadfecoipfaa", sum := "d8a3f1d0a24fe387b36101996698ec780c1d78b0443a76aba497eec7c25a13bd", func := "tilth/tilthlaw11.GreyPlays", spec := "greyPlays", apart := false }
def GreyPlaysSaid : Prop := greyPlaysRow.holds Try.pinned (OpenSpec.ofChange greyPlaysSpec)

/-- ITS FALSE NEIGHBOUR: 'it returns false'. Refute it at one input. -/
def greyPlaysWrong : ChangeSpec := { name := "greyPlays", fn := fun _ => fun
  | [d1, d2] => { results := [.lit (.bool false)], args := [d1, d2] }
  | _ => none }
def GreyPlaysWrongFalsely : Prop := greyPlaysRow.holds Try.pinned (OpenSpec.ofChange greyPlaysWrong)

/-- 'tilthlaw11.GreyNone': WHATEVER THE INPUT: true; the input reads as it did. -/
def greyNoneSpec : ChangeSpec := { name := "greyNone", fn := fun _ => fun
  | [d] => { results := [.lit (.bool true)], args := [d] }
  | _ => none }
def greyNoneRow : OpenClaim := { program := "ytdibadfecoipfaa", sum := "d8a3f1d0a24fe387b36101996698ec780c1d78b0443a76aba497eec7c25a13bd", func := "tilth/tilthlaw11.GreyNone", spec := "greyNone", apart := false }
def GreyNoneSaid : Prop := greyNoneRow.holds Try.pinned (OpenSpec.ofChange greyNoneSpec)

/-- ITS FALSE NEIGHBOUR: 'it returns false'. Refute it at one input. -/
def greyNoneWrong : ChangeSpec := { name := "greyNone", fn := fun _ => fun
  | [d] => { results := [.lit (.bool false)], args := [d] }
  | _ => none }
def GreyNoneWrongFalsely : Prop := greyNoneRow.holds Try.pinned (OpenSpec.ofChange greyNoneWrong)

/-- 'tilthlaw11.GreyOrder': WHATEVER THE INPUT: true; the input reads as it did. -/
def greyOrderSpec : ChangeSpec := { name := "greyOrder", fn := fun _ => fun
  | [d] => { results := [.lit (.bool true)], args := [d] }
  | _ => none }
def greyOrderRow : OpenClaim := { program := "ytdibadfecoipfaa", sum := "d8a3f1d0a24fe387b36101996698ec780c1d78b0443a76aba497eec7c25a13bd", func := "tilth/tilthlaw11.GreyOrder", spec := "greyOrder", apart := false }
def GreyOrderSaid : Prop := greyOrderRow.holds Try.pinned (OpenSpec.ofChange greyOrderSpec)

/-- ITS FALSE NEIGHBOUR: 'it returns false'. Refute it at one input. -/
def greyOrderWrong : ChangeSpec := { name := "greyOrder", fn := fun _ => fun
  | [d] => { results := [.lit (.bool false)], args := [d] }
  | _ => none }
def GreyOrderWrongFalsely : Prop := greyOrderRow.holds Try.pinned (OpenSpec.ofChange greyOrderWrong)

/-- 'tilthlaw11.GreyLost': WHATEVER THE INPUT: true; the input reads as it did. -/
def greyLostSpec : ChangeSpec := { name := "greyLost", fn := fun _ => fun
  | [d1, d2] => { results := [.lit (.bool true)], args := [d1, d2] }
  | _ => none }
def greyLostRow : OpenClaim := { program := "ytdibadfecoipfaa", sum := "d8a3f1d0a24fe387b36101996698ec780c1d78b0443a76aba497eec7c25a13bd", func := "tilth/tilthlaw11.GreyLost", spec := "greyLost", apart := false }
def GreyLostSaid : Prop := greyLostRow.holds Try.pinned (OpenSpec.ofChange greyLostSpec)

/-- ITS FALSE NEIGHBOUR: 'it returns false'. Refute it at one input. -/
def greyLostWrong : ChangeSpec := { name := "greyLost", fn := fun _ => fun
  | [d1, d2] => { results := [.lit (.bool false)], args := [d1, d2] }
  | _ => none }
def GreyLostWrongFalsely : Prop := greyLostRow.holds Try.pinned (OpenSpec.ofChange greyLostWrong)

/- THE SECOND FORM. 'bulk': how many values and letters a reading holds, each counted each time it is reached (what is shared counts as often as it is met; a slice's spare places count too). A statement '..UptoSaid' is the law's where the arguments, and the package variables that the reading takes, are together of bulk at most 1048576: NARROWER than '..Said'. Prove '..Said' where nothing that the law and all that it calls make is longer than what came in: it says more and counts as full. Else prove '..UptoSaid'. A law counts once. -/
mutual
def uptoBulk {H : Type} : DataW H → Nat
  | .lit (.string bytes) => bytes.length + 1
  | .lit _ => 1
  | .nil => 1
  | .ptr d => uptoBulk d + 1
  | .slice elems spare => uptoBulkAll elems + uptoBulkAll spare + 1
  | .agg parts => uptoBulkAll parts + 1
  | .iface _ d => uptoBulk d + 1
  | .map entries => uptoBulkEntries entries + 1
  | .held _ => 1
def uptoBulkAll {H : Type} : List (DataW H) → Nat
  | [] => 0
  | d :: r => uptoBulk d + uptoBulkAll r
def uptoBulkEntries {H : Type} : List (Lit × DataW H) → Nat
  | [] => 0
  | x :: r => uptoBulkEntry x + uptoBulkEntries r
def uptoBulkEntry {H : Type} : Lit × DataW H → Nat
  | (.string bytes, d) => bytes.length + uptoBulk d + 1
  | (_, d) => uptoBulk d + 1
 end
def uptoSmall : (H : Type) → List (DataW H) → Bool := fun _ ds => decide (uptoBulkAll ds ≤ 1048576)
def OpenSpec.upto (s : _root_.Go.ChangeSpec) : _root_.Go.OpenSpec := { _root_.Go.OpenSpec.ofChange s with cond := some uptoSmall }

/-- 'tilthlaw09.BufPlays', WHERE WHAT IT READS IS OF BULK AT MOST 1048576: true; the input reads as it did. -/
def bufPlaysUptoRow : OpenClaim := { program := "ytdibadfecoipfaa", sum := "d8a3f1d0a24fe387b36101996698ec780c1d78b0443a76aba497eec7c25a13bd", func := "tilth/tilthlaw09.BufPlays", spec := "bufPlays", apart := false, narrowed := true }
def BufPlaysUptoSaid : Prop := bufPlaysUptoRow.holds Try.pinned (OpenSpec.upto bufPlaysSpec)

/-- 'tilthlaw09.BufNone', WHERE WHAT IT READS IS OF BULK AT MOST 1048576: true; the input reads as it did. -/
def bufNoneUptoRow : OpenClaim := { program := "ytdibadfecoipfaa", sum := "d8a3f1d0a24fe387b36101996698ec780c1d78b0443a76aba497eec7c25a13bd", func := "tilth/tilthlaw09.BufNone", spec := "bufNone", apart := false, narrowed := true }
def BufNoneUptoSaid : Prop := bufNoneUptoRow.holds Try.pinned (OpenSpec.upto bufNoneSpec)

/-- 'tilthlaw09.BufOrder', WHERE WHAT IT READS IS OF BULK AT MOST 1048576: true; the input reads as it did. -/
def bufOrderUptoRow : OpenClaim := { program := "ytdibadfecoipfaa", sum := "d8a3f1d0a24fe387b36101996698ec780c1d78b0443a76aba497eec7c25a13bd", func := "tilth/tilthlaw09.BufOrder", spec := "bufOrder", apart := false, narrowed := true }
def BufOrderUptoSaid : Prop := bufOrderUptoRow.holds Try.pinned (OpenSpec.upto bufOrderSpec)

/-- 'tilthlaw09.BufRoom', WHERE WHAT IT READS IS OF BULK AT MOST 1048576: true; the input reads as it did. -/
def bufRoomUptoRow : OpenClaim := { program := "ytdibadfecoipfaa", sum := "d8a3f1d0a24fe387b36101996698ec780c1d78b0443a76aba497eec7c25a13bd", func := "tilth/tilthlaw09.BufRoom", spec := "bufRoom", apart := false, narrowed := true }
def BufRoomUptoSaid : Prop := bufRoomUptoRow.holds Try.pinned (OpenSpec.upto bufRoomSpec)

/-- 'tilthlaw09.BufTurns', WHERE WHAT IT READS IS OF BULK AT MOST 1048576: true; the input reads as it did. -/
def bufTurnsUptoRow : OpenClaim := { program := "ytdibadfecoipfaa", sum := "d8a3f1d0a24fe387b36101996698ec780c1d78b0443a76aba497eec7c25a13bd", func := "tilth/tilthlaw09.BufTurns", spec := "bufTurns", apart := false, narrowed := true }
def BufTurnsUptoSaid : Prop := bufTurnsUptoRow.holds Try.pinned (OpenSpec.upto bufTurnsSpec)

/-- 'tilthlaw11.GreyPlays', WHERE WHAT IT READS IS OF BULK AT MOST 1048576: true; the input reads as it did. -/
def greyPlaysUptoRow : OpenClaim := { program := "ytdibadfecoipfaa", sum := "d8a3f1d0a24fe387b36101996698ec780c1d78b0443a76aba497eec7c25a13bd", func := "tilth/tilthlaw11.GreyPlays", spec := "greyPlays", apart := false, narrowed := true }
def GreyPlaysUptoSaid : Prop := greyPlaysUptoRow.holds Try.pinned (OpenSpec.upto greyPlaysSpec)

/-- 'tilthlaw11.GreyNone', WHERE WHAT IT READS IS OF BULK AT MOST 1048576: true; the input reads as it did. -/
def greyNoneUptoRow : OpenClaim := { program := "ytdibadfecoipfaa", sum := "d8a3f1d0a24fe387b36101996698ec780c1d78b0443a76aba497eec7c25a13bd", func := "tilth/tilthlaw11.GreyNone", spec := "greyNone", apart := false, narrowed := true }
def GreyNoneUptoSaid : Prop := greyNoneUptoRow.holds Try.pinned (OpenSpec.upto greyNoneSpec)

/-- 'tilthlaw11.GreyOrder', WHERE WHAT IT READS IS OF BULK AT MOST 1048576: true; the input reads as it did. -/
def greyOrderUptoRow : OpenClaim := { program := "ytdibadfecoipfaa", sum := "d8a3f1d0a24fe387b36101996698ec780c1d78b0443a76aba497eec7c25a13bd", func := "tilth/tilthlaw11.GreyOrder", spec := "greyOrder", apart := false, narrowed := true }
def GreyOrderUptoSaid : Prop := greyOrderUptoRow.holds Try.pinned (OpenSpec.upto greyOrderSpec)

/-- 'tilthlaw11.GreyLost', WHERE WHAT IT READS IS OF BULK AT MOST 1048576: true; the input reads as it did. -/
def greyLostUptoRow : OpenClaim := { program := "ytdibadfecoipfaa", sum := "d8a3f1d0a24fe387b36101996698ec780c1d78b0443a76aba497eec7c25a13bd", func := "tilth/tilthlaw11.GreyLost", spec := "greyLost", apart := false, narrowed := true }
def GreyLostUptoSaid : Prop := greyLostUptoRow.holds Try.pinned (OpenSpec.upto greyLostSpec)

end Rows
end Go.Proofs.Ytdibadfecoipfaa
