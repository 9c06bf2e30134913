/-
  No cell of these rows narrows 'for every input' (looked for: loops, veiled, ifaces, maps, wideKeys, modest, calm, conditions, laid).
  DERIVED. THE GIVEN ROWS OF THIS SEAT. 5 by the template 'for every input the law returns true; each argument reads behind the call as it read before'; 0 by the template 'total and deterministic' (their statements: YtpohemiejbjpnaaTotals.lean).
  GIVEN WITH THE SEED: the statements are not yours to turn. If you find one false, say at which input.
  Laid BY PROGRAM, IN A SANDBOX (cutbox-rows.mjs): the forced cells as the released guide's own fill.sh prints them over the translation 73c9f7b41755e040… (all of the seat's roots in one cut). By AI agents, Wed Nov 11 2026. No macro, syntax, notation, axiom, sorry.
-/
import Derived.Test.YtpohemiejbjpnaaChecked
import GoSem.Claim
import GoSem.ClaimJoined
import GoSem.ClaimMapViews
import Derived.JoinedTies
import Derived.KernelRfl
namespace Go.Proofs.Ytpohemiejbjpnaa
/- THE CELL 'sum', in the pinned program and in every row, IS THE sha256 OF THE DUMP (.gsa) THAT YtpohemiejbjpnaaProg.lean LOADS. Nothing in Lean hashes anything: it is a label: what it is worth is what the hold of that sum in a sandbox is worth. -/
noncomputable def Try.pinned : Pinned := { name := "ytpohemiejbjpnaa", sum := "73c9f7b41755e040d710e405dfed00afe649cefd6806fc9c9d4cf37629dc0b8a", checked := Try.checked }
namespace Rows
def none {H : Type} : Left H := { results := [], args := [] }

/-- 'tilthlaw10.RemsetPlays': WHATEVER THE INPUT: true; the input reads as it did. -/
def remsetPlaysSpec : ChangeSpec := { name := "remsetPlays", fn := fun _ => fun
  | [d1, d2, d3, d4, d5] => { results := [.lit (.bool true)], args := [d1, d2, d3, d4, d5] }
  | _ => none }
def remsetPlaysRow : OpenClaim := { program := "ytpohemiejbjpnaa", sum := "73c9f7b41755e040d710e405dfed00afe649cefd6806fc9c9d4cf37629dc0b8a", func := "tilth/tilthlaw10.RemsetPlays", spec := "remsetPlays", unfollowed := true, recurses := true, apart := false }
def RemsetPlaysSaid : Prop := remsetPlaysRow.holds Try.pinned (OpenSpec.ofChange remsetPlaysSpec)

/-- ITS FALSE NEIGHBOUR: 'it returns false'. Refute it at one input. -/
def remsetPlaysWrong : ChangeSpec := { name := "remsetPlays", fn := fun _ => fun
  | [d1, d2, d3, d4, d5] => { results := [.lit (.bool false)], args := [d1, d2, d3, d4, d5] }
  | _ => none }
def RemsetPlaysWrongFalsely : Prop := remsetPlaysRow.holds Try.pinned (OpenSpec.ofChange remsetPlaysWrong)

/-- 'tilthlaw10.RemsetAll': WHATEVER THE INPUT: true; the input reads as it did. -/
def remsetAllSpec : ChangeSpec := { name := "remsetAll", fn := fun _ => fun
  | [d1, d2] => { results := [.lit (.bool true)], args := [d1, d2] }
  | _ => none }
def remsetAllRow : OpenClaim := { program := "ytpohemiejbjpnaa", sum := "73c9f7b41755e040d710e405dfed00afe649cefd6806fc9c9d4cf37629dc0b8a", func := "tilth/tilthlaw10.RemsetAll", spec := "remsetAll", unfollowed := true, recurses := true, apart := false }
def RemsetAllSaid : Prop := remsetAllRow.holds Try.pinned (OpenSpec.ofChange remsetAllSpec)

/-- ITS FALSE NEIGHBOUR: 'it returns false'. Refute it at one input. -/
def remsetAllWrong : ChangeSpec := { name := "remsetAll", fn := fun _ => fun
  | [d1, d2] => { results := [.lit (.bool false)], args := [d1, d2] }
  | _ => none }
def RemsetAllWrongFalsely : Prop := remsetAllRow.holds Try.pinned (OpenSpec.ofChange remsetAllWrong)

/-- 'tilthlaw10.RemsetNone': WHATEVER THE INPUT: true; the input reads as it did. -/
def remsetNoneSpec : ChangeSpec := { name := "remsetNone", fn := fun _ => fun
  | [d] => { results := [.lit (.bool true)], args := [d] }
  | _ => none }
def remsetNoneRow : OpenClaim := { program := "ytpohemiejbjpnaa", sum := "73c9f7b41755e040d710e405dfed00afe649cefd6806fc9c9d4cf37629dc0b8a", func := "tilth/tilthlaw10.RemsetNone", spec := "remsetNone", unfollowed := true, recurses := true, apart := false }
def RemsetNoneSaid : Prop := remsetNoneRow.holds Try.pinned (OpenSpec.ofChange remsetNoneSpec)

/-- ITS FALSE NEIGHBOUR: 'it returns false'. Refute it at one input. -/
def remsetNoneWrong : ChangeSpec := { name := "remsetNone", fn := fun _ => fun
  | [d] => { results := [.lit (.bool false)], args := [d] }
  | _ => none }
def RemsetNoneWrongFalsely : Prop := remsetNoneRow.holds Try.pinned (OpenSpec.ofChange remsetNoneWrong)

/-- 'tilthlaw10.RemsetLater': WHATEVER THE INPUT: true; the input reads as it did. -/
def remsetLaterSpec : ChangeSpec := { name := "remsetLater", fn := fun _ => fun
  | [d1, d2, d3] => { results := [.lit (.bool true)], args := [d1, d2, d3] }
  | _ => none }
def remsetLaterRow : OpenClaim := { program := "ytpohemiejbjpnaa", sum := "73c9f7b41755e040d710e405dfed00afe649cefd6806fc9c9d4cf37629dc0b8a", func := "tilth/tilthlaw10.RemsetLater", spec := "remsetLater", unfollowed := true, recurses := true, apart := false }
def RemsetLaterSaid : Prop := remsetLaterRow.holds Try.pinned (OpenSpec.ofChange remsetLaterSpec)

/-- ITS FALSE NEIGHBOUR: 'it returns false'. Refute it at one input. -/
def remsetLaterWrong : ChangeSpec := { name := "remsetLater", fn := fun _ => fun
  | [d1, d2, d3] => { results := [.lit (.bool false)], args := [d1, d2, d3] }
  | _ => none }
def RemsetLaterWrongFalsely : Prop := remsetLaterRow.holds Try.pinned (OpenSpec.ofChange remsetLaterWrong)

/-- 'tilthlaw10.RemsetCards': WHATEVER THE INPUT: true; the input reads as it did. -/
def remsetCardsSpec : ChangeSpec := { name := "remsetCards", fn := fun _ => fun
  | [d] => { results := [.lit (.bool true)], args := [d] }
  | _ => none }
def remsetCardsRow : OpenClaim := { program := "ytpohemiejbjpnaa", sum := "73c9f7b41755e040d710e405dfed00afe649cefd6806fc9c9d4cf37629dc0b8a", func := "tilth/tilthlaw10.RemsetCards", spec := "remsetCards", unfollowed := true, recurses := true, apart := false }
def RemsetCardsSaid : Prop := remsetCardsRow.holds Try.pinned (OpenSpec.ofChange remsetCardsSpec)

/-- ITS FALSE NEIGHBOUR: 'it returns false'. Refute it at one input. -/
def remsetCardsWrong : ChangeSpec := { name := "remsetCards", fn := fun _ => fun
  | [d] => { results := [.lit (.bool false)], args := [d] }
  | _ => none }
def RemsetCardsWrongFalsely : Prop := remsetCardsRow.holds Try.pinned (OpenSpec.ofChange remsetCardsWrong)

/- THE SECOND FORM. 'bulk': how many values and letters a reading holds, each counted each time it is reached (what is shared counts as often as it is met; a slice's spare places count too). A statement '..UptoSaid' is the law's where the arguments, and the package variables that the reading takes, are together of bulk at most 1048576: NARROWER than '..Said'. Prove '..Said' where nothing that the law and all that it calls make is longer than what came in: it says more and counts as full. Else prove '..UptoSaid'. A law counts once. -/
mutual
def uptoBulk {H : Type} : DataW H → Nat
  | .lit (.string bytes) => bytes.length + 1
  | .lit _ => 1
  | .nil => 1
  | .ptr d => uptoBulk d + 1
  | .slice elems spare => uptoBulkAll elems + uptoBulkAll spare + 1
  | .agg parts => uptoBulkAll parts + 1
  | .iface _ d => uptoBulk d + 1
  | .map entries => uptoBulkEntries entries + 1
  | .held _ => 1
def uptoBulkAll {H : Type} : List (DataW H) → Nat
  | [] => 0
  | d :: r => uptoBulk d + uptoBulkAll r
def uptoBulkEntries {H : Type} : List (Lit × DataW H) → Nat
  | [] => 0
  | x :: r => uptoBulkEntry x + uptoBulkEntries r
def uptoBulkEntry {H : Type} : Lit × DataW H → Nat
  | (.string bytes, d) => bytes.length + uptoBulk d + 1
  | (_, d) => uptoBulk d + 1
 end
def uptoSmall : (H : Type) → List (DataW H) → Bool := fun _ ds => decide (uptoBulkAll ds ≤ 1048576)
def OpenSpec.upto (s : _root_.Go.ChangeSpec) : _root_.Go.OpenSpec := { _root_.Go.OpenSpec.ofChange s with cond := some uptoSmall }

/-- 'tilthlaw10.RemsetPlays', WHERE WHAT IT READS IS OF BULK AT MOST 1048576: true; the input reads as it did. -/
def remsetPlaysUptoRow : OpenClaim := { program := "ytpohemiejbjpnaa", sum := "73c9f7b41755e040d710e405dfed00afe649cefd6806fc9c9d4cf37629dc0b8a", func := "tilth/tilthlaw10.RemsetPlays", spec := "remsetPlays", unfollowed := true, recurses := true, apart := false, narrowed := true }
def RemsetPlaysUptoSaid : Prop := remsetPlaysUptoRow.holds Try.pinned (OpenSpec.upto remsetPlaysSpec)

/-- 'tilthlaw10.RemsetAll', WHERE WHAT IT READS IS OF BULK AT MOST 1048576: true; the input reads as it did. -/
def remsetAllUptoRow : OpenClaim := { program := "ytpohemiejbjpnaa", sum := "73c9f7b41755e040d710e405dfed00afe649cefd6806fc9c9d4cf37629dc0b8a", func := "tilth/tilthlaw10.RemsetAll", spec := "remsetAll", unfollowed := true, recurses := true, apart := false, narrowed := true }
def RemsetAllUptoSaid : Prop := remsetAllUptoRow.holds Try.pinned (OpenSpec.upto remsetAllSpec)

/-- 'tilthlaw10.RemsetNone', WHERE WHAT IT READS IS OF BULK AT MOST 1048576: true; the input reads as it did. -/
def remsetNoneUptoRow : OpenClaim := { program := "ytpohemiejbjpnaa", sum := "73c9f7b41755e040d710e405dfed00afe649cefd6806fc9c9d4cf37629dc0b8a", func := "tilth/tilthlaw10.RemsetNone", spec := "remsetNone", unfollowed := true, recurses := true, apart := false, narrowed := true }
def RemsetNoneUptoSaid : Prop := remsetNoneUptoRow.holds Try.pinned (OpenSpec.upto remsetNoneSpec)

/-- 'tilthlaw10.RemsetLater', WHERE WHAT IT READS IS OF BULK AT MOST 1048576: true; the input reads as it did. -/
def remsetLaterUptoRow : OpenClaim := { program := "ytpohemiejbjpnaa", sum := "73c9f7b41755e040d710e405dfed00afe649cefd6806fc9c9d4cf37629dc0b8a", func := "tilth/tilthlaw10.RemsetLater", spec := "remsetLater", unfollowed := true, recurses := true, apart := false, narrowed := true }
def RemsetLaterUptoSaid : Prop := remsetLaterUptoRow.holds Try.pinned (OpenSpec.upto remsetLaterSpec)

/-- 'tilthlaw10.RemsetCards', WHERE WHAT IT READS IS OF BULK AT MOST 1048576: true; the input reads as it did. -/
def remsetCardsUptoRow : OpenClaim := { program := "ytpohemiejbjpnaa", sum := "73c9f7b41755e040d710e405dfed00afe649cefd6806fc9c9d4cf37629dc0b8a", func := "tilth/tilthlaw10.RemsetCards", spec := "remsetCards", unfollowed := true, recurses := true, apart := false, narrowed := true }
def RemsetCardsUptoSaid : Prop := remsetCardsUptoRow.holds Try.pinned (OpenSpec.upto remsetCardsSpec)

end Rows
end Go.Proofs.Ytpohemiejbjpnaa
