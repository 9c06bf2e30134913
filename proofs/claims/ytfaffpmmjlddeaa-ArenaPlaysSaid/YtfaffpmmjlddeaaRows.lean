/-
  No cell of these rows narrows 'for every input' (looked for: loops, veiled, ifaces, maps, wideKeys, modest, calm, conditions, laid).
  DERIVED. THE GIVEN ROWS OF THIS SEAT. 10 by the template 'for every input the law returns true; each argument reads behind the call as it read before'; 0 by the template 'total and deterministic' (their statements: YtfaffpmmjlddeaaTotals.lean).
  GIVEN WITH THE SEED: the statements are not yours to turn. If you find one false, say at which input.
  Laid BY PROGRAM, IN A SANDBOX (cutbox-rows.mjs): the forced cells as the released guide's own fill.sh prints them over the translation 312b95e7a0858331… (all of the seat's roots in one cut). By AI agents, Wed Nov 11 2026. No macro, syntax, notation, axiom, sorry.
-/
import Derived.Test.YtfaffpmmjlddeaaChecked
import GoSem.Claim
import GoSem.ClaimJoined
import GoSem.ClaimMapViews
import Derived.JoinedTies
import Derived.KernelRfl
namespace Go.Proofs.Ytfaffpmmjlddeaa
/- THE CELL 'sum', in the pinned program and in every row, IS THE sha256 OF THE DUMP (.gsa) THAT YtfaffpmmjlddeaaProg.lean LOADS. Nothing in Lean hashes anything: it is a label: what it is worth is what the hold of that sum in a sandbox is worth. -/
noncomputable def Try.pinned : Pinned := { name := "ytfaffpmmjlddeaa", sum := "312b95e7a0858331f5e5f937ea1189559fe94afc0a5d6d2d79a9ae421ba6c08b", checked := Try.checked }
namespace Rows
def none {H : Type} : Left H := { results := [], args := [] }

/-- 'tilthlaw02.ArenaSizes': WHATEVER THE INPUT: true; the input reads as it did. -/
def arenaSizesSpec : ChangeSpec := { name := "arenaSizes", fn := fun _ => fun
  | [d] => { results := [.lit (.bool true)], args := [d] }
  | _ => none }
def arenaSizesRow : OpenClaim := { program := "ytfaffpmmjlddeaa", sum := "312b95e7a0858331f5e5f937ea1189559fe94afc0a5d6d2d79a9ae421ba6c08b", func := "tilth/tilthlaw02.ArenaSizes", spec := "arenaSizes", apart := false }
def ArenaSizesSaid : Prop := arenaSizesRow.holds Try.pinned (OpenSpec.ofChange arenaSizesSpec)

/-- ITS FALSE NEIGHBOUR: 'it returns false'. Refute it at one input. -/
def arenaSizesWrong : ChangeSpec := { name := "arenaSizes", fn := fun _ => fun
  | [d] => { results := [.lit (.bool false)], args := [d] }
  | _ => none }
def ArenaSizesWrongFalsely : Prop := arenaSizesRow.holds Try.pinned (OpenSpec.ofChange arenaSizesWrong)

/-- 'tilthlaw02.ArenaApart': WHATEVER THE INPUT: true; the input reads as it did. -/
def arenaApartSpec : ChangeSpec := { name := "arenaApart", fn := fun _ => fun
  | [d1, d2, d3] => { results := [.lit (.bool true)], args := [d1, d2, d3] }
  | _ => none }
def arenaApartRow : OpenClaim := { program := "ytfaffpmmjlddeaa", sum := "312b95e7a0858331f5e5f937ea1189559fe94afc0a5d6d2d79a9ae421ba6c08b", func := "tilth/tilthlaw02.ArenaApart", spec := "arenaApart", apart := false }
def ArenaApartSaid : Prop := arenaApartRow.holds Try.pinned (OpenSpec.ofChange arenaApartSpec)

/-- ITS FALSE NEIGHBOUR: 'it returns false'. Refute it at one input. -/
def arenaApartWrong : ChangeSpec := { name := "arenaApart", fn := fun _ => fun
  | [d1, d2, d3] => { results := [.lit (.bool false)], args := [d1, d2, d3] }
  | _ => none }
def ArenaApartWrongFalsely : Prop := arenaApartRow.holds Try.pinned (OpenSpec.ofChange arenaApartWrong)

/-- 'tilthlaw02.ArenaPlays': WHATEVER THE INPUT: true; the input reads as it did. -/
def arenaPlaysSpec : ChangeSpec := { name := "arenaPlays", fn := fun _ => fun
  | [d1, d2] => { results := [.lit (.bool true)], args := [d1, d2] }
  | _ => none }
def arenaPlaysRow : OpenClaim := { program := "ytfaffpmmjlddeaa", sum := "312b95e7a0858331f5e5f937ea1189559fe94afc0a5d6d2d79a9ae421ba6c08b", func := "tilth/tilthlaw02.ArenaPlays", spec := "arenaPlays", apart := false }
def ArenaPlaysSaid : Prop := arenaPlaysRow.holds Try.pinned (OpenSpec.ofChange arenaPlaysSpec)

/-- ITS FALSE NEIGHBOUR: 'it returns false'. Refute it at one input. -/
def arenaPlaysWrong : ChangeSpec := { name := "arenaPlays", fn := fun _ => fun
  | [d1, d2] => { results := [.lit (.bool false)], args := [d1, d2] }
  | _ => none }
def ArenaPlaysWrongFalsely : Prop := arenaPlaysRow.holds Try.pinned (OpenSpec.ofChange arenaPlaysWrong)

/-- 'tilthlaw02.ArenaNone': WHATEVER THE INPUT: true; the input reads as it did. -/
def arenaNoneSpec : ChangeSpec := { name := "arenaNone", fn := fun _ => fun
  | [d1, d2, d3] => { results := [.lit (.bool true)], args := [d1, d2, d3] }
  | _ => none }
def arenaNoneRow : OpenClaim := { program := "ytfaffpmmjlddeaa", sum := "312b95e7a0858331f5e5f937ea1189559fe94afc0a5d6d2d79a9ae421ba6c08b", func := "tilth/tilthlaw02.ArenaNone", spec := "arenaNone", apart := false }
def ArenaNoneSaid : Prop := arenaNoneRow.holds Try.pinned (OpenSpec.ofChange arenaNoneSpec)

/-- ITS FALSE NEIGHBOUR: 'it returns false'. Refute it at one input. -/
def arenaNoneWrong : ChangeSpec := { name := "arenaNone", fn := fun _ => fun
  | [d1, d2, d3] => { results := [.lit (.bool false)], args := [d1, d2, d3] }
  | _ => none }
def ArenaNoneWrongFalsely : Prop := arenaNoneRow.holds Try.pinned (OpenSpec.ofChange arenaNoneWrong)

/-- 'tilthlaw02.ArenaBack': WHATEVER THE INPUT: true; the input reads as it did. -/
def arenaBackSpec : ChangeSpec := { name := "arenaBack", fn := fun _ => fun
  | [d1, d2] => { results := [.lit (.bool true)], args := [d1, d2] }
  | _ => none }
def arenaBackRow : OpenClaim := { program := "ytfaffpmmjlddeaa", sum := "312b95e7a0858331f5e5f937ea1189559fe94afc0a5d6d2d79a9ae421ba6c08b", func := "tilth/tilthlaw02.ArenaBack", spec := "arenaBack", apart := false }
def ArenaBackSaid : Prop := arenaBackRow.holds Try.pinned (OpenSpec.ofChange arenaBackSpec)

/-- ITS FALSE NEIGHBOUR: 'it returns false'. Refute it at one input. -/
def arenaBackWrong : ChangeSpec := { name := "arenaBack", fn := fun _ => fun
  | [d1, d2] => { results := [.lit (.bool false)], args := [d1, d2] }
  | _ => none }
def ArenaBackWrongFalsely : Prop := arenaBackRow.holds Try.pinned (OpenSpec.ofChange arenaBackWrong)

/-- 'tilthlaw07.ObjMakes': WHATEVER THE INPUT: true; the input reads as it did. -/
def objMakesSpec : ChangeSpec := { name := "objMakes", fn := fun _ => fun
  | [d1, d2, d3, d4] => { results := [.lit (.bool true)], args := [d1, d2, d3, d4] }
  | _ => none }
def objMakesRow : OpenClaim := { program := "ytfaffpmmjlddeaa", sum := "312b95e7a0858331f5e5f937ea1189559fe94afc0a5d6d2d79a9ae421ba6c08b", func := "tilth/tilthlaw07.ObjMakes", spec := "objMakes", apart := false }
def ObjMakesSaid : Prop := objMakesRow.holds Try.pinned (OpenSpec.ofChange objMakesSpec)

/-- ITS FALSE NEIGHBOUR: 'it returns false'. Refute it at one input. -/
def objMakesWrong : ChangeSpec := { name := "objMakes", fn := fun _ => fun
  | [d1, d2, d3, d4] => { results := [.lit (.bool false)], args := [d1, d2, d3, d4] }
  | _ => none }
def ObjMakesWrongFalsely : Prop := objMakesRow.holds Try.pinned (OpenSpec.ofChange objMakesWrong)

/-- 'tilthlaw07.ObjFields': WHATEVER THE INPUT: true; the input reads as it did. -/
def objFieldsSpec : ChangeSpec := { name := "objFields", fn := fun _ => fun
  | [d1, d2, d3, d4, d5] => { results := [.lit (.bool true)], args := [d1, d2, d3, d4, d5] }
  | _ => none }
def objFieldsRow : OpenClaim := { program := "ytfaffpmmjlddeaa", sum := "312b95e7a0858331f5e5f937ea1189559fe94afc0a5d6d2d79a9ae421ba6c08b", func := "tilth/tilthlaw07.ObjFields", spec := "objFields", apart := false }
def ObjFieldsSaid : Prop := objFieldsRow.holds Try.pinned (OpenSpec.ofChange objFieldsSpec)

/-- ITS FALSE NEIGHBOUR: 'it returns false'. Refute it at one input. -/
def objFieldsWrong : ChangeSpec := { name := "objFields", fn := fun _ => fun
  | [d1, d2, d3, d4, d5] => { results := [.lit (.bool false)], args := [d1, d2, d3, d4, d5] }
  | _ => none }
def ObjFieldsWrongFalsely : Prop := objFieldsRow.holds Try.pinned (OpenSpec.ofChange objFieldsWrong)

/-- 'tilthlaw07.ObjMoves': WHATEVER THE INPUT: true; the input reads as it did. -/
def objMovesSpec : ChangeSpec := { name := "objMoves", fn := fun _ => fun
  | [d1, d2, d3, d4, d5] => { results := [.lit (.bool true)], args := [d1, d2, d3, d4, d5] }
  | _ => none }
def objMovesRow : OpenClaim := { program := "ytfaffpmmjlddeaa", sum := "312b95e7a0858331f5e5f937ea1189559fe94afc0a5d6d2d79a9ae421ba6c08b", func := "tilth/tilthlaw07.ObjMoves", spec := "objMoves", apart := false }
def ObjMovesSaid : Prop := objMovesRow.holds Try.pinned (OpenSpec.ofChange objMovesSpec)

/-- ITS FALSE NEIGHBOUR: 'it returns false'. Refute it at one input. -/
def objMovesWrong : ChangeSpec := { name := "objMoves", fn := fun _ => fun
  | [d1, d2, d3, d4, d5] => { results := [.lit (.bool false)], args := [d1, d2, d3, d4, d5] }
  | _ => none }
def ObjMovesWrongFalsely : Prop := objMovesRow.holds Try.pinned (OpenSpec.ofChange objMovesWrong)

/-- 'tilthlaw07.ObjHeads': WHATEVER THE INPUT: true; the input reads as it did. -/
def objHeadsSpec : ChangeSpec := { name := "objHeads", fn := fun _ => fun
  | [d1, d2, d3, d4] => { results := [.lit (.bool true)], args := [d1, d2, d3, d4] }
  | _ => none }
def objHeadsRow : OpenClaim := { program := "ytfaffpmmjlddeaa", sum := "312b95e7a0858331f5e5f937ea1189559fe94afc0a5d6d2d79a9ae421ba6c08b", func := "tilth/tilthlaw07.ObjHeads", spec := "objHeads", apart := false }
def ObjHeadsSaid : Prop := objHeadsRow.holds Try.pinned (OpenSpec.ofChange objHeadsSpec)

/-- ITS FALSE NEIGHBOUR: 'it returns false'. Refute it at one input. -/
def objHeadsWrong : ChangeSpec := { name := "objHeads", fn := fun _ => fun
  | [d1, d2, d3, d4] => { results := [.lit (.bool false)], args := [d1, d2, d3, d4] }
  | _ => none }
def ObjHeadsWrongFalsely : Prop := objHeadsRow.holds Try.pinned (OpenSpec.ofChange objHeadsWrong)

/-- 'tilthlaw07.ObjApart': WHATEVER THE INPUT: true; the input reads as it did. -/
def objApartSpec : ChangeSpec := { name := "objApart", fn := fun _ => fun
  | [d1, d2, d3] => { results := [.lit (.bool true)], args := [d1, d2, d3] }
  | _ => none }
def objApartRow : OpenClaim := { program := "ytfaffpmmjlddeaa", sum := "312b95e7a0858331f5e5f937ea1189559fe94afc0a5d6d2d79a9ae421ba6c08b", func := "tilth/tilthlaw07.ObjApart", spec := "objApart", apart := false }
def ObjApartSaid : Prop := objApartRow.holds Try.pinned (OpenSpec.ofChange objApartSpec)

/-- ITS FALSE NEIGHBOUR: 'it returns false'. Refute it at one input. -/
def objApartWrong : ChangeSpec := { name := "objApart", fn := fun _ => fun
  | [d1, d2, d3] => { results := [.lit (.bool false)], args := [d1, d2, d3] }
  | _ => none }
def ObjApartWrongFalsely : Prop := objApartRow.holds Try.pinned (OpenSpec.ofChange objApartWrong)

/- THE SECOND FORM. 'bulk': how many values and letters a reading holds, each counted each time it is reached (what is shared counts as often as it is met; a slice's spare places count too). A statement '..UptoSaid' is the law's where the arguments, and the package variables that the reading takes, are together of bulk at most 1048576: NARROWER than '..Said'. Prove '..Said' where nothing that the law and all that it calls make is longer than what came in: it says more and counts as full. Else prove '..UptoSaid'. A law counts once. -/
mutual
def uptoBulk {H : Type} : DataW H → Nat
  | .lit (.string bytes) => bytes.length + 1
  | .lit _ => 1
  | .nil => 1
  | .ptr d => uptoBulk d + 1
  | .slice elems spare => uptoBulkAll elems + uptoBulkAll spare + 1
  | .agg parts => uptoBulkAll parts + 1
  | .iface _ d => uptoBulk d + 1
  | .map entries => uptoBulkEntries entries + 1
  | .held _ => 1
def uptoBulkAll {H : Type} : List (DataW H) → Nat
  | [] => 0
  | d :: r => uptoBulk d + uptoBulkAll r
def uptoBulkEntries {H : Type} : List (Lit × DataW H) → Nat
  | [] => 0
  | x :: r => uptoBulkEntry x + uptoBulkEntries r
def uptoBulkEntry {H : Type} : Lit × DataW H → Nat
  | (.string bytes, d) => bytes.length + uptoBulk d + 1
  | (_, d) => uptoBulk d + 1
 end
def uptoSmall : (H : Type) → List (DataW H) → Bool := fun _ ds => decide (uptoBulkAll ds ≤ 1048576)
def OpenSpec.upto (s : _root_.Go.ChangeSpec) : _root_.Go.OpenSpec := { _root_.Go.OpenSpec.ofChange s with cond := some uptoSmall }

/-- 'tilthlaw02.ArenaSizes', WHERE WHAT IT READS IS OF BULK AT MOST 1048576: true; the input reads as it did. -/
def arenaSizesUptoRow : OpenClaim := { program := "ytfaffpmmjlddeaa", sum := "312b95e7a0858331f5e5f937ea1189559fe94afc0a5d6d2d79a9ae421ba6c08b", func := "tilth/tilthlaw02.ArenaSizes", spec := "arenaSizes", apart := false, narrowed := true }
def ArenaSizesUptoSaid : Prop := arenaSizesUptoRow.holds Try.pinned (OpenSpec.upto arenaSizesSpec)

/-- 'tilthlaw02.ArenaApart', WHERE WHAT IT READS IS OF BULK AT MOST 1048576: true; the input reads as it did. -/
def arenaApartUptoRow : OpenClaim := { program := "ytfaffpmmjlddeaa", sum := "312b95e7a0858331f5e5f937ea1189559fe94afc0a5d6d2d79a9ae421ba6c08b", func := "tilth/tilthlaw02.ArenaApart", spec := "arenaApart", apart := false, narrowed := true }
def ArenaApartUptoSaid : Prop := arenaApartUptoRow.holds Try.pinned (OpenSpec.upto arenaApartSpec)

/-- 'tilthlaw02.ArenaPlays', WHERE WHAT IT READS IS OF BULK AT MOST 1048576: true; the input reads as it did. -/
def arenaPlaysUptoRow : OpenClaim := { program := "ytfaffpmmjlddeaa", sum := "312b95e7a0858331f5e5f937ea1189559fe94afc0a5d6d2d79a9ae421ba6c08b", func := "tilth/tilthlaw02.ArenaPlays", spec := "arenaPlays", apart := false, narrowed := true }
def ArenaPlaysUptoSaid : Prop := arenaPlaysUptoRow.holds Try.pinned (OpenSpec.upto arenaPlaysSpec)

/-- 'tilthlaw02.ArenaNone', WHERE WHAT IT READS IS OF BULK AT MOST 1048576: true; the input reads as it did. -/
def arenaNoneUptoRow : OpenClaim := { program := "ytfaffpmmjlddeaa", sum := "312b95e7a0858331f5e5f937ea1189559fe94afc0a5d6d2d79a9ae421ba6c08b", func := "tilth/tilthlaw02.ArenaNone", spec := "arenaNone", apart := false, narrowed := true }
def ArenaNoneUptoSaid : Prop := arenaNoneUptoRow.holds Try.pinned (OpenSpec.upto arenaNoneSpec)

/-- 'tilthlaw02.ArenaBack', WHERE WHAT IT READS IS OF BULK AT MOST 1048576: true; the input reads as it did. -/
def arenaBackUptoRow : OpenClaim := { program := "ytfaffpmmjlddeaa", sum := "312b95e7a0858331f5e5f937ea1189559fe94afc0a5d6d2d79a9ae421ba6c08b", func := "tilth/tilthlaw02.ArenaBack", spec := "arenaBack", apart := false, narrowed := true }
def ArenaBackUptoSaid : Prop := arenaBackUptoRow.holds Try.pinned (OpenSpec.upto arenaBackSpec)

/-- 'tilthlaw07.ObjMakes', WHERE WHAT IT READS IS OF BULK AT MOST 1048576: true; the input reads as it did. -/
def objMakesUptoRow : OpenClaim := { program := "ytfaffpmmjlddeaa", sum := "312b95e7a0858331f5e5f937ea1189559fe94afc0a5d6d2d79a9ae421ba6c08b", func := "tilth/tilthlaw07.ObjMakes", spec := "objMakes", apart := false, narrowed := true }
def ObjMakesUptoSaid : Prop := objMakesUptoRow.holds Try.pinned (OpenSpec.upto objMakesSpec)

/-- 'tilthlaw07.ObjFields', WHERE WHAT IT READS IS OF BULK AT MOST 1048576: true; the input reads as it did. -/
def objFieldsUptoRow : OpenClaim := { program := "ytfaffpmmjlddeaa", sum := "312b95e7a0858331f5e5f937ea1189559fe94afc0a5d6d2d79a9ae421ba6c08b", func := "tilth/tilthlaw07.ObjFields", spec := "objFields", apart := false, narrowed := true }
def ObjFieldsUptoSaid : Prop := objFieldsUptoRow.holds Try.pinned (OpenSpec.upto objFieldsSpec)

/-- 'tilthlaw07.ObjMoves', WHERE WHAT IT READS IS OF BULK AT MOST 1048576: true; the input reads as it did. -/
def objMovesUptoRow : OpenClaim := { program := "ytfaffpmmjlddeaa", sum := "312b95e7a0858331f5e5f937ea1189559fe94afc0a5d6d2d79a9ae421ba6c08b", func := "tilth/tilthlaw07.ObjMoves", spec := "objMoves", apart := false, narrowed := true }
def ObjMovesUptoSaid : Prop := objMovesUptoRow.holds Try.pinned (OpenSpec.upto objMovesSpec)

/-- 'tilthlaw07.ObjHeads', WHERE WHAT IT READS IS OF BULK AT MOST 1048576: true; the input reads as it did. -/
def objHeadsUptoRow : OpenClaim := { program := "ytfaffpmmjlddeaa", sum := "312b95e7a0858331f5e5f937ea1189559fe94afc0a5d6d2d79a9ae421ba6c08b", func := "tilth/tilthlaw07.ObjHeads", spec := "objHeads", apart := false, narrowed := true }
def ObjHeadsUptoSaid : Prop := objHeadsUptoRow.holds Try.pinned (OpenSpec.upto objHeadsSpec)

/-- 'tilthlaw07.ObjApart', WHERE WHAT IT READS IS OF BULK AT MOST 1048576: true; the input reads as it did. -/
def objApartUptoRow : OpenClaim := { program := "ytfaffpmmjlddeaa", sum := "312b95e7a0858331f5e5f937ea1189559fe94afc0a5d6d2d79a9ae421ba6c08b", func := "tilth/tilthlaw07.ObjApart", spec := "objApart", apart := false, narrowed := true }
def ObjApartUptoSaid : Prop := objApartUptoRow.holds Try.pinned (OpenSpec.upto objApartSpec)

end Rows
end Go.Proofs.Ytfaffpmmjlddeaa
