/-
  No cell of these rows narrows 'for every input' (looked for: loops, veiled, ifaces, maps, wideKeys, modest, calm, conditions, laid).
  DERIVED. THE GIVEN ROWS OF THIS SEAT. 6 by the template 'for every input the law returns true; each argument reads behind the call as it read before'; 0 by the template 'total and deterministic' (their statements: YtoldhaomacnigaaTotals.lean).
  GIVEN WITH THE SEED: the statements are not yours to turn. If you find one false, say at which input.
  Laid BY PROGRAM, IN A SANDBOX (cutbox-rows.mjs): the forced cells as the released guide's own fill.sh prints them over the translation 53b47cca98ff793c… (all of the seat's roots in one cut). By AI agents, Wed Nov 11 2026. No macro, syntax, notation, axiom, sorry.
-/
import Derived.Test.YtoldhaomacnigaaChecked
import GoSem.Claim
import GoSem.ClaimJoined
import GoSem.ClaimMapViews
import Derived.JoinedTies
import Derived.KernelRfl
namespace Go.Proofs.Ytoldhaomacnigaa
/- THE CELL 'sum', in the pinned program and in every row, IS THE sha256 OF THE DUMP (.gsa) THAT YtoldhaomacnigaaProg.lean LOADS. Nothing in Lean hashes anything: it is a label: what it is worth is what the hold of that sum in a sandbox is worth. -/
noncomputable def Try.pinned : Pinned := { name := "ytoldhaomacnigaa", sum := "53b47cca98ff793c5f97a1c168ccd64a0aafcef7b4e9d9fcc33cf293e6aed903", checked := Try.checked }
namespace Rows
def none {H : Type} : Left H := { results := [], args := [] }

/-- 'tilthlaw18.GraphPlays': WHATEVER THE INPUT: true; the input reads as it did. -/
def graphPlaysSpec : ChangeSpec := { name := "graphPlays", fn := fun _ => fun
  | [d1, d2, d3] => { results := [.lit (.bool true)], args := [d1, d2, d3] }
  | _ => none }
def graphPlaysRow : OpenClaim := { program := "ytoldhaomacnigaa", sum := "53b47cca98ff793c5f97a1c168ccd64a0aafcef7b4e9d9fcc33cf293e6aed903", func := "tilth/tilthlaw18.GraphPlays", spec := "graphPlays", unfollowed := true, recurses := true, apart := false }
def GraphPlaysSaid : Prop := graphPlaysRow.holds Try.pinned (OpenSpec.ofChange graphPlaysSpec)

/-- ITS FALSE NEIGHBOUR: 'it returns false'. Refute it at one input. -/
def graphPlaysWrong : ChangeSpec := { name := "graphPlays", fn := fun _ => fun
  | [d1, d2, d3] => { results := [.lit (.bool false)], args := [d1, d2, d3] }
  | _ => none }
def GraphPlaysWrongFalsely : Prop := graphPlaysRow.holds Try.pinned (OpenSpec.ofChange graphPlaysWrong)

/-- 'tilthlaw18.GraphClear': WHATEVER THE INPUT: true; the input reads as it did. -/
def graphClearSpec : ChangeSpec := { name := "graphClear", fn := fun _ => fun
  | [d1, d2] => { results := [.lit (.bool true)], args := [d1, d2] }
  | _ => none }
def graphClearRow : OpenClaim := { program := "ytoldhaomacnigaa", sum := "53b47cca98ff793c5f97a1c168ccd64a0aafcef7b4e9d9fcc33cf293e6aed903", func := "tilth/tilthlaw18.GraphClear", spec := "graphClear", unfollowed := true, recurses := true, apart := false }
def GraphClearSaid : Prop := graphClearRow.holds Try.pinned (OpenSpec.ofChange graphClearSpec)

/-- ITS FALSE NEIGHBOUR: 'it returns false'. Refute it at one input. -/
def graphClearWrong : ChangeSpec := { name := "graphClear", fn := fun _ => fun
  | [d1, d2] => { results := [.lit (.bool false)], args := [d1, d2] }
  | _ => none }
def GraphClearWrongFalsely : Prop := graphClearRow.holds Try.pinned (OpenSpec.ofChange graphClearWrong)

/-- 'tilthlaw18.GraphOrder': WHATEVER THE INPUT: true; the input reads as it did. -/
def graphOrderSpec : ChangeSpec := { name := "graphOrder", fn := fun _ => fun
  | [d1, d2] => { results := [.lit (.bool true)], args := [d1, d2] }
  | _ => none }
def graphOrderRow : OpenClaim := { program := "ytoldhaomacnigaa", sum := "53b47cca98ff793c5f97a1c168ccd64a0aafcef7b4e9d9fcc33cf293e6aed903", func := "tilth/tilthlaw18.GraphOrder", spec := "graphOrder", unfollowed := true, recurses := true, apart := false }
def GraphOrderSaid : Prop := graphOrderRow.holds Try.pinned (OpenSpec.ofChange graphOrderSpec)

/-- ITS FALSE NEIGHBOUR: 'it returns false'. Refute it at one input. -/
def graphOrderWrong : ChangeSpec := { name := "graphOrder", fn := fun _ => fun
  | [d1, d2] => { results := [.lit (.bool false)], args := [d1, d2] }
  | _ => none }
def GraphOrderWrongFalsely : Prop := graphOrderRow.holds Try.pinned (OpenSpec.ofChange graphOrderWrong)

/-- 'tilthlaw18.GraphNone': WHATEVER THE INPUT: true; the input reads as it did. -/
def graphNoneSpec : ChangeSpec := { name := "graphNone", fn := fun _ => fun
  | [d] => { results := [.lit (.bool true)], args := [d] }
  | _ => none }
def graphNoneRow : OpenClaim := { program := "ytoldhaomacnigaa", sum := "53b47cca98ff793c5f97a1c168ccd64a0aafcef7b4e9d9fcc33cf293e6aed903", func := "tilth/tilthlaw18.GraphNone", spec := "graphNone", unfollowed := true, recurses := true, apart := false }
def GraphNoneSaid : Prop := graphNoneRow.holds Try.pinned (OpenSpec.ofChange graphNoneSpec)

/-- ITS FALSE NEIGHBOUR: 'it returns false'. Refute it at one input. -/
def graphNoneWrong : ChangeSpec := { name := "graphNone", fn := fun _ => fun
  | [d] => { results := [.lit (.bool false)], args := [d] }
  | _ => none }
def GraphNoneWrongFalsely : Prop := graphNoneRow.holds Try.pinned (OpenSpec.ofChange graphNoneWrong)

/-- 'tilthlaw18.GraphApart': WHATEVER THE INPUT: true; the input reads as it did. -/
def graphApartSpec : ChangeSpec := { name := "graphApart", fn := fun _ => fun
  | [d1, d2] => { results := [.lit (.bool true)], args := [d1, d2] }
  | _ => none }
def graphApartRow : OpenClaim := { program := "ytoldhaomacnigaa", sum := "53b47cca98ff793c5f97a1c168ccd64a0aafcef7b4e9d9fcc33cf293e6aed903", func := "tilth/tilthlaw18.GraphApart", spec := "graphApart", unfollowed := true, recurses := true, apart := false }
def GraphApartSaid : Prop := graphApartRow.holds Try.pinned (OpenSpec.ofChange graphApartSpec)

/-- ITS FALSE NEIGHBOUR: 'it returns false'. Refute it at one input. -/
def graphApartWrong : ChangeSpec := { name := "graphApart", fn := fun _ => fun
  | [d1, d2] => { results := [.lit (.bool false)], args := [d1, d2] }
  | _ => none }
def GraphApartWrongFalsely : Prop := graphApartRow.holds Try.pinned (OpenSpec.ofChange graphApartWrong)

/-- 'tilthlaw18.GraphErrors': WHATEVER THE INPUT: true; the input reads as it did. -/
def graphErrorsSpec : ChangeSpec := { name := "graphErrors", fn := fun _ => fun
  | [d1, d2, d3] => { results := [.lit (.bool true)], args := [d1, d2, d3] }
  | _ => none }
def graphErrorsRow : OpenClaim := { program := "ytoldhaomacnigaa", sum := "53b47cca98ff793c5f97a1c168ccd64a0aafcef7b4e9d9fcc33cf293e6aed903", func := "tilth/tilthlaw18.GraphErrors", spec := "graphErrors", unfollowed := true, recurses := true, apart := false }
def GraphErrorsSaid : Prop := graphErrorsRow.holds Try.pinned (OpenSpec.ofChange graphErrorsSpec)

/-- ITS FALSE NEIGHBOUR: 'it returns false'. Refute it at one input. -/
def graphErrorsWrong : ChangeSpec := { name := "graphErrors", fn := fun _ => fun
  | [d1, d2, d3] => { results := [.lit (.bool false)], args := [d1, d2, d3] }
  | _ => none }
def GraphErrorsWrongFalsely : Prop := graphErrorsRow.holds Try.pinned (OpenSpec.ofChange graphErrorsWrong)

/- THE SECOND FORM. 'bulk': how many values and letters a reading holds, each counted each time it is reached (what is shared counts as often as it is met; a slice's spare places count too). A statement '..UptoSaid' is the law's where the arguments, and the package variables that the reading takes, are together of bulk at most 1048576: NARROWER than '..Said'. Prove '..Said' where nothing that the law and all that it calls make is longer than what came in: it says more and counts as full. Else prove '..UptoSaid'. A law counts once. -/
mutual
def uptoBulk {H : Type} : DataW H → Nat
  | .lit (.string bytes) => bytes.length + 1
  | .lit _ => 1
  | .nil => 1
  | .ptr d => uptoBulk d + 1
  | .slice elems spare => uptoBulkAll elems + uptoBulkAll spare + 1
  | .agg parts => uptoBulkAll parts + 1
  | .iface _ d => uptoBulk d + 1
  | .map entries => uptoBulkEntries entries + 1
  | .held _ => 1
def uptoBulkAll {H : Type} : List (DataW H) → Nat
  | [] => 0
  | d :: r => uptoBulk d + uptoBulkAll r
def uptoBulkEntries {H : Type} : List (Lit × DataW H) → Nat
  | [] => 0
  | x :: r => uptoBulkEntry x + uptoBulkEntries r
def uptoBulkEntry {H : Type} : Lit × DataW H → Nat
  | (.string bytes, d) => bytes.length + uptoBulk d + 1
  | (_, d) => uptoBulk d + 1
 end
def uptoSmall : (H : Type) → List (DataW H) → Bool := fun _ ds => decide (uptoBulkAll ds ≤ 1048576)
def OpenSpec.upto (s : _root_.Go.ChangeSpec) : _root_.Go.OpenSpec := { _root_.Go.OpenSpec.ofChange s with cond := some uptoSmall }

/-- 'tilthlaw18.GraphPlays', WHERE WHAT IT READS IS OF BULK AT MOST 1048576: true; the input reads as it did. -/
def graphPlaysUptoRow : OpenClaim := { program := "ytoldhaomacnigaa", sum := "53b47cca98ff793c5f97a1c168ccd64a0aafcef7b4e9d9fcc33cf293e6aed903", func := "tilth/tilthlaw18.GraphPlays", spec := "graphPlays", unfollowed := true, recurses := true, apart := false, narrowed := true }
def GraphPlaysUptoSaid : Prop := graphPlaysUptoRow.holds Try.pinned (OpenSpec.upto graphPlaysSpec)

/-- 'tilthlaw18.GraphClear', WHERE WHAT IT READS IS OF BULK AT MOST 1048576: true; the input reads as it did. -/
def graphClearUptoRow : OpenClaim := { program := "ytoldhaomacnigaa", sum := "53b47cca98ff793c5f97a1c168ccd64a0aafcef7b4e9d9fcc33cf293e6aed903", func := "tilth/tilthlaw18.GraphClear", spec := "graphClear", unfollowed := true, recurses := true, apart := false, narrowed := true }
def GraphClearUptoSaid : Prop := graphClearUptoRow.holds Try.pinned (OpenSpec.upto graphClearSpec)

/-- 'tilthlaw18.GraphOrder', WHERE WHAT IT READS IS OF BULK AT MOST 1048576: true; the input reads as it did. -/
def graphOrderUptoRow : OpenClaim := { program := "ytoldhaomacnigaa", sum := "53b47cca98ff793c5f97a1c168ccd64a0aafcef7b4e9d9fcc33cf293e6aed903", func := "tilth/tilthlaw18.GraphOrder", spec := "graphOrder", unfollowed := true, recurses := true, apart := false, narrowed := true }
def GraphOrderUptoSaid : Prop := graphOrderUptoRow.holds Try.pinned (OpenSpec.upto graphOrderSpec)

/-- 'tilthlaw18.GraphNone', WHERE WHAT IT READS IS OF BULK AT MOST 1048576: true; the input reads as it did. -/
def graphNoneUptoRow : OpenClaim := { program := "ytoldhaomacnigaa", sum := "53b47cca98ff793c5f97a1c168ccd64a0aafcef7b4e9d9fcc33cf293e6aed903", func := "tilth/tilthlaw18.GraphNone", spec := "graphNone", unfollowed := true, recurses := true, apart := false, narrowed := true }
def GraphNoneUptoSaid : Prop := graphNoneUptoRow.holds Try.pinned (OpenSpec.upto graphNoneSpec)

/-- 'tilthlaw18.GraphApart', WHERE WHAT IT READS IS OF BULK AT MOST 1048576: true; the input reads as it did. -/
def graphApartUptoRow : OpenClaim := { program := "ytoldhaomacnigaa", sum := "53b47cca98ff793c5f97a1c168ccd64a0aafcef7b4e9d9fcc33cf293e6aed903", func := "tilth/tilthlaw18.GraphApart", spec := "graphApart", unfollowed := true, recurses := true, apart := false, narrowed := true }
def GraphApartUptoSaid : Prop := graphApartUptoRow.holds Try.pinned (OpenSpec.upto graphApartSpec)

/-- 'tilthlaw18.GraphErrors', WHERE WHAT IT READS IS OF BULK AT MOST 1048576: true; the input reads as it did. -/
def graphErrorsUptoRow : OpenClaim := { program := "ytoldhaomacnigaa", sum := "53b47cca98ff793c5f97a1c168ccd64a0aafcef7b4e9d9fcc33cf293e6aed903", func := "tilth/tilthlaw18.GraphErrors", spec := "graphErrors", unfollowed := true, recurses := true, apart := false, narrowed := true }
def GraphErrorsUptoSaid : Prop := graphErrorsUptoRow.holds Try.pinned (OpenSpec.upto graphErrorsSpec)

end Rows
end Go.Proofs.Ytoldhaomacnigaa
