/-
  No cell of these rows narrows 'for every input' (looked for: loops, veiled, ifaces, maps, wideKeys, modest, calm, conditions, laid).
  DERIVED. THE GIVEN ROWS OF THIS SEAT. 12 by the template 'for every input the law returns true; each argument reads behind the call as it read before'; 0 by the template 'total and deterministic' (their statements: YtihmkkjmnbehbaaGreatTotals.lean).
  GIVEN WITH THE SEED: the statements are not yours to turn. If you find one false, say at which input.
  Laid BY PROGRAM, IN A SANDBOX (cutbox-rows.mjs): the forced cells as the released guide's own fill.sh prints them over the translation a2b6d73bfa9f13de… (all of the seat's roots in one cut). By AI agents, Wed Nov 11 2026. No macro, syntax, notation, axiom, sorry.
-/
import Derived.Test.YtihmkkjmnbehbaaGreatChecked
import GoSem.Claim
import GoSem.ClaimJoined
import GoSem.ClaimMapViews
import Derived.JoinedTies
import Derived.KernelRfl
namespace Go.Proofs.YtihmkkjmnbehbaaGreat
/- THE CELL 'sum', in the pinned program and in every row, IS THE sha256 OF THE DUMP (.gsa) THAT YtihmkkjmnbehbaaGreatProg.lean LOADS. Nothing in Lean hashes anything: it is a label: what it is worth is what the hold of that sum in a sandbox is worth. -/
noncomputable def Tryz.pinned : Pinned := { name := "ytihmkkjmnbehbaagreat", sum := "a2b6d73bfa9f13de47fe1f1a2e60f531d02406585e04f242653be1f96c6e6af3", checked := Tryz.checked }
namespace Rows
def none {H : Type} : Left H := { results := [], args := [] }

/-- 'tilthtop.WholeMade': WHATEVER THE INPUT: true; the input reads as it did. -/
def wholeMadeSpec : ChangeSpec := { name := "wholeMade", fn := fun _ => fun
  | [d1, d2, d3, d4, d5, d6, d7] => { results := [.lit (.bool true)], args := [d1, d2, d3, d4, d5, d6, d7] }
  | _ => none }
def wholeMadeRow : OpenClaim := { program := "ytihmkkjmnbehbaagreat", sum := "a2b6d73bfa9f13de47fe1f1a2e60f531d02406585e04f242653be1f96c6e6af3", func := "tilth/tilthtop.WholeMade", spec := "wholeMade", unfollowed := true, recurses := true, apart := false }
def WholeMadeSaid : Prop := wholeMadeRow.holds Tryz.pinned (OpenSpec.ofChange wholeMadeSpec)

/-- ITS FALSE NEIGHBOUR: 'it returns false'. Refute it at one input. -/
def wholeMadeWrong : ChangeSpec := { name := "wholeMade", fn := fun _ => fun
  | [d1, d2, d3, d4, d5, d6, d7] => { results := [.lit (.bool false)], args := [d1, d2, d3, d4, d5, d6, d7] }
  | _ => none }
def WholeMadeWrongFalsely : Prop := wholeMadeRow.holds Tryz.pinned (OpenSpec.ofChange wholeMadeWrong)

/-- 'tilthtop.WholeShare': WHATEVER THE INPUT: true; the input reads as it did. -/
def wholeShareSpec : ChangeSpec := { name := "wholeShare", fn := fun _ => fun
  | [d1, d2, d3, d4, d5] => { results := [.lit (.bool true)], args := [d1, d2, d3, d4, d5] }
  | _ => none }
def wholeShareRow : OpenClaim := { program := "ytihmkkjmnbehbaagreat", sum := "a2b6d73bfa9f13de47fe1f1a2e60f531d02406585e04f242653be1f96c6e6af3", func := "tilth/tilthtop.WholeShare", spec := "wholeShare", unfollowed := true, recurses := true, apart := false }
def WholeShareSaid : Prop := wholeShareRow.holds Tryz.pinned (OpenSpec.ofChange wholeShareSpec)

/-- ITS FALSE NEIGHBOUR: 'it returns false'. Refute it at one input. -/
def wholeShareWrong : ChangeSpec := { name := "wholeShare", fn := fun _ => fun
  | [d1, d2, d3, d4, d5] => { results := [.lit (.bool false)], args := [d1, d2, d3, d4, d5] }
  | _ => none }
def WholeShareWrongFalsely : Prop := wholeShareRow.holds Tryz.pinned (OpenSpec.ofChange wholeShareWrong)

/-- 'tilthtop.WholeTree': WHATEVER THE INPUT: true; the input reads as it did. -/
def wholeTreeSpec : ChangeSpec := { name := "wholeTree", fn := fun _ => fun
  | [d1, d2, d3, d4, d5] => { results := [.lit (.bool true)], args := [d1, d2, d3, d4, d5] }
  | _ => none }
def wholeTreeRow : OpenClaim := { program := "ytihmkkjmnbehbaagreat", sum := "a2b6d73bfa9f13de47fe1f1a2e60f531d02406585e04f242653be1f96c6e6af3", func := "tilth/tilthtop.WholeTree", spec := "wholeTree", unfollowed := true, recurses := true, apart := false }
def WholeTreeSaid : Prop := wholeTreeRow.holds Tryz.pinned (OpenSpec.ofChange wholeTreeSpec)

/-- ITS FALSE NEIGHBOUR: 'it returns false'. Refute it at one input. -/
def wholeTreeWrong : ChangeSpec := { name := "wholeTree", fn := fun _ => fun
  | [d1, d2, d3, d4, d5] => { results := [.lit (.bool false)], args := [d1, d2, d3, d4, d5] }
  | _ => none }
def WholeTreeWrongFalsely : Prop := wholeTreeRow.holds Tryz.pinned (OpenSpec.ofChange wholeTreeWrong)

/-- 'tilthtop.WholeBarrier': WHATEVER THE INPUT: true; the input reads as it did. -/
def wholeBarrierSpec : ChangeSpec := { name := "wholeBarrier", fn := fun _ => fun
  | [d1, d2, d3, d4, d5, d6] => { results := [.lit (.bool true)], args := [d1, d2, d3, d4, d5, d6] }
  | _ => none }
def wholeBarrierRow : OpenClaim := { program := "ytihmkkjmnbehbaagreat", sum := "a2b6d73bfa9f13de47fe1f1a2e60f531d02406585e04f242653be1f96c6e6af3", func := "tilth/tilthtop.WholeBarrier", spec := "wholeBarrier", unfollowed := true, recurses := true, apart := false }
def WholeBarrierSaid : Prop := wholeBarrierRow.holds Tryz.pinned (OpenSpec.ofChange wholeBarrierSpec)

/-- ITS FALSE NEIGHBOUR: 'it returns false'. Refute it at one input. -/
def wholeBarrierWrong : ChangeSpec := { name := "wholeBarrier", fn := fun _ => fun
  | [d1, d2, d3, d4, d5, d6] => { results := [.lit (.bool false)], args := [d1, d2, d3, d4, d5, d6] }
  | _ => none }
def WholeBarrierWrongFalsely : Prop := wholeBarrierRow.holds Tryz.pinned (OpenSpec.ofChange wholeBarrierWrong)

/-- 'tilthtop.WholeFresh': WHATEVER THE INPUT: true; the input reads as it did. -/
def wholeFreshSpec : ChangeSpec := { name := "wholeFresh", fn := fun _ => fun
  | [d1, d2, d3, d4, d5, d6] => { results := [.lit (.bool true)], args := [d1, d2, d3, d4, d5, d6] }
  | _ => none }
def wholeFreshRow : OpenClaim := { program := "ytihmkkjmnbehbaagreat", sum := "a2b6d73bfa9f13de47fe1f1a2e60f531d02406585e04f242653be1f96c6e6af3", func := "tilth/tilthtop.WholeFresh", spec := "wholeFresh", unfollowed := true, recurses := true, apart := false }
def WholeFreshSaid : Prop := wholeFreshRow.holds Tryz.pinned (OpenSpec.ofChange wholeFreshSpec)

/-- ITS FALSE NEIGHBOUR: 'it returns false'. Refute it at one input. -/
def wholeFreshWrong : ChangeSpec := { name := "wholeFresh", fn := fun _ => fun
  | [d1, d2, d3, d4, d5, d6] => { results := [.lit (.bool false)], args := [d1, d2, d3, d4, d5, d6] }
  | _ => none }
def WholeFreshWrongFalsely : Prop := wholeFreshRow.holds Tryz.pinned (OpenSpec.ofChange wholeFreshWrong)

/-- 'tilthtop.WholeSwap': WHATEVER THE INPUT: true; the input reads as it did. -/
def wholeSwapSpec : ChangeSpec := { name := "wholeSwap", fn := fun _ => fun
  | [d1, d2, d3, d4, d5, d6] => { results := [.lit (.bool true)], args := [d1, d2, d3, d4, d5, d6] }
  | _ => none }
def wholeSwapRow : OpenClaim := { program := "ytihmkkjmnbehbaagreat", sum := "a2b6d73bfa9f13de47fe1f1a2e60f531d02406585e04f242653be1f96c6e6af3", func := "tilth/tilthtop.WholeSwap", spec := "wholeSwap", unfollowed := true, recurses := true, apart := false }
def WholeSwapSaid : Prop := wholeSwapRow.holds Tryz.pinned (OpenSpec.ofChange wholeSwapSpec)

/-- ITS FALSE NEIGHBOUR: 'it returns false'. Refute it at one input. -/
def wholeSwapWrong : ChangeSpec := { name := "wholeSwap", fn := fun _ => fun
  | [d1, d2, d3, d4, d5, d6] => { results := [.lit (.bool false)], args := [d1, d2, d3, d4, d5, d6] }
  | _ => none }
def WholeSwapWrongFalsely : Prop := wholeSwapRow.holds Tryz.pinned (OpenSpec.ofChange wholeSwapWrong)

/-- 'tilthtop.WholeTenure': WHATEVER THE INPUT: true; the input reads as it did. -/
def wholeTenureSpec : ChangeSpec := { name := "wholeTenure", fn := fun _ => fun
  | [d1, d2, d3, d4, d5] => { results := [.lit (.bool true)], args := [d1, d2, d3, d4, d5] }
  | _ => none }
def wholeTenureRow : OpenClaim := { program := "ytihmkkjmnbehbaagreat", sum := "a2b6d73bfa9f13de47fe1f1a2e60f531d02406585e04f242653be1f96c6e6af3", func := "tilth/tilthtop.WholeTenure", spec := "wholeTenure", unfollowed := true, recurses := true, apart := false }
def WholeTenureSaid : Prop := wholeTenureRow.holds Tryz.pinned (OpenSpec.ofChange wholeTenureSpec)

/-- ITS FALSE NEIGHBOUR: 'it returns false'. Refute it at one input. -/
def wholeTenureWrong : ChangeSpec := { name := "wholeTenure", fn := fun _ => fun
  | [d1, d2, d3, d4, d5] => { results := [.lit (.bool false)], args := [d1, d2, d3, d4, d5] }
  | _ => none }
def WholeTenureWrongFalsely : Prop := wholeTenureRow.holds Tryz.pinned (OpenSpec.ofChange wholeTenureWrong)

/-- 'tilthtop.WholeChain': WHATEVER THE INPUT: true; the input reads as it did. -/
def wholeChainSpec : ChangeSpec := { name := "wholeChain", fn := fun _ => fun
  | [d1, d2, d3, d4, d5, d6] => { results := [.lit (.bool true)], args := [d1, d2, d3, d4, d5, d6] }
  | _ => none }
def wholeChainRow : OpenClaim := { program := "ytihmkkjmnbehbaagreat", sum := "a2b6d73bfa9f13de47fe1f1a2e60f531d02406585e04f242653be1f96c6e6af3", func := "tilth/tilthtop.WholeChain", spec := "wholeChain", unfollowed := true, recurses := true, apart := false }
def WholeChainSaid : Prop := wholeChainRow.holds Tryz.pinned (OpenSpec.ofChange wholeChainSpec)

/-- ITS FALSE NEIGHBOUR: 'it returns false'. Refute it at one input. -/
def wholeChainWrong : ChangeSpec := { name := "wholeChain", fn := fun _ => fun
  | [d1, d2, d3, d4, d5, d6] => { results := [.lit (.bool false)], args := [d1, d2, d3, d4, d5, d6] }
  | _ => none }
def WholeChainWrongFalsely : Prop := wholeChainRow.holds Tryz.pinned (OpenSpec.ofChange wholeChainWrong)

/-- 'tilthtop.WholeRing': WHATEVER THE INPUT: true; the input reads as it did. -/
def wholeRingSpec : ChangeSpec := { name := "wholeRing", fn := fun _ => fun
  | [d1, d2, d3, d4, d5, d6] => { results := [.lit (.bool true)], args := [d1, d2, d3, d4, d5, d6] }
  | _ => none }
def wholeRingRow : OpenClaim := { program := "ytihmkkjmnbehbaagreat", sum := "a2b6d73bfa9f13de47fe1f1a2e60f531d02406585e04f242653be1f96c6e6af3", func := "tilth/tilthtop.WholeRing", spec := "wholeRing", unfollowed := true, recurses := true, apart := false }
def WholeRingSaid : Prop := wholeRingRow.holds Tryz.pinned (OpenSpec.ofChange wholeRingSpec)

/-- ITS FALSE NEIGHBOUR: 'it returns false'. Refute it at one input. -/
def wholeRingWrong : ChangeSpec := { name := "wholeRing", fn := fun _ => fun
  | [d1, d2, d3, d4, d5, d6] => { results := [.lit (.bool false)], args := [d1, d2, d3, d4, d5, d6] }
  | _ => none }
def WholeRingWrongFalsely : Prop := wholeRingRow.holds Tryz.pinned (OpenSpec.ofChange wholeRingWrong)

/-- 'tilthtop.WholeErrors': WHATEVER THE INPUT: true; the input reads as it did. -/
def wholeErrorsSpec : ChangeSpec := { name := "wholeErrors", fn := fun _ => fun
  | [d1, d2, d3, d4, d5, d6] => { results := [.lit (.bool true)], args := [d1, d2, d3, d4, d5, d6] }
  | _ => none }
def wholeErrorsRow : OpenClaim := { program := "ytihmkkjmnbehbaagreat", sum := "a2b6d73bfa9f13de47fe1f1a2e60f531d02406585e04f242653be1f96c6e6af3", func := "tilth/tilthtop.WholeErrors", spec := "wholeErrors", unfollowed := true, recurses := true, apart := false }
def WholeErrorsSaid : Prop := wholeErrorsRow.holds Tryz.pinned (OpenSpec.ofChange wholeErrorsSpec)

/-- ITS FALSE NEIGHBOUR: 'it returns false'. Refute it at one input. -/
def wholeErrorsWrong : ChangeSpec := { name := "wholeErrors", fn := fun _ => fun
  | [d1, d2, d3, d4, d5, d6] => { results := [.lit (.bool false)], args := [d1, d2, d3, d4, d5, d6] }
  | _ => none }
def WholeErrorsWrongFalsely : Prop := wholeErrorsRow.holds Tryz.pinned (OpenSpec.ofChange wholeErrorsWrong)

/-- 'tilthtop.WholeSelf': WHATEVER THE INPUT: true; the input reads as it did. -/
def wholeSelfSpec : ChangeSpec := { name := "wholeSelf", fn := fun _ => fun
  | [d1, d2, d3, d4, d5, d6] => { results := [.lit (.bool true)], args := [d1, d2, d3, d4, d5, d6] }
  | _ => none }
def wholeSelfRow : OpenClaim := { program := "ytihmkkjmnbehbaagreat", sum := "a2b6d73bfa9f13de47fe1f1a2e60f531d02406585e04f242653be1f96c6e6af3", func := "tilth/tilthtop.WholeSelf", spec := "wholeSelf", unfollowed := true, recurses := true, apart := false }
def WholeSelfSaid : Prop := wholeSelfRow.holds Tryz.pinned (OpenSpec.ofChange wholeSelfSpec)

/-- ITS FALSE NEIGHBOUR: 'it returns false'. Refute it at one input. -/
def wholeSelfWrong : ChangeSpec := { name := "wholeSelf", fn := fun _ => fun
  | [d1, d2, d3, d4, d5, d6] => { results := [.lit (.bool false)], args := [d1, d2, d3, d4, d5, d6] }
  | _ => none }
def WholeSelfWrongFalsely : Prop := wholeSelfRow.holds Tryz.pinned (OpenSpec.ofChange wholeSelfWrong)

/-- 'tilthtop.WholePlaces': WHATEVER THE INPUT: true; the input reads as it did. -/
def wholePlacesSpec : ChangeSpec := { name := "wholePlaces", fn := fun _ => fun
  | [d1, d2, d3, d4, d5] => { results := [.lit (.bool true)], args := [d1, d2, d3, d4, d5] }
  | _ => none }
def wholePlacesRow : OpenClaim := { program := "ytihmkkjmnbehbaagreat", sum := "a2b6d73bfa9f13de47fe1f1a2e60f531d02406585e04f242653be1f96c6e6af3", func := "tilth/tilthtop.WholePlaces", spec := "wholePlaces", unfollowed := true, recurses := true, apart := false }
def WholePlacesSaid : Prop := wholePlacesRow.holds Tryz.pinned (OpenSpec.ofChange wholePlacesSpec)

/-- ITS FALSE NEIGHBOUR: 'it returns false'. Refute it at one input. -/
def wholePlacesWrong : ChangeSpec := { name := "wholePlaces", fn := fun _ => fun
  | [d1, d2, d3, d4, d5] => { results := [.lit (.bool false)], args := [d1, d2, d3, d4, d5] }
  | _ => none }
def WholePlacesWrongFalsely : Prop := wholePlacesRow.holds Tryz.pinned (OpenSpec.ofChange wholePlacesWrong)

/- THE SECOND FORM. 'bulk': how many values and letters a reading holds, each counted each time it is reached (what is shared counts as often as it is met; a slice's spare places count too). A statement '..UptoSaid' is the law's where the arguments, and the package variables that the reading takes, are together of bulk at most 1048576: NARROWER than '..Said'. Prove '..Said' where nothing that the law and all that it calls make is longer than what came in: it says more and counts as full. Else prove '..UptoSaid'. A law counts once. -/
mutual
def uptoBulk {H : Type} : DataW H → Nat
  | .lit (.string bytes) => bytes.length + 1
  | .lit _ => 1
  | .nil => 1
  | .ptr d => uptoBulk d + 1
  | .slice elems spare => uptoBulkAll elems + uptoBulkAll spare + 1
  | .agg parts => uptoBulkAll parts + 1
  | .iface _ d => uptoBulk d + 1
  | .map entries => uptoBulkEntries entries + 1
  | .held _ => 1
def uptoBulkAll {H : Type} : List (DataW H) → Nat
  | [] => 0
  | d :: r => uptoBulk d + uptoBulkAll r
def uptoBulkEntries {H : Type} : List (Lit × DataW H) → Nat
  | [] => 0
  | x :: r => uptoBulkEntry x + uptoBulkEntries r
def uptoBulkEntry {H : Type} : Lit × DataW H → Nat
  | (.string bytes, d) => bytes.length + uptoBulk d + 1
  | (_, d) => uptoBulk d + 1
 end
def uptoSmall : (H : Type) → List (DataW H) → Bool := fun _ ds => decide (uptoBulkAll ds ≤ 1048576)
def OpenSpec.upto (s : _root_.Go.ChangeSpec) : _root_.Go.OpenSpec := { _root_.Go.OpenSpec.ofChange s with cond := some uptoSmall }

/-- 'tilthtop.WholeMade', WHERE WHAT IT READS IS OF BULK AT MOST 1048576: true; the input reads as it did. -/
def wholeMadeUptoRow : OpenClaim := { program := "ytihmkkjmnbehbaagreat", sum := "a2b6d73bfa9f13de47fe1f1a2e60f531d02406585e04f242653be1f96c6e6af3", func := "tilth/tilthtop.WholeMade", spec := "wholeMade", unfollowed := true, recurses := true, apart := false, narrowed := true }
def WholeMadeUptoSaid : Prop := wholeMadeUptoRow.holds Tryz.pinned (OpenSpec.upto wholeMadeSpec)

/-- 'tilthtop.WholeShare', WHERE WHAT IT READS IS OF BULK AT MOST 1048576: true; the input reads as it did. -/
def wholeShareUptoRow : OpenClaim := { program := "ytihmkkjmnbehbaagreat", sum := "a2b6d73bfa9f13de47fe1f1a2e60f531d02406585e04f242653be1f96c6e6af3", func := "tilth/tilthtop.WholeShare", spec := "wholeShare", unfollowed := true, recurses := true, apart := false, narrowed := true }
def WholeShareUptoSaid : Prop := wholeShareUptoRow.holds Tryz.pinned (OpenSpec.upto wholeShareSpec)

/-- 'tilthtop.WholeTree', WHERE WHAT IT READS IS OF BULK AT MOST 1048576: true; the input reads as it did. -/
def wholeTreeUptoRow : OpenClaim := { program := "ytihmkkjmnbehbaagreat", sum := "a2b6d73bfa9f13de47fe1f1a2e60f531d02406585e04f242653be1f96c6e6af3", func := "tilth/tilthtop.WholeTree", spec := "wholeTree", unfollowed := true, recurses := true, apart := false, narrowed := true }
def WholeTreeUptoSaid : Prop := wholeTreeUptoRow.holds Tryz.pinned (OpenSpec.upto wholeTreeSpec)

/-- 'tilthtop.WholeBarrier', WHERE WHAT IT READS IS OF BULK AT MOST 1048576: true; the input reads as it did. -/
def wholeBarrierUptoRow : OpenClaim := { program := "ytihmkkjmnbehbaagreat", sum := "a2b6d73bfa9f13de47fe1f1a2e60f531d02406585e04f242653be1f96c6e6af3", func := "tilth/tilthtop.WholeBarrier", spec := "wholeBarrier", unfollowed := true, recurses := true, apart := false, narrowed := true }
def WholeBarrierUptoSaid : Prop := wholeBarrierUptoRow.holds Tryz.pinned (OpenSpec.upto wholeBarrierSpec)

/-- 'tilthtop.WholeFresh', WHERE WHAT IT READS IS OF BULK AT MOST 1048576: true; the input reads as it did. -/
def wholeFreshUptoRow : OpenClaim := { program := "ytihmkkjmnbehbaagreat", sum := "a2b6d73bfa9f13de47fe1f1a2e60f531d02406585e04f242653be1f96c6e6af3", func := "tilth/tilthtop.WholeFresh", spec := "wholeFresh", unfollowed := true, recurses := true, apart := false, narrowed := true }
def WholeFreshUptoSaid : Prop := wholeFreshUptoRow.holds Tryz.pinned (OpenSpec.upto wholeFreshSpec)

/-- 'tilthtop.WholeSwap', WHERE WHAT IT READS IS OF BULK AT MOST 1048576: true; the input reads as it did. -/
def wholeSwapUptoRow : OpenClaim := { program := "ytihmkkjmnbehbaagreat", sum := "a2b6d73bfa9f13de47fe1f1a2e60f531d02406585e04f242653be1f96c6e6af3", func := "tilth/tilthtop.WholeSwap", spec := "wholeSwap", unfollowed := true, recurses := true, apart := false, narrowed := true }
def WholeSwapUptoSaid : Prop := wholeSwapUptoRow.holds Tryz.pinned (OpenSpec.upto wholeSwapSpec)

/-- 'tilthtop.WholeTenure', WHERE WHAT IT READS IS OF BULK AT MOST 1048576: true; the input reads as it did. -/
def wholeTenureUptoRow : OpenClaim := { program := "ytihmkkjmnbehbaagreat", sum := "a2b6d73bfa9f13de47fe1f1a2e60f531d02406585e04f242653be1f96c6e6af3", func := "tilth/tilthtop.WholeTenure", spec := "wholeTenure", unfollowed := true, recurses := true, apart := false, narrowed := true }
def WholeTenureUptoSaid : Prop := wholeTenureUptoRow.holds Tryz.pinned (OpenSpec.upto wholeTenureSpec)

/-- 'tilthtop.WholeChain', WHERE WHAT IT READS IS OF BULK AT MOST 1048576: true; the input reads as it did. -/
def wholeChainUptoRow : OpenClaim := { program := "ytihmkkjmnbehbaagreat", sum := "a2b6d73bfa9f13de47fe1f1a2e60f531d02406585e04f242653be1f96c6e6af3", func := "tilth/tilthtop.WholeChain", spec := "wholeChain", unfollowed := true, recurses := true, apart := false, narrowed := true }
def WholeChainUptoSaid : Prop := wholeChainUptoRow.holds Tryz.pinned (OpenSpec.upto wholeChainSpec)

/-- 'tilthtop.WholeRing', WHERE WHAT IT READS IS OF BULK AT MOST 1048576: true; the input reads as it did. -/
def wholeRingUptoRow : OpenClaim := { program := "ytihmkkjmnbehbaagreat", sum := "a2b6d73bfa9f13de47fe1f1a2e60f531d02406585e04f242653be1f96c6e6af3", func := "tilth/tilthtop.WholeRing", spec := "wholeRing", unfollowed := true, recurses := true, apart := false, narrowed := true }
def WholeRingUptoSaid : Prop := wholeRingUptoRow.holds Tryz.pinned (OpenSpec.upto wholeRingSpec)

/-- 'tilthtop.WholeErrors', WHERE WHAT IT READS IS OF BULK AT MOST 1048576: true; the input reads as it did. -/
def wholeErrorsUptoRow : OpenClaim := { program := "ytihmkkjmnbehbaagreat", sum := "a2b6d73bfa9f13de47fe1f1a2e60f531d02406585e04f242653be1f96c6e6af3", func := "tilth/tilthtop.WholeErrors", spec := "wholeErrors", unfollowed := true, recurses := true, apart := false, narrowed := true }
def WholeErrorsUptoSaid : Prop := wholeErrorsUptoRow.holds Tryz.pinned (OpenSpec.upto wholeErrorsSpec)

/-- 'tilthtop.WholeSelf', WHERE WHAT IT READS IS OF BULK AT MOST 1048576: true; the input reads as it did. -/
def wholeSelfUptoRow : OpenClaim := { program := "ytihmkkjmnbehbaagreat", sum := "a2b6d73bfa9f13de47fe1f1a2e60f531d02406585e04f242653be1f96c6e6af3", func := "tilth/tilthtop.WholeSelf", spec := "wholeSelf", unfollowed := true, recurses := true, apart := false, narrowed := true }
def WholeSelfUptoSaid : Prop := wholeSelfUptoRow.holds Tryz.pinned (OpenSpec.upto wholeSelfSpec)

/-- 'tilthtop.WholePlaces', WHERE WHAT IT READS IS OF BULK AT MOST 1048576: true; the input reads as it did. -/
def wholePlacesUptoRow : OpenClaim := { program := "ytihmkkjmnbehbaagreat", sum := "a2b6d73bfa9f13de47fe1f1a2e60f531d02406585e04f242653be1f96c6e6af3", func := "tilth/tilthtop.WholePlaces", spec := "wholePlaces", unfollowed := true, recurses := true, apart := false, narrowed := true }
def WholePlacesUptoSaid : Prop := wholePlacesUptoRow.holds Tryz.pinned (OpenSpec.upto wholePlacesSpec)

end Rows
end Go.Proofs.YtihmkkjmnbehbaaGreat
