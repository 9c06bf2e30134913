/- A region that draws its order, whose operations read alone and whose callees keep a predicate on worlds: one walk serves every order. No condition. -/
import Derived.Test.YtgkgoepldbaohaaMem
import Derived.Deep.Quiet
set_option linter.unusedVariables false
set_option linter.unusedSimpArgs false
namespace Go.Proofs.Ytgkgoepldbaohaa.W
open Go.RowKit

/-- A world of which C holds. -/
structure WIn (C : World → Prop) where
  w : World
  h : C w

theorem wp_region_cls {P : Program} {id : Nat} {Q : Exit → Act → World → Prop} {a : Act} {w : World} {l : List Oper} (C : World → Prop) (hm : P.follows .mixedOrders = true) (hB : Region.lexB .any l.toArray = true) (hC : C w.drew)
    (h : wpQuiet P l.toArray (fun w' => ∃ x : WIn C, w' = x.w) (fun a' => ∀ w', (∃ x : WIn C, w' = x.w) → Q .normal a' w') l a) : (Code.region id l.toArray true).wp P Q a w :=
  wp_region_quiet (C := fun w' => ∃ x : WIn C, w' = x.w) hm hB ⟨⟨w.drew, hC⟩, rfl⟩ (by simpa using h)

theorem Calls.cls {P : Program} {f : FuncId} {args : Array Value} {C : World → Prop} {x : WIn C} {v : Value} (h : Calls P f args x.w fun e w' => e = .returned v ∧ C w') : Calls P f args x.w fun e w'' => e = .returned v ∧ ∃ y : WIn C, w'' = y.w :=
  h.mono fun _ w' ⟨he, hc⟩ => ⟨he, ⟨w', hc⟩, rfl⟩
end Go.Proofs.Ytgkgoepldbaohaa.W
