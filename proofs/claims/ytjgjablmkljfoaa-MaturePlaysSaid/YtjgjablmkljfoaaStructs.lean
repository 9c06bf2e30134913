/- Slices of structs of one-cell fields, as lists. No condition. -/
import Derived.Test.YtjgjablmkljfoaaMem
set_option linter.unusedVariables false
set_option linter.unusedSimpArgs false
namespace Go.Proofs.Ytjgjablmkljfoaa.W
open Go.RowKit

/-- A slice of structs of k cells each, that reads as a list; f: an element's cells. -/
def SS {α : Type} (w : World) (ok : Nat → Prop) (f : α → List Value) (k : Nat) (v : Value) (l : List α) : Prop :=
  ∃ (A : Option Addr) (c : Nat), v = .slice A l.length c ∧ l.length ≤ 9223372036854775807 ∧
    (0 < l.length → ∃ b o, A = some ⟨b, o, none⟩ ∧ ok b ∧ b < w.heap.size ∧ ∀ j x, l[j]? = some x → ∀ i u, (f x)[i]? = some u → w.cell? ⟨b, o + (j * k + i), none⟩ = some u)

theorem SS.keep {α : Type} {w w' : World} {ok ok' : Nat → Prop} {f : α → List Value} {k : Nat} {v : Value} {l : List α} (h : SS w ok f k v l) (hk : Keep ok' w w') (hn : ∀ i, ok i → ok' i → False) : SS w' ok f k v l := by
  obtain ⟨A, c, e, hl, hc⟩ := h
  refine ⟨A, c, e, hl, fun h0 => ?_⟩
  obtain ⟨b, o, hA, hb, hlt, hcell⟩ := hc h0
  exact ⟨b, o, hA, hb, Nat.lt_of_lt_of_le hlt hk.size, fun j x hj i u hu => (World.cell?_of_block (hk.block b hlt (fun h' => hn b hb h'))).trans (hcell j x hj i u hu)⟩
theorem SS.of_map {α β : Type} {w : World} {ok : Nat → Prop} {f : β → List Value} {g : α → β} {k : Nat} {v : Value} {l : List α} (h : SS w ok f k v (l.map g)) : SS w ok (fun x => f (g x)) k v l := by
  obtain ⟨A, c, e, hl, hc⟩ := h
  rw [List.length_map] at e hl hc
  refine ⟨A, c, e, hl, fun h0 => ?_⟩
  obtain ⟨b, o, hA, hb, hlt, hcell⟩ := hc h0
  exact ⟨b, o, hA, hb, hlt, fun j x hj i u hu => hcell j (g x) (by rw [List.getElem?_map, hj]; rfl) i u hu⟩

/-- Something to do, of two numbers. -/
structure A2 where
  what : Int
  n : Int
def A2.cells (x : A2) : List Value := [.int .i64 x.what, .int .i64 x.n]
def A2.wf (x : A2) : Prop := (-9223372036854775808 ≤ x.what ∧ x.what ≤ 9223372036854775807) ∧ (-9223372036854775808 ≤ x.n ∧ x.n ≤ 9223372036854775807)
/-- Something to do, of four numbers and a word. -/
structure A5 where
  kind : Int
  a : Int
  b : Int
  c : Int
  v : Int
def A5.cells (x : A5) : List Value := [.int .i64 x.kind, .int .i64 x.a, .int .i64 x.b, .int .i64 x.c, .int .u64 x.v]
def A5.wf (x : A5) : Prop := (-9223372036854775808 ≤ x.kind ∧ x.kind ≤ 9223372036854775807) ∧ (-9223372036854775808 ≤ x.a ∧ x.a ≤ 9223372036854775807) ∧ (-9223372036854775808 ≤ x.b ∧ x.b ≤ 9223372036854775807) ∧ (-9223372036854775808 ≤ x.c ∧ x.c ≤ 9223372036854775807) ∧ (0 ≤ x.v ∧ x.v ≤ 18446744073709551615)
end Go.Proofs.Ytjgjablmkljfoaa.W
