/- Nodes that are told, as lists: in memory that is only read. No condition. -/
import Derived.Test.YtoldhaomacnigaaKRow
import Derived.Test.YtoldhaomacnigaaStructs
set_option linter.unusedVariables false
set_option linter.unusedSimpArgs false
namespace Go.Proofs.Ytoldhaomacnigaa.W
open Go.RowKit
/-- A node that is told: its references, its words. -/
structure N2 where
  pv : Value
  sv : Value
  ptrs : List Int
  scal : List Int
def N2.cells (x : N2) : List Value := [x.pv, x.sv]
/-- A slice of such nodes. -/
def NS (w : World) (ok : Nat → Prop) (v : Value) (L : List (List Int × List Int)) : Prop :=
  ∃ rows : List N2, rows.map (fun r => (r.ptrs, r.scal)) = L ∧ SS w ok N2.cells 2 v rows ∧ ∀ r ∈ rows, SL w ok .i64 r.pv r.ptrs ∧ SL w ok .u64 r.sv r.scal
section
variable {w w' : World} {ok ok' : Nat → Prop} {v : Value} {L : List (List Int × List Int)}
theorem SS.mono {α : Type} {f : α → List Value} {k : Nat} {l : List α} (h : SS w ok f k v l) (hs : ∀ i, ok i → ok' i) : SS w ok' f k v l := by
  obtain ⟨A, c, e, hl, hc⟩ := h
  exact ⟨A, c, e, hl, fun h0 => by obtain ⟨b, o, hA, hb, r⟩ := hc h0; exact ⟨b, o, hA, hs b hb, r⟩⟩
theorem SS.bound {α : Type} {f : α → List Value} {k : Nat} {l : List α} (h : SS w ok f k v l) : SS w (fun i => ok i ∧ i < w.heap.size) f k v l := by
  obtain ⟨A, c, e, hl, hc⟩ := h
  exact ⟨A, c, e, hl, fun h0 => by obtain ⟨b, o, hA, hb, hlt, r⟩ := hc h0; exact ⟨b, o, hA, ⟨hb, hlt⟩, hlt, r⟩⟩
theorem SL.bound {k : IntKind} {l : List Int} (h : SL w ok k v l) : SL w (fun i => ok i ∧ i < w.heap.size) k v l := by
  obtain ⟨A, c, e, hl, hc⟩ := h
  exact ⟨A, c, e, hl, fun h0 => by obtain ⟨b, o, hA, hb, hlt, r⟩ := hc h0; exact ⟨b, o, hA, ⟨hb, hlt⟩, hlt, r⟩⟩
theorem NS.keep (h : NS w ok v L) (hk : Keep ok' w w') (hn : ∀ i, ok i → ok' i → False) : NS w' ok v L := by
  obtain ⟨rows, e, h1, h2⟩ := h
  exact ⟨rows, e, h1.keep hk hn, fun r hr => ⟨(h2 r hr).1.keep hk hn, (h2 r hr).2.keep hk hn⟩⟩
theorem NS.mono (h : NS w ok v L) (hs : ∀ i, ok i → ok' i) : NS w ok' v L := by
  obtain ⟨rows, e, h1, h2⟩ := h
  exact ⟨rows, e, h1.mono hs, fun r hr => ⟨(h2 r hr).1.mono hs, (h2 r hr).2.mono hs⟩⟩
theorem NS.bound (h : NS w ok v L) : NS w (fun i => ok i ∧ i < w.heap.size) v L := by
  obtain ⟨rows, e, h1, h2⟩ := h
  exact ⟨rows, e, h1.bound, fun r hr => ⟨(h2 r hr).1.bound, (h2 r hr).2.bound⟩⟩
theorem NS.len (h : NS w ok v L) : ∃ A c, v = .slice A L.length c ∧ L.length ≤ 9223372036854775807 := by
  obtain ⟨rows, e, ⟨A, c, h1, h2, _⟩, _⟩ := h
  have : L.length = rows.length := by rw [← e]; simp
  rw [this]
  exact ⟨A, c, h1, h2⟩
end
def NodesP (v : Value) (L : List (List Int × List Int)) : Pr := ⟨fun w o => NS w o v L, fun h k hn => h.keep k hn, fun h hs => h.mono hs, fun h => h.bound⟩
def IntsP (v : Value) (L : List Int) : Pr := ⟨fun w o => SL w o .i64 v L, fun h k hn => h.keep k hn, fun h hs => h.mono hs, fun h => h.bound⟩
end Go.Proofs.Ytoldhaomacnigaa.W
