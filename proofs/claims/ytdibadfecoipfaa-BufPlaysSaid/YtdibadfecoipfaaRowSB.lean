/- Slices of bools that come in, as lists. No condition. -/
import Derived.Test.YtdibadfecoipfaaRowLib
import Derived.Test.YtdibadfecoipfaaBools
set_option linter.unusedVariables false
namespace Go.Proofs.Ytdibadfecoipfaa.RL
open Go.ChangeShapes Go.WideShapes Go.ChangeAt Go.RowKit Go.Deep Go.Proofs.Ytdibadfecoipfaa.W

section
variable {H : Type} {enc : TypeId × Value → H} {P : Program} {w : World}
theorem spot_none {a : Addr} {v : Value} (h : w.cell? (a.add 0) = some v) : ∃ b o, a = ⟨b, o, none⟩ ∧ b < w.heap.size := by
  obtain ⟨b, o, s⟩ := a
  have e0 : (Addr.mk b o s).add 0 = ⟨b, o, s⟩ := by simp [Addr.add]
  rw [e0] at h
  have hl := World.block_lt_of_cell? w _ h
  cases s with
  | none => exact ⟨b, o, rfl, hl⟩
  | some x =>
    unfold World.cell? at h
    split at h
    · simp at h
    · cases h

theorem open_SB {r : Reach} {b0 : Nat} {t e : TypeId} {v : Value} {d : DataW H} {p : List MemPlace} (ht : P.underlying t = some (.slice e)) (he : P.underlying e = some .bool) (hc : P.cellsOf e = 1)
    (hv : Value.okWide P w r b0 t v) (h : DataW.Trod enc P w 0 (fun _ => true) true t v d p) : ∃ l : List Bool, SB w (fun i => i < w.heap.size) v l := by
  obtain ⟨a0, len, cap, rfl⟩ := okWide_slice ht hv
  obtain ⟨fuel, hf⟩ := h
  rcases open_slice1 ht hc (by simpa [Value.cells] using hf) with ⟨hcs, _⟩ | ⟨a, len', cap', m, n, V, D, Pl, hcs, _, hl, hm, hmm, _, hx⟩
  · simp at hcs
    obtain ⟨rfl, rfl, rfl⟩ := hcs
    exact ⟨[], none, 0, rfl, by simp, fun h => by simp at h⟩
  · simp at hcs
    obtain ⟨rfl, rfl, rfl⟩ := hcs
    simp only [if_true] at hmm
    subst hmm
    have hb : ∀ i, i < len → ∃ b : Bool, V i = .bool b := by
      intro i hi
      obtain ⟨_, h2⟩ := hx i (by omega)
      obtain ⟨b, hb, _⟩ := DataW.trod_bool he h2
      exact ⟨b, by simpa using hb⟩
    have hlen : ((List.range len).map fun i => (match V i with | .bool b => b | _ => false)).length = len := by simp
    unfold maxLen at hm
    refine ⟨(List.range len).map fun i => (match V i with | .bool b => b | _ => false), some a, m, by rw [hlen], by rw [hlen]; omega, fun h0 => ?_⟩
    rw [hlen] at h0 ⊢
    obtain ⟨b, o, rfl, hbl⟩ := spot_none (hx 0 (by omega)).1
    refine ⟨b, o, rfl, hbl, hbl, fun j hj => ?_⟩
    have h1 := (hx j (by omega)).1
    rw [Addr.add_lit] at h1
    rw [h1]
    obtain ⟨y, hy⟩ := hb j hj
    simp [hj, hy]
end
end Go.Proofs.Ytdibadfecoipfaa.RL
