/- Texts of the whole heap, joined: RowSL. No condition beside those that each lemma names. -/
import Derived.Test.YtihmkkjmnbehbaaGreatMg43
import Derived.Test.YtihmkkjmnbehbaaGreatMg00
/- Slices that come in, as lists. No condition. -/
set_option linter.unusedVariables false
namespace Go.Proofs.YtihmkkjmnbehbaaGreat.RL
open Go.ChangeShapes Go.WideShapes Go.ChangeAt Go.RowKit Go.Deep Go.Proofs.YtihmkkjmnbehbaaGreat.W

section
variable {H : Type} {enc : TypeId × Value → H} {P : Program} {w : World}

theorem open_SL {r : Reach} {b0 : Nat} {t e : TypeId} {k : IntKind} {v : Value} {d : DataW H} {p : List MemPlace} (ht : P.underlying t = some (.slice e)) (he : P.underlying e = some (.int k)) (hc : P.cellsOf e = 1)
    (hv : Value.okWide P w r b0 t v) (h : DataW.Trod enc P w 0 (fun _ => true) true t v d p) :
    ∃ l : List Int, SL w (fun i => i < w.heap.size) k v l ∧ ∀ n ∈ l, (Lit.int k n).wf = true := by
  obtain ⟨a0, len, cap, rfl⟩ := okWide_slice ht hv
  obtain ⟨fuel, hf⟩ := h
  rcases open_ints ht he hc (by simpa [Value.cells] using hf) with ⟨hcs, _⟩ | ⟨a, len', cap', zs, hcs, _, hl, hm, hz, _, hcell, hwz⟩
  · simp at hcs
    obtain ⟨rfl, rfl, rfl⟩ := hcs
    exact ⟨[], ⟨none, 0, rfl, by simp, fun h => by simp at h⟩, fun n hn => by simp at hn⟩
  · simp at hcs
    obtain ⟨rfl, rfl, rfl⟩ := hcs
    simp only [if_true] at hz
    have hlen : (zs.take len).length = len := by rw [List.length_take]; omega
    unfold maxLen at hm
    refine ⟨zs.take len, ⟨some a, cap, by rw [hlen], by rw [hlen]; omega, fun h0 => ?_⟩, fun n hn => hwz n (List.mem_of_mem_take hn)⟩
    rw [hlen] at h0 ⊢
    have c0 := hcell 0 (by omega)
    obtain ⟨b, o, s⟩ := a
    have hs : s = none := by
      have e0 : (Addr.mk b o s).add 0 = ⟨b, o, s⟩ := by simp [Addr.add]
      rw [e0] at c0
      cases s with
      | none => rfl
      | some x =>
        unfold World.cell? at c0
        split at c0
        · simp at c0
        · cases c0
    subst hs
    refine ⟨b, o, rfl, ?_, ?_, fun j hj => ?_⟩
    · have := World.block_lt_of_cell? w _ c0
      simpa [Addr.add] using this
    · have := World.block_lt_of_cell? w _ c0
      simpa [Addr.add] using this
    · have := hcell j (by omega)
      rw [Addr.add_lit] at this
      rw [this]
      simp [List.getD, hj]
/-- A slice's length is not above its capacity. -/
theorem cap_le {t e : TypeId} {k : IntKind} {v : Value} {d : DataW H} {p : List MemPlace} (ht : P.underlying t = some (.slice e)) (he : P.underlying e = some (.int k)) (hc : P.cellsOf e = 1)
    (h : DataW.Trod enc P w 0 (fun _ => true) true t v d p) : ∀ A n c, v = .slice A n c → n ≤ c := by
  rintro A n c rfl
  obtain ⟨fuel, hf⟩ := h
  rcases open_ints ht he hc (by simpa [Value.cells] using hf) with ⟨hcs, _⟩ | ⟨a, len', cap', zs, hcs, _, hl, hm, hz, _, hcell, hwz⟩
  · simp at hcs
    omega
  · simp at hcs
    omega
end
end Go.Proofs.YtihmkkjmnbehbaaGreat.RL
