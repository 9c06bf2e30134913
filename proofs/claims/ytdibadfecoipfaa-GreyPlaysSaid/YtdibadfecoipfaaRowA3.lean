/- Slices of structs of two numbers and a list that come in. No condition. -/
import Derived.Test.YtdibadfecoipfaaRowSS
import Derived.Test.YtdibadfecoipfaaRowSL
import Derived.Test.YtdibadfecoipfaaActs3
set_option linter.unusedVariables false
namespace Go.Proofs.Ytdibadfecoipfaa.RL
open Go.ChangeShapes Go.WideShapes Go.ChangeAt Go.RowKit Go.Deep Go.Proofs.Ytdibadfecoipfaa.W

section
variable {H : Type} {enc : TypeId × Value → H} {P : Program} {w : World}
theorem field_SL {t e : TypeId} {k : IntKind} {n : Nat} {c : Value} {y : DataW H × List MemPlace} (ht : P.underlying t = some (.slice e)) (he : P.underlying e = some (.int k)) (hc : P.cellsOf e = 1)
    (h : DataW.trod enc P w 0 (fun _ => true) true n t [c] = some y) : ∃ l : List Int, SL w (fun i => i < w.heap.size) k c l := by
  rcases open_ints ht he hc h with ⟨hcs, _⟩ | ⟨a, len, cap, zs, hcs, _, hl, hm, hz, _, hcell, hwz⟩
  · simp at hcs
    subst hcs
    exact ⟨[], none, 0, rfl, by simp, fun h => by simp at h⟩
  · simp at hcs
    subst hcs
    simp only [if_true] at hz
    have hlen : (zs.take len).length = len := by rw [List.length_take]; omega
    unfold maxLen at hm
    refine ⟨zs.take len, some a, cap, by rw [hlen], by rw [hlen]; omega, fun h0 => ?_⟩
    rw [hlen] at h0 ⊢
    have c0 := hcell 0 (by omega)
    obtain ⟨b, o, rfl, hbl⟩ := spot_lit c0
    refine ⟨b, o, rfl, hbl, hbl, fun j hj => ?_⟩
    have := hcell j (by omega)
    rw [Addr.add_lit] at this
    rw [this]
    simp [List.getD, hj]

theorem open_A3 {r : Reach} {b0 : Nat} {t e i s : TypeId} {fs : Array Field} {v : Value} {d : DataW H} {p : List MemPlace} (ht : P.underlying t = some (.slice e)) (he : P.underlying e = some (.struct fs))
    (hone : oneCellFields P fs = true) (hC : P.cellsOf e = fs.size) (hi : P.underlying i = some (.int .i64)) (hs : P.underlying s = some (.slice i)) (hc1 : P.cellsOf i = 1) (hf : fs.toList.map (·.type) = [i, i, s])
    (hv : Value.okWide P w r b0 t v) (h : DataW.Trod enc P w 0 (fun _ => true) true t v d p) :
    ∃ l : List A3, SS w (fun i => i < w.heap.size) A3.cells 3 v l ∧ ∀ x ∈ l, A3.wf w x := by
  obtain ⟨fs⟩ := fs
  have hlen : fs.length = 3 := by simpa using congrArg List.length hf
  match fs, hlen with
  | [f0, f1, f2], _ =>
    simp only [List.map_cons, List.map_nil, List.cons.injEq, and_true] at hf
    obtain ⟨t0, t1, t2⟩ := hf
    obtain ⟨rows, hS, hr⟩ := open_rows ht he hone hC (by simp) hv h
    obtain ⟨l, rfl, hl⟩ := rows_map (g := A3.cells) (G := A3.wf w) (fun x hx => by
      obtain ⟨hl, hj⟩ := hx
      obtain ⟨u0, y0, n0, e0, h0⟩ := hj 0 f0 rfl
      obtain ⟨u1, y1, n1, e1, h1⟩ := hj 1 f1 rfl
      obtain ⟨u2, y2, n2, e2, h2⟩ := hj 2 f2 rfl
      rw [t0] at h0
      rw [t1] at h1
      rw [t2] at h2
      obtain ⟨a0, rfl, w0⟩ := field_int hi h0
      obtain ⟨a1, rfl, w1⟩ := field_int hi h1
      obtain ⟨l2, w2⟩ := field_SL hs hi hc1 h2
      match x, hl with
      | [x0, x1, x2], _ =>
        simp at e0 e1 e2
        subst e0 e1 e2
        exact ⟨⟨a0, a1, _, l2⟩, rfl, i64_b w0, i64_b w1, w2⟩) rows hr
    exact ⟨l, hS.of_map, hl⟩
end
end Go.Proofs.Ytdibadfecoipfaa.RL
