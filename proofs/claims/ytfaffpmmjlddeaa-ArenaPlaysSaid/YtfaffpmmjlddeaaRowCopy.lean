/- A list that is copied into a new row by append; a row of the call's own that is written into. No condition. -/
import Derived.Test.YtfaffpmmjlddeaaQueue
set_option linter.unusedVariables false
set_option linter.unusedSimpArgs false
namespace Go.Proofs.Ytfaffpmmjlddeaa.W
open Go.RowKit

section
variable {P : Program} {w : World}
theorem run_append_new {ok : Nat → Prop} {k : IntKind} (t ty e : TypeId) (i : TypeInfo) (z : Value) (bytes : Nat) (ht : P.underlying t = some (.slice e)) (hi : P.info? e = some i) (hz : i.zero = some z) (hs : i.size = 1) (hby : i.bytes = bytes) (hzc : z.cells.size = 1)
    (d : Nat) (hd : Blk w d e #[]) {v : Value} {l : List Int} (h : SL w ok k v l) (hbytes : l.length * bytes ≤ 140737488355328) :
    ∃ A' c' w', (Builtin.append_ #[t, t] ty #[.slice (some ⟨d, 0, none⟩) 0 0, v]).run P w = .ok (.slice A' l.length c') w' ∧ QR w' (fun j => j = d ∨ w.heap.size ≤ j) e A' l.length c' (l.map (Value.int k)) ∧ Keep (fun _ => False) w w' := by
  subst hby
  obtain ⟨A, c, rfl, hl, hc⟩ := h
  by_cases h0 : l.length = 0
  · have : l = [] := List.eq_nil_of_length_eq_zero h0
    subst this
    refine ⟨some ⟨d, 0, none⟩, 0, w, ?_, ⟨rfl, Nat.le_refl _, by omega, .inr ⟨d, 0, #[], rfl, .inl rfl, hd, by simp, by simp⟩⟩, Keep.refl _ _⟩
    cases A with
    | none =>
      have hf := run_firstCells_none (P := P) (w := w) i.size 0 0 c
      simp [Builtin.append_, run_underlying ht, sizeOf, typeInfo, hi, hs, Builtin.lenOf, Addr.add_lit, storeCells, Builtin.firstCells]
    | some a =>
      have hf := run_firstCells_some (P := P) w 1 0 a 0 c [] rfl (by simp)
      simp [Builtin.append_, run_underlying ht, sizeOf, typeInfo, hi, hs, Builtin.lenOf, Addr.add_lit, hf, storeCells]
  · obtain ⟨b, o, rfl, _, hlt, hcell⟩ := hc (by omega)
    have hr := run_append_grow (P := P) w t ty e i z ht hi hz ⟨d, 0, none⟩ 0 0 [] (by simp) (by simp) ⟨b, o, none⟩ l.length c (l.map (Value.int k)) (by simp [hs]) (fun j u hu => by
      have hj : j < l.length := by
        rcases Nat.lt_or_ge j l.length with h | h
        · exact h
        · rw [List.getElem?_eq_none (by simpa using h)] at hu; cases hu
      rw [Addr.add_lit, hcell j hj]
      simp [hj] at hu ⊢
      exact hu) (by omega) (by omega) (growslice_fits (by omega) (by simpa using hbytes))
    have hge := grownCap_ge w (0 + l.length) 0 e
    have hcm := grownCap_le_maxLen w (0 + l.length) 0 e (by unfold maxLen; omega)
    unfold maxLen at hcm
    simp only [Nat.zero_add] at hr hge hcm
    refine ⟨_, _, _, hr, ⟨by simp, hge, by omega, .inr ⟨w.heap.size, 0, _, rfl, .inr (Nat.le_refl _), Blk.new w.drew e _, ?_, ?_⟩⟩, ((Keep.refl _ w).drew).alloc _⟩
    · simp only [Array.size_append, List.size_toArray, size_zeroCells, hzc, List.length_map]
      simp
      omega
    · simp

theorem wpList_append_new {ok : Nat → Prop} {k : IntKind} {ops : Array Oper} {rest : List Oper} {o : Oper} {a : Act} {Q : Exit → Act → World → Prop} (hgd : o.guard = none) (s x : Operand) (t : TypeId)
    (ho : o.op = .call { callee := .builtin .append, args := #[s, x], argTypes := #[t, t] })
    (e : TypeId) (i : TypeInfo) (z : Value) (bytes : Nat) (ht : P.underlying t = some (.slice e)) (hi : P.info? e = some i) (hz : i.zero = some z) (hs : i.size = 1) (hby : i.bytes = bytes) (hzc : z.cells.size = 1)
    (d : Nat) (hd : Blk w d e #[]) (hsv : a.eval s = .slice (some ⟨d, 0, none⟩) 0 0) {v : Value} {l : List Int} (hxv : a.eval x = v) (hx : SL w ok k v l) (hbytes : l.length * bytes ≤ 140737488355328)
    (h : ∀ A' c' w', QR w' (fun j => j = d ∨ w.heap.size ≤ j) e A' l.length c' (l.map (Value.int k)) → Keep (fun _ => False) w w' → wpList P ops Q rest (a.put o.dst (.slice A' l.length c')) w') : wpList P ops Q (o :: rest) a w := by
  refine wpList_plain hgd fun K hK => ?_
  obtain ⟨A', c', w', hr, h2, h3⟩ := run_append_new (P := P) t o.type e i z bytes ht hi hz hs hby hzc d hd hx hbytes
  unfold Oper.wp execOp
  simp only [ho, resolve, invoke, builtin, Sem.run_bind, Sem.run_pure, Result.andThen_ok, List.map_toArray, List.map_cons, List.map_nil, hsv, hxv, hr]
  exact hK _ _ (h A' c' w' h2 h3)
end

section
variable {w : World} {ok : Nat → Prop} {e : TypeId} {A : Option Addr} {n c : Nat} {xs : List Value}
/-- A row, written into. -/
theorem QR.write (h : QR w ok e A n c xs) {i : Nat} (hi : i < n) : ∃ g off, A = some ⟨g, off, none⟩ ∧ ok g ∧ g < w.heap.size ∧ w.cell? ⟨g, off + i, none⟩ = xs[i]? ∧ w.frozen? ⟨g, off + i, none⟩ = false ∧ ∀ u, QR (w.setCell ⟨g, off + i, none⟩ u) ok e A n c (xs.set i u) := by
  obtain ⟨h1, h2, h3, h4⟩ := h
  rcases h4 with ⟨_, h0⟩ | ⟨g, off, cur, hA, hg, hb, hs, ht⟩
  · omega
  · refine ⟨g, off, hA, hg, hb.lt, ?_, hb.frozen _, fun u => ⟨by simpa using h1, h2, h3, .inr ⟨g, off, _, hA, hg, hb.set_ (off + i) u, by simpa using hs, ?_⟩⟩⟩
    · rw [hb.cell, ← ht, List.getElem?_take, if_pos hi, List.getElem?_drop, Array.getElem?_toList]
    · rw [Array.toList_setIfInBounds, List.drop_set, if_neg (by omega), show off + i - off = i by omega, List.take_set, ht]
end
end Go.Proofs.Ytfaffpmmjlddeaa.W
