/- A row of one-cell elements that may begin inside its block: appended to, cut at either end, read. No condition. -/
import Derived.Test.YtjgjablmkljfoaaMem
import Derived.Maps.AppendAt
import Derived.Laws.Tables
import Derived.Laws.CopyRow
set_option linter.unusedVariables false
set_option linter.unusedSimpArgs false
namespace Go.Proofs.Ytjgjablmkljfoaa.W
open Go.RowKit

/-- The slice value '.slice A n c' holds the cells xs of element type e, in a block of 'ok' (or is nil). -/
def QR (w : World) (ok : Nat → Prop) (e : TypeId) (A : Option Addr) (n c : Nat) (xs : List Value) : Prop :=
  xs.length = n ∧ n ≤ c ∧ c ≤ 9223372036854775807 ∧
    ((A = none ∧ c = 0) ∨ ∃ g off cur, A = some ⟨g, off, none⟩ ∧ ok g ∧ Blk w g e cur ∧ off + c ≤ cur.size ∧ (cur.toList.drop off).take n = xs)

section
variable {w w' : World} {ok ok' : Nat → Prop} {e : TypeId} {A : Option Addr} {n c : Nat} {xs : List Value}
theorem QR.nil (w : World) (ok : Nat → Prop) (e : TypeId) : QR w ok e none 0 0 [] := ⟨rfl, Nat.le_refl _, by omega, .inl ⟨rfl, rfl⟩⟩
theorem QR.keep (h : QR w ok e A n c xs) (hk : Keep ok' w w') (hn : ∀ i, ok i → ok' i → False) : QR w' ok e A n c xs := by
  obtain ⟨h1, h2, h3, h4⟩ := h
  refine ⟨h1, h2, h3, ?_⟩
  rcases h4 with h4 | ⟨g, off, cur, hA, hg, hb, r⟩
  · exact .inl h4
  · exact .inr ⟨g, off, cur, hA, hg, hk.blk hb (fun x => hn g hg x), r⟩
theorem QR.mono (h : QR w ok e A n c xs) (hs : ∀ i, ok i → ok' i) : QR w ok' e A n c xs := by
  obtain ⟨h1, h2, h3, h4⟩ := h
  refine ⟨h1, h2, h3, ?_⟩
  rcases h4 with h4 | ⟨g, off, cur, hA, hg, r⟩
  · exact .inl h4
  · exact .inr ⟨g, off, cur, hA, hs g hg, r⟩
theorem QR.bound (h : QR w ok e A n c xs) : QR w (fun i => ok i ∧ i < w.heap.size) e A n c xs := by
  obtain ⟨h1, h2, h3, h4⟩ := h
  refine ⟨h1, h2, h3, ?_⟩
  rcases h4 with h4 | ⟨g, off, cur, hA, hg, hb, r⟩
  · exact .inl h4
  · exact .inr ⟨g, off, cur, hA, ⟨hg, hb.lt⟩, hb, r⟩
theorem QR.ne_ {b : Nat} {t : TypeId} {cs : Array Value} (h : QR w ok e A n c xs) (hb : Blk w b t cs) (hne : e ≠ t) : QR w (fun i => ok i ∧ i ≠ b) e A n c xs := by
  obtain ⟨h1, h2, h3, h4⟩ := h
  refine ⟨h1, h2, h3, ?_⟩
  rcases h4 with h4 | ⟨g, off, cur, hA, hg, hbg, r⟩
  · exact .inl h4
  · exact .inr ⟨g, off, cur, hA, ⟨hg, hbg.ne_ hb hne⟩, hbg, r⟩
theorem QR.drewN (h : QR w ok e A n c xs) (m : Nat) : QR (w.drewN m) ok e A n c xs := h
theorem QR.alloc (h : QR w ok e A n c xs) (o : Obj) : QR (w.alloc o) ok e A n c xs := h.keep (ok' := fun _ => False) ((Keep.refl _ w).alloc o) (fun _ _ h => h)
theorem QR.far (h : QR w ok e A n c xs) {p : Addr} (hp : ¬ ok p.block) (u : Value) : QR (w.setCell p u) ok e A n c xs :=
  h.keep (ok' := fun i => i = p.block) (Keep.set_ (p := p) (Keep.refl (fun i => i = p.block) w) (.inl rfl) u) (fun i h1 h2 => hp (h2 ▸ h1))

/-- Where its elements lie, if it has one. -/
theorem QR.at_ (h : QR w ok e A n c xs) {i : Nat} (hi : i < n) : ∃ g off, A = some ⟨g, off, none⟩ ∧ ok g ∧ g < w.heap.size ∧ (∀ j, j < n → w.cell? ⟨g, off + j, none⟩ = xs[j]?) ∧ ∀ j, w.frozen? ⟨g, j, none⟩ = false := by
  obtain ⟨h1, h2, h3, h4⟩ := h
  rcases h4 with ⟨_, h0⟩ | ⟨g, off, cur, hA, hg, hb, hs, ht⟩
  · omega
  · refine ⟨g, off, hA, hg, hb.lt, fun j hj => ?_, fun j => hb.frozen j⟩
    rw [hb.cell, ← ht, List.getElem?_take, if_pos hj, List.getElem?_drop, Array.getElem?_toList]

/-- Its first one goes. -/
theorem QR.tail (h : QR w ok e A n c xs) (hn : 1 ≤ n) : QR w ok e (if c = 1 then A else A.map (·.add 1)) (n - 1) (c - 1) (xs.drop 1) := by
  obtain ⟨h1, h2, h3, h4⟩ := h
  refine ⟨by rw [List.length_drop]; omega, by omega, by omega, ?_⟩
  rcases h4 with ⟨_, h0⟩ | ⟨g, off, cur, rfl, hg, hb, hs, ht⟩
  · omega
  · refine .inr ?_
    by_cases hc : c = 1
    · rw [if_pos hc]
      have : n = 1 := by omega
      subst this
      refine ⟨g, off, cur, rfl, hg, hb, by omega, ?_⟩
      rw [← ht]
      simp
    · rw [if_neg hc]
      refine ⟨g, off + 1, cur, by simp [Addr.add_lit], hg, hb, by omega, ?_⟩
      rw [← ht, List.drop_take, List.drop_drop]

/-- Its last ones go. -/
theorem QR.take (h : QR w ok e A n c xs) {m : Nat} (hm : m ≤ n) : QR w ok e A m c (xs.take m) := by
  obtain ⟨h1, h2, h3, h4⟩ := h
  refine ⟨by rw [List.length_take]; omega, by omega, h3, ?_⟩
  rcases h4 with h4 | ⟨g, off, cur, rfl, hg, hb, hs, ht⟩
  · exact .inl h4
  · exact .inr ⟨g, off, cur, rfl, hg, hb, hs, by rw [← ht, List.take_take, Nat.min_eq_left hm]⟩

theorem QR.sl {k : IntKind} {l : List Int} (h : QR w ok e A l.length c (l.map (Value.int k))) : SL w ok k (.slice A l.length c) l := by
  refine ⟨A, c, rfl, by have := h.2.1; have := h.2.2.1; omega, fun h0 => ?_⟩
  obtain ⟨g, off, hA, hg, hlt, hc, _⟩ := h.at_ h0
  exact ⟨g, off, hA, hg, hlt, fun j hj => by rw [hc j hj]; simp [hj]⟩
end

section
variable {P : Program} {w : World}

theorem run_append_q {ok : Nat → Prop} (t ty e : TypeId) (i : TypeInfo) (z : Value) (bytes : Nat) (ht : P.underlying t = some (.slice e)) (hi : P.info? e = some i) (hz : i.zero = some z) (hs : i.size = 1) (hby : i.bytes = bytes) (hzc : z.cells.size = 1)
    {A : Option Addr} {n c : Nat} {xs : List Value} (hq : QR w ok e A n c xs) (B : Nat) (u : Value) (hcell : w.cell? ⟨B, 0, none⟩ = some u) (h1 : u.oneCell' = true) (h63 : n + 1 ≤ 9223372036854775807) (hbytes : (n + 1) * bytes ≤ 140737488355328) :
    ∃ A' c' w', (Builtin.append_ #[t, t] ty #[.slice A n c, .slice (some ⟨B, 0, none⟩) 1 1]).run P w = .ok (.slice A' (n + 1) c') w' ∧ QR w' (fun k => ok k ∨ w.heap.size ≤ k) e A' (n + 1) c' (xs ++ [u]) ∧ Keep ok w w' := by
  subst hby
  obtain ⟨q1, q2, q3, q4⟩ := hq
  have hnews : ∀ j v, [u][j]? = some v → w.cell? ((⟨B, 0, none⟩ : Addr).add j) = some v := by
    intro j v hv
    match j, hv with
    | 0, hv => simp at hv; subst hv; simpa [Addr.add] using hcell
  have hone : ∀ v ∈ [u], v.oneCell' = true := by intro v hv; simp at hv; subst hv; exact h1
  have grown : ∀ old, old < n + 1 → 
      QR (w.drew.alloc (.cells (xs.toArray ++ [u].toArray ++ Builtin.zeroCells z.cells (grownCap w (n + 1) old e - (n + 1))) e)) (fun k => ok k ∨ w.heap.size ≤ k) e (some ⟨w.heap.size, 0, none⟩) (n + 1) (grownCap w (n + 1) old e) (xs ++ [u]) ∧
      Keep ok w (w.drew.alloc (.cells (xs.toArray ++ [u].toArray ++ Builtin.zeroCells z.cells (grownCap w (n + 1) old e - (n + 1))) e)) := by
    intro old ho
    have hge := grownCap_ge w (n + 1) old e
    have hcm := grownCap_le_maxLen w (n + 1) old e (by unfold maxLen; omega)
    unfold maxLen at hcm
    refine ⟨⟨by simp [q1], hge, by omega, .inr ⟨w.heap.size, 0, _, rfl, .inr (Nat.le_refl _), Blk.new w.drew e _, ?_, ?_⟩⟩, ((Keep.refl ok w).drew).alloc _⟩
    · simp only [Array.size_append, List.size_toArray, size_zeroCells, hzc, q1, List.length_cons, List.length_nil]
      omega
    · simp only [List.drop_zero, Array.toList_append, List.append_assoc]
      rw [← List.append_assoc, show n + 1 = (xs ++ [u]).length by simp [q1]]
      exact List.take_left
  rcases q4 with ⟨rfl, rfl⟩ | ⟨g, off, cur, rfl, hg, hb, hsz, htake⟩
  · have hn : n = 0 := by omega
    subst hn
    have hx : xs = [] := List.eq_nil_of_length_eq_zero q1
    subst hx
    have hr := run_append_nil (P := P) w t ty e i z ht hi hz ⟨B, 0, none⟩ 1 1 [u] (by simp [hs]) hnews (by omega) (by omega) (by omega)
    have hgr := grown 0 (by omega)
    simp only [Nat.zero_add, List.nil_append, Array.empty_append] at hgr ⊢
    exact ⟨_, _, _, hr, hgr.1, hgr.2⟩
  · by_cases hroom : n + 1 ≤ c
    · have hst := run_storeCells_at P g (off + n) e [u] 0 cur w hb (by simp; omega) hone
      have hf := run_firstCells_some (P := P) w i.size 1 ⟨B, 0, none⟩ 1 1 [u] (by simp [hs]) hnews
      rw [hs] at hf
      have hr : (Builtin.append_ #[t, t] ty #[.slice (some ⟨g, off, none⟩) n c, .slice (some ⟨B, 0, none⟩) 1 1]).run P w =
          .ok (.slice (some ⟨g, off, none⟩) (n + 1) c) (w.setRow g (cur.toList.take (off + n) ++ [u] ++ cur.toList.drop (off + n + 1)).toArray) := by
        simp only [Nat.add_zero] at hst
        simp [Builtin.append_, run_underlying ht, sizeOf, typeInfo, hi, hs, Builtin.lenOf, hroom, hf, Addr.add_lit, hst]
      refine ⟨_, _, _, hr, ⟨by simp [q1], hroom, q3, .inr ⟨g, off, _, rfl, .inl hg, setRow_heap w g cur _ e _ hb, ?_, ?_⟩⟩, ⟨rfl, rfl, rfl, by simp [World.setRow], fun k _ hk => setRow_other w g k _ (fun e => hk (e ▸ hg))⟩⟩
      · simp only [List.size_toArray, List.length_append, List.length_take, List.length_drop, Array.length_toList, List.length_cons, List.length_nil]
        omega
      · have hl : (cur.toList.take (off + n)).length = off + n := by rw [List.length_take, Array.length_toList]; omega
        rw [List.drop_append_of_le_length (by simp [hl]; omega), List.drop_append_of_le_length (by rw [hl]; omega), List.drop_take, show off + n - off = n by omega, htake]
        rw [show n + 1 = (xs ++ [u]).length by simp [q1]]
        exact List.take_left
    · have holds : ∀ j v, xs[j]? = some v → w.cell? ((⟨g, off, none⟩ : Addr).add j) = some v := by
        intro j v hv
        have hj : j < n := by rw [← q1]; exact (List.getElem?_eq_some_iff.1 hv).1
        rw [Addr.add_lit, hb.cell]
        rw [← htake, List.getElem?_take, if_pos hj, List.getElem?_drop, Array.getElem?_toList] at hv
        exact hv
      have hr := run_append_grow (P := P) w t ty e i z ht hi hz ⟨g, off, none⟩ n c xs (by simp [hs, q1]) holds ⟨B, 0, none⟩ 1 1 [u] (by simp [hs]) hnews (by omega) (by omega) (growslice_fits (by omega) hbytes)
      have hgr := grown c (by omega)
      exact ⟨_, _, _, hr, hgr.1, hgr.2⟩

theorem wpList_append_q {ok : Nat → Prop} {ops : Array Oper} {rest : List Oper} {o : Oper} {a : Act} {Q : Exit → Act → World → Prop} (hgd : o.guard = none) (s x : Operand) (t : TypeId)
    (ho : o.op = .call { callee := .builtin .append, args := #[s, x], argTypes := #[t, t] })
    (e : TypeId) (i : TypeInfo) (z : Value) (bytes : Nat) (ht : P.underlying t = some (.slice e)) (hi : P.info? e = some i) (hz : i.zero = some z) (hs : i.size = 1) (hby : i.bytes = bytes) (hzc : z.cells.size = 1)
    (A : Option Addr) (n c : Nat) (xs : List Value) (hsv : a.eval s = .slice A n c) (hq : QR w ok e A n c xs) (B : Nat) (u : Value) (hxv : a.eval x = .slice (some ⟨B, 0, none⟩) 1 1) (hcell : w.cell? ⟨B, 0, none⟩ = some u) (h1 : u.oneCell' = true)
    (h63 : n + 1 ≤ 9223372036854775807) (hbytes : (n + 1) * bytes ≤ 140737488355328)
    (h : ∀ A' c' w', QR w' (fun k => ok k ∨ w.heap.size ≤ k) e A' (n + 1) c' (xs ++ [u]) → Keep ok w w' → wpList P ops Q rest (a.put o.dst (.slice A' (n + 1) c')) w') : wpList P ops Q (o :: rest) a w := by
  refine wpList_plain hgd fun K hK => ?_
  obtain ⟨A', c', w', hr, h2, h3⟩ := run_append_q (P := P) t o.type e i z bytes ht hi hz hs hby hzc hq B u hcell h1 h63 hbytes
  unfold Oper.wp execOp
  simp only [ho, resolve, invoke, builtin, Sem.run_bind, Sem.run_pure, Result.andThen_ok, List.map_toArray, List.map_cons, List.map_nil, hsv, hxv, hr]
  exact hK _ _ (h A' c' w' h2 h3)

/-- 's[1:]' of a slice of one-cell elements. -/
theorem run_cut1 {t e : TypeId} {i : TypeInfo} (ht : P.underlying t = some (.slice e)) (hi : P.info? e = some i) (hs : i.size = 1) (A : Option Addr) (n c : Nat) (hn : 1 ≤ n) (W : World) :
    (Instr.slice t (.slice A n c) (some (.int .i64 1)) none none).run P W = .ok (.slice (if c = 1 then A else A.map (·.add 1)) (n - 1) (c - 1)) W := by
  have hel : P.elem t = e := by simp [Program.elem, ht]
  have hu : P.underlying t = some (.slice (P.elem t)) := by rw [hel]; exact ht
  rw [run_slice_l W t A n c hu .i64 1 (by omega) (by omega), hel]
  simp [sizeOf, typeInfo, hi, hs, sliced, Result.andThen]
end
end Go.Proofs.Ytjgjablmkljfoaa.W
