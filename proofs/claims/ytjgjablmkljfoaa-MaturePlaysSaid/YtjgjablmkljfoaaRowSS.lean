/- Slices of structs that come in, as lists. No condition. -/
import Derived.Test.YtjgjablmkljfoaaRowLib
import Derived.Test.YtjgjablmkljfoaaStructs
import Derived.Deep.Slices
import Derived.ChangeSame
set_option linter.unusedVariables false
namespace Go.Proofs.Ytjgjablmkljfoaa.RL
open Go.ChangeShapes Go.WideShapes Go.ChangeAt Go.RowKit Go.Deep Go.Proofs.Ytjgjablmkljfoaa.W

section
variable {H : Type} {enc : TypeId × Value → H} {P : Program} {w : World}
theorem spot_lit {a : Addr} {v : Value} (h : w.cell? (a.add 0) = some v) : ∃ b o, a = ⟨b, o, none⟩ ∧ b < w.heap.size := by
  obtain ⟨b, o, s⟩ := a
  have e0 : (Addr.mk b o s).add 0 = ⟨b, o, s⟩ := by simp [Addr.add]
  rw [e0] at h
  have hl := World.block_lt_of_cell? w _ h
  cases s with
  | none => exact ⟨b, o, rfl, hl⟩
  | some x =>
    unfold World.cell? at h
    split at h
    · simp at h
    · cases h

theorem open_rows {r : Reach} {b0 : Nat} {t e : TypeId} {fs : Array Field} {v : Value} {d : DataW H} {p : List MemPlace} (ht : P.underlying t = some (.slice e)) (he : P.underlying e = some (.struct fs))
    (hone : oneCellFields P fs = true) (hC : P.cellsOf e = fs.size) (h0 : 0 < fs.size)
    (hv : Value.okWide P w r b0 t v) (h : DataW.Trod enc P w 0 (fun _ => true) true t v d p) :
    ∃ rows : List (List Value), SS w (fun i => i < w.heap.size) id fs.size v rows ∧
      ∀ x ∈ rows, x.length = fs.size ∧ ∀ (j : Nat) (f : Field), fs[j]? = some f → ∃ (u : Value) (y : DataW H × List MemPlace) (n : Nat), x[j]? = some u ∧ DataW.trod enc P w 0 (fun _ => true) true n f.type [u] = some y := by
  obtain ⟨a0, len, cap, rfl⟩ := okWide_slice ht hv
  obtain ⟨fuel, hf⟩ := h
  rcases open_slice ht (by simpa [Value.cells] using hf) with ⟨hcs, _⟩ | ⟨a, len', cap', m, n, D, Pl, hcs, hb, hl, hm, hmm, hx, hi⟩
  · simp at hcs
    obtain ⟨rfl, rfl, rfl⟩ := hcs
    exact ⟨[], ⟨none, 0, rfl, by simp, fun h => by simp at h⟩, fun n hn => by simp at hn⟩
  · simp at hcs
    obtain ⟨rfl, rfl, rfl⟩ := hcs
    simp only [if_true] at hmm
    subst hmm
    unfold maxLen at hm
    have hrow : ∀ i, i < len → ∃ cs : List Value, cs.length = fs.size ∧ (∀ j u, cs[j]? = some u → w.cell? (a.add (i * fs.size + j)) = some u) ∧ ∀ (j : Nat) (f : Field), fs[j]? = some f → ∃ (u : Value) (y : DataW H × List MemPlace) (n : Nat), cs[j]? = some u ∧ DataW.trod enc P w 0 (fun _ => true) true n f.type [u] = some y := by
      intro i him
      obtain ⟨cs', hc, ht'⟩ := hi i (by omega)
      rw [hC] at hc
      obtain ⟨ys, n', hn', hy, hlen, hyl, hf⟩ := DataW.trod_struct he ht'
      obtain ⟨_, hcl, hat⟩ := World.cells?_some hc
      have hcl' : cs'.length = fs.size := hcl
      refine ⟨cs', hcl', fun j u hu => ?_, fun j f hj => ?_⟩
      · have hjl : j < fs.size := by have := (List.getElem?_eq_some_iff.1 hu).1; omega
        have hcell := hat j hjl
        rw [← Go.Deep.add_add, hcell, hu]
      · obtain ⟨ho, hk⟩ := hone_of hone j f hj
        have hjl : j < fs.size := (Array.getElem?_eq_some_iff.1 hj).1
        have hv : cs'[j]? = some (cs'[j]'(by omega)) := List.getElem?_eq_getElem (by omega)
        have h1 := hf j f hj
        rw [ho, hk] at h1
        have hone' : (cs'.drop j).take 1 = [cs'[j]'(by omega)] := by
          rw [List.drop_eq_getElem_cons (by omega)]
          rfl
        rw [hone'] at h1
        have hys : ys[j]? = some (ys[j]'(by omega)) := List.getElem?_eq_getElem (by omega)
        exact ⟨_, _, _, hv, h1.trans hys⟩
    have hpick : ∀ k, k ≤ len → ∃ rows : List (List Value), rows.length = k ∧ ∀ i x, rows[i]? = some x → x.length = fs.size ∧ (∀ j u, x[j]? = some u → w.cell? (a.add (i * fs.size + j)) = some u) ∧ ∀ (j : Nat) (f : Field), fs[j]? = some f → ∃ (u : Value) (y : DataW H × List MemPlace) (n : Nat), x[j]? = some u ∧ DataW.trod enc P w 0 (fun _ => true) true n f.type [u] = some y := by
      intro k
      induction k with
      | zero => exact fun _ => ⟨[], rfl, fun i x hx => by simp at hx⟩
      | succ k ih =>
        intro hk
        obtain ⟨rows, hr, hall⟩ := ih (by omega)
        obtain ⟨cs, h1, h2, h3⟩ := hrow k (by omega)
        refine ⟨rows ++ [cs], by simp [hr], fun i x hx => ?_⟩
        rcases Nat.lt_or_ge i rows.length with hlt | hge
        · rw [List.getElem?_append_left hlt] at hx
          exact hall i x hx
        · rw [List.getElem?_append_right hge] at hx
          have : i = k := by
            have := (List.getElem?_eq_some_iff.1 hx).1
            simp at this
            omega
          subst this
          rw [hr, Nat.sub_self] at hx
          simp at hx
          subst hx
          exact ⟨h1, h2, h3⟩
    obtain ⟨rows, hr, hall⟩ := hpick len (Nat.le_refl _)
    refine ⟨rows, ⟨some a, m, by rw [hr], by omega, fun h00 => ?_⟩, fun x hx => ?_⟩
    · rw [hr] at h00
      obtain ⟨x, hx⟩ : ∃ x, rows[0]? = some x := ⟨rows[0]'(by omega), List.getElem?_eq_getElem (by omega)⟩
      obtain ⟨hx1, hx2, hx3⟩ := hall 0 x hx
      have hu : x[0]? = some (x[0]'(by omega)) := List.getElem?_eq_getElem (by omega)
      have c0 := hx2 0 _ hu
      simp only [Nat.zero_mul, Nat.add_zero] at c0
      obtain ⟨b, o, rfl, hbl⟩ := spot_lit c0
      refine ⟨b, o, rfl, hbl, hbl, fun j y hy i u hu => ?_⟩
      have := (hall j y hy).2.1 i u hu
      rwa [Addr.add_lit] at this
    · obtain ⟨i, hi', hx'⟩ := List.getElem_of_mem hx
      exact ⟨(hall i x (by rw [← hx']; exact List.getElem?_eq_getElem hi')).1, (hall i x (by rw [← hx']; exact List.getElem?_eq_getElem hi')).2.2⟩

theorem rows_map {α : Type} {Q : List Value → Prop} {g : α → List Value} {G : α → Prop} (hq : ∀ x, Q x → ∃ a, x = g a ∧ G a) : ∀ rows : List (List Value), (∀ x ∈ rows, Q x) → ∃ l : List α, rows = l.map g ∧ ∀ a ∈ l, G a
  | [], _ => ⟨[], rfl, fun a h => by simp at h⟩
  | x :: xs, h => by
    obtain ⟨l, e, hl⟩ := rows_map hq xs (fun y hy => h y (List.mem_cons_of_mem _ hy))
    obtain ⟨a, ea, ha⟩ := hq x (h x List.mem_cons_self)
    exact ⟨a :: l, by rw [List.map_cons, ← ea, ← e], fun b hb => by
      rcases List.mem_cons.1 hb with rfl | hb
      · exact ha
      · exact hl b hb⟩

theorem open_A2 {r : Reach} {b0 : Nat} {t e i : TypeId} {fs : Array Field} {v : Value} {d : DataW H} {p : List MemPlace} (ht : P.underlying t = some (.slice e)) (he : P.underlying e = some (.struct fs))
    (hone : oneCellFields P fs = true) (hC : P.cellsOf e = fs.size) (hi : P.underlying i = some (.int .i64)) (hf : fs.toList.map (·.type) = [i, i])
    (hv : Value.okWide P w r b0 t v) (h : DataW.Trod enc P w 0 (fun _ => true) true t v d p) :
    ∃ l : List A2, SS w (fun i => i < w.heap.size) A2.cells 2 v l ∧ ∀ x ∈ l, A2.wf x := by
  obtain ⟨fs⟩ := fs
  have hlen : fs.length = 2 := by simpa using congrArg List.length hf
  match fs, hlen with
  | [f0, f1], _ =>
    simp only [List.map_cons, List.map_nil, List.cons.injEq, and_true] at hf
    obtain ⟨t0, t1⟩ := hf
    obtain ⟨rows, hS, hr⟩ := open_rows ht he hone hC (by simp) hv h
    obtain ⟨l, rfl, hl⟩ := rows_map (g := A2.cells) (G := A2.wf) (fun x hx => by
      obtain ⟨hl, hj⟩ := hx
      obtain ⟨u0, y0, n0, e0, h0⟩ := hj 0 f0 rfl
      obtain ⟨u1, y1, n1, e1, h1⟩ := hj 1 f1 rfl
      rw [t0] at h0
      rw [t1] at h1
      obtain ⟨a0, rfl, w0⟩ := field_int hi h0
      obtain ⟨a1, rfl, w1⟩ := field_int hi h1
      match x, hl with
      | [x0, x1], _ =>
        simp at e0 e1
        subst e0 e1
        exact ⟨⟨a0, a1⟩, rfl, i64_b w0, i64_b w1⟩) rows hr
    exact ⟨l, hS.of_map, hl⟩

theorem open_A5 {r : Reach} {b0 : Nat} {t e i k : TypeId} {fs : Array Field} {v : Value} {d : DataW H} {p : List MemPlace} (ht : P.underlying t = some (.slice e)) (he : P.underlying e = some (.struct fs))
    (hone : oneCellFields P fs = true) (hC : P.cellsOf e = fs.size) (hi : P.underlying i = some (.int .i64)) (hk : P.underlying k = some (.int .u64)) (hf : fs.toList.map (·.type) = [i, i, i, i, k])
    (hv : Value.okWide P w r b0 t v) (h : DataW.Trod enc P w 0 (fun _ => true) true t v d p) :
    ∃ l : List A5, SS w (fun i => i < w.heap.size) A5.cells 5 v l ∧ ∀ x ∈ l, A5.wf x := by
  obtain ⟨fs⟩ := fs
  have hlen : fs.length = 5 := by simpa using congrArg List.length hf
  match fs, hlen with
  | [f0, f1, f2, f3, f4], _ =>
    simp only [List.map_cons, List.map_nil, List.cons.injEq, and_true] at hf
    obtain ⟨t0, t1, t2, t3, t4⟩ := hf
    obtain ⟨rows, hS, hr⟩ := open_rows ht he hone hC (by simp) hv h
    obtain ⟨l, rfl, hl⟩ := rows_map (g := A5.cells) (G := A5.wf) (fun x hx => by
      obtain ⟨hl, hj⟩ := hx
      obtain ⟨u0, y0, n0, e0, h0⟩ := hj 0 f0 rfl
      obtain ⟨u1, y1, n1, e1, h1⟩ := hj 1 f1 rfl
      obtain ⟨u2, y2, n2, e2, h2⟩ := hj 2 f2 rfl
      obtain ⟨u3, y3, n3, e3, h3⟩ := hj 3 f3 rfl
      obtain ⟨u4, y4, n4, e4, h4⟩ := hj 4 f4 rfl
      rw [t0] at h0
      rw [t1] at h1
      rw [t2] at h2
      rw [t3] at h3
      rw [t4] at h4
      obtain ⟨a0, rfl, w0⟩ := field_int hi h0
      obtain ⟨a1, rfl, w1⟩ := field_int hi h1
      obtain ⟨a2, rfl, w2⟩ := field_int hi h2
      obtain ⟨a3, rfl, w3⟩ := field_int hi h3
      obtain ⟨a4, rfl, w4⟩ := field_int hk h4
      match x, hl with
      | [x0, x1, x2, x3, x4], _ =>
        simp at e0 e1 e2 e3 e4
        subst e0 e1 e2 e3 e4
        exact ⟨⟨a0, a1, a2, a3, a4⟩, rfl, i64_b w0, i64_b w1, i64_b w2, i64_b w3, u64_b w4⟩) rows hr
    exact ⟨l, hS.of_map, hl⟩
end
end Go.Proofs.Ytjgjablmkljfoaa.RL
