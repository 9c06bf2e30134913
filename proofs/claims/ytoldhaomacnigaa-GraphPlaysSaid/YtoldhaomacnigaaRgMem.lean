/- The reference's graph in memory. No condition. -/
import Derived.Test.YtoldhaomacnigaaGrK
import Derived.Laws.StructEq
set_option linter.unusedVariables false
set_option linter.unusedSimpArgs false
namespace Go.Proofs.Ytoldhaomacnigaa.W
open Go.RowKit
section
variable {W w : World} {oo : Nat → Prop} {l : List Pr} {e : TypeId} {A : Option Addr} {n c : Nat} {xs : List Value}
/-- An element of a row is written. -/
theorem SepO.row_write (h : SepO W oo w l) (k : Nat) (hk : l[k]? = some (rowP e A n c xs)) {i : Nat} (hi : i < n) : ∃ G off, A = some ⟨G, off, none⟩ ∧ G < w.heap.size ∧ w.cell? ⟨G, off + i, none⟩ = xs[i]? ∧ w.frozen? ⟨G, off + i, none⟩ = false ∧ ∀ u, SepO W oo (w.setCell ⟨G, off + i, none⟩ u) (l.set k (rowP e A n c (xs.set i u))) := by
  obtain ⟨o, h1, _, hup⟩ := h.open_ k hk
  obtain ⟨⟨h2, h3, h4, h5⟩⟩ := h1, h1
  rcases h5 with ⟨_, h0⟩ | ⟨g, off, cur, hA, hg, hb, hs, ht⟩
  · omega
  · refine ⟨g, off, hA, hb.lt, ?_, hb.frozen _, fun u => ?_⟩
    · rw [hb.cell, ← ht, List.getElem?_take, if_pos hi, List.getElem?_drop, Array.getElem?_toList]
    · refine hup _ (rowP e A n c (xs.set i u)) ⟨by simpa using h2, h3, h4, .inr ⟨g, off, _, hA, .inl hg, hb.set_ (off + i) u, by simpa using hs, ?_⟩⟩ ((Keep.refl _ _).set_ (.inl hg) _)
      rw [Array.toList_setIfInBounds, List.drop_set, if_neg (by omega), show off + i - off = i by omega, List.take_set, ht]
end
end Go.Proofs.Ytoldhaomacnigaa.W
namespace Go.Proofs.Ytoldhaomacnigaa.Rg
open Go.RowKit Go.Proofs.Ytoldhaomacnigaa.W Go.Proofs.Ytoldhaomacnigaa Go.Proofs.Ytoldhaomacnigaa.Gr
/-- A node's blocks: its references, its words. -/
structure RB where
  r : Nat
  s : Nat
abbrev RL := List (GN × RB)
def nats (l : List Nat) : List Value := l.map fun (x : Nat) => Value.int .i64 (x : Int)
def rcl1 (p : GN × RB) : List Value := [slv p.2.r p.1.refs.length, slv p.2.s p.1.scal.length]
def rcl (N : RL) : List Value := [.slice none 0 0, .slice none 0 0] ++ N.flatMap rcl1
def rpl (p : GN × RB) : List Pr := [blkP p.2.r 3 (nats p.1.refs).toArray, blkP p.2.s 28 (wds p.1.scal)]
/-- Where the rows lie. -/
structure RK where
  A : Option Addr
  c : Nat
  B : Option Addr
  d : Nat
def rcells (k : RK) (lar : Nat) (hs : List Nat) (N : RL) : Array Value := #[.slice k.A (N.length + 1) k.c, .slice k.B hs.length k.d, .int .i64 lar]
def rparts (g lar : Nat) (k : RK) (hs : List Nat) (N : RL) : List Pr :=
  blkP g 53 (rcells k lar hs N) :: rowK 45 2 (.slice k.A (N.length + 1) k.c) (N.length + 1) (rcl N) :: rowP 3 k.B hs.length k.d (nats hs) :: N.flatMap rpl
def Rph (g : Nat) (s : GS) : Pr := exP fun r : RK × RL => andP (s.ok ∧ r.2.map (·.1) = s.nodes) (sepP (rparts g s.largest r.1 s.hs r.2))
theorem fmB_get {α : Type} {N : List α} {f : α → List Pr} (hf : ∀ p, (f p).length = 2) {i : Nat} {p : α} (h : N[i]? = some p) {j : Nat} (hj : j < 2) : (N.flatMap f)[2 * i + j]? = (f p)[j]? := by
  rw [show 2 * i + j = i * 2 + j by omega]; exact fm2_get hf h hj
theorem fmB_set {α : Type} {N : List α} {f : α → List Pr} (hf : ∀ p, (f p).length = 2) {i : Nat} {p q : α} (h : N[i]? = some p) {j : Nat} (hj : j < 2) {P : Pr} (hq : (f p).set j P = f q) : (N.flatMap f).set (2 * i + j) P = (N.set i q).flatMap f := by
  induction N generalizing i with
  | nil => simp at h
  | cons r t ih =>
    cases i with
    | zero =>
      simp at h
      subst h
      rw [List.flatMap_cons, Nat.mul_zero, Nat.zero_add, List.set_append_left _ _ (by rw [hf]; exact hj), hq]
      simp
    | succ i =>
      simp at h
      rw [List.flatMap_cons, List.set_append_right _ _ (by rw [hf]; omega), hf, show 2 * (i + 1) + j - 2 = 2 * i + j by omega, ih h]
      simp
theorem nats_get {l : List Nat} {i : Nat} (h : i < l.length) : (nats l)[i]? = some (.int .i64 ((l[i]?.getD 0 : Nat) : Int)) := by simp [nats, h]
theorem nats_set (l : List Nat) (i x : Nat) : (nats l).set i (.int .i64 (x : Int)) = nats (l.set i x) := by simp [nats, List.map_set]
theorem nats_len (l : List Nat) : (nats l).length = l.length := by simp [nats]
theorem rcl_len (N : RL) : (rcl N).length = (N.length + 1) * 2 := by
  have : (N.flatMap rcl1).length = 2 * N.length := by
    induction N with
    | nil => rfl
    | cons p r ih => simp only [List.flatMap_cons, List.length_append, ih, List.length_cons]; simp [rcl1]; omega
  unfold rcl
  rw [List.length_append, this]
  simp
  omega
theorem rcl_get {N : RL} {i : Nat} {p : GN × RB} (hi : i ≠ 0) (h : N[i - 1]? = some p) {j : Nat} (hj : j < 2) : (rcl N)[i * 2 + j]? = (rcl1 p)[j]? := by
  unfold rcl
  rw [List.getElem?_append_right (by simp; omega)]
  have := fm2_get (f := rcl1) (fun p => rfl) h hj
  rw [← this]
  congr 1
  simp
  omega
section
variable {W w : World} {oo : Nat → Prop} {g lar : Nat} {k : RK} {hs : List Nat} {N : RL}
theorem r_blk (h : SepO W oo w (rparts g lar k hs N)) : Blk w g 53 (rcells k lar hs N) := h.blk 0 rfl
theorem r_part {i : Nat} {p : GN × RB} (hp : N[i]? = some p) {j : Nat} (hj : j < 2) : (rparts g lar k hs N)[2 * i + j + 3]? = (rpl p)[j]? := fmB_get (fun p => rfl) hp hj
theorem r_refs (h : SepO W oo w (rparts g lar k hs N)) {i : Nat} {p : GN × RB} (hp : N[i]? = some p) : Blk w p.2.r 3 (nats p.1.refs).toArray := h.blk _ (r_part hp (j := 0) (by omega))
theorem r_scal (h : SepO W oo w (rparts g lar k hs N)) {i : Nat} {p : GN × RB} (hp : N[i]? = some p) : Blk w p.2.s 28 (wds p.1.scal) := h.blk _ (r_part hp (j := 1) (by omega))
/-- The row of nodes. -/
theorem r_row (h : SepO W oo w (rparts g lar k hs N)) : ∃ G, k.A = some ⟨G, 0, none⟩ ∧ G < w.heap.size ∧ (∀ j, j < (N.length + 1) * 2 → w.cell? ⟨G, j, none⟩ = (rcl N)[j]?) ∧ N.length + 1 ≤ k.c := by
  obtain ⟨A, c, e, h1, h2, h3, h4⟩ := h.rowk 1 rfl
  simp only [Value.slice.injEq, true_and] at e
  obtain ⟨e1, e2⟩ := e
  obtain ⟨G, hA, h5, h6, _⟩ := h4 (by omega)
  exact ⟨G, by rw [e1]; exact hA, h5.2, h6, by rw [e2]; exact h1⟩
theorem r_node (h : SepO W oo w (rparts g lar k hs N)) {i : Nat} {p : GN × RB} (hi : i ≠ 0) (hp : N[i - 1]? = some p) {G : Nat} (hG : k.A = some ⟨G, 0, none⟩) : w.cell? ⟨G, i * 2, none⟩ = some (slv p.2.r p.1.refs.length) ∧ w.cell? ⟨G, i * 2 + 1, none⟩ = some (slv p.2.s p.1.scal.length) := by
  obtain ⟨G', hA, _, hc, _⟩ := r_row h
  rw [hG] at hA
  cases hA
  have hl := (List.getElem?_eq_some_iff.1 hp).1
  have h0 := rcl_get hi hp (j := 0) (by omega)
  have h1 := rcl_get hi hp (j := 1) (by omega)
  exact ⟨by rw [hc _ (by omega)]; exact h0, by rw [hc _ (by omega)]; exact h1⟩
theorem r_set_r (h : SepO W oo w (rparts g lar k hs N)) {i : Nat} {p : GN × RB} (hp : N[i]? = some p) (j x : Nat) : SepO W oo (w.setCell ⟨p.2.r, j, none⟩ (.int .i64 (x : Int))) (rparts g lar k hs (N.set i (⟨p.1.refs.set j x, p.1.scal⟩, p.2))) := by
  have h1 := h.set_blk (2 * i + 0 + 3) (r_part hp (j := 0) (by omega)) j (.int .i64 (x : Int))
  rw [List.setIfInBounds_toArray, nats_set] at h1
  have e1 : (N.set i (⟨p.1.refs.set j x, p.1.scal⟩, p.2)).flatMap rcl1 = N.flatMap rcl1 := by
    have hl := (List.getElem?_eq_some_iff.1 hp).1
    have he : N[i] = p := by rw [List.getElem?_eq_getElem hl] at hp; exact Option.some.inj hp
    rw [List.flatMap_def, List.flatMap_def, List.map_set]
    congr 1
    apply List.ext_getElem?
    intro m
    rw [List.getElem?_set]
    split
    · rename_i hm
      subst hm
      simp [hl, he, rcl1]
    · rfl
  have e : rparts g lar k hs (N.set i (⟨p.1.refs.set j x, p.1.scal⟩, p.2)) = (rparts g lar k hs N).set (2 * i + 0 + 3) (blkP p.2.r 3 (nats (p.1.refs.set j x)).toArray) := by
    unfold rparts rcells rcl
    rw [e1, List.length_set]
    simp only [List.set_cons_succ]
    have e9 := fmB_set (f := rpl) (fun p => rfl) hp (j := 0) (by omega) (P := blkP p.2.r 3 (nats (p.1.refs.set j x)).toArray) (q := (⟨p.1.refs.set j x, p.1.scal⟩, p.2)) (by simp [rpl])
    rw [Nat.add_zero] at e9
    rw [e9]
  rw [e]; exact h1
theorem r_set_s (h : SepO W oo w (rparts g lar k hs N)) {i : Nat} {p : GN × RB} (hp : N[i]? = some p) (j : Nat) (x : Int) : SepO W oo (w.setCell ⟨p.2.s, j, none⟩ (.int .u64 x)) (rparts g lar k hs (N.set i (⟨p.1.refs, p.1.scal.set j x⟩, p.2))) := by
  have h1 := h.set_blk (2 * i + 1 + 3) (r_part hp (j := 1) (by omega)) j (.int .u64 x)
  rw [wds_set] at h1
  have e1 : (N.set i (⟨p.1.refs, p.1.scal.set j x⟩, p.2)).flatMap rcl1 = N.flatMap rcl1 := by
    have hl := (List.getElem?_eq_some_iff.1 hp).1
    have he : N[i] = p := by rw [List.getElem?_eq_getElem hl] at hp; exact Option.some.inj hp
    rw [List.flatMap_def, List.flatMap_def, List.map_set]
    congr 1
    apply List.ext_getElem?
    intro m
    rw [List.getElem?_set]
    split
    · rename_i hm
      subst hm
      simp [hl, he, rcl1]
    · rfl
  have e : rparts g lar k hs (N.set i (⟨p.1.refs, p.1.scal.set j x⟩, p.2)) = (rparts g lar k hs N).set (2 * i + 1 + 3) (blkP p.2.s 28 (wds (p.1.scal.set j x))) := by
    unfold rparts rcells rcl
    rw [e1, List.length_set]
    simp only [List.set_cons_succ]
    rw [fmB_set (f := rpl) (fun p => rfl) hp (j := 1) (by omega) (P := blkP p.2.s 28 (wds (p.1.scal.set j x))) (q := (⟨p.1.refs, p.1.scal.set j x⟩, p.2)) (by simp [rpl])]
  rw [e]; exact h1
/-- What a handle holds is written. -/
theorem r_hs (h : SepO W oo w (rparts g lar k hs N)) {i : Nat} (hi : i < hs.length) : ∃ G off, k.B = some ⟨G, off, none⟩ ∧ G < w.heap.size ∧ w.cell? ⟨G, off + i, none⟩ = some (.int .i64 ((hs[i]?.getD 0 : Nat) : Int)) ∧ w.frozen? ⟨G, off + i, none⟩ = false ∧ ∀ x : Nat, SepO W oo (w.setCell ⟨G, off + i, none⟩ (.int .i64 (x : Int))) (rparts g lar k (hs.set i x) N) := by
  obtain ⟨G, off, h1, h2, h3, h4, h5⟩ := h.row_write 2 rfl hi
  refine ⟨G, off, h1, h2, by rw [h3, nats_get hi], h4, fun x => ?_⟩
  have h6 := h5 (.int .i64 (x : Int))
  rw [nats_set] at h6
  have e : rparts g lar k (hs.set i x) N = (rparts g lar k hs N).set 2 (rowP 3 k.B hs.length k.d (nats (hs.set i x))) := by
    unfold rparts rcells; rw [List.length_set]; rfl
  rw [e]; exact h6
end
end Go.Proofs.Ytoldhaomacnigaa.Rg
