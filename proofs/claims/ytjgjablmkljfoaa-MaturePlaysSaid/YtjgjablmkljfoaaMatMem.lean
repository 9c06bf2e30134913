/- Pages of a space in memory. No condition. -/
import Derived.Test.YtjgjablmkljfoaaClass
import Derived.Test.YtjgjablmkljfoaaSep
import Derived.Laws.MakeOwn
import Derived.Laws.Entries
set_option linter.unusedVariables false
set_option linter.unusedSimpArgs false
namespace Go.Proofs.Ytjgjablmkljfoaa.Ma
open Go.RowKit Go.Proofs.Ytjgjablmkljfoaa.W Go.Proofs.Ytjgjablmkljfoaa.Cl

theorem info_bool : (Try.prog.info? 4).map (fun i => (i.zero, i.size, i.bytes)) = some (some (.bool false), 1, 1) := by kernel_rfl
abbrev pt (b : Nat) : Value := .pointer (some ⟨b, 0, none⟩)
def bools (m : List Bool) : Array Value := (m.map Value.bool).toArray
theorem bools_get {m : List Bool} {i : Nat} (h : i < m.length) : (bools m)[i]? = some (.bool (m[i]?.getD false)) := by simp [bools, h]
theorem bools_set (m : List Bool) (i : Nat) (x : Bool) : (bools m).setIfInBounds i (.bool x) = bools (m.set i x) := by simp [bools, List.map_set]

/-- A page: what it is, its cells' size (or a large one's words), which of its cells are used, whether it is to be swept. -/
structure Pg where
  kind : Int
  size : Int
  used : List Bool
  pend : Bool
def fre : Pg := ⟨0, 0, [], false⟩
/-- A page's row of marks; g: its block, if it has one. -/
def usl (p : Pg) (g : Nat) : Value := if p.used.isEmpty then .slice none 0 0 else .slice (some ⟨g, 0, none⟩) p.used.length p.used.length
def pcells (p : Pg × Nat) : List Value := [.int .i64 p.1.kind, .int .i64 p.1.size, usl p.1 p.2, .bool p.1.pend]
def pcs (l : List (Pg × Nat)) : List Value := l.flatMap pcells
theorem pcs_len (l : List (Pg × Nat)) : (pcs l).length = 4 * l.length := by
  induction l with
  | nil => rfl
  | cons p l ih => simp only [pcs, List.flatMap_cons, List.length_append] at ih ⊢; rw [ih]; simp [pcells]; omega
theorem pcs_get {l : List (Pg × Nat)} {i : Nat} {p : Pg × Nat} (h : l[i]? = some p) {j : Nat} (hj : j < 4) : (pcs l)[i * 4 + j]? = (pcells p)[j]? := by
  induction l generalizing i with
  | nil => simp at h
  | cons q l ih =>
    cases i with
    | zero =>
      simp at h
      subst h
      simp only [pcs, List.flatMap_cons, Nat.zero_mul, Nat.zero_add]
      rw [List.getElem?_append_left (by simp [pcells]; omega)]
    | succ i =>
      simp at h
      simp only [pcs, List.flatMap_cons]
      rw [List.getElem?_append_right (by simp [pcells]; omega)]
      have := ih h
      simp only [pcs] at this
      rw [← this]
      congr 1
      simp [pcells]; omega
theorem pcs_set {l : List (Pg × Nat)} {i : Nat} {p q : Pg × Nat} (h : l[i]? = some p) {j : Nat} (hj : j < 4) {v : Value} (hq : (pcells p).set j v = pcells q) : (pcs l).set (i * 4 + j) v = pcs (l.set i q) := by
  induction l generalizing i with
  | nil => simp at h
  | cons r l ih =>
    cases i with
    | zero =>
      simp at h
      subst h
      simp only [pcs, List.flatMap_cons, Nat.zero_mul, Nat.zero_add, List.set_cons_zero]
      rw [List.set_append_left _ _ (by simp [pcells]; omega), hq]
    | succ i =>
      simp at h
      simp only [pcs, List.flatMap_cons, List.set_cons_succ]
      rw [List.set_append_right _ _ (by simp [pcells]; omega)]
      have := ih h
      simp only [pcs] at this
      rw [← this]
      congr 2
      simp [pcells]; omega
/-- The whole page is another one. -/
theorem pcs_put {l : List (Pg × Nat)} {i : Nat} {p : Pg × Nat} (h : l[i]? = some p) (q : Pg × Nat) :
    ((((pcs l).set (i * 4) (.int .i64 q.1.kind)).set (i * 4 + 1) (.int .i64 q.1.size)).set (i * 4 + 2) (usl q.1 q.2)).set (i * 4 + 3) (.bool q.1.pend) = pcs (l.set i q) := by
  induction l generalizing i with
  | nil => simp at h
  | cons r l ih =>
    cases i with
    | zero => simp [pcs, pcells]
    | succ i =>
      simp at h
      have := ih h
      simp only [pcs, List.flatMap_cons, List.set_cons_succ] at this ⊢
      have e : ∀ k, (i + 1) * 4 + k = (pcells r).length + (i * 4 + k) := fun k => by simp [pcells]; omega
      rw [show (i + 1) * 4 = (pcells r).length + i * 4 from by simp [pcells]; omega]
      simp only [Nat.add_assoc]
      simp only [List.set_append_right _ _ (Nat.le_add_right _ _), Nat.add_sub_cancel_left]
      rw [this]

/-- A space: from a place on, words of a page, pages. -/
structure MS where
  f : Int
  w : Int
  l : List Pg
/-- What a page may be. -/
def Pg.ok (w : Int) (p : Pg) : Prop :=
  (p.kind = 1 ∧ 1 ≤ p.size ∧ p.size ≤ w ∧ (p.used.length : Int) = w / p.size) ∨ (p.kind ≠ 1 ∧ p.used = [] ∧ 0 ≤ p.kind ∧ p.kind ≤ 3 ∧ (p.kind = 2 → 1 ≤ p.size ∧ p.size ≤ 9223372036854775807))
def MS.ok (s : MS) : Prop := (0 ≤ s.f ∧ s.f ≤ 1048576) ∧ (1 ≤ s.w ∧ s.w ≤ 256) ∧ s.l.length ≤ 64 ∧ (∀ p ∈ s.l, p.ok s.w) ∧ ∀ (n : Nat) (p : Pg), s.l[n]? = some p → p.kind = 2 → (n : Int) + pgs s.w p.size ≤ s.l.length
def upart (p : Pg × Nat) : Pr := if p.1.used.isEmpty then emp else blkP p.2 4 (bools p.1.used)
abbrev scells (f w : Int) (L n : Nat) : Array Value := #[.int .i64 f, .int .i64 w, .slice (some ⟨L, 0, none⟩) n n]
def mparts (b L : Nat) (f w : Int) (lg : List (Pg × Nat)) : List Pr := blkP b 52 (scells f w L lg.length) :: blkP L 57 (pcs lg).toArray :: lg.map upart
def Mat (b : Nat) (s : MS) : Pr := exP fun r : Nat × List (Pg × Nat) => andP (s.ok ∧ r.2.map (·.1) = s.l) (sepP (mparts b r.1 s.f s.w r.2))

section
variable {W w : World} {oo : Nat → Prop} {b L : Nat} {f n : Int} {lg : List (Pg × Nat)}
theorem m_blk (h : SepO W oo w (mparts b L f n lg)) : Blk w b 52 (scells f n L lg.length) := h.blk 0 rfl
theorem m_list (h : SepO W oo w (mparts b L f n lg)) : Blk w L 57 (pcs lg).toArray := h.blk 1 rfl
theorem m_page (h : SepO W oo w (mparts b L f n lg)) {i : Nat} {p : Pg × Nat} (hp : lg[i]? = some p) :
    w.cell? ⟨L, i * 4, none⟩ = some (.int .i64 p.1.kind) ∧ w.cell? ⟨L, i * 4 + 1, none⟩ = some (.int .i64 p.1.size) ∧ w.cell? ⟨L, i * 4 + 2, none⟩ = some (usl p.1 p.2) ∧ w.cell? ⟨L, i * 4 + 3, none⟩ = some (.bool p.1.pend) := by
  have e : ∀ j, j < 4 → w.cell? ⟨L, i * 4 + j, none⟩ = (pcells p)[j]? := fun j hj => by
    rw [(m_list h).cell, List.getElem?_toArray]; exact pcs_get hp hj
  exact ⟨e 0 (by omega), e 1 (by omega), e 2 (by omega), e 3 (by omega)⟩
theorem m_used (h : SepO W oo w (mparts b L f n lg)) {i : Nat} {p : Pg × Nat} (hp : lg[i]? = some p) (hu : p.1.used ≠ []) : (mparts b L f n lg)[i + 2]? = some (blkP p.2 4 (bools p.1.used)) := by
  show (lg.map upart)[i]? = _
  rw [List.getElem?_map, hp]
  simp [upart, hu]
/-- A field of a page is stored. -/
theorem m_field (h : SepO W oo w (mparts b L f n lg)) {i : Nat} {p q : Pg × Nat} (hp : lg[i]? = some p) {j : Nat} (hj : j < 4) {v : Value} (hq : (pcells p).set j v = pcells q) (hu : upart q = upart p) :
    SepO W oo (w.setCell ⟨L, i * 4 + j, none⟩ v) (mparts b L f n (lg.set i q)) := by
  have h1 := h.set_blk 1 rfl (i * 4 + j) v
  have e : (pcs lg).toArray.setIfInBounds (i * 4 + j) v = (pcs (lg.set i q)).toArray := by
    rw [List.setIfInBounds_toArray, pcs_set hp hj hq]
  rw [e] at h1
  have e2 : (lg.set i q).map upart = lg.map upart := by
    rw [List.map_set, hu]
    apply List.ext_getElem?
    intro k
    rw [List.getElem?_set]
    split
    · rename_i hk
      subst hk
      rw [List.getElem?_map, hp]
      split
      · rfl
      · rename_i hl; exact absurd (by simpa using (List.getElem?_eq_some_iff.1 hp).1) hl
    · rfl
  have e3 : mparts b L f n (lg.set i q) = (mparts b L f n lg).set 1 (blkP L 57 (pcs (lg.set i q)).toArray) := by
    unfold mparts
    rw [e2, List.length_set]
    rfl
  rw [e3]
  exact h1
/-- A mark of a page is stored. -/
theorem m_mark (h : SepO W oo w (mparts b L f n lg)) {i : Nat} {p : Pg × Nat} (hp : lg[i]? = some p) (hu : p.1.used ≠ []) (k : Nat) (x : Bool) :
    SepO W oo (w.setCell ⟨p.2, k, none⟩ (.bool x)) (mparts b L f n (lg.set i (⟨p.1.kind, p.1.size, p.1.used.set k x, p.1.pend⟩, p.2))) := by
  have h1 := h.set_blk (i + 2) (m_used h hp hu) k (.bool x)
  rw [bools_set] at h1
  have hne : p.1.used.set k x ≠ [] := by
    intro he
    have := congrArg List.length he
    rw [List.length_set] at this
    exact hu (List.eq_nil_of_length_eq_zero this)
  have e1 : pcs (lg.set i (⟨p.1.kind, p.1.size, p.1.used.set k x, p.1.pend⟩, p.2)) = pcs lg := by
    have := pcs_set hp (j := 0) (by omega) (v := .int .i64 p.1.kind) (q := (⟨p.1.kind, p.1.size, p.1.used.set k x, p.1.pend⟩, p.2)) (by simp [pcells, usl, hu, hne])
    rw [← this]
    apply List.ext_getElem?
    intro m
    rw [List.getElem?_set]
    split
    · rename_i hk
      subst hk
      have := pcs_get hp (j := 0) (by omega)
      rw [this]
      split
      · rfl
      · rename_i hl
        have h2 := pcs_len lg
        have h3 := (List.getElem?_eq_some_iff.1 hp).1
        omega
    · rfl
  have e3 : mparts b L f n (lg.set i (⟨p.1.kind, p.1.size, p.1.used.set k x, p.1.pend⟩, p.2)) = (mparts b L f n lg).set (i + 2) (blkP p.2 4 (bools (p.1.used.set k x))) := by
    unfold mparts
    rw [e1, List.length_set, List.map_set]
    simp [upart, hne]
  rw [e3]
  exact h1
end
end Go.Proofs.Ytjgjablmkljfoaa.Ma
