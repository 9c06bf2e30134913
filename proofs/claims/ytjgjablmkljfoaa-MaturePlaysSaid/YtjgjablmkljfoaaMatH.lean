/- A page is put whole, with a row of marks of its own. No condition. -/
import Derived.Test.YtjgjablmkljfoaaMatG
set_option linter.unusedVariables false
set_option linter.unusedSimpArgs false
namespace Go.Proofs.Ytjgjablmkljfoaa.W
section
variable {W w : World} {oo : Nat → Prop} {l : List Pr} {P : Pr}
/-- The last part takes the place of another one, which is let go. -/
theorem SepO.into (h : SepO W oo w (l ++ [P])) (k : Nat) (hk : k < l.length) : SepO W oo w (l.set k P) := by
  obtain ⟨own, hkp, hs⟩ := h
  refine ⟨fun i => if own i = l.length then k else if own i = k then l.length else own i, hkp, fun j R hj => ?_⟩
  rw [List.getElem?_set] at hj
  split at hj
  · rename_i hkj
    subst hkj
    cases hj
    exact Pr.mono _ (hs l.length P at_last) (fun i hi => ⟨hi.1, by simp only []; rw [if_pos hi.2]⟩)
  · rename_i hkj
    have hjl := (List.getElem?_eq_some_iff.1 hj).1
    refine R.mono (hs j R (at_left hj)) (fun i hi => ⟨hi.1, ?_⟩)
    simp only []
    rw [hi.2, if_neg (by omega), if_neg (fun h => hkj h.symm)]
end
end Go.Proofs.Ytjgjablmkljfoaa.W
namespace Go.Proofs.Ytjgjablmkljfoaa.Ma
open Go.RowKit Go.Proofs.Ytjgjablmkljfoaa.W Go.Proofs.Ytjgjablmkljfoaa.Cl
section
variable {W w : World} {oo : Nat → Prop} {b L : Nat} {f n : Int} {lg : List (Pg × Nat)} {l : List Pr}
abbrev put4 (w : World) (L i : Nat) (q : Pg × Nat) : World :=
  (((w.setCell ⟨L, i * 4, none⟩ (.int .i64 q.1.kind)).setCell ⟨L, i * 4 + 1, none⟩ (.int .i64 q.1.size)).setCell ⟨L, i * 4 + 2, none⟩ (usl q.1 q.2)).setCell ⟨L, i * 4 + 3, none⟩ (.bool q.1.pend)
theorem m_put4 (h : SepO W oo w (mparts b L f n lg ++ l)) {i : Nat} {p : Pg × Nat} (hp : lg[i]? = some p) (q : Pg × Nat) :
    SepO W oo (put4 w L i q) ((blkP b 52 (scells f n L lg.length) :: blkP L 57 (pcs (lg.set i q)).toArray :: lg.map upart) ++ l) := by
  have h1 := (((h.set_blk 1 rfl (i * 4) (.int .i64 q.1.kind)).set_blk 1 rfl (i * 4 + 1) (.int .i64 q.1.size)).set_blk 1 rfl (i * 4 + 2) (usl q.1 q.2)).set_blk 1 rfl (i * 4 + 3) (.bool q.1.pend)
  simp only [List.setIfInBounds_toArray] at h1
  rw [pcs_put hp q] at h1
  exact h1
/-- A page without marks is put. -/
theorem m_put0 (h : SepO W oo w (mparts b L f n lg ++ l)) {i : Nat} {p : Pg × Nat} (hp : lg[i]? = some p) (q : Pg × Nat) (hq : q.1.used = []) : SepO W oo (put4 w L i q) (mparts b L f n (lg.set i q) ++ l) := by
  have h1 := m_put4 h hp q
  have hil := (List.getElem?_eq_some_iff.1 hp).1
  have h2 := h1.forget (i + 2)
  have e : ((blkP b 52 (scells f n L lg.length) :: blkP L 57 (pcs (lg.set i q)).toArray :: lg.map upart) ++ l).set (i + 2) emp = mparts b L f n (lg.set i q) ++ l := by
    rw [List.set_append_left _ _ (by simp; omega)]
    unfold mparts
    simp [List.map_set, upart, hq]
  rw [e] at h2
  exact h2
/-- A page is put with the marks that the last part holds. -/
theorem m_put1 {g : Nat} {us : List Bool} (h : SepO W oo w (mparts b L f n lg ++ [blkP g 4 (bools us)])) {i : Nat} {p : Pg × Nat} (hp : lg[i]? = some p) (q : Pg) (hq : q.used = us) (hu : us ≠ []) : SepO W oo (put4 w L i (q, g)) (mparts b L f n (lg.set i (q, g))) := by
  have h1 := m_put4 h hp (q, g)
  have hil := (List.getElem?_eq_some_iff.1 hp).1
  have h2 := h1.into (i + 2) (by simp; omega)
  have e : (blkP b 52 (scells f n L lg.length) :: blkP L 57 (pcs (lg.set i (q, g))).toArray :: lg.map upart).set (i + 2) (blkP g 4 (bools us)) = mparts b L f n (lg.set i (q, g)) := by
    unfold mparts
    simp [List.map_set, upart, hq, hu]
  rw [e] at h2
  exact h2
end
end Go.Proofs.Ytjgjablmkljfoaa.Ma
