/- Parts side by side: a part is split, made weaker. No condition. -/
import Derived.Test.YtjgjablmkljfoaaSep
set_option linter.unusedVariables false
set_option linter.unusedSimpArgs false
namespace Go.Proofs.Ytjgjablmkljfoaa.W
open Go.RowKit
section
variable {W w : World} {oo : Nat → Prop} {l : List Pr} {P Q : Pr}
theorem SepO.split_m {A B : List Pr} (h : SepO W oo w l) (k : Nat) (hk : l[k]? = some (sepP (A ++ B))) : SepO W oo w (l.set k (sepP A) ++ B) := by
  obtain ⟨own, hkp, hs⟩ := h
  obtain ⟨own2, hs2⟩ := hs k _ hk
  have hkl := (List.getElem?_eq_some_iff.1 hk).1
  refine ⟨fun i => if own i = k then (if own2 i < A.length then k else if own2 i < A.length + B.length then l.length + (own2 i - A.length) else l.length + B.length) else if own i < l.length then own i else l.length + B.length, hkp, fun j R hj => ?_⟩
  rcases Nat.lt_or_ge j l.length with hlt | hge
  · rw [List.getElem?_append_left (by simpa using hlt), List.getElem?_set] at hj
    by_cases hjk : k = j
    · subst hjk
      rw [if_pos rfl, if_pos hkl] at hj
      injection hj with hj
      subst hj
      refine ⟨own2, fun m P hP => P.mono (hs2 m P (by rw [List.getElem?_append_left (List.getElem?_eq_some_iff.1 hP).1]; exact hP)) (fun i hi => ?_)⟩
      have hml := (List.getElem?_eq_some_iff.1 hP).1
      exact ⟨⟨⟨hi.1.1.1, by simp only []; rw [if_pos hi.1.1.2, if_pos (by have := hi.2; omega)]⟩, hi.1.2⟩, hi.2⟩
    · rw [if_neg hjk] at hj
      exact R.mono (hs j R hj) (fun i hi => ⟨hi.1, by simp only []; rw [if_neg (by have := hi.2; omega), if_pos (by have := hi.2; omega)]; exact hi.2⟩)
  · rw [List.getElem?_append_right (by simpa using hge), List.length_set] at hj
    have hjb := (List.getElem?_eq_some_iff.1 hj).1
    refine R.mono (hs2 (A.length + (j - l.length)) R (by rw [List.getElem?_append_right (by omega), Nat.add_sub_cancel_left]; exact hj)) (fun i hi => ⟨hi.1.1.1, ?_⟩)
    simp only []
    rw [if_pos hi.1.1.2, if_neg (by have := hi.2; omega), if_pos (by have := hi.2; omega)]
    have := hi.2
    omega
theorem SepO.weaken (h : SepO W oo w l) (k : Nat) (hk : l[k]? = some P) (hi : ∀ w o, P.p w o → Q.p w o) : SepO W oo w (l.set k Q) := by
  obtain ⟨o, hp, _, hup⟩ := h.open_ k hk
  exact hup w Q (Q.mono (hi w o hp) (fun i h => .inl h)) (Keep.refl _ _)
end
theorem list_same {k : Nat} {P : Pr} {l : List Pr} (h : l[k]? = some P) : l.set k P = l := by
  apply List.ext_getElem?
  intro i
  rw [List.getElem?_set]
  split
  · rename_i e
    subst e
    rw [h, if_pos (List.getElem?_eq_some_iff.1 h).1]
  · rfl
end Go.Proofs.Ytjgjablmkljfoaa.W
