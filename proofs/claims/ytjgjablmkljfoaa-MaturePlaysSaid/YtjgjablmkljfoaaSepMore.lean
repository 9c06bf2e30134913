/- Many parts as one, and back. No condition. -/
import Derived.Test.YtjgjablmkljfoaaSep
set_option linter.unusedVariables false
set_option linter.unusedSimpArgs false
namespace Go.Proofs.Ytjgjablmkljfoaa.W
open Go.RowKit
section
variable {W w : World} {oo : Nat → Prop} {A l : List Pr} {Q : Pr}
theorem SepO.split_last (h : SepO W oo w (sepP (A ++ [Q]) :: l)) : SepO W oo w (sepP A :: l ++ [Q]) := by
  obtain ⟨own, hk, hs⟩ := h
  obtain ⟨own2, hs2⟩ := hs 0 _ rfl
  refine ⟨fun i => if own i = 0 then (if own2 i < A.length then 0 else if own2 i = A.length then l.length + 1 else l.length + 2) else if own i ≤ l.length then own i else l.length + 2, hk, fun j R hj => ?_⟩
  cases j with
  | zero =>
    simp at hj
    subst hj
    refine ⟨own2, fun k P hP => P.mono (hs2 k P (by rw [List.getElem?_append_left (List.getElem?_eq_some_iff.1 hP).1]; exact hP)) (fun i hi => ?_)⟩
    have hkl := (List.getElem?_eq_some_iff.1 hP).1
    exact ⟨⟨⟨hi.1.1.1, by simp only []; rw [if_pos hi.1.1.2, if_pos (by omega)]⟩, hi.1.2⟩, hi.2⟩
  | succ j =>
    simp only [List.cons_append, List.getElem?_cons_succ] at hj
    rcases Nat.lt_or_ge j l.length with hlt | hge
    · rw [List.getElem?_append_left hlt] at hj
      refine R.mono (hs (j + 1) R hj) (fun i hi => ⟨hi.1, ?_⟩)
      simp only []
      rw [hi.2, if_neg (by omega), if_pos (by omega)]
    · rw [List.getElem?_append_right hge] at hj
      have h0 : j - l.length = 0 := by
        rcases Nat.eq_zero_or_pos (j - l.length) with h | h
        · exact h
        · rw [List.getElem?_eq_none (by simp; omega)] at hj; cases hj
      rw [h0] at hj
      simp at hj
      subst hj
      have hjl : j = l.length := by omega
      subst hjl
      refine Pr.mono _ (hs2 A.length Q (by simp)) (fun i hi => ⟨hi.1.1.1, ?_⟩)
      simp only []
      rw [if_pos hi.1.1.2, if_neg (by omega), if_pos hi.2]
/-- Parts as one part. -/
theorem SepO.pack (h : SepO W oo w l) : SepO W oo w [sepP l] := by
  obtain ⟨own, hk, hs⟩ := h
  refine ⟨fun _ => 0, hk, fun j R hj => ?_⟩
  cases j with
  | succ j => simp at hj
  | zero =>
    simp at hj
    subst hj
    exact ⟨own, fun k P hP => P.mono (hs k P hP) (fun i hi => ⟨⟨⟨hi.1, rfl⟩, hi.1.2⟩, hi.2⟩)⟩
theorem SepO.unpack (h : SepO W oo w (sepP A :: l)) : SepO W oo w (A ++ l) := by
  obtain ⟨own, hk, hs⟩ := h
  obtain ⟨own2, hs2⟩ := hs 0 _ rfl
  refine ⟨fun i => if own i = 0 then (if own2 i < A.length then own2 i else A.length + l.length) else A.length + (own i - 1), hk, fun j R hj => ?_⟩
  rcases Nat.lt_or_ge j A.length with hlt | hge
  · rw [List.getElem?_append_left hlt] at hj
    refine R.mono (hs2 j R hj) (fun i hi => ⟨hi.1.1.1, ?_⟩)
    simp only []
    rw [if_pos hi.1.1.2, if_pos (by omega), hi.2]
  · rw [List.getElem?_append_right hge] at hj
    refine R.mono (hs (j - A.length + 1) R hj) (fun i hi => ⟨hi.1, ?_⟩)
    simp only []
    rw [hi.2, if_neg (by omega)]
    omega
/-- The first part is many: it is opened, and what comes of it is put back. -/
theorem SepO.lift (h : SepO W oo w (sepP A :: l)) : ∃ o : Nat → Prop, SepO w o w A ∧ ∀ (w' : World) (A' : List Pr), SepO w o w' A' → SepO W oo w' (sepP A' :: l) := by
  obtain ⟨o, hs, _, hup⟩ := h.open_ 0 rfl
  refine ⟨o, SepO.enter hs, fun w' A' h' => ?_⟩
  have hk : Keep o w w' := by obtain ⟨_, hk, _⟩ := h'; exact hk
  exact hup w' (sepP A') h'.leave hk
end
end Go.Proofs.Ytjgjablmkljfoaa.W
