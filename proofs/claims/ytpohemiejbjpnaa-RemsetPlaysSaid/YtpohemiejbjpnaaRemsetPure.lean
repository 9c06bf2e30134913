/- What calls of a set come to, without memory. No condition. -/
import Derived.Test.YtpohemiejbjpnaaRemsetSep
set_option linter.unusedVariables false
set_option linter.unusedSimpArgs false
namespace Go.Proofs.Ytpohemiejbjpnaa.Re
open Go.RowKit Go.Proofs.Ytpohemiejbjpnaa.W Go.Proofs.Ytpohemiejbjpnaa.Cd Go.Proofs.Ytpohemiejbjpnaa.Bf Go.Proofs.Ytpohemiejbjpnaa.Sm

theorem cnt_set (m : List Bool) (j : Nat) (h : j < m.length) : (m.set j true).count true = m.count true + (if m[j]?.getD false = true then 0 else 1) := by
  induction m generalizing j with
  | nil => simp at h
  | cons x xs ih =>
    cases j with
    | zero => cases x <;> simp
    | succ j =>
      simp only [List.set_cons_succ, List.count_cons, List.getElem?_cons_succ]
      rw [ih j (by simpa using h)]
      omega
theorem cnt_unset (m : List Bool) (j : Nat) (h : m[j]?.getD false = true) : (m.set j false).count true + 1 = m.count true := by
  induction m generalizing j with
  | nil => simp at h
  | cons x xs ih =>
    cases j with
    | zero => simp at h; subst h; simp
    | succ j =>
      simp only [List.set_cons_succ, List.count_cons, List.getElem?_cons_succ] at h ⊢
      have := ih j h
      omega
theorem none_cnt {m : List Bool} (h : IsFirst m 0 none) : m.count true = 0 := by
  rw [List.count_eq_zero]
  intro hm
  obtain ⟨i, hi, e⟩ := List.getElem_of_mem hm
  have := h i (by omega)
  rw [List.getElem?_eq_getElem hi, e] at this
  cases this
theorem some_cnt {m : List Bool} {n : Nat} (h : IsFirst m 0 (some n)) : (m.set n false).count true + 1 = m.count true := cnt_unset m n h.2.2.1
theorem rep_cnt (n : Nat) : (List.replicate n false).count true = 0 := by rw [List.count_replicate]; rfl
section
variable (s : RS)
theorem add_left (a : Int) : (s.add a).left = s.left ∧ (s.add a).tl = s.tl ∧ (s.add a).tm = s.tm := by
  unfold RS.add; split
  · split <;> exact ⟨rfl, rfl, rfl⟩
  · exact ⟨rfl, rfl, rfl⟩
theorem next_some (h : 0 < s.left) : s.said.2.2 = true ∧ s.next.left = s.left - 1 ∧ s.next.here = s.here := by
  obtain ⟨f, n, c, mo, nl, nm, tl, tm⟩ := s
  cases tl with
  | cons x L =>
    refine ⟨rfl, ?_, rfl⟩
    simp only [RS.next, RS.left, List.length_cons]; omega
  | nil =>
    cases hf : fstI tm with
    | none =>
      have h1 := none_cnt (hf ▸ fstI_spec tm)
      simp [RS.left, h1] at h
    | some k =>
      have h1 := some_cnt (hf ▸ fstI_spec tm)
      refine ⟨by simp [RS.said, hf], ?_, by simp [RS.next, hf, RS.here]⟩
      simp only [RS.next, hf, RS.left, List.length_nil]; omega
theorem next_none (h : s.left = 0) : s.said = ((0, 0), (false, false)) ∧ s.next = s := by
  obtain ⟨f, n, c, mo, nl, nm, tl, tm⟩ := s
  cases tl with
  | cons x L => simp only [RS.left, List.length_cons] at h; omega
  | nil =>
    cases hf : fstI tm with
    | none => exact ⟨by simp [RS.said, hf], by simp [RS.next, hf]⟩
    | some k =>
      have h1 := some_cnt (hf ▸ fstI_spec tm)
      simp only [RS.left, List.length_nil] at h; omega
theorem flip_left (h : s.left = 0) : s.flip.left = s.here ∧ s.flip.here = 0 := by
  unfold RS.flip
  rw [if_neg (by omega)]
  refine ⟨rfl, ?_⟩
  simp [RS.here, Cd.none_, rep_cnt]
end
theorem Rms_b {W w : World} {oo : Nat → Prop} {l : List Pr} {b : Nat} {s : RS} (h : SepO W oo w l) (k : Nat) (hk : l[k]? = some (Rms b s)) : s.left ≤ 2097153 ∧ s.here ≤ 2097153 := by
  obtain ⟨o, ⟨r, hok, hs⟩, _⟩ := h.get k hk
  have h := SepO.enter hs
  have h1 := Bfr_b h 7 rfl
  have h2 : s.tm.count true ≤ 1048577 := cnt_b h 8 rfl
  have h3 := Bfr_b h 5 rfl
  have h4 : s.nm.count true ≤ 1048577 := cnt_b h 6 rfl
  unfold RS.left RS.here
  omega
theorem left_nonneg (s : RS) : 0 ≤ s.left ∧ 0 ≤ s.here := by unfold RS.left RS.here; omega
end Go.Proofs.Ytpohemiejbjpnaa.Re
