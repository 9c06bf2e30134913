/- Marks as parts of memory; the document's pages. No condition. -/
import Derived.Test.YtpohemiejbjpnaaCard
import Derived.Test.YtpohemiejbjpnaaSep
set_option linter.unusedVariables false
set_option linter.unusedSimpArgs false
namespace Go.Proofs.Ytpohemiejbjpnaa.Cd
open Go.RowKit Go.Proofs.Ytpohemiejbjpnaa.W

def Crd (b : Nat) (s : Cd) : Pr := ⟨fun w o => CRep w o b s, fun h k hn => h.keep k hn, fun h hs => h.mono hs, fun h => h.bound⟩
section
variable {W w : World} {oo : Nat → Prop} {l : List Pr} {b : Nat} {s : Cd}
theorem Crd_ok (h : SepO W oo w l) (k : Nat) (hk : l[k]? = some (Crd b s)) : s.ok := by
  obtain ⟨o, ⟨g, _, _, h, _⟩, _⟩ := h.get k hk
  exact h
theorem New_sep (f n c : Int) (h : SepO W oo w l) : Calls Try.prog 17 #[.int .i64 f, .int .i64 n, .int .i64 c] w fun e w' => ∃ b, e = .returned (.pointer (some ⟨b, 0, none⟩)) ∧
    SepO W oo w' (l ++ [Crd b ⟨clampN f, clampN n, clamp1 c, List.replicate (Cd.num (clampN n) (clamp1 c)).toNat false⟩]) :=
  (New_calls f n c w).mono fun e w' ⟨b, he, hr, hk⟩ => ⟨b, he, h.add hk hr⟩
theorem Mark_sep (a : Int) (h : SepO W oo w l) (k : Nat) (hk : l[k]? = some (Crd b s)) (ha9 : a ≤ 9223372036854775807) : Calls Try.prog 21 #[.pointer (some ⟨b, 0, none⟩), .int .i64 a] w fun e w' =>
    e = .returned (.bool (decide (0 ≤ s.of_ a))) ∧ SepO W oo w' (l.set k (Crd b { s with m := if 0 ≤ s.of_ a then s.m.set (s.of_ a).toNat true else s.m })) := by
  obtain ⟨o, hp, _, hup⟩ := h.open0 k hk
  exact (Mark_calls a w hp ha9).mono fun e w' ⟨he, hr, hkk⟩ => ⟨he, hup w' (Crd _ _) hr hkk⟩
theorem Clear_sep (a : Int) (h : SepO W oo w l) (k : Nat) (hk : l[k]? = some (Crd b s)) : Calls Try.prog 24 #[.pointer (some ⟨b, 0, none⟩), .int .i64 a] w fun e w' =>
    e = .returned (.bool (s.isMark a)) ∧ SepO W oo w' (l.set k (Crd b { s with m := if s.isMark a then s.m.set a.toNat false else s.m })) := by
  obtain ⟨o, hp, _, hup⟩ := h.open0 k hk
  exact (Clear_calls a w hp).mono fun e w' ⟨he, hr, hkk⟩ => ⟨he, hup w' (Crd _ _) hr hkk⟩
theorem First_sep (a : Int) (h : SepO W oo w l) (k : Nat) (hk : l[k]? = some (Crd b s)) : Calls Try.prog 23 #[.pointer (some ⟨b, 0, none⟩), .int .i64 a] w fun e w' =>
    ∃ r, IsFirst s.m a.toNat r ∧ e = .returned (.tuple #[.int .i64 (fstO r), .bool r.isSome]) ∧ w = w' := by
  obtain ⟨o, hp, _, hup⟩ := h.open0 k hk
  exact First_calls a w hp
theorem Count_sep (h : SepO W oo w l) (k : Nat) (hk : l[k]? = some (Crd b s)) : Calls Try.prog 19 #[.pointer (some ⟨b, 0, none⟩)] w fun e w' => e = .returned (.int .i64 (s.m.count true)) ∧ w = w' := by
  obtain ⟨o, hp, _, hup⟩ := h.open0 k hk
  exact Count_calls w hp
theorem Part_sep (a : Int) (h : SepO W oo w l) (k : Nat) (hk : l[k]? = some (Crd b s)) : Calls Try.prog 25 #[.pointer (some ⟨b, 0, none⟩), .int .i64 a] w fun e w' => e = .returned (.tuple #[.int .i64 (s.part a).1, .int .i64 (s.part a).2]) ∧ SepO W oo w' l := by
  obtain ⟨o, hp, _, hup⟩ := h.open0 k hk
  exact (Part_calls a w hp).mono fun e w' ⟨he, n, hw⟩ => ⟨he, hw ▸ h.drewN n⟩
end
theorem IsFirst.uniq {m : List Bool} {k : Nat} {r r' : Option Nat} (h : IsFirst m k r) (h' : IsFirst m k r') : r = r' := by
  cases r with
  | none => cases r' with
    | none => rfl
    | some j => have := h j h'.1; rw [h'.2.2.1] at this; cases this
  | some i => cases r' with
    | none => have := h' i h.1; rw [h.2.2.1] at this; cases this
    | some j =>
      obtain ⟨a1, a2, a3, a4⟩ := h
      obtain ⟨b1, b2, b3, b4⟩ := h'
      rcases Nat.lt_trichotomy i j with hl | rfl | hl
      · have := b4 i a1 hl; rw [a3] at this; cases this
      · rfl
      · have := a4 j b1 hl; rw [b3] at this; cases this
/-- The first mark of all. -/
def fstI (m : List Bool) : Option Nat := if m.findIdx id < m.length then some (m.findIdx id) else none
theorem fstI_spec (m : List Bool) : IsFirst m 0 (fstI m) := by
  unfold fstI
  by_cases h : m.findIdx id < m.length
  · rw [if_pos h]
    refine ⟨Nat.zero_le _, h, ?_, fun j _ hj => ?_⟩
    · have := List.findIdx_getElem (xs := m) (p := id) (w := h)
      rw [List.getElem?_eq_getElem h]; simpa using this
    · have := List.not_of_lt_findIdx (xs := m) (p := id) hj
      rw [List.getElem?_eq_getElem (by omega)]; simpa using this
  · rw [if_neg h]
    intro j _
    rcases Nat.lt_or_ge j m.length with hl | hl
    · have := List.not_of_lt_findIdx (xs := m) (p := id) (i := j) (by omega)
      rw [List.getElem?_eq_getElem hl]; simpa using this
    · rw [List.getElem?_eq_none hl]; rfl
theorem of_in {f n c a : Int} {m : List Bool} (h0 : f ≤ a) (h1 : a < f + n) : Cd.of_ ⟨f, n, c, m⟩ a = (a - f) / c := if_pos (by simp; omega)
theorem of_out {f n c a : Int} {m : List Bool} (h : ¬ (f ≤ a ∧ a < f + n)) : Cd.of_ ⟨f, n, c, m⟩ a = -1 := if_neg (by simp; omega)
end Go.Proofs.Ytpohemiejbjpnaa.Cd
