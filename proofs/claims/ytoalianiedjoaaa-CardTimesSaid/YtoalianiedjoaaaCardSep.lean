/- Marks as parts of memory; the document's pages. No condition. -/
import Derived.Test.YtoalianiedjoaaaCardLaws
import Derived.Test.YtoalianiedjoaaaSep
set_option linter.unusedVariables false
set_option linter.unusedSimpArgs false
namespace Go.Proofs.Ytoalianiedjoaaa.Cd
open Go.RowKit Go.Proofs.Ytoalianiedjoaaa.W Go.Proofs.Ytoalianiedjoaaa.Sm

def Crd (b : Nat) (s : Cd) : Pr := ⟨fun w o => CRep w o b s, fun h k hn => h.keep k hn, fun h hs => h.mono hs, fun h => h.bound⟩
section
variable {W w : World} {l : List Pr} {b : Nat} {s : Cd}
theorem Crd_ok (h : Sep W w l) (k : Nat) (hk : l[k]? = some (Crd b s)) : s.ok := by
  obtain ⟨o, ⟨g, _, _, h, _⟩, _⟩ := h.get k hk
  exact h
theorem New_sep (f n c : Int) (h : Sep W w l) : Calls Try.prog 25 #[.int .i64 f, .int .i64 n, .int .i64 c] w fun e w' => ∃ b, e = .returned (.pointer (some ⟨b, 0, none⟩)) ∧
    Sep W w' (l ++ [Crd b ⟨clampN f, clampN n, clamp1 c, List.replicate (Cd.num (clampN n) (clamp1 c)).toNat false⟩]) :=
  (New_calls f n c w).mono fun e w' ⟨b, he, hr, hk⟩ => ⟨b, he, h.add hk hr⟩
theorem Mark_sep (a : Int) (h : Sep W w l) (k : Nat) (hk : l[k]? = some (Crd b s)) (ha9 : a ≤ 9223372036854775807) : Calls Try.prog 27 #[.pointer (some ⟨b, 0, none⟩), .int .i64 a] w fun e w' =>
    e = .returned (.bool (decide (0 ≤ s.of_ a))) ∧ Sep W w' (l.set k (Crd b { s with m := if 0 ≤ s.of_ a then s.m.set (s.of_ a).toNat true else s.m })) := by
  obtain ⟨o, hp, _, hup⟩ := h.open0 k hk
  exact (Mark_calls a w hp ha9).mono fun e w' ⟨he, hr, hkk⟩ => ⟨he, hup w' (Crd _ _) hr hkk⟩
theorem Marked_sep (a : Int) (h : Sep W w l) (k : Nat) (hk : l[k]? = some (Crd b s)) (ha9 : a ≤ 9223372036854775807) : Calls Try.prog 31 #[.pointer (some ⟨b, 0, none⟩), .int .i64 a] w fun e w' => e = .returned (.bool (s.marked a)) ∧ Sep W w' l := by
  obtain ⟨o, hp, _, hup⟩ := h.open0 k hk
  exact (Marked_calls a w hp ha9).mono fun e w' ⟨he, n, hw⟩ => ⟨he, hw ▸ h.drewN n⟩
theorem Clear_sep (a : Int) (h : Sep W w l) (k : Nat) (hk : l[k]? = some (Crd b s)) : Calls Try.prog 28 #[.pointer (some ⟨b, 0, none⟩), .int .i64 a] w fun e w' =>
    e = .returned (.bool (s.isMark a)) ∧ Sep W w' (l.set k (Crd b { s with m := if s.isMark a then s.m.set a.toNat false else s.m })) := by
  obtain ⟨o, hp, _, hup⟩ := h.open0 k hk
  exact (Clear_calls a w hp).mono fun e w' ⟨he, hr, hkk⟩ => ⟨he, hup w' (Crd _ _) hr hkk⟩
theorem First_sep (a : Int) (h : Sep W w l) (k : Nat) (hk : l[k]? = some (Crd b s)) : Calls Try.prog 29 #[.pointer (some ⟨b, 0, none⟩), .int .i64 a] w fun e w' =>
    ∃ r, IsFirst s.m a.toNat r ∧ e = .returned (.tuple #[.int .i64 (fstO r), .bool r.isSome]) ∧ w = w' := by
  obtain ⟨o, hp, _, hup⟩ := h.open0 k hk
  exact First_calls a w hp
theorem Count_sep (h : Sep W w l) (k : Nat) (hk : l[k]? = some (Crd b s)) : Calls Try.prog 30 #[.pointer (some ⟨b, 0, none⟩)] w fun e w' => e = .returned (.int .i64 (s.m.count true)) ∧ w = w' := by
  obtain ⟨o, hp, _, hup⟩ := h.open0 k hk
  exact Count_calls w hp
theorem Part_sep (a : Int) (h : Sep W w l) (k : Nat) (hk : l[k]? = some (Crd b s)) : Calls Try.prog 32 #[.pointer (some ⟨b, 0, none⟩), .int .i64 a] w fun e w' => e = .returned (.tuple #[.int .i64 (s.part a).1, .int .i64 (s.part a).2]) ∧ Sep W w' l := by
  obtain ⟨o, hp, _, hup⟩ := h.open0 k hk
  exact (Part_calls a w hp).mono fun e w' ⟨he, n, hw⟩ => ⟨he, hw ▸ h.drewN n⟩
theorem awake_sep (h : Sep W w l) : Calls Try.prog 24 #[] w fun e w' => e = .returned (.bool true) ∧ Sep W w' l :=
  (awake_calls w).mono fun e w' ⟨he, hk⟩ => ⟨he, h.stay hk⟩
end
theorem of_in {f n c a : Int} {m : List Bool} (h0 : f ≤ a) (h1 : a < f + n) : Cd.of_ ⟨f, n, c, m⟩ a = (a - f) / c := if_pos (by simp; omega)
theorem of_out {f n c a : Int} {m : List Bool} (h : ¬ (f ≤ a ∧ a < f + n)) : Cd.of_ ⟨f, n, c, m⟩ a = -1 := if_neg (by simp; omega)
end Go.Proofs.Ytoalianiedjoaaa.Cd
