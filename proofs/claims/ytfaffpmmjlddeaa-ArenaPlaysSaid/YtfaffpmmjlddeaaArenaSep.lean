/- Arenas as parts of memory. No condition. -/
import Derived.Test.YtfaffpmmjlddeaaArena
import Derived.Test.YtfaffpmmjlddeaaSep
set_option linter.unusedVariables false
set_option linter.unusedSimpArgs false
namespace Go.Proofs.Ytfaffpmmjlddeaa.Ar
open Go.RowKit Go.Proofs.Ytfaffpmmjlddeaa.W

def Arn (b : Nat) (ws : List Int) (n : Int) : Pr := ⟨fun w o => ARep w o b ws n, fun h k hn => h.keep k hn, fun h hs => h.mono hs, fun h => h.bound⟩
section
variable {W w : World} {l : List Pr} {b : Nat} {ws : List Int} {n : Int}
theorem Arn_len (h : Sep W w l) (k : Nat) (hk : l[k]? = some (Arn b ws n)) : ws.length ≤ 1048576 := by
  obtain ⟨o, hp, _⟩ := h.get k hk
  exact ARep.len hp
theorem New_sep (n : Int) (h : Sep W w l) : Calls Try.prog 13 #[.int .i64 n] w fun e w' => ∃ b, e = .returned (.pointer (some ⟨b, 0, none⟩)) ∧ Sep W w' (l ++ [Arn b (List.replicate (clampN n).toNat 0) 0]) :=
  (New_calls n w).mono fun e w' ⟨b, he, hr, hk⟩ => ⟨b, he, h.add hk hr⟩
theorem Len_sep (h : Sep W w l) (k : Nat) (hk : l[k]? = some (Arn b ws n)) : Calls Try.prog 16 #[.pointer (some ⟨b, 0, none⟩)] w fun e w' => e = .returned (.int .i64 ws.length) ∧ w = w' := by
  obtain ⟨o, hp, _, hup⟩ := h.open0 k hk
  exact Len_calls w hp
theorem Count_sep (h : Sep W w l) (k : Nat) (hk : l[k]? = some (Arn b ws n)) : Calls Try.prog 21 #[.pointer (some ⟨b, 0, none⟩)] w fun e w' => e = .returned (.int .i64 n) ∧ w = w' := by
  obtain ⟨o, hp, _, hup⟩ := h.open0 k hk
  exact Count_calls w hp
theorem Load_yes' (a : Int) (h : Sep W w l) (k : Nat) (hk : l[k]? = some (Arn b ws n)) (hw : within ws.length a 1 = true) : Calls Try.prog 14 #[.pointer (some ⟨b, 0, none⟩), .int .i64 a] w fun e w' =>
    e = .returned (.tuple #[.int .u64 (ws[a.toNat]?.getD 0), .int .i64 0]) ∧ Sep W w' (l.set k (Arn b ws (wrap64 (n + 1)))) := by
  obtain ⟨o, hp, _, hup⟩ := h.open0 k hk
  exact (Load_calls a w hp).mono fun e w' ⟨he, hr, hkk⟩ => by
    rw [hw] at he hr
    exact ⟨he, hup w' (Arn _ _ _) hr hkk⟩
theorem Load_no' (a : Int) (h : Sep W w l) (k : Nat) (hk : l[k]? = some (Arn b ws n)) (hw : within ws.length a 1 = false) : Calls Try.prog 14 #[.pointer (some ⟨b, 0, none⟩), .int .i64 a] w fun e w' =>
    e = .returned (.tuple #[.int .u64 0, .int .i64 2]) ∧ Sep W w' (l.set k (Arn b ws n)) := by
  obtain ⟨o, hp, _, hup⟩ := h.open0 k hk
  exact (Load_calls a w hp).mono fun e w' ⟨he, hr, hkk⟩ => by
    rw [hw] at he hr
    exact ⟨he, hup w' (Arn _ _ _) hr hkk⟩
theorem Store_yes' (a x : Int) (h : Sep W w l) (k : Nat) (hk : l[k]? = some (Arn b ws n)) (hw : within ws.length a 1 = true) : Calls Try.prog 18 #[.pointer (some ⟨b, 0, none⟩), .int .i64 a, .int .u64 x] w fun e w' =>
    e = .returned (.int .i64 0) ∧ Sep W w' (l.set k (Arn b (ws.set a.toNat x) (wrap64 (n + 1)))) := by
  obtain ⟨o, hp, _, hup⟩ := h.open0 k hk
  exact (Store_calls a x w hp).mono fun e w' ⟨he, hr, hkk⟩ => by
    rw [hw] at he hr
    exact ⟨he, hup w' (Arn _ _ _) hr hkk⟩
theorem Store_no' (a x : Int) (h : Sep W w l) (k : Nat) (hk : l[k]? = some (Arn b ws n)) (hw : within ws.length a 1 = false) : Calls Try.prog 18 #[.pointer (some ⟨b, 0, none⟩), .int .i64 a, .int .u64 x] w fun e w' =>
    e = .returned (.int .i64 2) ∧ Sep W w' (l.set k (Arn b ws n)) := by
  obtain ⟨o, hp, _, hup⟩ := h.open0 k hk
  exact (Store_calls a x w hp).mono fun e w' ⟨he, hr, hkk⟩ => by
    rw [hw] at he hr
    exact ⟨he, hup w' (Arn _ _ _) hr hkk⟩
theorem Copy_yes' (a c j : Int) (h : Sep W w l) (k : Nat) (hk : l[k]? = some (Arn b ws n)) (hw : (within ws.length a j && within ws.length c j) = true) : Calls Try.prog 17 #[.pointer (some ⟨b, 0, none⟩), .int .i64 a, .int .i64 c, .int .i64 j] w fun e w' =>
    e = .returned (.int .i64 0) ∧ Sep W w' (l.set k (Arn b (cpy ws a.toNat c.toNat j.toNat) (wrap64 (n + 2 * j)))) := by
  obtain ⟨o, hp, _, hup⟩ := h.open0 k hk
  exact (Copy_calls a c j w hp).mono fun e w' ⟨he, hr, hkk⟩ => by
    rw [hw] at he hr
    exact ⟨he, hup w' (Arn _ _ _) hr hkk⟩
theorem Copy_no' (a c j : Int) (h : Sep W w l) (k : Nat) (hk : l[k]? = some (Arn b ws n)) (hw : (within ws.length a j && within ws.length c j) = false) : Calls Try.prog 17 #[.pointer (some ⟨b, 0, none⟩), .int .i64 a, .int .i64 c, .int .i64 j] w fun e w' =>
    e = .returned (.int .i64 2) ∧ Sep W w' (l.set k (Arn b ws n)) := by
  obtain ⟨o, hp, _, hup⟩ := h.open0 k hk
  exact (Copy_calls a c j w hp).mono fun e w' ⟨he, hr, hkk⟩ => by
    rw [hw] at he hr
    exact ⟨he, hup w' (Arn _ _ _) hr hkk⟩
theorem Zero_yes' (a j : Int) (h : Sep W w l) (k : Nat) (hk : l[k]? = some (Arn b ws n)) (hw : within ws.length a j = true) : Calls Try.prog 20 #[.pointer (some ⟨b, 0, none⟩), .int .i64 a, .int .i64 j] w fun e w' =>
    e = .returned (.int .i64 0) ∧ Sep W w' (l.set k (Arn b (zro ws a.toNat j.toNat) (wrap64 (n + j)))) := by
  obtain ⟨o, hp, _, hup⟩ := h.open0 k hk
  exact (Zero_calls a j w hp).mono fun e w' ⟨he, hr, hkk⟩ => by
    rw [hw] at he hr
    exact ⟨he, hup w' (Arn _ _ _) hr hkk⟩
theorem Zero_no' (a j : Int) (h : Sep W w l) (k : Nat) (hk : l[k]? = some (Arn b ws n)) (hw : within ws.length a j = false) : Calls Try.prog 20 #[.pointer (some ⟨b, 0, none⟩), .int .i64 a, .int .i64 j] w fun e w' =>
    e = .returned (.int .i64 2) ∧ Sep W w' (l.set k (Arn b ws n)) := by
  obtain ⟨o, hp, _, hup⟩ := h.open0 k hk
  exact (Zero_calls a j w hp).mono fun e w' ⟨he, hr, hkk⟩ => by
    rw [hw] at he hr
    exact ⟨he, hup w' (Arn _ _ _) hr hkk⟩
end
theorem cpy_step {ws : List Int} {i j m : Nat} (hi : i + (m + 1) ≤ ws.length) (hj : j + (m + 1) ≤ ws.length) : (cpy ws i j m).set (j + m) (ws[i + m]?.getD 0) = cpy ws i j (m + 1) := by
  apply List.ext_getElem?
  intro x
  have hl := cpy_len (ws := ws) (i := i) (j := j) (k := m) (by omega) (by omega)
  rw [List.getElem?_set, cpy_get (k := m + 1) hi hj, hl]
  by_cases hx : j + m = x
  · subst hx
    rw [if_pos rfl, if_pos (by omega), if_pos (by omega), show i + (j + m - j) = i + m by omega, List.getElem?_eq_getElem (by omega)]
    rfl
  · rw [if_neg hx, cpy_get (k := m) (by omega) (by omega)]
    by_cases h2 : j ≤ x ∧ x < j + m
    · rw [if_pos h2, if_pos (by omega)]
    · rw [if_neg h2, if_neg (by omega)]
theorem zro_step {ws : List Int} {i m : Nat} (hi : i + (m + 1) ≤ ws.length) : (zro ws i m).set (i + m) 0 = zro ws i (m + 1) := by
  apply List.ext_getElem?
  intro x
  have hl := zro_len (ws := ws) (i := i) (k := m) (by omega)
  rw [List.getElem?_set, zro_get (k := m + 1) hi, hl]
  by_cases hx : i + m = x
  · subst hx
    rw [if_pos rfl, if_pos (by omega), if_pos (by omega)]
  · rw [if_neg hx, zro_get (k := m) (by omega)]
    by_cases h2 : i ≤ x ∧ x < i + m
    · rw [if_pos h2, if_pos (by omega)]
    · rw [if_neg h2, if_neg (by omega)]
theorem zro_zero (ws : List Int) (i : Nat) : zro ws i 0 = ws := by simp [zro]
end Go.Proofs.Ytfaffpmmjlddeaa.Ar
