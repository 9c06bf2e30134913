/- Sizes of cells, as a plain function: what it is at least and at most, that it rises, and that it is its own size. -/
import Derived.RowKit
set_option linter.unusedVariables false
namespace Go.Proofs.Ytjgjablmkljfoaa.CR
open Go.RowKit

/-- The least of n, n + n/2, 2n, .. that is not below x (d doublings at most). -/
def R : Nat → Int → Int → Int
  | 0, n, _ => n
  | d + 1, n, x => if x ≤ n then n else if x ≤ n + n / 2 then n + n / 2 else R d (2 * n) x

theorem R_ge_n (d : Nat) : ∀ n x : Int, 0 ≤ n → n ≤ R d n x := by
  induction d with
  | zero => intro n x _; exact Int.le_refl _
  | succ d ih =>
    intro n x hn
    unfold R
    split
    · exact Int.le_refl _
    · split
      · omega
      · have := ih (2 * n) x (by omega); omega

theorem R_le (d : Nat) : ∀ n x : Int, 0 ≤ n → R d n x ≤ n * 2 ^ d := by
  induction d with
  | zero => intro n x _; simp [R]
  | succ d ih =>
    intro n x hn
    have h1 : (1 : Int) ≤ 2 ^ d := by exact_mod_cast Nat.one_le_two_pow
    have h2 : n ≤ n * 2 ^ d := by
      have := Int.mul_le_mul_of_nonneg_left h1 hn
      omega
    have h3 : n * 2 ^ (d + 1) = 2 * (n * 2 ^ d) := by rw [Int.pow_succ, ← Int.mul_assoc, Int.mul_comm]
    unfold R
    split
    · omega
    · split
      · omega
      · have := ih (2 * n) x (by omega)
        rw [Int.mul_assoc] at this
        omega

theorem R_ge_x (d : Nat) : ∀ n x : Int, 0 ≤ n → x ≤ n * 2 ^ d → x ≤ R d n x := by
  induction d with
  | zero => intro n x _ h; simpa [R] using h
  | succ d ih =>
    intro n x hn h
    have h3 : n * 2 ^ (d + 1) = 2 * n * 2 ^ d := by rw [Int.pow_succ, ← Int.mul_assoc, Int.mul_right_comm, Int.mul_comm n 2]
    unfold R
    split
    · assumption
    · split
      · assumption
      · exact ih (2 * n) x (by omega) (by omega)

theorem R_mono (d : Nat) : ∀ n x y : Int, 0 ≤ n → x ≤ y → R d n x ≤ R d n y := by
  induction d with
  | zero => intro n x y _ _; exact Int.le_refl _
  | succ d ih =>
    intro n x y hn h
    have g1 := R_ge_n d (2 * n) y (by omega)
    have g2 := ih (2 * n) x y (by omega) h
    unfold R
    repeat' split
    all_goals omega

theorem R_idem (d : Nat) : ∀ n x : Int, 0 < n → n % 2 = 0 → R d n (R d n x) = R d n x := by
  induction d with
  | zero => intro n x _ _; rfl
  | succ d ih =>
    intro n x hn he
    have g1 := R_ge_n d (2 * n) x (by omega)
    by_cases h1 : x ≤ n
    · have e : R (d + 1) n x = n := by unfold R; rw [if_pos h1]
      rw [e]; unfold R; rw [if_pos (Int.le_refl _)]
    · by_cases h2 : x ≤ n + n / 2
      · have e : R (d + 1) n x = n + n / 2 := by unfold R; rw [if_neg h1, if_pos h2]
        rw [e]; unfold R; rw [if_neg (by omega), if_pos (Int.le_refl _)]
      · have e : R (d + 1) n x = R d (2 * n) x := by conv => lhs; unfold R
                                                     rw [if_neg h1, if_neg h2]
        rw [e]
        conv => lhs; unfold R
        rw [if_neg (by omega), if_neg (by omega)]
        exact ih (2 * n) x (by omega) (by omega)

/-- Less than half is wasted, but for the first. -/
theorem R_tight (d : Nat) : ∀ n x : Int, 0 < n → n % 4 = 0 → n < x + n / 4 → x ≤ n * 2 ^ d → 2 * (R d n x - x) < R d n x := by
  induction d with
  | zero => intro n x h1 h2 h3 h4; simp [R] at h4 ⊢; omega
  | succ d ih =>
    intro n x h1 h2 h3 h4
    have e3 : n * 2 ^ (d + 1) = 2 * n * 2 ^ d := by rw [Int.pow_succ, ← Int.mul_assoc, Int.mul_right_comm, Int.mul_comm n 2]
    unfold R
    split
    · omega
    · split
      · omega
      · exact ih (2 * n) x (by omega) (by omega) (by omega) (by omega)

theorem R_tight4 (x : Int) (h0 : 0 ≤ x) (h : x ≤ 1099511627776) : 2 * (R 38 4 x - x) < R 38 4 x + 7 := by
  by_cases h3 : 3 < x
  · have := R_tight 38 4 x (by omega) (by omega) (by omega) (by rw [show (4 : Int) * 2 ^ 38 = 1099511627776 from by decide]; exact h)
    omega
  · have e : R 38 4 x = 4 := by unfold R; rw [if_pos (by omega)]
    rw [e]; omega
theorem R_bounds (x : Int) : 4 ≤ R 38 4 x ∧ R 38 4 x ≤ 1099511627776 := by
  have h1 := R_ge_n 38 4 x (by omega)
  have h2 := R_le 38 4 x (by omega)
  rw [show (4 : Int) * 2 ^ 38 = 1099511627776 from by decide] at h2
  exact ⟨h1, h2⟩
theorem R_fits (x : Int) (h : x ≤ 1099511627776) : x ≤ R 38 4 x := R_ge_x 38 4 x (by omega) (by rw [show (4 : Int) * 2 ^ 38 = 1099511627776 from by decide]; exact h)

/-- Whole pages: not one more than are wanted. -/
theorem pages_up {p w : Int} (hp : 0 < p) (hw : 0 < w) : w ≤ (w / p + (if 1 < w % p then 1 else w % p)) * p ∧ ((w / p + (if 1 < w % p then 1 else w % p)) - 1) * p < w := by
  have h1 := Int.mul_ediv_add_emod w p
  have h2 := Int.emod_nonneg w (by omega : p ≠ 0)
  have h3 := Int.emod_lt_of_pos w hp
  rw [Int.mul_comm] at h1
  by_cases h0 : w % p = 0
  · have e : (if 1 < w % p then 1 else w % p) = 0 := by rw [h0]; simp
    rw [e, Int.add_zero, Int.sub_mul]
    omega
  · have e : (if 1 < w % p then 1 else w % p) = 1 := by split <;> omega
    rw [e, Int.add_sub_cancel, Int.add_mul]
    omega
end Go.Proofs.Ytjgjablmkljfoaa.CR
