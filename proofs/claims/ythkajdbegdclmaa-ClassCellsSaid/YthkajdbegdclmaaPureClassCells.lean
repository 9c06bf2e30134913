/- The plain law of ClassCells over the printed functions. No condition beside the kinds' bounds. -/
import Derived.Test.YthkajdbegdclmaaPClassCellsx
import Derived.Test.YthkajdbegdclmaaClassR
set_option linter.unusedVariables false
set_option linter.unusedSimpArgs false
namespace Go.Proofs.Ythkajdbegdclmaa.Pure
open Go.RowKit Go.Proofs.Ythkajdbegdclmaa.PClassCells Go.Proofs.YthkajdbegdclmaaW.PrintWords Go.Proofs.YthkajdbegdclmaaW.PrintLast Go.Proofs.YthkajdbegdclmaaW.PrintMore Go.Proofs.Ythkajdbegdclmaa.CR
namespace ClassCellsIn

theorem w64 {n : Int} (h1 : -9223372036854775808 ≤ n) (h2 : n ≤ 9223372036854775807) : wrap64 n = n := by unfold wrap64; omega
theorem round_l0 (d : Nat) : ∀ (k : Nat) (x n : Int), 4 ≤ n → n % 2 = 0 → n * 2 ^ d = 1099511627776 → 2 * d + 1 < k → class_Round.l0 k x n = some (R d n x) := by
  induction d with
  | zero =>
    intro k x n h4 he hn hk
    obtain ⟨k, rfl⟩ : ∃ m, k = m + 2 := ⟨k - 2, by omega⟩
    have hn' : n = 1099511627776 := by simpa using hn
    simp only [class_Round.l0, class_Round.j1, R]
    subst hn'
    split <;> simp
  | succ d ih =>
    intro k x n h4 he hn hk
    obtain ⟨k, rfl⟩ : ∃ m, k = m + 2 := ⟨k - 2, by omega⟩
    have e3 : n * 2 ^ (d + 1) = 2 * n * 2 ^ d := by rw [Int.pow_succ, ← Int.mul_assoc, Int.mul_right_comm, Int.mul_comm n 2]
    have hp : (1 : Int) ≤ 2 ^ d := by exact_mod_cast Nat.one_le_two_pow
    have hb : 2 * n ≤ 1099511627776 := by
      have := Int.mul_le_mul_of_nonneg_left hp (show (0 : Int) ≤ 2 * n by omega)
      omega
    have et : n.tdiv 2 = n / 2 := Int.tdiv_eq_ediv_of_nonneg (by omega)
    have e1 : wrap64 (n + wrap64 (n.tdiv 2)) = n + n / 2 := by rw [et, w64 (n := n / 2) (by omega) (by omega), w64 (n := n + n / 2) (by omega) (by omega)]
    have e2 : wrap64 (n * 2) = 2 * n := by rw [w64 (by omega) (by omega)]; omega
    have hi := ih k x (2 * n) (by omega) (by omega) (by omega) (by omega)
    simp only [class_Round.l0, class_Round.j1, R, e1, e2]
    by_cases h1 : n < x
    · rw [if_pos h1, if_pos (by simpa using (by omega : n < 1099511627776)), if_neg (by omega : ¬ x ≤ n)]
      by_cases h2 : x ≤ n + n / 2
      · rw [if_pos h2, if_pos h2]
      · rw [if_neg h2, if_neg (by omega), hi]
    · rw [if_neg h1, if_neg (by simp), if_pos (by omega : x ≤ n)]
theorem round_f (k : Nat) (x : Int) (hk : 80 ≤ k) : class_Round.f k x = some (R 38 4 x) := round_l0 38 k x 4 (by omega) (by omega) (by decide) (by omega)

theorem ref_l0 (d : Nat) : ∀ (k : Nat) (x n b : Int), 4 ≤ n → n % 2 = 0 → b = n + n / 2 → n * 2 ^ d = 1099511627776 → d + 1 < k → tilthref01_Round.l0 k x n b = some (R d n x) := by
  induction d with
  | zero =>
    intro k x n b h4 he hb hn hk
    obtain ⟨k, rfl⟩ : ∃ m, k = m + 1 := ⟨k - 1, by omega⟩
    have hn' : n = 1099511627776 := by simpa using hn
    simp only [tilthref01_Round.l0, R]
    rw [if_neg (by omega)]
  | succ d ih =>
    intro k x n b h4 he hb hn hk
    obtain ⟨k, rfl⟩ : ∃ m, k = m + 1 := ⟨k - 1, by omega⟩
    have e3 : n * 2 ^ (d + 1) = 2 * n * 2 ^ d := by rw [Int.pow_succ, ← Int.mul_assoc, Int.mul_right_comm, Int.mul_comm n 2]
    have hp : (1 : Int) ≤ 2 ^ d := by exact_mod_cast Nat.one_le_two_pow
    have hb2 : 2 * n ≤ 1099511627776 := by
      have := Int.mul_le_mul_of_nonneg_left hp (show (0 : Int) ≤ 2 * n by omega)
      omega
    have e1 : wrap64 (2 * n) = 2 * n := w64 (by omega) (by omega)
    have e2 : wrap64 (2 * b) = 2 * b := w64 (by omega) (by omega)
    have hi := ih k x (2 * n) (2 * b) (by omega) (by omega) (by omega) (by omega) (by omega)
    simp only [tilthref01_Round.l0, R, e1, e2]
    rw [if_pos (by omega : n < 1099511627776)]
    by_cases h1 : x ≤ n
    · rw [if_pos h1, if_pos h1]
    · rw [if_neg (by omega), if_neg h1]
      by_cases h2 : x ≤ n + n / 2
      · rw [if_pos (by omega), if_pos h2, hb]
      · rw [if_neg (by omega), if_neg h2, hi]
theorem ref_f (k : Nat) (x : Int) (hk : 80 ≤ k) : tilthref01_Round.f k x = some (R 38 4 x) := ref_l0 38 k x 4 6 (by omega) (by omega) (by omega) (by decide) (by omega)

theorem large_f (k : Nat) (p x : Int) (hk : 80 ≤ k) : class_Large.f k p x = some (decide (R 38 4 x > wrap64 (p.tdiv 2))) := by
  unfold class_Large.f; rw [round_f k x hk]; rfl

theorem awake_f (k : Nat) (hk : 80 ≤ k) : tilthlaw04_awake.f k = some true := by
  unfold tilthlaw04_awake.f class_Cell.f class_Pages.f class_Cells.f
  rw [large_f k _ _ hk, large_f k _ _ hk, large_f k _ _ hk, round_f k _ hk, round_f k _ hk, round_f k _ hk, ref_f k _ hk]
  have e5 : R 38 4 5 = 6 := by decide
  have e13 : R 38 4 13 = 16 := by decide
  have e17 : R 38 4 17 = 24 := by decide
  have e16 : R 38 4 16 = 16 := by decide
  have e65 : R 38 4 65 = 96 := by decide
  have e7 : R 38 4 7 = 8 := by decide
  simp [e5, e13, e17, e16, e65, e7, wrap64, mx, mn]
  try decide

theorem refpages_f (k : Nat) (p w : Int) (hk : 1 < k) (hwb : w ≤ 9223372036854775807) (hpb : p ≤ 9223372036854775807) : tilthref01_Pages.f k p w = class_Pages.f p w := by
  obtain ⟨k, rfl⟩ : ∃ m, k = m + 1 := ⟨k - 1, by omega⟩
  unfold tilthref01_Pages.f class_Pages.f
  by_cases h1 : p < 1
  · rw [if_pos h1, if_pos h1]; simp [tilthref01_Pages.j0]
  · rw [if_neg h1, if_neg h1]
    by_cases h2 : w < 1
    · rw [if_pos h2]; simp [tilthref01_Pages.j0, h2]
    · rw [if_neg h2, if_neg (by omega)]
      simp only [tilthref01_Pages.j0]
      rw [if_neg (by simpa using h2), if_neg (by omega), Int.tdiv_eq_ediv_of_nonneg (by omega), Int.tmod_eq_emod_of_nonneg (by omega)]
      have h3 := Int.emod_nonneg w (by omega : p ≠ 0)
      have h4 := Int.ediv_nonneg (show 0 ≤ w by omega) (show 0 ≤ p by omega)
      have h5 := Int.ediv_le_self p (show 0 ≤ w by omega)
      rw [w64 (n := w / p) (by omega) (by omega)]
      unfold mn
      by_cases h6 : w % p = 0
      · rw [h6]; simp; rw [w64 (by omega) (by omega)]
      · rw [if_pos (by omega), show (if 1 < w % p then (1 : Int) else w % p) = 1 by split <;> omega]

theorem wf_i64_bounds {a : Int} (h : (Lit.int .i64 a).wf = true) : -9223372036854775808 ≤ a ∧ a ≤ 9223372036854775807 := by
  simpa [Lit.wf, IntKind.min, IntKind.max, IntKind.signed, IntKind.bits] using h
theorem wf_u16_bounds {a : Int} (h : (Lit.int .u16 a).wf = true) : 0 ≤ a ∧ a ≤ 65535 := by
  simpa [Lit.wf, IntKind.min, IntKind.max, IntKind.signed, IntKind.bits] using h
theorem wf_u32_bounds {a : Int} (h : (Lit.int .u32 a).wf = true) : 0 ≤ a ∧ a ≤ 4294967295 := by
  simpa [Lit.wf, IntKind.min, IntKind.max, IntKind.signed, IntKind.bits] using h
end ClassCellsIn
open ClassCellsIn
theorem ClassCells : tilthlaw04_ClassCells.Pure := by
  intro p w hp hw
  have bp := wf_u16_bounds hp
  have bw := wf_u32_bounds hw
  refine ⟨100, ?_⟩
  unfold tilthlaw04_ClassCells.f class_Cell.f
  rw [w64 (n := p) (by omega) (by omega), w64 (n := w) (by omega) (by omega), large_f _ _ _ (by omega), ref_f _ _ (by omega), awake_f _ (by omega), round_f _ _ (by omega), refpages_f _ _ _ (by omega) (by omega) (by omega)]
  simp only [Option.bind_some, decide_eq_true_eq]
  have hx : mx p 0 = p := by unfold mx; split <;> omega
  by_cases h : R 38 4 w > wrap64 (p.tdiv 2)
  · obtain ⟨r, hr⟩ : ∃ r, class_Pages.f p w = some r := by
      unfold class_Pages.f
      split
      · exact ⟨_, rfl⟩
      · split
        · exact ⟨_, rfl⟩
        · rw [if_neg (by omega)]; exact ⟨_, rfl⟩
    simp [h, hr, hx]
  · have := R_fits w (by omega)
    simp [h, this]
end Go.Proofs.Ythkajdbegdclmaa.Pure
