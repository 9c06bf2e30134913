/- The plain law of ClassTight over the printed functions. No condition beside the kinds' bounds. -/
import Derived.Test.YthkajdbegdclmaaPClassTightx
import Derived.Test.YthkajdbegdclmaaClassR
set_option linter.unusedVariables false
set_option linter.unusedSimpArgs false
namespace Go.Proofs.Ythkajdbegdclmaa.Pure
open Go.RowKit Go.Proofs.Ythkajdbegdclmaa.PClassTight Go.Proofs.YthkajdbegdclmaaW.PrintWords Go.Proofs.YthkajdbegdclmaaW.PrintLast Go.Proofs.YthkajdbegdclmaaW.PrintMore Go.Proofs.Ythkajdbegdclmaa.CR
namespace ClassTightIn

theorem w64 {n : Int} (h1 : -9223372036854775808 ≤ n) (h2 : n ≤ 9223372036854775807) : wrap64 n = n := by unfold wrap64; omega
theorem round_l0 (d : Nat) : ∀ (k : Nat) (x n : Int), 4 ≤ n → n % 2 = 0 → n * 2 ^ d = 1099511627776 → 2 * d + 1 < k → class_Round.l0 k x n = some (R d n x) := by
  induction d with
  | zero =>
    intro k x n h4 he hn hk
    obtain ⟨k, rfl⟩ : ∃ m, k = m + 2 := ⟨k - 2, by omega⟩
    have hn' : n = 1099511627776 := by simpa using hn
    simp only [class_Round.l0, class_Round.j1, R]
    subst hn'
    split <;> simp
  | succ d ih =>
    intro k x n h4 he hn hk
    obtain ⟨k, rfl⟩ : ∃ m, k = m + 2 := ⟨k - 2, by omega⟩
    have e3 : n * 2 ^ (d + 1) = 2 * n * 2 ^ d := by rw [Int.pow_succ, ← Int.mul_assoc, Int.mul_right_comm, Int.mul_comm n 2]
    have hp : (1 : Int) ≤ 2 ^ d := by exact_mod_cast Nat.one_le_two_pow
    have hb : 2 * n ≤ 1099511627776 := by
      have := Int.mul_le_mul_of_nonneg_left hp (show (0 : Int) ≤ 2 * n by omega)
      omega
    have et : n.tdiv 2 = n / 2 := Int.tdiv_eq_ediv_of_nonneg (by omega)
    have e1 : wrap64 (n + wrap64 (n.tdiv 2)) = n + n / 2 := by rw [et, w64 (n := n / 2) (by omega) (by omega), w64 (n := n + n / 2) (by omega) (by omega)]
    have e2 : wrap64 (n * 2) = 2 * n := by rw [w64 (by omega) (by omega)]; omega
    have hi := ih k x (2 * n) (by omega) (by omega) (by omega) (by omega)
    simp only [class_Round.l0, class_Round.j1, R, e1, e2]
    by_cases h1 : n < x
    · rw [if_pos h1, if_pos (by simpa using (by omega : n < 1099511627776)), if_neg (by omega : ¬ x ≤ n)]
      by_cases h2 : x ≤ n + n / 2
      · rw [if_pos h2, if_pos h2]
      · rw [if_neg h2, if_neg (by omega), hi]
    · rw [if_neg h1, if_neg (by simp), if_pos (by omega : x ≤ n)]
theorem round_f (k : Nat) (x : Int) (hk : 80 ≤ k) : class_Round.f k x = some (R 38 4 x) := round_l0 38 k x 4 (by omega) (by omega) (by decide) (by omega)

theorem ref_l0 (d : Nat) : ∀ (k : Nat) (x n b : Int), 4 ≤ n → n % 2 = 0 → b = n + n / 2 → n * 2 ^ d = 1099511627776 → d + 1 < k → tilthref01_Round.l0 k x n b = some (R d n x) := by
  induction d with
  | zero =>
    intro k x n b h4 he hb hn hk
    obtain ⟨k, rfl⟩ : ∃ m, k = m + 1 := ⟨k - 1, by omega⟩
    have hn' : n = 1099511627776 := by simpa using hn
    simp only [tilthref01_Round.l0, R]
    rw [if_neg (by omega)]
  | succ d ih =>
    intro k x n b h4 he hb hn hk
    obtain ⟨k, rfl⟩ : ∃ m, k = m + 1 := ⟨k - 1, by omega⟩
    have e3 : n * 2 ^ (d + 1) = 2 * n * 2 ^ d := by rw [Int.pow_succ, ← Int.mul_assoc, Int.mul_right_comm, Int.mul_comm n 2]
    have hp : (1 : Int) ≤ 2 ^ d := by exact_mod_cast Nat.one_le_two_pow
    have hb2 : 2 * n ≤ 1099511627776 := by
      have := Int.mul_le_mul_of_nonneg_left hp (show (0 : Int) ≤ 2 * n by omega)
      omega
    have e1 : wrap64 (2 * n) = 2 * n := w64 (by omega) (by omega)
    have e2 : wrap64 (2 * b) = 2 * b := w64 (by omega) (by omega)
    have hi := ih k x (2 * n) (2 * b) (by omega) (by omega) (by omega) (by omega) (by omega)
    simp only [tilthref01_Round.l0, R, e1, e2]
    rw [if_pos (by omega : n < 1099511627776)]
    by_cases h1 : x ≤ n
    · rw [if_pos h1, if_pos h1]
    · rw [if_neg (by omega), if_neg h1]
      by_cases h2 : x ≤ n + n / 2
      · rw [if_pos (by omega), if_pos h2, hb]
      · rw [if_neg (by omega), if_neg h2, hi]
theorem ref_f (k : Nat) (x : Int) (hk : 80 ≤ k) : tilthref01_Round.f k x = some (R 38 4 x) := ref_l0 38 k x 4 6 (by omega) (by omega) (by omega) (by decide) (by omega)

theorem large_f (k : Nat) (p x : Int) (hk : 80 ≤ k) : class_Large.f k p x = some (decide (R 38 4 x > wrap64 (p.tdiv 2))) := by
  unfold class_Large.f; rw [round_f k x hk]; rfl

theorem awake_f (k : Nat) (hk : 80 ≤ k) : tilthlaw04_awake.f k = some true := by
  unfold tilthlaw04_awake.f class_Cell.f class_Pages.f class_Cells.f
  rw [large_f k _ _ hk, large_f k _ _ hk, large_f k _ _ hk, round_f k _ hk, round_f k _ hk, round_f k _ hk, ref_f k _ hk]
  have e5 : R 38 4 5 = 6 := by decide
  have e13 : R 38 4 13 = 16 := by decide
  have e17 : R 38 4 17 = 24 := by decide
  have e16 : R 38 4 16 = 16 := by decide
  have e65 : R 38 4 65 = 96 := by decide
  have e7 : R 38 4 7 = 8 := by decide
  simp [e5, e13, e17, e16, e65, e7, wrap64, mx, mn]
  try decide

theorem wf_i64_bounds {a : Int} (h : (Lit.int .i64 a).wf = true) : -9223372036854775808 ≤ a ∧ a ≤ 9223372036854775807 := by
  simpa [Lit.wf, IntKind.min, IntKind.max, IntKind.signed, IntKind.bits] using h
theorem wf_u16_bounds {a : Int} (h : (Lit.int .u16 a).wf = true) : 0 ≤ a ∧ a ≤ 65535 := by
  simpa [Lit.wf, IntKind.min, IntKind.max, IntKind.signed, IntKind.bits] using h
theorem wf_u32_bounds {a : Int} (h : (Lit.int .u32 a).wf = true) : 0 ≤ a ∧ a ≤ 4294967295 := by
  simpa [Lit.wf, IntKind.min, IntKind.max, IntKind.signed, IntKind.bits] using h
end ClassTightIn
open ClassTightIn
theorem ClassTight : tilthlaw04_ClassTight.Pure := by
  intro a b ha hb
  have ba := wf_u32_bounds ha
  have bb := wf_u32_bounds hb
  refine ⟨100, ?_⟩
  have key : ∀ x y : Int, 0 ≤ x → x ≤ y → y ≤ 4294967295 → tilthlaw04_ClassTight.j0 100 x y = some true := by
    intro x y h0 h1 h2
    have g1 := R_fits x (by omega)
    have g2 := R_tight4 x h0 (by omega)
    have g3 := R_mono 38 4 x y (by omega) h1
    have g4 := R_idem 38 4 x (by omega) (by omega)
    have g5 := R_bounds x
    simp only [tilthlaw04_ClassTight.j0]
    rw [round_f _ _ (by omega), round_f _ _ (by omega), awake_f _ (by omega)]
    simp only [Option.bind_some, if_true]
    rw [round_f _ _ (by omega), g4]
    rw [if_pos (by omega), w64 (n := R 38 4 x - x) (by omega) (by omega), w64 (n := 2 * (R 38 4 x - x)) (by omega) (by omega), w64 (n := R 38 4 x + 7) (by omega) (by omega), if_pos (by omega), if_pos (by omega)]
    simp
  unfold tilthlaw04_ClassTight.f
  rw [w64 (n := a) (by omega) (by omega), w64 (n := b) (by omega) (by omega)]
  split
  · exact key b a (by omega) (by omega) (by omega)
  · exact key a b (by omega) (by omega) (by omega)
end Go.Proofs.Ythkajdbegdclmaa.Pure
