/- The plain law of ClassFits over the printed functions. No condition beside the kinds' bounds. -/
import Derived.Test.YthkajdbegdclmaaPClassFitsx
import Derived.Test.YthkajdbegdclmaaClassR
set_option linter.unusedVariables false
set_option linter.unusedSimpArgs false
namespace Go.Proofs.Ythkajdbegdclmaa.Pure
open Go.RowKit Go.Proofs.Ythkajdbegdclmaa.PClassFits Go.Proofs.YthkajdbegdclmaaW.PrintWords Go.Proofs.YthkajdbegdclmaaW.PrintLast Go.Proofs.YthkajdbegdclmaaW.PrintMore Go.Proofs.Ythkajdbegdclmaa.CR
namespace ClassFitsIn

theorem w64 {n : Int} (h1 : -9223372036854775808 ≤ n) (h2 : n ≤ 9223372036854775807) : wrap64 n = n := by unfold wrap64; omega
theorem round_l0 (d : Nat) : ∀ (k : Nat) (x n : Int), 4 ≤ n → n % 2 = 0 → n * 2 ^ d = 1099511627776 → 2 * d + 1 < k → class_Round.l0 k x n = some (R d n x) := by
  induction d with
  | zero =>
    intro k x n h4 he hn hk
    obtain ⟨k, rfl⟩ : ∃ m, k = m + 2 := ⟨k - 2, by omega⟩
    have hn' : n = 1099511627776 := by simpa using hn
    simp only [class_Round.l0, class_Round.j1, R]
    subst hn'
    split <;> simp
  | succ d ih =>
    intro k x n h4 he hn hk
    obtain ⟨k, rfl⟩ : ∃ m, k = m + 2 := ⟨k - 2, by omega⟩
    have e3 : n * 2 ^ (d + 1) = 2 * n * 2 ^ d := by rw [Int.pow_succ, ← Int.mul_assoc, Int.mul_right_comm, Int.mul_comm n 2]
    have hp : (1 : Int) ≤ 2 ^ d := by exact_mod_cast Nat.one_le_two_pow
    have hb : 2 * n ≤ 1099511627776 := by
      have := Int.mul_le_mul_of_nonneg_left hp (show (0 : Int) ≤ 2 * n by omega)
      omega
    have et : n.tdiv 2 = n / 2 := Int.tdiv_eq_ediv_of_nonneg (by omega)
    have e1 : wrap64 (n + wrap64 (n.tdiv 2)) = n + n / 2 := by rw [et, w64 (n := n / 2) (by omega) (by omega), w64 (n := n + n / 2) (by omega) (by omega)]
    have e2 : wrap64 (n * 2) = 2 * n := by rw [w64 (by omega) (by omega)]; omega
    have hi := ih k x (2 * n) (by omega) (by omega) (by omega) (by omega)
    simp only [class_Round.l0, class_Round.j1, R, e1, e2]
    by_cases h1 : n < x
    · rw [if_pos h1, if_pos (by simpa using (by omega : n < 1099511627776)), if_neg (by omega : ¬ x ≤ n)]
      by_cases h2 : x ≤ n + n / 2
      · rw [if_pos h2, if_pos h2]
      · rw [if_neg h2, if_neg (by omega), hi]
    · rw [if_neg h1, if_neg (by simp), if_pos (by omega : x ≤ n)]
theorem round_f (k : Nat) (x : Int) (hk : 80 ≤ k) : class_Round.f k x = some (R 38 4 x) := round_l0 38 k x 4 (by omega) (by omega) (by decide) (by omega)

theorem ref_l0 (d : Nat) : ∀ (k : Nat) (x n b : Int), 4 ≤ n → n % 2 = 0 → b = n + n / 2 → n * 2 ^ d = 1099511627776 → d + 1 < k → tilthref01_Round.l0 k x n b = some (R d n x) := by
  induction d with
  | zero =>
    intro k x n b h4 he hb hn hk
    obtain ⟨k, rfl⟩ : ∃ m, k = m + 1 := ⟨k - 1, by omega⟩
    have hn' : n = 1099511627776 := by simpa using hn
    simp only [tilthref01_Round.l0, R]
    rw [if_neg (by omega)]
  | succ d ih =>
    intro k x n b h4 he hb hn hk
    obtain ⟨k, rfl⟩ : ∃ m, k = m + 1 := ⟨k - 1, by omega⟩
    have e3 : n * 2 ^ (d + 1) = 2 * n * 2 ^ d := by rw [Int.pow_succ, ← Int.mul_assoc, Int.mul_right_comm, Int.mul_comm n 2]
    have hp : (1 : Int) ≤ 2 ^ d := by exact_mod_cast Nat.one_le_two_pow
    have hb2 : 2 * n ≤ 1099511627776 := by
      have := Int.mul_le_mul_of_nonneg_left hp (show (0 : Int) ≤ 2 * n by omega)
      omega
    have e1 : wrap64 (2 * n) = 2 * n := w64 (by omega) (by omega)
    have e2 : wrap64 (2 * b) = 2 * b := w64 (by omega) (by omega)
    have hi := ih k x (2 * n) (2 * b) (by omega) (by omega) (by omega) (by omega) (by omega)
    simp only [tilthref01_Round.l0, R, e1, e2]
    rw [if_pos (by omega : n < 1099511627776)]
    by_cases h1 : x ≤ n
    · rw [if_pos h1, if_pos h1]
    · rw [if_neg (by omega), if_neg h1]
      by_cases h2 : x ≤ n + n / 2
      · rw [if_pos (by omega), if_pos h2, hb]
      · rw [if_neg (by omega), if_neg h2, hi]
theorem ref_f (k : Nat) (x : Int) (hk : 80 ≤ k) : tilthref01_Round.f k x = some (R 38 4 x) := ref_l0 38 k x 4 6 (by omega) (by omega) (by omega) (by decide) (by omega)

theorem large_f (k : Nat) (p x : Int) (hk : 80 ≤ k) : class_Large.f k p x = some (decide (R 38 4 x > wrap64 (p.tdiv 2))) := by
  unfold class_Large.f; rw [round_f k x hk]; rfl

theorem awake_f (k : Nat) (hk : 80 ≤ k) : tilthlaw04_awake.f k = some true := by
  unfold tilthlaw04_awake.f class_Cell.f class_Pages.f class_Cells.f
  rw [large_f k _ _ hk, large_f k _ _ hk, large_f k _ _ hk, round_f k _ hk, round_f k _ hk, round_f k _ hk, ref_f k _ hk]
  have e5 : R 38 4 5 = 6 := by decide
  have e13 : R 38 4 13 = 16 := by decide
  have e17 : R 38 4 17 = 24 := by decide
  have e16 : R 38 4 16 = 16 := by decide
  have e65 : R 38 4 65 = 96 := by decide
  have e7 : R 38 4 7 = 8 := by decide
  simp [e5, e13, e17, e16, e65, e7, wrap64, mx, mn]
  try decide

theorem pages_f {p w : Int} (hp : 0 < p) (hpb : p ≤ 9223372036854775807) (hw : 0 < w) (hwb : w ≤ 4611686018427387904) : class_Pages.f p w = some (w / p + (if 1 < w % p then 1 else w % p)) := by
  have h1 := Int.ediv_nonneg (show 0 ≤ w by omega) (show 0 ≤ p by omega)
  have h2 := Int.ediv_le_self p (show 0 ≤ w by omega)
  have h3 := Int.emod_nonneg w (by omega : p ≠ 0)
  unfold class_Pages.f
  rw [if_neg (by omega), if_neg (by omega), if_neg (by omega), Int.tdiv_eq_ediv_of_nonneg (by omega), Int.tmod_eq_emod_of_nonneg (by omega)]
  unfold mn
  rw [w64 (n := w / p) (by omega) (by omega), w64 (by split <;> omega) (by split <;> omega)]

theorem wf_i64_bounds {a : Int} (h : (Lit.int .i64 a).wf = true) : -9223372036854775808 ≤ a ∧ a ≤ 9223372036854775807 := by
  simpa [Lit.wf, IntKind.min, IntKind.max, IntKind.signed, IntKind.bits] using h
theorem wf_u16_bounds {a : Int} (h : (Lit.int .u16 a).wf = true) : 0 ≤ a ∧ a ≤ 65535 := by
  simpa [Lit.wf, IntKind.min, IntKind.max, IntKind.signed, IntKind.bits] using h
theorem wf_u32_bounds {a : Int} (h : (Lit.int .u32 a).wf = true) : 0 ≤ a ∧ a ≤ 4294967295 := by
  simpa [Lit.wf, IntKind.min, IntKind.max, IntKind.signed, IntKind.bits] using h
end ClassFitsIn
open ClassFitsIn
theorem ClassFits : tilthlaw04_ClassFits.Pure := by
  intro a b ha hb
  have ba := wf_u16_bounds ha
  have bb := wf_u16_bounds hb
  refine ⟨100, ?_⟩
  unfold tilthlaw04_ClassFits.f
  rw [Int.tmod_eq_emod_of_nonneg (by omega), w64 (n := a % 1000) (by omega) (by omega), w64 (n := a % 1000 + 1) (by omega) (by omega), w64 (n := b) (by omega) (by omega), w64 (n := b + 1) (by omega) (by omega)]
  obtain ⟨p, hp⟩ : ∃ p, p = a % 1000 + 1 := ⟨_, rfl⟩
  obtain ⟨w, hw⟩ : ∃ w, w = b + 1 := ⟨_, rfl⟩
  have p1 : 1 ≤ p := by omega
  have p2 : p ≤ 1000 := by omega
  have w1 : 1 ≤ w := by omega
  have w2 : w ≤ 65536 := by omega
  rw [← hp, ← hw]
  clear hp hw ha hb ba bb
  rw [round_f _ _ (by omega)]
  obtain ⟨n, hn⟩ : ∃ n, n = R 38 4 w := ⟨_, rfl⟩
  have n1 := R_bounds w
  have n2 := R_fits w (by omega)
  have n3 := R_tight4 w (by omega) (by omega)
  rw [← hn] at n1 n2 n3
  simp only [Option.bind_some]
  have hc : class_Cells.f p n = some (p / n) := by
    unfold class_Cells.f
    have h4 := Int.ediv_nonneg (show 0 ≤ p by omega) (show 0 ≤ n by omega)
    have h5 := Int.ediv_le_self n (show 0 ≤ p by omega)
    rw [if_neg (by omega), if_neg (by omega), if_neg (by omega), Int.tdiv_eq_ediv_of_nonneg (by omega), w64 (by omega) (by omega)]
  rw [← hn, hc]
  simp only [Option.bind_some]
  have k0 := Int.ediv_nonneg (show 0 ≤ p by omega) (show 0 ≤ n by omega)
  have k1 := Int.mul_ediv_add_emod p n
  have k2 := Int.emod_nonneg p (show n ≠ 0 by omega)
  have k3 := Int.emod_lt_of_pos p (show 0 < n by omega)
  rw [Int.mul_comm] at k1
  have k4 : (p / n + 1) * n = p / n * n + n := by rw [Int.add_mul, Int.one_mul]
  have k5 := Int.ediv_le_self n (show 0 ≤ p by omega)
  obtain ⟨m, hm⟩ : ∃ m, m = w / p + (if 1 < w % p then 1 else w % p) := ⟨_, rfl⟩
  have u := pages_up (p := p) (w := w) (by omega) (by omega)
  rw [← hm] at u
  have hpg := pages_f (p := p) (w := w) (by omega) (by omega) (by omega) (by omega)
  rw [← hm] at hpg
  have m1 : (m - 1) * p = m * p - p := by rw [Int.sub_mul, Int.one_mul]
  have m0 : 0 < m := by
    rcases Int.lt_or_le 0 m with h | h
    · exact h
    · have := Int.mul_nonpos_of_nonpos_of_nonneg h (show 0 ≤ p by omega); omega
  have m2 : m ≤ w + 1 := by
    have := Int.ediv_le_self p (show 0 ≤ w by omega)
    rw [hm]; split <;> omega
  rw [w64 (n := p / n * n) (by omega) (by omega), if_neg (by omega), w64 (n := p / n + 1) (by omega) (by omega), w64 (n := (p / n + 1) * n) (by omega) (by omega)]
  rw [show decide ((p / n + 1) * n ≤ p) = false by simp; omega]
  simp only [tilthlaw04_ClassFits.j0]
  rw [if_neg (by simp), hpg, awake_f _ (by omega)]
  simp only [Option.bind_some, if_true]
  rw [w64 (n := m * p) (by omega) (by omega), if_pos (by omega), w64 (n := m - 1) (by omega) (by omega), w64 (n := (m - 1) * p) (by omega) (by omega), if_pos (by omega)]
  unfold class_Cell.f
  rw [large_f _ _ _ (by omega), round_f _ _ (by omega), ← hn]
  simp only [Option.bind_some, decide_eq_true_eq]
  rw [Int.tdiv_eq_ediv_of_nonneg (by omega), w64 (n := p / 2) (by omega) (by omega)]
  have hx : mx p 0 = p := by unfold mx; split <;> omega
  by_cases h : n > p / 2
  · rw [if_pos h, hpg, if_pos h]
    simp only [Option.bind_some]
    rw [hx, w64 (n := m * p) (by omega) (by omega), if_pos (by omega)]
  · rw [if_neg h, if_neg h]
    simp only [Option.bind_some]
    rw [if_pos (by omega)]
    have : 2 ≤ p / n := (Int.le_ediv_iff_mul_le (by omega)).2 (by omega)
    simp [this]
end Go.Proofs.Ythkajdbegdclmaa.Pure
