/- The plain law of ClassFew over the printed functions. No condition beside the kinds' bounds. -/
import Derived.Test.YthkajdbegdclmaaPClassFewx
import Derived.Test.YthkajdbegdclmaaClassR
set_option linter.unusedVariables false
set_option linter.unusedSimpArgs false
namespace Go.Proofs.Ythkajdbegdclmaa.Pure
open Go.RowKit Go.Proofs.Ythkajdbegdclmaa.PClassFew Go.Proofs.YthkajdbegdclmaaW.PrintWords Go.Proofs.YthkajdbegdclmaaW.PrintLast Go.Proofs.YthkajdbegdclmaaW.PrintMore Go.Proofs.Ythkajdbegdclmaa.CR
namespace ClassFewIn

theorem w64 {n : Int} (h1 : -9223372036854775808 ≤ n) (h2 : n ≤ 9223372036854775807) : wrap64 n = n := by unfold wrap64; omega
theorem round_l0 (d : Nat) : ∀ (k : Nat) (x n : Int), 4 ≤ n → n % 2 = 0 → n * 2 ^ d = 1099511627776 → 2 * d + 1 < k → class_Round.l0 k x n = some (R d n x) := by
  induction d with
  | zero =>
    intro k x n h4 he hn hk
    obtain ⟨k, rfl⟩ : ∃ m, k = m + 2 := ⟨k - 2, by omega⟩
    have hn' : n = 1099511627776 := by simpa using hn
    simp only [class_Round.l0, class_Round.j1, R]
    subst hn'
    split <;> simp
  | succ d ih =>
    intro k x n h4 he hn hk
    obtain ⟨k, rfl⟩ : ∃ m, k = m + 2 := ⟨k - 2, by omega⟩
    have e3 : n * 2 ^ (d + 1) = 2 * n * 2 ^ d := by rw [Int.pow_succ, ← Int.mul_assoc, Int.mul_right_comm, Int.mul_comm n 2]
    have hp : (1 : Int) ≤ 2 ^ d := by exact_mod_cast Nat.one_le_two_pow
    have hb : 2 * n ≤ 1099511627776 := by
      have := Int.mul_le_mul_of_nonneg_left hp (show (0 : Int) ≤ 2 * n by omega)
      omega
    have et : n.tdiv 2 = n / 2 := Int.tdiv_eq_ediv_of_nonneg (by omega)
    have e1 : wrap64 (n + wrap64 (n.tdiv 2)) = n + n / 2 := by rw [et, w64 (n := n / 2) (by omega) (by omega), w64 (n := n + n / 2) (by omega) (by omega)]
    have e2 : wrap64 (n * 2) = 2 * n := by rw [w64 (by omega) (by omega)]; omega
    have hi := ih k x (2 * n) (by omega) (by omega) (by omega) (by omega)
    simp only [class_Round.l0, class_Round.j1, R, e1, e2]
    by_cases h1 : n < x
    · rw [if_pos h1, if_pos (by simpa using (by omega : n < 1099511627776)), if_neg (by omega : ¬ x ≤ n)]
      by_cases h2 : x ≤ n + n / 2
      · rw [if_pos h2, if_pos h2]
      · rw [if_neg h2, if_neg (by omega), hi]
    · rw [if_neg h1, if_neg (by simp), if_pos (by omega : x ≤ n)]
theorem round_f (k : Nat) (x : Int) (hk : 80 ≤ k) : class_Round.f k x = some (R 38 4 x) := round_l0 38 k x 4 (by omega) (by omega) (by decide) (by omega)

theorem ref_l0 (d : Nat) : ∀ (k : Nat) (x n b : Int), 4 ≤ n → n % 2 = 0 → b = n + n / 2 → n * 2 ^ d = 1099511627776 → d + 1 < k → tilthref01_Round.l0 k x n b = some (R d n x) := by
  induction d with
  | zero =>
    intro k x n b h4 he hb hn hk
    obtain ⟨k, rfl⟩ : ∃ m, k = m + 1 := ⟨k - 1, by omega⟩
    have hn' : n = 1099511627776 := by simpa using hn
    simp only [tilthref01_Round.l0, R]
    rw [if_neg (by omega)]
  | succ d ih =>
    intro k x n b h4 he hb hn hk
    obtain ⟨k, rfl⟩ : ∃ m, k = m + 1 := ⟨k - 1, by omega⟩
    have e3 : n * 2 ^ (d + 1) = 2 * n * 2 ^ d := by rw [Int.pow_succ, ← Int.mul_assoc, Int.mul_right_comm, Int.mul_comm n 2]
    have hp : (1 : Int) ≤ 2 ^ d := by exact_mod_cast Nat.one_le_two_pow
    have hb2 : 2 * n ≤ 1099511627776 := by
      have := Int.mul_le_mul_of_nonneg_left hp (show (0 : Int) ≤ 2 * n by omega)
      omega
    have e1 : wrap64 (2 * n) = 2 * n := w64 (by omega) (by omega)
    have e2 : wrap64 (2 * b) = 2 * b := w64 (by omega) (by omega)
    have hi := ih k x (2 * n) (2 * b) (by omega) (by omega) (by omega) (by omega) (by omega)
    simp only [tilthref01_Round.l0, R, e1, e2]
    rw [if_pos (by omega : n < 1099511627776)]
    by_cases h1 : x ≤ n
    · rw [if_pos h1, if_pos h1]
    · rw [if_neg (by omega), if_neg h1]
      by_cases h2 : x ≤ n + n / 2
      · rw [if_pos (by omega), if_pos h2, hb]
      · rw [if_neg (by omega), if_neg h2, hi]
theorem ref_f (k : Nat) (x : Int) (hk : 80 ≤ k) : tilthref01_Round.f k x = some (R 38 4 x) := ref_l0 38 k x 4 6 (by omega) (by omega) (by omega) (by decide) (by omega)

theorem large_f (k : Nat) (p x : Int) (hk : 80 ≤ k) : class_Large.f k p x = some (decide (R 38 4 x > wrap64 (p.tdiv 2))) := by
  unfold class_Large.f; rw [round_f k x hk]; rfl

theorem awake_f (k : Nat) (hk : 80 ≤ k) : tilthlaw04_awake.f k = some true := by
  unfold tilthlaw04_awake.f class_Cell.f class_Pages.f class_Cells.f
  rw [large_f k _ _ hk, large_f k _ _ hk, large_f k _ _ hk, round_f k _ hk, round_f k _ hk, round_f k _ hk, ref_f k _ hk]
  have e5 : R 38 4 5 = 6 := by decide
  have e13 : R 38 4 13 = 16 := by decide
  have e17 : R 38 4 17 = 24 := by decide
  have e16 : R 38 4 16 = 16 := by decide
  have e65 : R 38 4 65 = 96 := by decide
  have e7 : R 38 4 7 = 8 := by decide
  simp [e5, e13, e17, e16, e65, e7, wrap64, mx, mn]
  try decide

theorem wf_i64_bounds {a : Int} (h : (Lit.int .i64 a).wf = true) : -9223372036854775808 ≤ a ∧ a ≤ 9223372036854775807 := by
  simpa [Lit.wf, IntKind.min, IntKind.max, IntKind.signed, IntKind.bits] using h
theorem wf_u16_bounds {a : Int} (h : (Lit.int .u16 a).wf = true) : 0 ≤ a ∧ a ≤ 65535 := by
  simpa [Lit.wf, IntKind.min, IntKind.max, IntKind.signed, IntKind.bits] using h
theorem wf_u32_bounds {a : Int} (h : (Lit.int .u32 a).wf = true) : 0 ≤ a ∧ a ≤ 4294967295 := by
  simpa [Lit.wf, IntKind.min, IntKind.max, IntKind.signed, IntKind.bits] using h
end ClassFewIn
open ClassFewIn
theorem dig (d : Nat) : ∀ (k : Nat) (x c y : Int), 0 ≤ y → y ≤ 65535 → y < 2 ^ d → 0 ≤ c → c + d < 100 → ∃ D : Nat, D ≤ d ∧ y < 2 ^ D ∧ tilthlaw04_ClassFew.l0 (k + d + 1) x 0 0 c y = tilthlaw04_ClassFew.l1 (k + (d - D)) x 0 0 (c + D) := by
  induction d with
  | zero =>
    intro k x c y h1 h65 h2 h3 h4
    have : y = 0 := by simp at h2; omega
    subst this
    exact ⟨0, by omega, by simp, by simp [tilthlaw04_ClassFew.l0]⟩
  | succ d ih =>
    intro k x c y h1 h65 h2 h3 h4
    by_cases h : y > 0
    · have h5 : y / 2 < 2 ^ d := by rw [Int.pow_succ] at h2; omega
      obtain ⟨D, hD, hy, e⟩ := ih k x (c + 1) (y / 2) (by omega) (by omega) h5 (by omega) (by omega)
      refine ⟨D + 1, by omega, by rw [Int.pow_succ]; omega, ?_⟩
      conv => lhs; rw [tilthlaw04_ClassFew.l0]
      rw [if_pos h, Int.tdiv_eq_ediv_of_nonneg (by omega), w64 (n := c + 1) (by omega) (by omega), w64 (n := y / 2) (by omega) (by omega)]
      rw [show k + (d + 1) = k + d + 1 by omega, e, show d + 1 - (D + 1) = d - D by omega, show c + 1 + (D : Int) = c + ((D + 1 : Nat) : Int) by omega]
    · have : y = 0 := by omega
      subst this
      exact ⟨0, by omega, by simp, by simp [tilthlaw04_ClassFew.l0]⟩
theorem ends (k : Nat) (x n c D : Int) (hk : 81 ≤ k) (hx : 0 ≤ x) (hx2 : x ≤ 65535) (hn : ¬ n < x) (hD : 0 ≤ D) (hD2 : D ≤ 20) (h : c ≤ 2 * D + 1) : tilthlaw04_ClassFew.l1 k x n c D = some true := by
  obtain ⟨k, rfl⟩ : ∃ m, k = m + 1 := ⟨k - 1, by omega⟩
  simp only [tilthlaw04_ClassFew.l1]
  rw [w64 (n := x) (by omega) (by omega), if_neg hn, awake_f _ (by omega), w64 (n := 2 * D) (by omega) (by omega), w64 (n := 2 * D + 1) (by omega) (by omega)]
  simp [h]
theorem goes (k : Nat) (x n c D m : Int) (hk : 81 ≤ k) (hx : 0 ≤ x) (hx2 : x ≤ 65535) (hn : n < x) (h0 : 0 ≤ n) (hc : 0 ≤ c) (hc2 : c ≤ 100) (e : R 38 4 (n + 1) = m) (hm : n < m) :
    tilthlaw04_ClassFew.l1 k x n c D = tilthlaw04_ClassFew.l1 (k - 1) x m (c + 1) D := by
  obtain ⟨k, rfl⟩ : ∃ m, k = m + 1 := ⟨k - 1, by omega⟩
  conv => lhs; rw [tilthlaw04_ClassFew.l1]
  rw [w64 (n := x) (by omega) (by omega), if_pos hn, w64 (n := n + 1) (by omega) (by omega), round_f _ _ (by omega), e, w64 (n := c + 1) (by omega) (by omega)]
  simp only [Option.bind_some, Nat.add_sub_cancel]
  rw [if_neg (by omega)]
theorem lb {x : Int} {D : Nat} (i : Nat) (h : x < 2 ^ D) (hx : 2 ^ i ≤ x) : i < D := by
  rcases Nat.lt_or_ge i D with h1 | h1
  · exact h1
  · have : (2 : Int) ^ D ≤ 2 ^ i := by exact_mod_cast Nat.pow_le_pow_right (by omega) h1
    omega
theorem few29 (k : Nat) (x : Int) (D : Nat) (hk : 81 ≤ k) (hx : 0 ≤ x) (hx2 : x ≤ 65535) (hp : 49152 < x) (hD : x < 2 ^ D) (hD2 : D ≤ 20) : tilthlaw04_ClassFew.l1 k x 65536 29 (D : Int) = some true := by
  have := lb 15 hD (by omega); exact ends k x _ _ _ (by omega) hx hx2 (by omega) (by omega) (by omega) (by omega)
theorem few28 (k : Nat) (x : Int) (D : Nat) (hk : 82 ≤ k) (hx : 0 ≤ x) (hx2 : x ≤ 65535) (hp : 32768 < x) (hD : x < 2 ^ D) (hD2 : D ≤ 20) : tilthlaw04_ClassFew.l1 k x 49152 28 (D : Int) = some true := by
  by_cases h : 49152 < x
  · rw [goes k x 49152 28 D 65536 (by omega) hx hx2 h (by omega) (by omega) (by omega) (by decide) (by omega)]
    exact few29 (k - 1) x D (by omega) hx hx2 (by omega) hD hD2
  · have := lb 15 hD (by omega); exact ends k x _ _ _ (by omega) hx hx2 h (by omega) (by omega) (by omega)
theorem few27 (k : Nat) (x : Int) (D : Nat) (hk : 83 ≤ k) (hx : 0 ≤ x) (hx2 : x ≤ 65535) (hp : 24576 < x) (hD : x < 2 ^ D) (hD2 : D ≤ 20) : tilthlaw04_ClassFew.l1 k x 32768 27 (D : Int) = some true := by
  by_cases h : 32768 < x
  · rw [goes k x 32768 27 D 49152 (by omega) hx hx2 h (by omega) (by omega) (by omega) (by decide) (by omega)]
    exact few28 (k - 1) x D (by omega) hx hx2 (by omega) hD hD2
  · have := lb 14 hD (by omega); exact ends k x _ _ _ (by omega) hx hx2 h (by omega) (by omega) (by omega)
theorem few26 (k : Nat) (x : Int) (D : Nat) (hk : 84 ≤ k) (hx : 0 ≤ x) (hx2 : x ≤ 65535) (hp : 16384 < x) (hD : x < 2 ^ D) (hD2 : D ≤ 20) : tilthlaw04_ClassFew.l1 k x 24576 26 (D : Int) = some true := by
  by_cases h : 24576 < x
  · rw [goes k x 24576 26 D 32768 (by omega) hx hx2 h (by omega) (by omega) (by omega) (by decide) (by omega)]
    exact few27 (k - 1) x D (by omega) hx hx2 (by omega) hD hD2
  · have := lb 14 hD (by omega); exact ends k x _ _ _ (by omega) hx hx2 h (by omega) (by omega) (by omega)
theorem few25 (k : Nat) (x : Int) (D : Nat) (hk : 85 ≤ k) (hx : 0 ≤ x) (hx2 : x ≤ 65535) (hp : 12288 < x) (hD : x < 2 ^ D) (hD2 : D ≤ 20) : tilthlaw04_ClassFew.l1 k x 16384 25 (D : Int) = some true := by
  by_cases h : 16384 < x
  · rw [goes k x 16384 25 D 24576 (by omega) hx hx2 h (by omega) (by omega) (by omega) (by decide) (by omega)]
    exact few26 (k - 1) x D (by omega) hx hx2 (by omega) hD hD2
  · have := lb 13 hD (by omega); exact ends k x _ _ _ (by omega) hx hx2 h (by omega) (by omega) (by omega)
theorem few24 (k : Nat) (x : Int) (D : Nat) (hk : 86 ≤ k) (hx : 0 ≤ x) (hx2 : x ≤ 65535) (hp : 8192 < x) (hD : x < 2 ^ D) (hD2 : D ≤ 20) : tilthlaw04_ClassFew.l1 k x 12288 24 (D : Int) = some true := by
  by_cases h : 12288 < x
  · rw [goes k x 12288 24 D 16384 (by omega) hx hx2 h (by omega) (by omega) (by omega) (by decide) (by omega)]
    exact few25 (k - 1) x D (by omega) hx hx2 (by omega) hD hD2
  · have := lb 13 hD (by omega); exact ends k x _ _ _ (by omega) hx hx2 h (by omega) (by omega) (by omega)
theorem few23 (k : Nat) (x : Int) (D : Nat) (hk : 87 ≤ k) (hx : 0 ≤ x) (hx2 : x ≤ 65535) (hp : 6144 < x) (hD : x < 2 ^ D) (hD2 : D ≤ 20) : tilthlaw04_ClassFew.l1 k x 8192 23 (D : Int) = some true := by
  by_cases h : 8192 < x
  · rw [goes k x 8192 23 D 12288 (by omega) hx hx2 h (by omega) (by omega) (by omega) (by decide) (by omega)]
    exact few24 (k - 1) x D (by omega) hx hx2 (by omega) hD hD2
  · have := lb 12 hD (by omega); exact ends k x _ _ _ (by omega) hx hx2 h (by omega) (by omega) (by omega)
theorem few22 (k : Nat) (x : Int) (D : Nat) (hk : 88 ≤ k) (hx : 0 ≤ x) (hx2 : x ≤ 65535) (hp : 4096 < x) (hD : x < 2 ^ D) (hD2 : D ≤ 20) : tilthlaw04_ClassFew.l1 k x 6144 22 (D : Int) = some true := by
  by_cases h : 6144 < x
  · rw [goes k x 6144 22 D 8192 (by omega) hx hx2 h (by omega) (by omega) (by omega) (by decide) (by omega)]
    exact few23 (k - 1) x D (by omega) hx hx2 (by omega) hD hD2
  · have := lb 12 hD (by omega); exact ends k x _ _ _ (by omega) hx hx2 h (by omega) (by omega) (by omega)
theorem few21 (k : Nat) (x : Int) (D : Nat) (hk : 89 ≤ k) (hx : 0 ≤ x) (hx2 : x ≤ 65535) (hp : 3072 < x) (hD : x < 2 ^ D) (hD2 : D ≤ 20) : tilthlaw04_ClassFew.l1 k x 4096 21 (D : Int) = some true := by
  by_cases h : 4096 < x
  · rw [goes k x 4096 21 D 6144 (by omega) hx hx2 h (by omega) (by omega) (by omega) (by decide) (by omega)]
    exact few22 (k - 1) x D (by omega) hx hx2 (by omega) hD hD2
  · have := lb 11 hD (by omega); exact ends k x _ _ _ (by omega) hx hx2 h (by omega) (by omega) (by omega)
theorem few20 (k : Nat) (x : Int) (D : Nat) (hk : 90 ≤ k) (hx : 0 ≤ x) (hx2 : x ≤ 65535) (hp : 2048 < x) (hD : x < 2 ^ D) (hD2 : D ≤ 20) : tilthlaw04_ClassFew.l1 k x 3072 20 (D : Int) = some true := by
  by_cases h : 3072 < x
  · rw [goes k x 3072 20 D 4096 (by omega) hx hx2 h (by omega) (by omega) (by omega) (by decide) (by omega)]
    exact few21 (k - 1) x D (by omega) hx hx2 (by omega) hD hD2
  · have := lb 11 hD (by omega); exact ends k x _ _ _ (by omega) hx hx2 h (by omega) (by omega) (by omega)
theorem few19 (k : Nat) (x : Int) (D : Nat) (hk : 91 ≤ k) (hx : 0 ≤ x) (hx2 : x ≤ 65535) (hp : 1536 < x) (hD : x < 2 ^ D) (hD2 : D ≤ 20) : tilthlaw04_ClassFew.l1 k x 2048 19 (D : Int) = some true := by
  by_cases h : 2048 < x
  · rw [goes k x 2048 19 D 3072 (by omega) hx hx2 h (by omega) (by omega) (by omega) (by decide) (by omega)]
    exact few20 (k - 1) x D (by omega) hx hx2 (by omega) hD hD2
  · have := lb 10 hD (by omega); exact ends k x _ _ _ (by omega) hx hx2 h (by omega) (by omega) (by omega)
theorem few18 (k : Nat) (x : Int) (D : Nat) (hk : 92 ≤ k) (hx : 0 ≤ x) (hx2 : x ≤ 65535) (hp : 1024 < x) (hD : x < 2 ^ D) (hD2 : D ≤ 20) : tilthlaw04_ClassFew.l1 k x 1536 18 (D : Int) = some true := by
  by_cases h : 1536 < x
  · rw [goes k x 1536 18 D 2048 (by omega) hx hx2 h (by omega) (by omega) (by omega) (by decide) (by omega)]
    exact few19 (k - 1) x D (by omega) hx hx2 (by omega) hD hD2
  · have := lb 10 hD (by omega); exact ends k x _ _ _ (by omega) hx hx2 h (by omega) (by omega) (by omega)
theorem few17 (k : Nat) (x : Int) (D : Nat) (hk : 93 ≤ k) (hx : 0 ≤ x) (hx2 : x ≤ 65535) (hp : 768 < x) (hD : x < 2 ^ D) (hD2 : D ≤ 20) : tilthlaw04_ClassFew.l1 k x 1024 17 (D : Int) = some true := by
  by_cases h : 1024 < x
  · rw [goes k x 1024 17 D 1536 (by omega) hx hx2 h (by omega) (by omega) (by omega) (by decide) (by omega)]
    exact few18 (k - 1) x D (by omega) hx hx2 (by omega) hD hD2
  · have := lb 9 hD (by omega); exact ends k x _ _ _ (by omega) hx hx2 h (by omega) (by omega) (by omega)
theorem few16 (k : Nat) (x : Int) (D : Nat) (hk : 94 ≤ k) (hx : 0 ≤ x) (hx2 : x ≤ 65535) (hp : 512 < x) (hD : x < 2 ^ D) (hD2 : D ≤ 20) : tilthlaw04_ClassFew.l1 k x 768 16 (D : Int) = some true := by
  by_cases h : 768 < x
  · rw [goes k x 768 16 D 1024 (by omega) hx hx2 h (by omega) (by omega) (by omega) (by decide) (by omega)]
    exact few17 (k - 1) x D (by omega) hx hx2 (by omega) hD hD2
  · have := lb 9 hD (by omega); exact ends k x _ _ _ (by omega) hx hx2 h (by omega) (by omega) (by omega)
theorem few15 (k : Nat) (x : Int) (D : Nat) (hk : 95 ≤ k) (hx : 0 ≤ x) (hx2 : x ≤ 65535) (hp : 384 < x) (hD : x < 2 ^ D) (hD2 : D ≤ 20) : tilthlaw04_ClassFew.l1 k x 512 15 (D : Int) = some true := by
  by_cases h : 512 < x
  · rw [goes k x 512 15 D 768 (by omega) hx hx2 h (by omega) (by omega) (by omega) (by decide) (by omega)]
    exact few16 (k - 1) x D (by omega) hx hx2 (by omega) hD hD2
  · have := lb 8 hD (by omega); exact ends k x _ _ _ (by omega) hx hx2 h (by omega) (by omega) (by omega)
theorem few14 (k : Nat) (x : Int) (D : Nat) (hk : 96 ≤ k) (hx : 0 ≤ x) (hx2 : x ≤ 65535) (hp : 256 < x) (hD : x < 2 ^ D) (hD2 : D ≤ 20) : tilthlaw04_ClassFew.l1 k x 384 14 (D : Int) = some true := by
  by_cases h : 384 < x
  · rw [goes k x 384 14 D 512 (by omega) hx hx2 h (by omega) (by omega) (by omega) (by decide) (by omega)]
    exact few15 (k - 1) x D (by omega) hx hx2 (by omega) hD hD2
  · have := lb 8 hD (by omega); exact ends k x _ _ _ (by omega) hx hx2 h (by omega) (by omega) (by omega)
theorem few13 (k : Nat) (x : Int) (D : Nat) (hk : 97 ≤ k) (hx : 0 ≤ x) (hx2 : x ≤ 65535) (hp : 192 < x) (hD : x < 2 ^ D) (hD2 : D ≤ 20) : tilthlaw04_ClassFew.l1 k x 256 13 (D : Int) = some true := by
  by_cases h : 256 < x
  · rw [goes k x 256 13 D 384 (by omega) hx hx2 h (by omega) (by omega) (by omega) (by decide) (by omega)]
    exact few14 (k - 1) x D (by omega) hx hx2 (by omega) hD hD2
  · have := lb 7 hD (by omega); exact ends k x _ _ _ (by omega) hx hx2 h (by omega) (by omega) (by omega)
theorem few12 (k : Nat) (x : Int) (D : Nat) (hk : 98 ≤ k) (hx : 0 ≤ x) (hx2 : x ≤ 65535) (hp : 128 < x) (hD : x < 2 ^ D) (hD2 : D ≤ 20) : tilthlaw04_ClassFew.l1 k x 192 12 (D : Int) = some true := by
  by_cases h : 192 < x
  · rw [goes k x 192 12 D 256 (by omega) hx hx2 h (by omega) (by omega) (by omega) (by decide) (by omega)]
    exact few13 (k - 1) x D (by omega) hx hx2 (by omega) hD hD2
  · have := lb 7 hD (by omega); exact ends k x _ _ _ (by omega) hx hx2 h (by omega) (by omega) (by omega)
theorem few11 (k : Nat) (x : Int) (D : Nat) (hk : 99 ≤ k) (hx : 0 ≤ x) (hx2 : x ≤ 65535) (hp : 96 < x) (hD : x < 2 ^ D) (hD2 : D ≤ 20) : tilthlaw04_ClassFew.l1 k x 128 11 (D : Int) = some true := by
  by_cases h : 128 < x
  · rw [goes k x 128 11 D 192 (by omega) hx hx2 h (by omega) (by omega) (by omega) (by decide) (by omega)]
    exact few12 (k - 1) x D (by omega) hx hx2 (by omega) hD hD2
  · have := lb 6 hD (by omega); exact ends k x _ _ _ (by omega) hx hx2 h (by omega) (by omega) (by omega)
theorem few10 (k : Nat) (x : Int) (D : Nat) (hk : 100 ≤ k) (hx : 0 ≤ x) (hx2 : x ≤ 65535) (hp : 64 < x) (hD : x < 2 ^ D) (hD2 : D ≤ 20) : tilthlaw04_ClassFew.l1 k x 96 10 (D : Int) = some true := by
  by_cases h : 96 < x
  · rw [goes k x 96 10 D 128 (by omega) hx hx2 h (by omega) (by omega) (by omega) (by decide) (by omega)]
    exact few11 (k - 1) x D (by omega) hx hx2 (by omega) hD hD2
  · have := lb 6 hD (by omega); exact ends k x _ _ _ (by omega) hx hx2 h (by omega) (by omega) (by omega)
theorem few9 (k : Nat) (x : Int) (D : Nat) (hk : 101 ≤ k) (hx : 0 ≤ x) (hx2 : x ≤ 65535) (hp : 48 < x) (hD : x < 2 ^ D) (hD2 : D ≤ 20) : tilthlaw04_ClassFew.l1 k x 64 9 (D : Int) = some true := by
  by_cases h : 64 < x
  · rw [goes k x 64 9 D 96 (by omega) hx hx2 h (by omega) (by omega) (by omega) (by decide) (by omega)]
    exact few10 (k - 1) x D (by omega) hx hx2 (by omega) hD hD2
  · have := lb 5 hD (by omega); exact ends k x _ _ _ (by omega) hx hx2 h (by omega) (by omega) (by omega)
theorem few8 (k : Nat) (x : Int) (D : Nat) (hk : 102 ≤ k) (hx : 0 ≤ x) (hx2 : x ≤ 65535) (hp : 32 < x) (hD : x < 2 ^ D) (hD2 : D ≤ 20) : tilthlaw04_ClassFew.l1 k x 48 8 (D : Int) = some true := by
  by_cases h : 48 < x
  · rw [goes k x 48 8 D 64 (by omega) hx hx2 h (by omega) (by omega) (by omega) (by decide) (by omega)]
    exact few9 (k - 1) x D (by omega) hx hx2 (by omega) hD hD2
  · have := lb 5 hD (by omega); exact ends k x _ _ _ (by omega) hx hx2 h (by omega) (by omega) (by omega)
theorem few7 (k : Nat) (x : Int) (D : Nat) (hk : 103 ≤ k) (hx : 0 ≤ x) (hx2 : x ≤ 65535) (hp : 24 < x) (hD : x < 2 ^ D) (hD2 : D ≤ 20) : tilthlaw04_ClassFew.l1 k x 32 7 (D : Int) = some true := by
  by_cases h : 32 < x
  · rw [goes k x 32 7 D 48 (by omega) hx hx2 h (by omega) (by omega) (by omega) (by decide) (by omega)]
    exact few8 (k - 1) x D (by omega) hx hx2 (by omega) hD hD2
  · have := lb 4 hD (by omega); exact ends k x _ _ _ (by omega) hx hx2 h (by omega) (by omega) (by omega)
theorem few6 (k : Nat) (x : Int) (D : Nat) (hk : 104 ≤ k) (hx : 0 ≤ x) (hx2 : x ≤ 65535) (hp : 16 < x) (hD : x < 2 ^ D) (hD2 : D ≤ 20) : tilthlaw04_ClassFew.l1 k x 24 6 (D : Int) = some true := by
  by_cases h : 24 < x
  · rw [goes k x 24 6 D 32 (by omega) hx hx2 h (by omega) (by omega) (by omega) (by decide) (by omega)]
    exact few7 (k - 1) x D (by omega) hx hx2 (by omega) hD hD2
  · have := lb 4 hD (by omega); exact ends k x _ _ _ (by omega) hx hx2 h (by omega) (by omega) (by omega)
theorem few5 (k : Nat) (x : Int) (D : Nat) (hk : 105 ≤ k) (hx : 0 ≤ x) (hx2 : x ≤ 65535) (hp : 12 < x) (hD : x < 2 ^ D) (hD2 : D ≤ 20) : tilthlaw04_ClassFew.l1 k x 16 5 (D : Int) = some true := by
  by_cases h : 16 < x
  · rw [goes k x 16 5 D 24 (by omega) hx hx2 h (by omega) (by omega) (by omega) (by decide) (by omega)]
    exact few6 (k - 1) x D (by omega) hx hx2 (by omega) hD hD2
  · have := lb 3 hD (by omega); exact ends k x _ _ _ (by omega) hx hx2 h (by omega) (by omega) (by omega)
theorem few4 (k : Nat) (x : Int) (D : Nat) (hk : 106 ≤ k) (hx : 0 ≤ x) (hx2 : x ≤ 65535) (hp : 8 < x) (hD : x < 2 ^ D) (hD2 : D ≤ 20) : tilthlaw04_ClassFew.l1 k x 12 4 (D : Int) = some true := by
  by_cases h : 12 < x
  · rw [goes k x 12 4 D 16 (by omega) hx hx2 h (by omega) (by omega) (by omega) (by decide) (by omega)]
    exact few5 (k - 1) x D (by omega) hx hx2 (by omega) hD hD2
  · have := lb 3 hD (by omega); exact ends k x _ _ _ (by omega) hx hx2 h (by omega) (by omega) (by omega)
theorem few3 (k : Nat) (x : Int) (D : Nat) (hk : 107 ≤ k) (hx : 0 ≤ x) (hx2 : x ≤ 65535) (hp : 6 < x) (hD : x < 2 ^ D) (hD2 : D ≤ 20) : tilthlaw04_ClassFew.l1 k x 8 3 (D : Int) = some true := by
  by_cases h : 8 < x
  · rw [goes k x 8 3 D 12 (by omega) hx hx2 h (by omega) (by omega) (by omega) (by decide) (by omega)]
    exact few4 (k - 1) x D (by omega) hx hx2 (by omega) hD hD2
  · have := lb 2 hD (by omega); exact ends k x _ _ _ (by omega) hx hx2 h (by omega) (by omega) (by omega)
theorem few2 (k : Nat) (x : Int) (D : Nat) (hk : 108 ≤ k) (hx : 0 ≤ x) (hx2 : x ≤ 65535) (hp : 4 < x) (hD : x < 2 ^ D) (hD2 : D ≤ 20) : tilthlaw04_ClassFew.l1 k x 6 2 (D : Int) = some true := by
  by_cases h : 6 < x
  · rw [goes k x 6 2 D 8 (by omega) hx hx2 h (by omega) (by omega) (by omega) (by decide) (by omega)]
    exact few3 (k - 1) x D (by omega) hx hx2 (by omega) hD hD2
  · have := lb 2 hD (by omega); exact ends k x _ _ _ (by omega) hx hx2 h (by omega) (by omega) (by omega)
theorem few1 (k : Nat) (x : Int) (D : Nat) (hk : 109 ≤ k) (hx : 0 ≤ x) (hx2 : x ≤ 65535) (hp : 0 < x) (hD : x < 2 ^ D) (hD2 : D ≤ 20) : tilthlaw04_ClassFew.l1 k x 4 1 (D : Int) = some true := by
  by_cases h : 4 < x
  · rw [goes k x 4 1 D 6 (by omega) hx hx2 h (by omega) (by omega) (by omega) (by decide) (by omega)]
    exact few2 (k - 1) x D (by omega) hx hx2 (by omega) hD hD2
  · exact ends k x _ _ _ (by omega) hx hx2 h (by omega) (by omega) (by omega)
theorem few0 (k : Nat) (x : Int) (D : Nat) (hk : 110 ≤ k) (hx : 0 ≤ x) (hx2 : x ≤ 65535) (hp : -1 < x) (hD : x < 2 ^ D) (hD2 : D ≤ 20) : tilthlaw04_ClassFew.l1 k x 0 0 (D : Int) = some true := by
  by_cases h : 0 < x
  · rw [goes k x 0 0 D 4 (by omega) hx hx2 h (by omega) (by omega) (by omega) (by decide) (by omega)]
    exact few1 (k - 1) x D (by omega) hx hx2 (by omega) hD hD2
  · exact ends k x _ _ _ (by omega) hx hx2 h (by omega) (by omega) (by omega)
theorem ClassFew : tilthlaw04_ClassFew.Pure := by
  intro x hx
  have bx := wf_u16_bounds hx
  obtain ⟨D, hD, hy, e⟩ := dig 17 200 x 0 x (by omega) (by omega) (by omega) (by omega) (by omega)
  refine ⟨218, ?_⟩
  unfold tilthlaw04_ClassFew.f
  rw [w64 (n := x) (by omega) (by omega)]
  refine e.trans ?_
  rw [Int.zero_add]
  exact few0 _ x D (by omega) (by omega) (by omega) (by omega) hy (by omega)
end Go.Proofs.Ythkajdbegdclmaa.Pure
