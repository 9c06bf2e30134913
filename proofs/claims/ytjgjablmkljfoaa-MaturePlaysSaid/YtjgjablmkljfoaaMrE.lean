/- Round and Pages of the reference. No condition. -/
import Derived.Test.YtjgjablmkljfoaaMrD
import Derived.IntWalk
set_option linter.unusedVariables false
set_option linter.unusedSimpArgs false
namespace Go.Proofs.Ytjgjablmkljfoaa.Mr
open Go.RowKit Go.Proofs.Ytjgjablmkljfoaa.W Go.Proofs.Ytjgjablmkljfoaa.Cl Go.Proofs.Ytjgjablmkljfoaa.Ma Go.Proofs.Ytjgjablmkljfoaa.CR
set_option maxHeartbeats 1000000 in
theorem Round_calls (x : Int) (w : World) : Calls Try.prog 36 #[.int .i64 x] w fun e w' => e = .returned (.int .i64 (rnd x)) ∧ w = w' := by
  obtain ⟨V, hV⟩ : ∃ V, rnd x = V := ⟨_, rfl⟩
  rw [hV]
  have HV := Lib.hid hV
  clear hV
  go_enter Try.func36, Try.ntmps36
  go_wp2_with fail
  go_loopg [3, 4] 38 (fun d z y wr => ∃ n m : Int, z = .int .i64 n ∧ y = .int .i64 m ∧ m = n + n / 2 ∧ 4 ≤ n ∧ n % 4 = 0 ∧ n * 2 ^ d = 1099511627776 ∧ R d n x = V ∧ wr = w)
  case atStart => exact ⟨4, 6, rfl, rfl, by omega, by omega, by omega, by decide, HV.out, rfl⟩
  case round =>
    obtain ⟨n, m, rfl, rfl, hm, hn, hn4, hp, hr, rfl⟩ := hrel
    have HR := Lib.hid hr
    have HP := Lib.hid hp
    have HMM := Lib.hid hm
    have hn9 : n ≤ 1099511627776 := by
      have h1 : (1 : Int) ≤ 2 ^ gk := by exact_mod_cast Nat.one_le_two_pow
      have h2 := Int.mul_le_mul_of_nonneg_left h1 (by omega : (0 : Int) ≤ n)
      have h3 := HP.out
      omega
    have hm9 : m ≤ 2199023255552 := by omega
    have hm0 : 0 ≤ m := by omega
    clear hr hp hm
    cases gk with
    | zero =>
      have h3 : n = 1099511627776 := by have := HP.out; simpa using this
      have h4 : V = n := by rw [← HR.out]; rfl
      have H4 := Lib.hid h4
      have h5 : ¬ n < 1099511627776 := by omega
      clear h3 h4
      go_wp2_with fail
      go_ret
      exact ⟨by rw [H4.out] <;> rfl, rfl⟩
    | succ d =>
      have h3 : n * 2 ^ (d + 1) = 2 * n * 2 ^ d := by rw [Int.pow_succ, ← Int.mul_assoc, Int.mul_right_comm, Int.mul_comm n 2]
      have h4 : 2 * n ≤ 1099511627776 := by
        have h1 : (1 : Int) ≤ 2 ^ d := by exact_mod_cast Nat.one_le_two_pow
        have h2 := Int.mul_le_mul_of_nonneg_left h1 (by omega : (0 : Int) ≤ 2 * n)
        have h5 := HP.out
        omega
      have h5 : n < 1099511627776 := by omega
      have hR : R (d + 1) n x = if x ≤ n then n else if x ≤ m then m else R d (2 * n) x := by
        show (if x ≤ n then n else if x ≤ n + n / 2 then n + n / 2 else R d (2 * n) x) = _
        rw [HMM.out]
      by_cases hx : x ≤ n
      · have h6 : V = n := by rw [← HR.out, hR, if_pos hx]
        have H6 := Lib.hid h6
        clear h3 h6 hR
        go_wp2_with fail
        go_ret
        exact ⟨by rw [H6.out] <;> rfl, rfl⟩
      · by_cases hm : x ≤ m
        · have h6 : V = m := by rw [← HR.out, hR, if_neg hx, if_pos hm]
          have H6 := Lib.hid h6
          clear h3 h6 hR
          go_wp2_with fail
          go_ret
          exact ⟨by rw [H6.out] <;> rfl, rfl⟩
        · have h6 : R d (2 * n) x = V := by rw [← HR.out, hR, if_neg hx, if_neg hm]
          have h7 : 2 * n * 2 ^ d = 1099511627776 := by have := HP.out; rw [h3] at this; exact this
          have H6 := Lib.hid h6
          have H7 := Lib.hid h7
          clear h3 h6 h7 hR
          go_wp2_with fail
          go_roundg d
          case measure => omega
          case rel => exact ⟨2 * n, 2 * m, rfl, rfl, by have := HMM.out; omega, by omega, by omega, H7.out, H6.out, rfl⟩
theorem Pages_calls (c n : Int) (w : World) (h1 : 1 ≤ c) (hc9 : c ≤ 256) (h0 : 1 ≤ n) (h9 : n ≤ 9223372036854775807) : Calls Try.prog 37 #[.int .i64 c, .int .i64 n] w fun e w' => e = .returned (.int .i64 (pgs c n)) ∧ w = w' := by
  have e1 := Int.emod_nonneg n (by omega : c ≠ 0)
  have d0 := Int.ediv_nonneg (by omega : 0 ≤ n) (by omega : 0 ≤ c)
  have d1 := Int.ediv_le_self c (by omega : 0 ≤ n)
  have hq := IntWalk.i64_quo n c (by omega)
  have hc0 : (c == 0) = false := by simp; omega
  have hc1 : ¬ c = 0 := by omega
  have hdm := Int.mul_ediv_add_emod n c
  by_cases hm : 0 < n % c
  · have e2 : n / c < 9223372036854775807 := by
      rcases (by omega : c = 1 ∨ 2 ≤ c) with rfl | h2
      · omega
      · have := Int.mul_le_mul_of_nonneg_right h2 d0
        omega
    have : pgs c n = n / c + 1 := by unfold pgs; rw [if_neg (by omega)]; split <;> omega
    rw [this]
    clear this hdm
    go_enter Try.func37, Try.ntmps37
    go_wp2
    go_ret
    exact ⟨rfl, rfl⟩
  · have : pgs c n = n / c := by unfold pgs; rw [if_neg (by omega)]; split <;> omega
    rw [this]
    clear this hdm
    go_enter Try.func37, Try.ntmps37
    go_wp2
    go_ret
    exact ⟨rfl, rfl⟩
end Go.Proofs.Ytjgjablmkljfoaa.Mr
