/- Contracts of package class. No condition. -/
import Derived.Test.YtjgjablmkljfoaaProg
import Derived.Test.YtjgjablmkljfoaaMem
import Derived.Test.YtjgjablmkljfoaaClassR
import Derived.Deep.LoopGhost
import Derived.Outline
import Derived.IntWalk
set_option linter.unusedVariables false
set_option linter.unusedSimpArgs false
namespace Go.Proofs.Ytjgjablmkljfoaa.Cl
open Go.RowKit Go.Proofs.Ytjgjablmkljfoaa.W Go.Proofs.Ytjgjablmkljfoaa.CR

/-- The size of the cell for so many words. -/
def rnd (x : Int) : Int := R 38 4 x
theorem rnd_b (x : Int) : 4 ≤ rnd x ∧ rnd x ≤ 1099511627776 := R_bounds x
theorem R_stop (d : Nat) (n x : Int) (h : x ≤ n) : R d n x = n := by
  cases d with
  | zero => rfl
  | succ d => unfold R; rw [if_pos h]
set_option maxHeartbeats 1000000 in
theorem Round_calls (x : Int) (w : World) : Calls Try.prog 28 #[.int .i64 x] w fun e w' => e = .returned (.int .i64 (rnd x)) ∧ w = w' := by
  obtain ⟨V, hV⟩ : ∃ V, rnd x = V := ⟨_, rfl⟩
  rw [hV]
  have HV := Lib.hid hV
  clear hV
  go_enter Try.func28, Try.ntmps28
  go_wp2_with fail
  go_loopg [3] 38 (fun d z wr => ∃ n : Int, z = .int .i64 n ∧ 4 ≤ n ∧ n * 2 ^ d = 1099511627776 ∧ R d n x = V ∧ wr = w)
  case atStart => exact ⟨4, rfl, by omega, by decide, HV.out, rfl⟩
  case round =>
    obtain ⟨n, rfl, hn, hp, hr, rfl⟩ := hrel
    have HR := Lib.hid hr
    have HP := Lib.hid hp
    clear hr hp
    have hn9 : n ≤ 1099511627776 := by
      have h1 : (1 : Int) ≤ 2 ^ gk := by exact_mod_cast Nat.one_le_two_pow
      have h2 := Int.mul_le_mul_of_nonneg_left h1 (by omega : (0 : Int) ≤ n)
      have h3 := HP.out
      omega
    by_cases hx : n < x
    · cases gk with
      | zero =>
        have h3 : n = 1099511627776 := by have := HP.out; simpa using this
        have h4 : V = n := by rw [← HR.out]; rfl
        have H4 := Lib.hid h4
        have h5 : ¬ n < 1099511627776 := by omega
        clear h3 h4
        go_wp2_with fail
        go_ret
        exact ⟨by rw [H4.out] <;> rfl, rfl⟩
      | succ d =>
        have h3 : n * 2 ^ (d + 1) = 2 * n * 2 ^ d := by rw [Int.pow_succ, ← Int.mul_assoc, Int.mul_right_comm, Int.mul_comm n 2]
        have h4 : 2 * n ≤ 1099511627776 := by
          have h1 : (1 : Int) ≤ 2 ^ d := by exact_mod_cast Nat.one_le_two_pow
          have h2 := Int.mul_le_mul_of_nonneg_left h1 (by omega : (0 : Int) ≤ 2 * n)
          have h5 := HP.out
          omega
        have h5 : n < 1099511627776 := by omega
        have hR : R (d + 1) n x = if x ≤ n + n / 2 then n + n / 2 else R d (2 * n) x := by
          show (if x ≤ n then n else if x ≤ n + n / 2 then n + n / 2 else R d (2 * n) x) = _
          rw [if_neg (by omega)]
        by_cases hm : x ≤ n + n / 2
        · have h6 : V = n + n / 2 := by rw [← HR.out, hR, if_pos hm]
          have H6 := Lib.hid h6
          clear h3 h6 hR
          go_wp2_with fail
          go_ret
          exact ⟨by rw [H6.out] <;> rfl, rfl⟩
        · have h6 : R d (2 * n) x = V := by rw [← HR.out, hR, if_neg hm]
          have h7 : n * 2 * 2 ^ d = 1099511627776 := by have := HP.out; rw [h3] at this; rw [Int.mul_comm n 2]; exact this
          have H6 := Lib.hid h6
          have H7 := Lib.hid h7
          clear h3 h6 h7 hR
          go_wp2_with fail
          go_roundg d
          case measure => omega
          case rel => exact ⟨n * 2, rfl, by omega, H7.out, by rw [Int.mul_comm n 2]; exact H6.out, rfl⟩
    · have h4 : V = n := by rw [← HR.out]; exact R_stop _ _ _ (by omega)
      have H4 := Lib.hid h4
      clear h4
      go_wp2_with fail
      go_ret
      exact ⟨by rw [H4.out] <;> rfl, rfl⟩

def big (p x : Int) : Bool := decide (p / 2 < rnd x)
theorem Large_calls (p x : Int) (w : World) (h0 : 0 ≤ p) (h9 : p ≤ 1048576) : Calls Try.prog 26 #[.int .i64 p, .int .i64 x] w fun e w' => e = .returned (.bool (big p x)) ∧ w = w' := by
  unfold big
  have hb := rnd_b x
  have hR := Round_calls x w
  generalize rnd x = y at hb hR ⊢
  have HR := Lib.hid hR
  obtain ⟨hb0, hb1⟩ := hb
  clear hR
  go_enter Try.func26, Try.ntmps26
  go_wp2_with fail
  refine HR.out.mono ?_
  rintro e w1 ⟨rfl, rfl⟩
  go_wp2_with fail
  go_ret
  exact ⟨rfl, rfl⟩
/-- How many pages so many words take. -/
def pgs (p x : Int) : Int := if p < 1 ∨ x < 1 then 0 else x / p + (if 1 < x % p then 1 else x % p)
theorem pgs_b {p x : Int} (hp : 1 ≤ p) (hx : 1 ≤ x) : 1 ≤ pgs p x ∧ pgs p x ≤ x := by
  unfold pgs
  rw [if_neg (by omega)]
  have e1 := Int.mul_ediv_add_emod x p
  have e2 := Int.emod_nonneg x (by omega : p ≠ 0)
  have e3 := Int.ediv_nonneg (by omega : 0 ≤ x) (by omega : 0 ≤ p)
  have e4 : x / p ≤ p * (x / p) := by
    have := Int.mul_le_mul_of_nonneg_right hp e3
    omega
  rcases Int.lt_or_le 0 (x / p) with h | h
  · split <;> omega
  · have h0 : x / p = 0 := by omega
    rw [h0] at e1 ⊢
    split <;> omega
theorem Pages_calls (p x : Int) (w : World) (hp9 : p ≤ 1048576) (hx9 : x ≤ 9223372036854775807) : Calls Try.prog 29 #[.int .i64 p, .int .i64 x] w fun e w' => e = .returned (.int .i64 (pgs p x)) ∧ ∃ n, w' = w.drewN n := by
  rcases (by omega : p < 1 ∨ (1 ≤ p ∧ x < 1) ∨ (1 ≤ p ∧ 1 ≤ x)) with h | ⟨h, h'⟩ | ⟨h, h'⟩
  · rw [show pgs p x = 0 from if_pos (.inl h)]
    go_enter Try.func29, Try.ntmps29
    go_wp2_with fail
    go_ret
    exact ⟨rfl, 0, rfl⟩
  · rw [show pgs p x = 0 from if_pos (.inr h')]
    go_enter Try.func29, Try.ntmps29
    go_wp2_with fail
    go_ret
    exact ⟨rfl, 0, rfl⟩
  · have hb := pgs_b h h'
    have hv : pgs p x = x / p + (if 1 < x % p then 1 else x % p) := if_neg (by omega)
    rw [hv] at hb ⊢
    have e2 := Int.emod_nonneg x (by omega : p ≠ 0)
    have e3 := Int.ediv_nonneg (by omega : 0 ≤ x) (by omega : 0 ≤ p)
    have e4 := Int.ediv_le_self p (by omega : 0 ≤ x)
    have hq := IntWalk.i64_quo x p (by omega)
    have hm := IntWalk.rem_in x p (by omega)
    have hm2 := IntWalk.i64_in (x % p) (by have := Int.emod_lt_of_pos x (by omega : 0 < p); omega)
    have hc0 : (p == 0) = false := by simp; omega
    have hc1 : ¬ p = 0 := by omega
    obtain ⟨y, hy⟩ : ∃ y, (if 1 < x % p then 1 else x % p) = y := ⟨_, rfl⟩
    rw [hy] at hb ⊢
    have hs := IntWalk.i64_in (x / p + y) (by omega)
    clear hv
    go_enter Try.func29, Try.ntmps29
    go_wp2_with fail
    go_quiet (fail)
    go_wp2_with fail
    go_ret
    exact ⟨rfl, _, rfl⟩
theorem Cells_calls (p s : Int) (w : World) (hs : 1 ≤ s) (hp : 1 ≤ p) (hp9 : p ≤ 1048576) : Calls Try.prog 45 #[.int .i64 p, .int .i64 s] w fun e w' => e = .returned (.int .i64 (p / s)) ∧ w = w' := by
  have hq := IntWalk.i64_quo p s (by omega)
  have hc0 : (s == 0) = false := by simp; omega
  have hc1 : ¬ s = 0 := by omega
  have e3 := Int.ediv_nonneg (by omega : 0 ≤ p) (by omega : 0 ≤ s)
  have e4 := Int.ediv_le_self s (by omega : 0 ≤ p)
  go_enter Try.func45, Try.ntmps45
  go_wp2_with fail
  go_ret
  exact ⟨rfl, rfl⟩
end Go.Proofs.Ytjgjablmkljfoaa.Cl
