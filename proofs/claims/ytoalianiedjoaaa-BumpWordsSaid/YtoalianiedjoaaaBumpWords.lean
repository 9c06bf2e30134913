/- BumpWords as a contract. No condition. -/
import Derived.Test.YtoalianiedjoaaaBumpAt
set_option linter.unusedVariables false
set_option linter.unusedSimpArgs false
namespace Go.Proofs.Ytoalianiedjoaaa.Bp
open Go.RowKit Go.Proofs.Ytoalianiedjoaaa.W Go.Proofs.Ytoalianiedjoaaa.Sm
variable {W w : World} {b : Nat} {s : Sp}

set_option maxHeartbeats 4000000 in
theorem Words_calls (n a c : Int) (w : World) (n0 : 0 ≤ n) (n1 : n ≤ 255) (a0 : 0 ≤ a) (a1 : a ≤ 255) (c0 : 0 ≤ c) (c1 : c ≤ 255) :
    Calls Try.prog 3 #[.int .u8 n, .int .u8 a, .int .u8 c] w fun e w' => e = .returned (.bool true) ∧ Below w.heap.size w w' := by
  have b0 : 0 ≤ a % (n + 1) := Int.emod_nonneg _ (by omega)
  have b1 : a % (n + 1) < n + 1 := Int.emod_lt_of_pos _ (by omega)
  have d0 : 0 ≤ c % 40 := by omega
  have d1 : c % 40 < 40 := by omega
  go_enter Try.func3, Try.ntmps3
  go_wp2_with fail
  refine (New_at 9 (n + 2) w).mono ?_
  rintro e w1 ⟨b, rfl, h⟩
  rw [clampN_id (n := 9) (by omega) (by omega), clampN_id (n := n + 2) (by omega) (by omega)] at h
  go_wp2_with fail
  generalize a % (n + 1) = p at b0 b1 ⊢
  generalize c % 40 = q at d0 d1 ⊢
  refine (Take_at (p + 1) h).mono ?_
  rintro e w2 ⟨rfl, h2⟩
  have fx : Sp.fits ⟨9, 0, 9 + (n + 2), 0, n + 2, false⟩ (p + 1) = true := by simp [Sp.fits, Sp.room, Sp.used]; omega
  rw [Sp.take, fx, if_pos rfl, if_neg (by simp)] at h2
  rw [fx, if_pos rfl, show Sp.here ⟨9, 0, 9 + (n + 2), 0, n + 2, false⟩ + Sp.used ⟨9, 0, 9 + (n + 2), 0, n + 2, false⟩ = 9 from by simp [Sp.here, Sp.used]]
  replace h2 : At w w2 b ⟨9, p + 1, 9 + (n + 2), 0, n + 2, false⟩ := by simpa using h2
  clear h fx
  go_wp2_with fail
  go_loopw [12] (fun i wr => ∃ k : Nat, (k : Int) ≤ p + 1 ∧ i = .int .i64 (9 + (k : Int)) ∧ At w wr b ⟨9, p + 1, 9 + (n + 2), 0, n + 2, false⟩) (fun i _ => (10 + p - intOf i).toNat)
  case atStart => exact ⟨0, by omega, rfl, h2⟩
  case round =>
    clear h2
    obtain ⟨k, hk, rfl, hr⟩ := hrel
    by_cases hlt : (k : Int) < p + 1
    · go_wp2_with fail
      refine (In_at (9 + (k : Int)) hr (by omega)).mono ?_
      rintro e w3 ⟨rfl, h3⟩
      rw [show Sp.isIn ⟨9, p + 1, 9 + (n + 2), 0, n + 2, false⟩ (9 + (k : Int)) = true from by simp [Sp.isIn, Sp.here, Sp.used]; omega]
      go_wp2_with fail
      refine (From_at (9 + (k : Int)) h3 (by omega)).mono ?_
      rintro e w4 ⟨rfl, h4⟩
      rw [show Sp.isFrom ⟨9, p + 1, 9 + (n + 2), 0, n + 2, false⟩ (9 + (k : Int)) = false from by simp [Sp.isFrom, Sp.there, Sp.left]]
      go_wp2_with fail
      go_roundw
      case rel => exact ⟨k + 1, by omega, by go_num, h4⟩
      case measure => simp [intOf]; omega
    · have hkp : (k : Int) = p + 1 := by omega
      go_wp2_with fail
      refine (In_at (9 + (p + 1)) hr (by omega)).mono ?_
      rintro e w3 ⟨rfl, h3⟩
      rw [show Sp.isIn ⟨9, p + 1, 9 + (n + 2), 0, n + 2, false⟩ (9 + (p + 1)) = false from by simp [Sp.isIn, Sp.here, Sp.used]; try omega]
      go_wp2_with fail
      refine (In_at 8 h3 (by omega)).mono ?_
      rintro e w4 ⟨rfl, h4⟩
      rw [show Sp.isIn ⟨9, p + 1, 9 + (n + 2), 0, n + 2, false⟩ 8 = false from by simp [Sp.isIn, Sp.here, Sp.used]]
      clear hr h3
      go_wp2_with fail
      refine (Take_at (q + 1) h4).mono ?_
      rintro e w5 ⟨rfl, h5⟩
      by_cases hf : p + 1 + (q + 1) ≤ n + 2
      · have fx : Sp.fits ⟨9, p + 1, 9 + (n + 2), 0, n + 2, false⟩ (q + 1) = true := by simp [Sp.fits, Sp.room, Sp.used]; omega
        rw [Sp.take, fx, if_pos rfl, if_neg (by simp)] at h5
        rw [fx, if_pos rfl]
        clear fx h4
        go_wp2_with fail
        refine (awake_at h5).mono ?_
        rintro e w6 ⟨rfl, h6⟩
        go_wp2_with fail
        refine (In_at (9 + (p + 1)) h6 (by omega)).mono ?_
        rintro e w7 ⟨rfl, h7⟩
        rw [show Sp.isIn ⟨9, p + 1 + (q + 1), 9 + (n + 2), 0, n + 2, false⟩ (9 + (p + 1)) = true from by simp [Sp.isIn, Sp.here, Sp.used]; omega]
        go_wp2_with fail
        go_ret
        exact ⟨rfl, h7.below⟩
      · have fx : Sp.fits ⟨9, p + 1, 9 + (n + 2), 0, n + 2, false⟩ (q + 1) = false := by simp [Sp.fits, Sp.room, Sp.used]; omega
        rw [Sp.take, fx, if_neg (by simp)] at h5
        rw [fx, if_neg (by simp)]
        clear fx h4
        go_wp2_with fail
        refine (awake_at h5).mono ?_
        rintro e w6 ⟨rfl, h6⟩
        go_wp2_with fail
        refine (In_at (9 + (p + 1)) h6 (by omega)).mono ?_
        rintro e w7 ⟨rfl, h7⟩
        rw [show Sp.isIn ⟨9, p + 1, 9 + (n + 2), 0, n + 2, false⟩ (9 + (p + 1)) = false from by simp [Sp.isIn, Sp.here, Sp.used]; try omega]
        go_wp2_with fail
        go_ret
        refine ⟨?_, h7.below⟩
        simp
        omega
end Go.Proofs.Ytoalianiedjoaaa.Bp
