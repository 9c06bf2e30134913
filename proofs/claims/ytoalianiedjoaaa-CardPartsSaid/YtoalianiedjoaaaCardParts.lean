/- CardParts as a contract. No condition. -/
import Derived.Test.YtoalianiedjoaaaCardLaws
set_option linter.unusedVariables false
set_option linter.unusedSimpArgs false
namespace Go.Proofs.Ytoalianiedjoaaa.Cd
open Go.RowKit Go.Proofs.Ytoalianiedjoaaa.W Go.Proofs.Ytoalianiedjoaaa.Sm

theorem div_is {y n c : Int} (hc : 1 ≤ c) (h0 : n * c ≤ y) (h1 : y < n * c + c) : y / c = n := by
  have a : n ≤ y / c := (Int.le_ediv_iff_mul_le (by omega)).2 h0
  have b : y / c < n + 1 := (Int.ediv_lt_iff_lt_mul (by omega)).2 (by rw [Int.add_mul, Int.one_mul]; exact h1)
  omega
theorem num_iff {w c k : Int} (hw : 0 ≤ w) (hc : 1 ≤ c) (hk : 0 ≤ k) : k < Cd.num w c ↔ k * c < w := by
  constructor
  · intro h
    have e1 := Int.mul_ediv_add_emod w c
    have r1 := Int.emod_nonneg w (by omega : c ≠ 0)
    unfold Cd.num at h
    by_cases hz : w % c = 0
    · have hk1 : k + 1 ≤ w / c := by split at h <;> omega
      have := Int.mul_le_mul_of_nonneg_right hk1 (by omega : 0 ≤ c)
      rw [Int.add_mul, Int.one_mul, Int.mul_comm (w / c) c] at this
      omega
    · have hk1 : k ≤ w / c := by split at h <;> omega
      have := Int.mul_le_mul_of_nonneg_right hk1 (by omega : 0 ≤ c)
      rw [Int.mul_comm (w / c) c] at this
      omega
  · intro h
    have := (num_lt (w := w) (x := k * c) hc (Int.mul_nonneg hk (by omega)) h).2
    rwa [Int.mul_ediv_cancel _ (by omega)] at this
/-- One mark alone. -/
theorem one_first (M k : Nat) (h : k < M) : IsFirst ((List.replicate M false).set k true) (Int.toNat 0) (some k) :=
  ⟨by simp, by simpa using h, by simp [h], fun j h1 h2 => by
    rw [List.getElem?_set_ne (by omega)]
    rcases Nat.lt_or_ge j M with hj | hj
    · simp [hj]
    · simp [hj]⟩
theorem set_back (M k : Nat) : ((List.replicate M false).set k true).set k false = List.replicate M false := by
  rw [List.set_set]
  apply List.ext_getElem?
  intro i
  by_cases h : i = k
  · subst h
    rcases Nat.lt_or_ge i M with hj | hj
    · simp [hj]
    · simp [hj]
  · rw [List.getElem?_set_ne (by omega)]

set_option maxRecDepth 20000 in
set_option maxHeartbeats 4000000 in
theorem Parts_calls (f a q : Int) (w : World) (f0 : 0 ≤ f) (f1 : f ≤ 65535) (a0 : 0 ≤ a) (a1 : a ≤ 65535) (q0 : 0 ≤ q) (q1 : q ≤ 255) :
    Calls Try.prog 9 #[.int .u16 f, .int .u16 a, .int .u8 q] w fun e w' => e = .returned (.bool true) ∧ Below w.heap.size w w' := by
  have b0 : 0 ≤ a % 3000 := by omega
  have b1 : a % 3000 < 3000 := by omega
  go_enter Try.func9, Try.ntmps9
  go_wp2_with fail
  generalize a % 3000 = n at b0 b1 ⊢
  obtain ⟨c, hc⟩ : ∃ c, q + 1 = c := ⟨_, rfl⟩
  have c0 : 1 ≤ c := by omega
  have c1 : c ≤ 256 := by omega
  rw [hc]
  clear hc q0 q1
  refine (New_at f n c w).mono ?_
  rintro e w1 ⟨b, rfl, h⟩
  rw [show clampN f = f from by unfold clampN; rw [if_neg (by omega), if_neg (by omega)], show clampN n = n from by unfold clampN; rw [if_neg (by omega), if_neg (by omega)], show clamp1 c = c from by unfold clamp1; rw [if_neg (by omega), if_neg (by omega)]] at h
  obtain ⟨M, hM⟩ : ∃ M : Nat, Cd.num n c = (M : Int) := ⟨(Cd.num n c).toNat, by have := num_b b0 c0; omega⟩
  have hMb : (M : Int) ≤ n + 1 := by have := num_b b0 c0; omega
  have hiff : ∀ k : Nat, k < M ↔ (k : Int) * c < n := fun k => by
    have := num_iff (w := n) (c := c) (k := (k : Int)) b0 c0 (by omega)
    rw [hM] at this
    omega
  rw [hM, Int.toNat_natCast] at h
  have HI := Lib.hid hiff
  have HM := Lib.hid hM
  clear hiff hM
  go_wp2_with fail
  go_loopw [11, 12] (fun x i wr => ∃ k : Nat, k ≤ M ∧ i = .int .i64 k ∧ x = .int .i64 (f + (if (k : Int) * c < n then (k : Int) * c else n)) ∧ At w wr b ⟨f, n, c, List.replicate M false⟩) (fun x i _ => M - (intOf i).toNat)
  case atStart =>
    refine ⟨0, by omega, rfl, ?_, h⟩
    congr 1
    rw [show ((0 : Nat) : Int) * c = 0 from by simp]
    split <;> omega
  case round =>
    clear h
    obtain ⟨k, hk, rfl, rfl, hr⟩ := hrel
    have hk2 := HI.out k
    obtain ⟨X, hX⟩ : ∃ X, (k : Int) * c = X := ⟨_, rfl⟩
    have hX0 : 0 ≤ X := by rw [← hX]; exact Int.mul_nonneg (by omega) (by omega)
    have hX1 : X ≤ n + c := by
      rw [← hX]
      rcases Nat.eq_zero_or_pos k with h0 | h0
      · subst h0; simp; omega
      · have h1 := (HI.out (k - 1)).1 (by omega)
        have h2 : ((k - 1 : Nat) : Int) = (k : Int) - 1 := by omega
        rw [h2, Int.sub_mul, Int.one_mul] at h1
        omega
    rw [hX] at hk2
    by_cases hlt : X < n
    · have hkM : k < M := hk2.2 hlt
      have hXX : (if (k : Int) * c < n then (k : Int) * c else n) = X := by rw [hX, if_pos hlt]
      rw [hXX]
      obtain ⟨B, hB⟩ : ∃ B, (if n < X + c then n else X + c) = B := ⟨_, rfl⟩
      have hB0 : X < B := by rw [← hB]; split <;> omega
      have hB1 : B ≤ n := by rw [← hB]; split <;> omega
      have hB2 : B ≤ X + c := by rw [← hB]; split <;> omega
      have hpart : Cd.part ⟨f, n, c, List.replicate M false⟩ (k : Int) = (f + X, f + B) := by
        unfold Cd.part
        rw [if_pos (by simp; omega)]
        simp only []
        rw [Int.add_mul, Int.one_mul, hX, hB]
      have hof1 : Cd.of_ ⟨f, n, c, List.replicate M false⟩ (f + B - 1) = k := by
        unfold Cd.of_
        rw [if_pos (by simp; omega)]
        simp only []
        rw [show f + B - 1 - f = B - 1 by omega]
        exact div_is c0 (by rw [hX]; omega) (by rw [hX]; omega)
      have hof2 : Cd.marked ⟨f, n, c, (List.replicate M false).set k true⟩ (f + X) = true := by
        have : Cd.of_ ⟨f, n, c, (List.replicate M false).set k true⟩ (f + X) = k := by
          unfold Cd.of_
          rw [if_pos (by simp; omega)]
          simp only []
          rw [show f + X - f = X by omega]
          exact div_is c0 (by rw [hX]; omega) (by rw [hX]; omega)
        unfold Cd.marked
        rw [this, if_pos (by omega), Int.toNat_natCast]
        simp [hkM]
      have hmk : Cd.isMark ⟨f, n, c, (List.replicate M false).set k true⟩ (k : Int) = true := by
        unfold Cd.isMark
        rw [if_pos (by omega), Int.toNat_natCast]
        simp [hkM]
      have hnext : f + (if ((k + 1 : Nat) : Int) * c < n then ((k + 1 : Nat) : Int) * c else n) = f + B := by
        congr 1
        rw [show ((k + 1 : Nat) : Int) * c = X + c from by rw [← hX, show ((k + 1 : Nat) : Int) = (k : Int) + 1 by omega, Int.add_mul, Int.one_mul], ← hB]
        split <;> split <;> omega
      have P1 := Lib.hid hpart
      have P2 := Lib.hid hof1
      have P3 := Lib.hid hof2
      have P4 := Lib.hid hmk
      have P5 := Lib.hid hnext
      clear hpart hof1 hof2 hmk hnext hXX hk2 hB
      go_wp2_with fail
      refine (Part_at (k : Int) hr).mono ?_
      rintro e w3 ⟨rfl, h3⟩
      rw [P1.out]
      clear hr
      go_wp2_with fail
      refine (Mark_at (f + B - 1) h3 (by omega)).mono ?_
      rintro e w4 ⟨rfl, h4⟩
      rw [P2.out, show decide ((0 : Int) ≤ (k : Int)) = true from by simp]
      rw [P2.out, if_pos (by omega), Int.toNat_natCast] at h4
      replace h4 : At w w4 b ⟨f, n, c, (List.replicate M false).set k true⟩ := h4
      clear h3
      go_wp2_with fail
      refine (Marked_at (f + X) h4 (by omega)).mono ?_
      rintro e w5 ⟨rfl, h5⟩
      rw [P3.out]
      clear h4
      go_wp2_with fail
      refine (First_at 0 h5).mono ?_
      rintro e w6 ⟨r, hf, rfl, h6⟩
      have hr := hf.unique (one_first M k hkM)
      subst hr
      rw [show fstO (some k) = (k : Int) from rfl, show (some k).isSome = true from rfl]
      clear h5 hf
      go_wp2_with fail
      refine (Clear_at (k : Int) h6).mono ?_
      rintro e w7 ⟨rfl, h7⟩
      rw [P4.out, if_pos rfl, Int.toNat_natCast] at h7
      rw [P4.out]
      replace h7 : At w w7 b ⟨f, n, c, List.replicate M false⟩ := by
        have h8 : At w w7 b ⟨f, n, c, ((List.replicate M false).set k true).set k false⟩ := h7
        rwa [set_back] at h8
      clear h6
      go_wp2_with fail
      go_roundw
      case rel => exact ⟨k + 1, by omega, by go_num, by rw [P5.out], h7⟩
      case measure => simp [intOf]; omega
    · have hXX : (if (k : Int) * c < n then (k : Int) * c else n) = n := by rw [hX, if_neg hlt]
      rw [hXX]
      clear hXX hk2
      go_wp2_with fail
      refine (awake_at hr).mono ?_
      rintro e w3 ⟨rfl, h3⟩
      go_wp2_with fail
      refine (Count_at h3).mono ?_
      rintro e w4 ⟨rfl, h4⟩
      rw [show (((List.replicate M false).count true : Nat) : Int) = 0 from by simp [List.count_replicate]]
      go_wp2_with fail
      go_ret
      exact ⟨by simp, h4.below⟩
end Go.Proofs.Ytoalianiedjoaaa.Cd
