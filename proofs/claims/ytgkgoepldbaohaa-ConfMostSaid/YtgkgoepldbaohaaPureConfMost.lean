/- The plain law of ConfMost over the printed functions. No condition beside the kinds' bounds. -/
import Derived.Test.YtgkgoepldbaohaaPConfMostx
set_option linter.unusedVariables false
set_option linter.unusedSimpArgs false
namespace Go.Proofs.Ytgkgoepldbaohaa.Pure
open Go.RowKit Go.Proofs.Ytgkgoepldbaohaa.PConfMost Go.Proofs.YtgkgoepldbaohaaW.PrintWords Go.Proofs.YtgkgoepldbaohaaW.PrintLast Go.Proofs.YtgkgoepldbaohaaW.PrintMore
namespace ConfMostIn
theorem w64 {n : Int} (h1 : -9223372036854775808 ≤ n) (h2 : n ≤ 9223372036854775807) : wrap64 n = n := by unfold wrap64; omega
theorem i64_b {a : Int} (h : (Lit.int .i64 a).wf = true) : -9223372036854775808 ≤ a ∧ a ≤ 9223372036854775807 := by
  simpa [Lit.wf, IntKind.min, IntKind.max, IntKind.signed, IntKind.bits] using h
def within (a b c : Int) : Bool := decide (b ≤ a) && decide (a ≤ c)
theorem within_f (a b c : Int) : conf_within.f a b c = some (within a b c) := by
  unfold conf_within.f within
  by_cases h : a ≥ b
  · rw [if_pos h]; simp [h]
  · rw [if_neg h]; simp [h]
theorem all_f (k : Nat) (a b c d : Bool) : conf_all.f (k + 6) [a, b, c, d] = some (a && b && c && d) := by
  have e1 : wrap64 1 = 1 := by simp [wrap64]
  cases a <;> cases b <;> cases c <;> cases d <;> simp [conf_all.f, conf_all.l0, rdOf, wrap64]
/-- May a heap be made so? -/
def May (a0 a1 a2 a3 a4 a5 a6 a7 a8 a9 a10 a11 a12 : Int) : Prop :=
  1 ≤ a0 ∧ a0 ≤ 64 ∧ 8 ≤ a1 ∧ a1 ≤ 4096 ∧ 0 ≤ a2 ∧ a2 ≤ 64 ∧ 16 ≤ a3 ∧ a3 ≤ 256 ∧ 1 ≤ a4 ∧ a3 % a4 = 0 ∧ 0 ≤ a5 ∧ a5 ≤ 256 ∧ 1 ≤ a6 ∧ a6 ≤ 256 ∧ 1 ≤ a7 ∧ a7 ≤ 7 ∧ 0 ≤ a8 ∧ a8 ≤ 64 ∧ 0 ≤ a9 ∧ a9 ≤ 64 ∧ 0 ≤ a10 ∧ a10 ≤ 64 ∧ 0 ≤ a11 ∧ a11 ≤ a1 ∧ 0 ≤ a12 ∧ a12 ≤ a2 ∧ a8 + 2 ≤ a1
instance (a0 a1 a2 a3 a4 a5 a6 a7 a8 a9 a10 a11 a12 : Int) : Decidable (May a0 a1 a2 a3 a4 a5 a6 a7 a8 a9 a10 a11 a12) := by unfold May; infer_instance
theorem card_le {a3 a4 : Int} (h3 : 16 ≤ a3) (h4 : 1 ≤ a4) (h : a3 % a4 = 0) : a4 ≤ a3 := by
  rcases Int.lt_or_le a3 a4 with h1 | h1
  · rw [Int.emod_eq_of_lt (by omega) h1] at h; omega
  · exact h1
theorem Check_f (k : Nat) (a0 a1 a2 a3 a4 a5 a6 a7 a8 a9 a10 a11 a12 : Int) (b8 : -9223372036854775808 ≤ a8 ∧ a8 ≤ 9223372036854775807) :
    conf_Check.f (k + 8) a0 a1 a2 a3 a4 a5 a6 a7 a8 a9 a10 a11 a12 = some (if May a0 a1 a2 a3 a4 a5 a6 a7 a8 a9 a10 a11 a12 then 0 else 1) := by
  unfold conf_Check.f
  rw [show k + 8 = (k + 2) + 6 from rfl]
  simp only [within_f, all_f, Option.bind_some]
  rw [show k + 2 + 6 = (k + 1 + 6) + 1 from rfl]
  simp only [conf_Check.j0, within_f, all_f, Option.bind_some]
  by_cases hA : (within a0 1 64 && within a1 8 4096 && within a2 0 64 && within a3 16 256) = true
  · rw [if_pos hA]
    simp only [within, Bool.and_eq_true, decide_eq_true_eq] at hA
    by_cases hB : within a4 1 a3 = true
    · rw [if_pos hB]
      simp only [within, Bool.and_eq_true, decide_eq_true_eq] at hB
      rw [if_neg (by omega), Int.tmod_eq_emod_of_nonneg (by omega)]
      by_cases hC : a3 % a4 = 0
      · rw [if_neg (by simp [hC])]
        by_cases hD : (within a5 0 256 && within a6 1 256 && within a7 1 7 && within a8 0 64) = true
        · rw [if_pos hD]
          simp only [within, Bool.and_eq_true, decide_eq_true_eq] at hD
          by_cases hE : (within a9 0 64 && within a10 0 64 && within a11 0 a1 && within a12 0 a2) = true
          · rw [if_pos hE]
            simp only [within, Bool.and_eq_true, decide_eq_true_eq] at hE
            rw [w64 (by omega) (by omega)]
            by_cases hF : a8 + 2 > a1
            · rw [if_pos hF, if_neg (by unfold May; omega)]
            · rw [if_neg hF, if_pos (by unfold May; omega)]
          · rw [if_neg hE, if_neg (by unfold May; simp only [within, Bool.and_eq_true, decide_eq_true_eq] at hE; omega)]
        · rw [if_neg hD, if_neg (by unfold May; simp only [within, Bool.and_eq_true, decide_eq_true_eq] at hD; omega)]
      · rw [if_pos (by simp [hC]), if_neg (by unfold May; omega)]
    · rw [if_neg hB, if_pos trivial, if_neg (by
        unfold May; simp only [within, Bool.and_eq_true, decide_eq_true_eq] at hB
        intro h
        have := card_le (a3 := a3) (a4 := a4) (by omega) (by omega) (by omega)
        omega)]
  · rw [if_neg hA, if_pos trivial, if_neg (by unfold May; simp only [within, Bool.and_eq_true, decide_eq_true_eq] at hA; omega)]
theorem in_f (a b c : Int) : tilthlaw03_in.f a b c = some (within a b c) := by
  unfold tilthlaw03_in.f within
  by_cases h : a ≥ b
  · rw [if_pos h]; simp [h]
  · rw [if_neg h]; simp [h]
theorem may_f (k : Nat) (a0 a1 a2 a3 a4 a5 a6 a7 a8 a9 a10 a11 a12 : Int) (b1 : -9223372036854775808 ≤ a1 ∧ a1 ≤ 9223372036854775807) : tilthlaw03_may.f (k + 1) a0 a1 a2 a3 a4 a5 a6 a7 a8 a9 a10 a11 a12 = some (decide (May a0 a1 a2 a3 a4 a5 a6 a7 a8 a9 a10 a11 a12)) := by
  have no : ¬ May a0 a1 a2 a3 a4 a5 a6 a7 a8 a9 a10 a11 a12 → tilthlaw03_may.j0 (k + 1) false a0 a1 a2 a3 a4 a5 a6 a7 a8 a9 a10 a11 a12 = some (decide (May a0 a1 a2 a3 a4 a5 a6 a7 a8 a9 a10 a11 a12)) := by
    intro h
    simp only [tilthlaw03_may.j0, in_f, Option.bind_some, Bool.false_eq_true, if_false]
    rw [decide_eq_false h]
    (repeat' split) <;> rfl
  have F : ∀ {p : Bool}, ¬ p = true → p = false := by simp
  unfold tilthlaw03_may.f
  simp only [in_f, Option.bind_some]
  by_cases h0 : within a0 1 64 = true
  · rw [if_pos h0]
    by_cases h1 : within a1 8 4096 = true
    · rw [if_pos h1]
      by_cases h2 : within a2 0 64 = true
      · rw [if_pos h2]
        by_cases h3 : within a3 16 256 = true
        · rw [if_pos h3]
          by_cases h5 : within a5 0 256 = true
          · rw [if_pos h5]
            by_cases h6 : within a6 1 256 = true
            · rw [h6]
              simp only [within, Bool.and_eq_true, decide_eq_true_eq] at h0 h1 h2 h3 h5 h6
              simp only [tilthlaw03_may.j0, in_f, Option.bind_some, if_true]
              by_cases h7 : within a7 1 7 = true
              · rw [if_pos h7]
                by_cases h8 : within a8 0 64 = true
                · rw [if_pos h8]
                  by_cases h9 : within a9 0 64 = true
                  · rw [if_pos h9]
                    by_cases h10 : within a10 0 64 = true
                    · rw [if_pos h10]
                      by_cases h11 : within a11 0 a1 = true
                      · rw [if_pos h11]
                        by_cases h12 : within a12 0 a2 = true
                        · rw [if_pos h12]
                          simp only [within, Bool.and_eq_true, decide_eq_true_eq] at h7 h8 h9 h10 h11 h12
                          by_cases h4 : a4 ≥ 1
                          · rw [if_pos h4, if_neg (by omega), Int.tmod_eq_emod_of_nonneg (by omega), w64 (by omega) (by omega)]
                            by_cases hm : a3 % a4 = 0
                            · rw [if_pos hm]; congr 1; rw [Bool.eq_iff_iff, decide_eq_true_eq, decide_eq_true_eq]; unfold May; omega
                            · rw [if_neg hm]; congr 1; symm; rw [decide_eq_false_iff_not]; unfold May; omega
                          · rw [if_neg h4]; congr 1; symm; rw [decide_eq_false_iff_not]; unfold May; omega
                        · rw [if_neg h12]; congr 1; symm; rw [decide_eq_false_iff_not]; simp only [within, Bool.and_eq_true, decide_eq_true_eq] at h12; unfold May; omega
                      · rw [if_neg h11]; congr 1; symm; rw [decide_eq_false_iff_not]; simp only [within, Bool.and_eq_true, decide_eq_true_eq] at h11; unfold May; omega
                    · rw [if_neg h10]; congr 1; symm; rw [decide_eq_false_iff_not]; simp only [within, Bool.and_eq_true, decide_eq_true_eq] at h10; unfold May; omega
                  · rw [if_neg h9]; congr 1; symm; rw [decide_eq_false_iff_not]; simp only [within, Bool.and_eq_true, decide_eq_true_eq] at h9; unfold May; omega
                · rw [if_neg h8]; congr 1; symm; rw [decide_eq_false_iff_not]; simp only [within, Bool.and_eq_true, decide_eq_true_eq] at h8; unfold May; omega
              · rw [if_neg h7]; congr 1; symm; rw [decide_eq_false_iff_not]; simp only [within, Bool.and_eq_true, decide_eq_true_eq] at h7; unfold May; omega
            · rw [F h6]; exact no (by simp only [within, Bool.and_eq_true, decide_eq_true_eq] at h6; unfold May; omega)
          · rw [if_neg h5]; exact no (by simp only [within, Bool.and_eq_true, decide_eq_true_eq] at h5; unfold May; omega)
        · rw [if_neg h3]; exact no (by simp only [within, Bool.and_eq_true, decide_eq_true_eq] at h3; unfold May; omega)
      · rw [if_neg h2]; exact no (by simp only [within, Bool.and_eq_true, decide_eq_true_eq] at h2; unfold May; omega)
    · rw [if_neg h1]; exact no (by simp only [within, Bool.and_eq_true, decide_eq_true_eq] at h1; unfold May; omega)
  · rw [if_neg h0]; exact no (by simp only [within, Bool.and_eq_true, decide_eq_true_eq] at h0; unfold May; omega)

theorem sum_b {p q a b : Int} (hp : 0 ≤ p) (hq : 0 ≤ q) (ha : p ≤ a) (hb : q ≤ b) : 0 ≤ p * q ∧ p * q ≤ a * b := ⟨Int.mul_nonneg hp hq, Int.mul_le_mul ha hb hq (by omega)⟩
theorem one_f (a0 a1 a2 a3 a4 a5 a6 a7 a8 a9 a10 a11 a12 : Int) (h : 0 ≤ a8 ∧ a8 ≤ 64) : conf_one.f a0 a1 a2 a3 a4 a5 a6 a7 a8 a9 a10 a11 a12 = some ((a8 + 4) * (2 * a8 + 24)) := by
  unfold conf_one.f
  have b := sum_b (p := a8 + 4) (q := 2 * a8 + 24) (a := 68) (b := 152) (by omega) (by omega) (by omega) (by omega)
  rw [w64 (n := a8 + 4) (by omega) (by omega), w64 (n := 2 * a8) (by omega) (by omega), w64 (n := 2 * a8 + 24) (by omega) (by omega), w64 (by omega) (by omega)]
/-- The words of a call, at most. -/
def most (a0 a1 a3 a6 a8 a9 a10 f : Int) : Int := (((f + 2) * (a9 + a10) + 8) * a3 + a0 + a6 + 4 * a1) * ((a8 + 4) * (2 * a8 + 24))
theorem most_b {a0 a1 a3 a6 a8 a9 a10 f : Int} (h0 : 1 ≤ a0 ∧ a0 ≤ 64) (h1 : 8 ≤ a1 ∧ a1 ≤ 4096) (h3 : 16 ≤ a3 ∧ a3 ≤ 256) (h6 : 1 ≤ a6 ∧ a6 ≤ 256) (h8 : 0 ≤ a8 ∧ a8 ≤ 64) (h9 : 0 ≤ a9 ∧ a9 ≤ 64) (h10 : 0 ≤ a10 ∧ a10 ≤ 64) (hf : 0 ≤ f ∧ f ≤ 64) :
    (0 ≤ (f + 2) * (a9 + a10) ∧ (f + 2) * (a9 + a10) ≤ 8448) ∧ (0 ≤ ((f + 2) * (a9 + a10) + 8) * a3 ∧ ((f + 2) * (a9 + a10) + 8) * a3 ≤ 2164736) ∧ (0 ≤ (a8 + 4) * (2 * a8 + 24) ∧ (a8 + 4) * (2 * a8 + 24) ≤ 10336) ∧ (96 ≤ (a8 + 4) * (2 * a8 + 24)) ∧ (1 ≤ most a0 a1 a3 a6 a8 a9 a10 f ∧ most a0 a1 a3 a6 a8 a9 a10 f ≤ 23000000000) := by
  have b1 := sum_b (p := f + 2) (q := a9 + a10) (a := 66) (b := 128) (by omega) (by omega) (by omega) (by omega)
  have b2 := sum_b (p := (f + 2) * (a9 + a10) + 8) (q := a3) (a := 8456) (b := 256) (by omega) (by omega) (by omega) (by omega)
  have b3 := sum_b (p := a8 + 4) (q := 2 * a8 + 24) (a := 68) (b := 152) (by omega) (by omega) (by omega) (by omega)
  have b4 : 4 * 24 ≤ (a8 + 4) * (2 * a8 + 24) := Int.mul_le_mul (by omega) (by omega) (by omega) (by omega)
  have b5 := sum_b (p := ((f + 2) * (a9 + a10) + 8) * a3 + a0 + a6 + 4 * a1) (q := (a8 + 4) * (2 * a8 + 24)) (a := 2181440) (b := 10336) (by omega) (by omega) (by omega) (by omega)
  have b6 : 1 * 96 ≤ (((f + 2) * (a9 + a10) + 8) * a3 + a0 + a6 + 4 * a1) * ((a8 + 4) * (2 * a8 + 24)) := Int.mul_le_mul (by omega) (by omega) (by omega) (by omega)
  unfold most
  refine ⟨⟨b1.1, by omega⟩, ⟨b2.1, by omega⟩, ⟨b3.1, by omega⟩, by omega, by omega, by omega⟩
theorem Most_f (a0 a1 a2 a3 a4 a5 a6 a7 a8 a9 a10 a11 a12 x : Int) (h : May a0 a1 a2 a3 a4 a5 a6 a7 a8 a9 a10 a11 a12) : conf_Most.f a0 a1 a2 a3 a4 a5 a6 a7 a8 a9 a10 a11 a12 x = some (most a0 a1 a3 a6 a8 a9 a10 (mx 0 (mn x a8))) := by
  unfold May at h
  obtain ⟨f, hf⟩ : ∃ f, f = mx 0 (mn x a8) := ⟨_, rfl⟩
  have bf : 0 ≤ f ∧ f ≤ 64 := by rw [hf]; unfold mx mn; (repeat' split) <;> omega
  have B := most_b (a0 := a0) (a1 := a1) (a3 := a3) (a6 := a6) (a8 := a8) (a9 := a9) (a10 := a10) (f := f) (by omega) (by omega) (by omega) (by omega) (by omega) (by omega) (by omega) bf
  unfold conf_Most.f
  rw [one_f _ _ _ _ _ _ _ _ _ _ _ _ _ (by omega), ← hf]
  simp only [Option.bind_some]
  rw [w64 (n := f + 2) (by omega) (by omega), w64 (n := a9 + a10) (by omega) (by omega), w64 (n := (f + 2) * (a9 + a10)) (by omega) (by omega), w64 (n := (f + 2) * (a9 + a10) + 8) (by omega) (by omega),
    w64 (n := ((f + 2) * (a9 + a10) + 8) * a3) (by omega) (by omega), w64 (n := ((f + 2) * (a9 + a10) + 8) * a3 + a0) (by omega) (by omega), w64 (n := ((f + 2) * (a9 + a10) + 8) * a3 + a0 + a6) (by omega) (by omega),
    w64 (n := 4 * a1) (by omega) (by omega), w64 (n := ((f + 2) * (a9 + a10) + 8) * a3 + a0 + a6 + 4 * a1) (by omega) (by omega)]
  rw [show (((f + 2) * (a9 + a10) + 8) * a3 + a0 + a6 + 4 * a1) * ((a8 + 4) * (2 * a8 + 24)) = most a0 a1 a3 a6 a8 a9 a10 f from rfl, w64 (by omega) (by omega)]
theorem Mature_f (a0 a1 a2 a3 a4 a5 a6 a7 a8 a9 a10 a11 a12 : Int) (h : 0 ≤ a1 ∧ a1 ≤ 4096) : conf_Mature.f a0 a1 a2 a3 a4 a5 a6 a7 a8 a9 a10 a11 a12 = some (1 + 2 * a1) := by
  unfold conf_Mature.f
  rw [w64 (n := 2 * a1) (by omega) (by omega), w64 (by omega) (by omega)]
theorem Words_f (a0 a1 a2 a3 a4 a5 a6 a7 a8 a9 a10 a11 a12 : Int) (h : 0 ≤ a1 ∧ a1 ≤ 4096) (h2 : 0 ≤ a2 ∧ a2 ≤ 64) (h3 : 0 ≤ a3 ∧ a3 ≤ 256) : conf_Words.f a0 a1 a2 a3 a4 a5 a6 a7 a8 a9 a10 a11 a12 = some (1 + 2 * a1 + a2 * a3) := by
  unfold conf_Words.f
  have b := sum_b (p := a2) (q := a3) (a := 64) (b := 256) (by omega) (by omega) (by omega) (by omega)
  rw [Mature_f _ _ _ _ _ _ _ _ _ _ _ _ _ h]
  simp only [Option.bind_some]
  rw [w64 (n := a2 * a3) (by omega) (by omega), w64 (by omega) (by omega)]
theorem and1 (n : Int) (h : -9223372036854775808 ≤ n ∧ n ≤ 9223372036854775807) : bits .and .i64 n 1 = n % 2 := by
  show IntKind.i64.wrap ((BitVec.ofInt 64 n &&& BitVec.ofInt 64 1).toNat : Int) = _
  rw [BitVec.toNat_and, IntKind.wrap_i64]
  have e1 : (BitVec.ofInt 64 1).toNat = 1 := by decide
  rw [e1, nat_mask1, BitVec.toNat_ofInt]
  omega
theorem Half_f (a0 a1 a2 a3 a4 a5 a6 a7 a8 a9 a10 a11 a12 n : Int) (hn : -9223372036854775808 ≤ n ∧ n ≤ 9223372036854775807) (h : 0 ≤ a1 ∧ a1 ≤ 4096) : conf_Half.f a0 a1 a2 a3 a4 a5 a6 a7 a8 a9 a10 a11 a12 n = some (1 + n % 2 * a1) := by
  unfold conf_Half.f
  rw [and1 n hn]
  rcases (by omega : n % 2 = 0 ∨ n % 2 = 1) with e | e <;> rw [e]
  · simp [wrap64]
  · rw [Int.one_mul, w64 (n := a1) (by omega) (by omega), w64 (by omega) (by omega)]
theorem awake_f (k : Nat) : tilthlaw03_awake.f (k + 8) = some true := by
  have m1 : May 4 32 3 16 8 0 2 2 5 2 1 0 0 := by decide
  have m2 : ¬ May 0 0 0 0 0 0 0 0 0 0 0 0 0 := by decide
  unfold tilthlaw03_awake.f
  rw [Check_f _ _ _ _ _ _ _ _ _ _ _ _ _ _ (by omega), Check_f _ _ _ _ _ _ _ _ _ _ _ _ _ _ (by omega), if_pos m1, if_neg m2, Words_f _ _ _ _ _ _ _ _ _ _ _ _ _ (by omega) (by omega) (by omega), Half_f _ _ _ _ _ _ _ _ _ _ _ _ _ _ (by omega) (by omega), Mature_f _ _ _ _ _ _ _ _ _ _ _ _ _ (by omega), Most_f _ _ _ _ _ _ _ _ _ _ _ _ _ _ m1]
  simp [most, mx, mn]
end ConfMostIn
open ConfMostIn
theorem ConfMost (a0 a1 a2 a3 a4 a5 a6 a7 a8 a9 a10 a11 a12 x : Int) (b1 : -9223372036854775808 ≤ a1 ∧ a1 ≤ 9223372036854775807) : tilthlaw03_ConfMost.f 20 a0 a1 a2 a3 a4 a5 a6 a7 a8 a9 a10 a11 a12 x = some true := by
  unfold tilthlaw03_ConfMost.f
  rw [may_f 19 _ _ _ _ _ _ _ _ _ _ _ _ _ b1, awake_f 12]
  simp only [Option.bind_some]
  by_cases h : May a0 a1 a2 a3 a4 a5 a6 a7 a8 a9 a10 a11 a12
  · rw [decide_eq_true h, if_pos rfl]
    have h' := h
    unfold May at h'
    have fin : ∀ f : Int, 0 ≤ f → f ≤ a8 → f = mx 0 (mn x a8) → (tilthlaw03_awake.f 19).bind (fun t158 => (if t158 = true then ((conf_Most.f a0 a1 a2 a3 a4 a5 a6 a7 a8 a9 a10 a11 a12 x).bind fun t159 => (if t159 = (wrap64 ((wrap64 ((wrap64 ((wrap64 ((wrap64 ((wrap64 ((wrap64 ((wrap64 ((wrap64 (f + 2)) * (wrap64 (a9 + a10)))) + 8)) * a3)) + a0)) + a6)) + (wrap64 (4 * a1)))) * (wrap64 (a8 + 4)))) * (wrap64 ((wrap64 (2 * a8)) + 24)))) then (some (decide ((wrap64 ((wrap64 ((wrap64 ((wrap64 ((wrap64 ((wrap64 ((wrap64 ((wrap64 ((wrap64 (f + 2)) * (wrap64 (a9 + a10)))) + 8)) * a3)) + a0)) + a6)) + (wrap64 (4 * a1)))) * (wrap64 (a8 + 4)))) * (wrap64 ((wrap64 (2 * a8)) + 24)))) > 0))) else (some false))) else (some false))) = some true := by
      intro f f0 f1 fe
      have B := most_b (a0 := a0) (a1 := a1) (a3 := a3) (a6 := a6) (a8 := a8) (a9 := a9) (a10 := a10) (f := f) (by omega) (by omega) (by omega) (by omega) (by omega) (by omega) (by omega) (by omega)
      have b5 := sum_b (p := ((f + 2) * (a9 + a10) + 8) * a3 + a0 + a6 + 4 * a1) (q := a8 + 4) (a := 2181440) (b := 68) (by omega) (by omega) (by omega) (by omega)
      have e : (((f + 2) * (a9 + a10) + 8) * a3 + a0 + a6 + 4 * a1) * (a8 + 4) * (2 * a8 + 24) = most a0 a1 a3 a6 a8 a9 a10 f := by unfold most; rw [Int.mul_assoc]
      rw [awake_f 11, Most_f _ _ _ _ _ _ _ _ _ _ _ _ _ _ h, ← fe]
      simp only [Option.bind_some, if_true]
      rw [w64 (n := f + 2) (by omega) (by omega), w64 (n := a9 + a10) (by omega) (by omega), w64 (n := (f + 2) * (a9 + a10)) (by omega) (by omega), w64 (n := (f + 2) * (a9 + a10) + 8) (by omega) (by omega),
        w64 (n := ((f + 2) * (a9 + a10) + 8) * a3) (by omega) (by omega), w64 (n := ((f + 2) * (a9 + a10) + 8) * a3 + a0) (by omega) (by omega), w64 (n := ((f + 2) * (a9 + a10) + 8) * a3 + a0 + a6) (by omega) (by omega),
        w64 (n := 4 * a1) (by omega) (by omega), w64 (n := ((f + 2) * (a9 + a10) + 8) * a3 + a0 + a6 + 4 * a1) (by omega) (by omega), w64 (n := a8 + 4) (by omega) (by omega), w64 (n := 2 * a8) (by omega) (by omega), w64 (n := 2 * a8 + 24) (by omega) (by omega)]
      rw [w64 (n := (((f + 2) * (a9 + a10) + 8) * a3 + a0 + a6 + 4 * a1) * (a8 + 4)) (by omega) (by omega), e, w64 (by omega) (by omega), if_pos rfl]
      simp; omega
    have key : ∀ f : Int, 0 ≤ f → (if f > a8 then a8 else f) = mx 0 (mn x a8) → tilthlaw03_ConfMost.j0 20 x f a0 a1 a2 a3 a4 a5 a6 a7 a8 a9 a10 a11 a12 = some true := by
      intro f f0 fe
      simp only [tilthlaw03_ConfMost.j0]
      by_cases hf : f > a8
      · rw [if_pos hf]
        exact fin a8 (by omega) (by omega) (by rw [← fe, if_pos hf])
      · rw [if_neg hf]
        exact fin f f0 (by omega) (by rw [← fe, if_neg hf])
    by_cases hx : x < 0
    · rw [if_pos hx]; exact key 0 (by omega) (by rw [if_neg (by omega)]; unfold mx mn; (repeat' split) <;> omega)
    · rw [if_neg hx]; exact key x (by omega) (by unfold mx mn; (repeat' split) <;> omega)
  · rw [decide_eq_false h]; simp
end Go.Proofs.Ytgkgoepldbaohaa.Pure
