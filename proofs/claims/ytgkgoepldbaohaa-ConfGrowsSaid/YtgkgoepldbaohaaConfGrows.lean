/- ConfGrows as a contract. Condition: the numbers are of their kinds. -/
import Derived.Test.YtgkgoepldbaohaaPConfGrowsx
import Derived.Test.YtgkgoepldbaohaaCls
set_option linter.unusedVariables false
set_option linter.unusedSimpArgs false
namespace Go.Proofs.Ytgkgoepldbaohaa.Cgr
open Go.RowKit Go.Proofs.Ytgkgoepldbaohaa.PConfGrows Go.Proofs.YtgkgoepldbaohaaW.PrintWords Go.Proofs.YtgkgoepldbaohaaW.PrintLast Go.Proofs.YtgkgoepldbaohaaW.PrintMore Go.Proofs.Ytgkgoepldbaohaa.W
theorem w64 {n : Int} (h1 : -9223372036854775808 ≤ n) (h2 : n ≤ 9223372036854775807) : wrap64 n = n := by unfold wrap64; omega
theorem i64_b {a : Int} (h : (Lit.int .i64 a).wf = true) : -9223372036854775808 ≤ a ∧ a ≤ 9223372036854775807 := by
  simpa [Lit.wf, IntKind.min, IntKind.max, IntKind.signed, IntKind.bits] using h
def within (a b c : Int) : Bool := decide (b ≤ a) && decide (a ≤ c)
theorem within_f (a b c : Int) : conf_within.f a b c = some (within a b c) := by
  unfold conf_within.f within
  by_cases h : a ≥ b
  · rw [if_pos h]; simp [h]
  · rw [if_neg h]; simp [h]
theorem all_f (k : Nat) (a b c d : Bool) : conf_all.f (k + 6) [a, b, c, d] = some (a && b && c && d) := by
  have e1 : wrap64 1 = 1 := by simp [wrap64]
  cases a <;> cases b <;> cases c <;> cases d <;> simp [conf_all.f, conf_all.l0, rdOf, wrap64]
/-- May a heap be made so? -/
def May (a0 a1 a2 a3 a4 a5 a6 a7 a8 a9 a10 a11 a12 : Int) : Prop :=
  1 ≤ a0 ∧ a0 ≤ 64 ∧ 8 ≤ a1 ∧ a1 ≤ 4096 ∧ 0 ≤ a2 ∧ a2 ≤ 64 ∧ 16 ≤ a3 ∧ a3 ≤ 256 ∧ 1 ≤ a4 ∧ a3 % a4 = 0 ∧ 0 ≤ a5 ∧ a5 ≤ 256 ∧ 1 ≤ a6 ∧ a6 ≤ 256 ∧ 1 ≤ a7 ∧ a7 ≤ 7 ∧ 0 ≤ a8 ∧ a8 ≤ 64 ∧ 0 ≤ a9 ∧ a9 ≤ 64 ∧ 0 ≤ a10 ∧ a10 ≤ 64 ∧ 0 ≤ a11 ∧ a11 ≤ a1 ∧ 0 ≤ a12 ∧ a12 ≤ a2 ∧ a8 + 2 ≤ a1
instance (a0 a1 a2 a3 a4 a5 a6 a7 a8 a9 a10 a11 a12 : Int) : Decidable (May a0 a1 a2 a3 a4 a5 a6 a7 a8 a9 a10 a11 a12) := by unfold May; infer_instance
theorem card_le {a3 a4 : Int} (h3 : 16 ≤ a3) (h4 : 1 ≤ a4) (h : a3 % a4 = 0) : a4 ≤ a3 := by
  rcases Int.lt_or_le a3 a4 with h1 | h1
  · rw [Int.emod_eq_of_lt (by omega) h1] at h; omega
  · exact h1
theorem Check_f (k : Nat) (a0 a1 a2 a3 a4 a5 a6 a7 a8 a9 a10 a11 a12 : Int) (b8 : -9223372036854775808 ≤ a8 ∧ a8 ≤ 9223372036854775807) :
    conf_Check.f (k + 8) a0 a1 a2 a3 a4 a5 a6 a7 a8 a9 a10 a11 a12 = some (if May a0 a1 a2 a3 a4 a5 a6 a7 a8 a9 a10 a11 a12 then 0 else 1) := by
  unfold conf_Check.f
  rw [show k + 8 = (k + 2) + 6 from rfl]
  simp only [within_f, all_f, Option.bind_some]
  rw [show k + 2 + 6 = (k + 1 + 6) + 1 from rfl]
  simp only [conf_Check.j0, within_f, all_f, Option.bind_some]
  by_cases hA : (within a0 1 64 && within a1 8 4096 && within a2 0 64 && within a3 16 256) = true
  · rw [if_pos hA]
    simp only [within, Bool.and_eq_true, decide_eq_true_eq] at hA
    by_cases hB : within a4 1 a3 = true
    · rw [if_pos hB]
      simp only [within, Bool.and_eq_true, decide_eq_true_eq] at hB
      rw [if_neg (by omega), Int.tmod_eq_emod_of_nonneg (by omega)]
      by_cases hC : a3 % a4 = 0
      · rw [if_neg (by simp [hC])]
        by_cases hD : (within a5 0 256 && within a6 1 256 && within a7 1 7 && within a8 0 64) = true
        · rw [if_pos hD]
          simp only [within, Bool.and_eq_true, decide_eq_true_eq] at hD
          by_cases hE : (within a9 0 64 && within a10 0 64 && within a11 0 a1 && within a12 0 a2) = true
          · rw [if_pos hE]
            simp only [within, Bool.and_eq_true, decide_eq_true_eq] at hE
            rw [w64 (by omega) (by omega)]
            by_cases hF : a8 + 2 > a1
            · rw [if_pos hF, if_neg (by unfold May; omega)]
            · rw [if_neg hF, if_pos (by unfold May; omega)]
          · rw [if_neg hE, if_neg (by unfold May; simp only [within, Bool.and_eq_true, decide_eq_true_eq] at hE; omega)]
        · rw [if_neg hD, if_neg (by unfold May; simp only [within, Bool.and_eq_true, decide_eq_true_eq] at hD; omega)]
      · rw [if_pos (by simp [hC]), if_neg (by unfold May; omega)]
    · rw [if_neg hB, if_pos trivial, if_neg (by
        unfold May; simp only [within, Bool.and_eq_true, decide_eq_true_eq] at hB
        intro h
        have := card_le (a3 := a3) (a4 := a4) (by omega) (by omega) (by omega)
        omega)]
  · rw [if_neg hA, if_pos trivial, if_neg (by unfold May; simp only [within, Bool.and_eq_true, decide_eq_true_eq] at hA; omega)]

theorem sum_b {p q a b : Int} (hp : 0 ≤ p) (hq : 0 ≤ q) (ha : p ≤ a) (hb : q ≤ b) : 0 ≤ p * q ∧ p * q ≤ a * b := ⟨Int.mul_nonneg hp hq, Int.mul_le_mul ha hb hq (by omega)⟩
theorem one_f (a0 a1 a2 a3 a4 a5 a6 a7 a8 a9 a10 a11 a12 : Int) (h : 0 ≤ a8 ∧ a8 ≤ 64) : conf_one.f a0 a1 a2 a3 a4 a5 a6 a7 a8 a9 a10 a11 a12 = some ((a8 + 4) * (2 * a8 + 24)) := by
  unfold conf_one.f
  have b := sum_b (p := a8 + 4) (q := 2 * a8 + 24) (a := 68) (b := 152) (by omega) (by omega) (by omega) (by omega)
  rw [w64 (n := a8 + 4) (by omega) (by omega), w64 (n := 2 * a8) (by omega) (by omega), w64 (n := 2 * a8 + 24) (by omega) (by omega), w64 (by omega) (by omega)]
/-- The words of a call, at most. -/
def most (a0 a1 a3 a6 a8 a9 a10 f : Int) : Int := (((f + 2) * (a9 + a10) + 8) * a3 + a0 + a6 + 4 * a1) * ((a8 + 4) * (2 * a8 + 24))
theorem most_b {a0 a1 a3 a6 a8 a9 a10 f : Int} (h0 : 1 ≤ a0 ∧ a0 ≤ 64) (h1 : 8 ≤ a1 ∧ a1 ≤ 4096) (h3 : 16 ≤ a3 ∧ a3 ≤ 256) (h6 : 1 ≤ a6 ∧ a6 ≤ 256) (h8 : 0 ≤ a8 ∧ a8 ≤ 64) (h9 : 0 ≤ a9 ∧ a9 ≤ 64) (h10 : 0 ≤ a10 ∧ a10 ≤ 64) (hf : 0 ≤ f ∧ f ≤ 64) :
    (0 ≤ (f + 2) * (a9 + a10) ∧ (f + 2) * (a9 + a10) ≤ 8448) ∧ (0 ≤ ((f + 2) * (a9 + a10) + 8) * a3 ∧ ((f + 2) * (a9 + a10) + 8) * a3 ≤ 2164736) ∧ (0 ≤ (a8 + 4) * (2 * a8 + 24) ∧ (a8 + 4) * (2 * a8 + 24) ≤ 10336) ∧ (96 ≤ (a8 + 4) * (2 * a8 + 24)) ∧ (1 ≤ most a0 a1 a3 a6 a8 a9 a10 f ∧ most a0 a1 a3 a6 a8 a9 a10 f ≤ 23000000000) := by
  have b1 := sum_b (p := f + 2) (q := a9 + a10) (a := 66) (b := 128) (by omega) (by omega) (by omega) (by omega)
  have b2 := sum_b (p := (f + 2) * (a9 + a10) + 8) (q := a3) (a := 8456) (b := 256) (by omega) (by omega) (by omega) (by omega)
  have b3 := sum_b (p := a8 + 4) (q := 2 * a8 + 24) (a := 68) (b := 152) (by omega) (by omega) (by omega) (by omega)
  have b4 : 4 * 24 ≤ (a8 + 4) * (2 * a8 + 24) := Int.mul_le_mul (by omega) (by omega) (by omega) (by omega)
  have b5 := sum_b (p := ((f + 2) * (a9 + a10) + 8) * a3 + a0 + a6 + 4 * a1) (q := (a8 + 4) * (2 * a8 + 24)) (a := 2181440) (b := 10336) (by omega) (by omega) (by omega) (by omega)
  have b6 : 1 * 96 ≤ (((f + 2) * (a9 + a10) + 8) * a3 + a0 + a6 + 4 * a1) * ((a8 + 4) * (2 * a8 + 24)) := Int.mul_le_mul (by omega) (by omega) (by omega) (by omega)
  unfold most
  refine ⟨⟨b1.1, by omega⟩, ⟨b2.1, by omega⟩, ⟨b3.1, by omega⟩, by omega, by omega, by omega⟩
theorem Most_f (a0 a1 a2 a3 a4 a5 a6 a7 a8 a9 a10 a11 a12 x : Int) (h : May a0 a1 a2 a3 a4 a5 a6 a7 a8 a9 a10 a11 a12) : conf_Most.f a0 a1 a2 a3 a4 a5 a6 a7 a8 a9 a10 a11 a12 x = some (most a0 a1 a3 a6 a8 a9 a10 (mx 0 (mn x a8))) := by
  unfold May at h
  obtain ⟨f, hf⟩ : ∃ f, f = mx 0 (mn x a8) := ⟨_, rfl⟩
  have bf : 0 ≤ f ∧ f ≤ 64 := by rw [hf]; unfold mx mn; (repeat' split) <;> omega
  have B := most_b (a0 := a0) (a1 := a1) (a3 := a3) (a6 := a6) (a8 := a8) (a9 := a9) (a10 := a10) (f := f) (by omega) (by omega) (by omega) (by omega) (by omega) (by omega) (by omega) bf
  unfold conf_Most.f
  rw [one_f _ _ _ _ _ _ _ _ _ _ _ _ _ (by omega), ← hf]
  simp only [Option.bind_some]
  rw [w64 (n := f + 2) (by omega) (by omega), w64 (n := a9 + a10) (by omega) (by omega), w64 (n := (f + 2) * (a9 + a10)) (by omega) (by omega), w64 (n := (f + 2) * (a9 + a10) + 8) (by omega) (by omega),
    w64 (n := ((f + 2) * (a9 + a10) + 8) * a3) (by omega) (by omega), w64 (n := ((f + 2) * (a9 + a10) + 8) * a3 + a0) (by omega) (by omega), w64 (n := ((f + 2) * (a9 + a10) + 8) * a3 + a0 + a6) (by omega) (by omega),
    w64 (n := 4 * a1) (by omega) (by omega), w64 (n := ((f + 2) * (a9 + a10) + 8) * a3 + a0 + a6 + 4 * a1) (by omega) (by omega)]
  rw [show (((f + 2) * (a9 + a10) + 8) * a3 + a0 + a6 + 4 * a1) * ((a8 + 4) * (2 * a8 + 24)) = most a0 a1 a3 a6 a8 a9 a10 f from rfl, w64 (by omega) (by omega)]
theorem Mature_f (a0 a1 a2 a3 a4 a5 a6 a7 a8 a9 a10 a11 a12 : Int) (h : 0 ≤ a1 ∧ a1 ≤ 4096) : conf_Mature.f a0 a1 a2 a3 a4 a5 a6 a7 a8 a9 a10 a11 a12 = some (1 + 2 * a1) := by
  unfold conf_Mature.f
  rw [w64 (n := 2 * a1) (by omega) (by omega), w64 (by omega) (by omega)]
theorem Words_f (a0 a1 a2 a3 a4 a5 a6 a7 a8 a9 a10 a11 a12 : Int) (h : 0 ≤ a1 ∧ a1 ≤ 4096) (h2 : 0 ≤ a2 ∧ a2 ≤ 64) (h3 : 0 ≤ a3 ∧ a3 ≤ 256) : conf_Words.f a0 a1 a2 a3 a4 a5 a6 a7 a8 a9 a10 a11 a12 = some (1 + 2 * a1 + a2 * a3) := by
  unfold conf_Words.f
  have b := sum_b (p := a2) (q := a3) (a := 64) (b := 256) (by omega) (by omega) (by omega) (by omega)
  rw [Mature_f _ _ _ _ _ _ _ _ _ _ _ _ _ h]
  simp only [Option.bind_some]
  rw [w64 (n := a2 * a3) (by omega) (by omega), w64 (by omega) (by omega)]
theorem and1 (n : Int) (h : -9223372036854775808 ≤ n ∧ n ≤ 9223372036854775807) : bits .and .i64 n 1 = n % 2 := by
  show IntKind.i64.wrap ((BitVec.ofInt 64 n &&& BitVec.ofInt 64 1).toNat : Int) = _
  rw [BitVec.toNat_and, IntKind.wrap_i64]
  have e1 : (BitVec.ofInt 64 1).toNat = 1 := by decide
  rw [e1, nat_mask1, BitVec.toNat_ofInt]
  omega
theorem Half_f (a0 a1 a2 a3 a4 a5 a6 a7 a8 a9 a10 a11 a12 n : Int) (hn : -9223372036854775808 ≤ n ∧ n ≤ 9223372036854775807) (h : 0 ≤ a1 ∧ a1 ≤ 4096) : conf_Half.f a0 a1 a2 a3 a4 a5 a6 a7 a8 a9 a10 a11 a12 n = some (1 + n % 2 * a1) := by
  unfold conf_Half.f
  rw [and1 n hn]
  rcases (by omega : n % 2 = 0 ∨ n % 2 = 1) with e | e <;> rw [e]
  · simp [wrap64]
  · rw [Int.one_mul, w64 (n := a1) (by omega) (by omega), w64 (by omega) (by omega)]
theorem awake_f (k : Nat) : tilthlaw03_awake.f (k + 8) = some true := by
  have m1 : May 4 32 3 16 8 0 2 2 5 2 1 0 0 := by decide
  have m2 : ¬ May 0 0 0 0 0 0 0 0 0 0 0 0 0 := by decide
  unfold tilthlaw03_awake.f
  rw [Check_f _ _ _ _ _ _ _ _ _ _ _ _ _ _ (by omega), Check_f _ _ _ _ _ _ _ _ _ _ _ _ _ _ (by omega), if_pos m1, if_neg m2, Words_f _ _ _ _ _ _ _ _ _ _ _ _ _ (by omega) (by omega) (by omega), Half_f _ _ _ _ _ _ _ _ _ _ _ _ _ _ (by omega) (by omega), Mature_f _ _ _ _ _ _ _ _ _ _ _ _ _ (by omega), Most_f _ _ _ _ _ _ _ _ _ _ _ _ _ _ m1]
  simp [most, mx, mn]
theorem most_mono {a0 a1 a2 a3 a4 a5 a6 a7 a8 a9 a10 a11 a12 f f' : Int} (h : May a0 a1 a2 a3 a4 a5 a6 a7 a8 a9 a10 a11 a12) (h0 : 0 ≤ f) (h1 : f ≤ f') : most a0 a1 a3 a6 a8 a9 a10 f ≤ most a0 a1 a3 a6 a8 a9 a10 f' := by
  unfold May at h
  unfold most
  refine Int.mul_le_mul_of_nonneg_right ?_ (Int.mul_nonneg (by omega) (by omega))
  have e1 : (f + 2) * (a9 + a10) ≤ (f' + 2) * (a9 + a10) := Int.mul_le_mul_of_nonneg_right (by omega) (by omega)
  have e2 : ((f + 2) * (a9 + a10) + 8) * a3 ≤ ((f' + 2) * (a9 + a10) + 8) * a3 := Int.mul_le_mul_of_nonneg_right (by omega) (by omega)
  omega
theorem most_tax {a0 a1 a2 a3 a4 a5 a6 a7 a8 a9 a10 a11 a12 f t : Int} (h : May a0 a1 a2 a3 a4 a5 a6 a7 a8 a9 a10 a11 a12) (h0 : 0 ≤ f) (h1 : a9 ≤ t) : most a0 a1 a3 a6 a8 a9 a10 f ≤ most a0 a1 a3 a6 a8 t a10 f := by
  unfold May at h
  unfold most
  refine Int.mul_le_mul_of_nonneg_right ?_ (Int.mul_nonneg (by omega) (by omega))
  have e1 : (f + 2) * (a9 + a10) ≤ (f + 2) * (t + a10) := Int.mul_le_mul_of_nonneg_left (by omega) (by omega)
  have e2 : ((f + 2) * (a9 + a10) + 8) * a3 ≤ ((f + 2) * (t + a10) + 8) * a3 := Int.mul_le_mul_of_nonneg_right (by omega) (by omega)
  omega

theorem Check_yes (a0 a1 a2 a3 a4 a5 a6 a7 a8 a9 a10 a11 a12 : Int) (w : World) (h : May a0 a1 a2 a3 a4 a5 a6 a7 a8 a9 a10 a11 a12) (b8 : -9223372036854775808 ≤ a8 ∧ a8 ≤ 9223372036854775807) : Calls Try.prog 28 #[.agg #[.int .i64 a0, .int .i64 a1, .int .i64 a2, .int .i64 a3, .int .i64 a4, .int .i64 a5, .int .i64 a6, .int .i64 a7, .int .i64 a8, .int .i64 a9, .int .i64 a10, .int .i64 a11, .int .i64 a12]] w fun e w' => e = .returned (.int .i64 0) ∧ Keep (fun _ => False) w w' :=
  (conf_Check.calls 8 a0 a1 a2 a3 a4 a5 a6 a7 a8 a9 a10 a11 a12 0 w (by rw [Check_f 0 a0 a1 a2 a3 a4 a5 a6 a7 a8 a9 a10 a11 a12 b8, if_pos h])).mono fun e w' ⟨he, hb⟩ => ⟨he, Keep.of_below hb⟩
theorem Check_not (a0 a1 a2 a3 a4 a5 a6 a7 a8 a9 a10 a11 a12 : Int) (w : World) (h : ¬ May a0 a1 a2 a3 a4 a5 a6 a7 a8 a9 a10 a11 a12) (b8 : -9223372036854775808 ≤ a8 ∧ a8 ≤ 9223372036854775807) : Calls Try.prog 28 #[.agg #[.int .i64 a0, .int .i64 a1, .int .i64 a2, .int .i64 a3, .int .i64 a4, .int .i64 a5, .int .i64 a6, .int .i64 a7, .int .i64 a8, .int .i64 a9, .int .i64 a10, .int .i64 a11, .int .i64 a12]] w fun e w' => e = .returned (.int .i64 1) ∧ Keep (fun _ => False) w w' :=
  (conf_Check.calls 8 a0 a1 a2 a3 a4 a5 a6 a7 a8 a9 a10 a11 a12 1 w (by rw [Check_f 0 a0 a1 a2 a3 a4 a5 a6 a7 a8 a9 a10 a11 a12 b8, if_neg h])).mono fun e w' ⟨he, hb⟩ => ⟨he, Keep.of_below hb⟩
theorem Most_k (a0 a1 a2 a3 a4 a5 a6 a7 a8 a9 a10 a11 a12 x r : Int) (w : World) (h : May a0 a1 a2 a3 a4 a5 a6 a7 a8 a9 a10 a11 a12) (hr : most a0 a1 a3 a6 a8 a9 a10 (mx 0 (mn x a8)) = r) : Calls Try.prog 32 #[.agg #[.int .i64 a0, .int .i64 a1, .int .i64 a2, .int .i64 a3, .int .i64 a4, .int .i64 a5, .int .i64 a6, .int .i64 a7, .int .i64 a8, .int .i64 a9, .int .i64 a10, .int .i64 a11, .int .i64 a12], .int .i64 x] w fun e w' => e = .returned (.int .i64 r) ∧ Keep (fun _ => False) w w' :=
  (conf_Most.calls a0 a1 a2 a3 a4 a5 a6 a7 a8 a9 a10 a11 a12 x r w (by rw [Most_f a0 a1 a2 a3 a4 a5 a6 a7 a8 a9 a10 a11 a12 x h, hr])).mono fun e w' ⟨he, hb⟩ => ⟨he, Keep.of_below hb⟩
theorem awake_k (w : World) : Calls Try.prog 27 #[] w fun e w' => e = .returned (.bool true) ∧ Keep (fun _ => False) w w' :=
  (tilthlaw03_awake.calls 8 true w (awake_f 0)).mono fun e w' ⟨he, hb⟩ => ⟨he, Keep.of_below hb⟩

/-- Three configurations in blocks of their own. -/
def C3 (W : World) (b c d : Nat) (A B D : Array Value) (w : World) : Prop := Blk w b 23 A ∧ Blk w c 23 B ∧ Blk w d 23 D ∧ Keep (fun _ => False) W w
theorem C3.stay {W w w' : World} {b c d : Nat} {A B D : Array Value} (h : C3 W b c d A B D w) (k : Keep (fun _ => False) w w') : C3 W b c d A B D w' :=
  ⟨k.blk h.1 (fun h => h), k.blk h.2.1 (fun h => h), k.blk h.2.2.1 (fun h => h), h.2.2.2.trans k (fun i h => .inl h)⟩

set_option maxHeartbeats 16000000 in
set_option maxRecDepth 20000 in
theorem Grows_calls (a0 a1 a2 a3 a4 a5 a6 a7 a8 a9 a10 a11 a12 x y t g : Int) (w : World) (b8 : -9223372036854775808 ≤ a8 ∧ a8 ≤ 9223372036854775807) (t0 : 0 ≤ t) (t1 : t ≤ 255) (g0 : 0 ≤ g) (g1 : g ≤ 255) :
    Calls Try.prog 14 #[.agg #[.int .i64 a0, .int .i64 a1, .int .i64 a2, .int .i64 a3, .int .i64 a4, .int .i64 a5, .int .i64 a6, .int .i64 a7, .int .i64 a8, .int .i64 a9, .int .i64 a10, .int .i64 a11, .int .i64 a12], .int .i64 x, .int .i64 y, .int .u8 t, .int .u8 g] w fun e w' => e = .returned (.bool true) ∧ Below w.heap.size w w' := by
  by_cases hm : May a0 a1 a2 a3 a4 a5 a6 a7 a8 a9 a10 a11 a12
  · have hm2 := hm
    unfold May at hm2
    have hT : ∃ T, (if t % 65 < a9 then a9 else t % 65) = T ∧ a9 ≤ T ∧ T ≤ 64 := ⟨_, rfl, by split <;> omega, by split <;> omega⟩
    obtain ⟨T, hT, hT1, hT2⟩ := hT
    obtain ⟨p, q, hpq, hle⟩ : ∃ p q : Int, (if y < x then (y, x) else (x, y)) = (p, q) ∧ p ≤ q := by
      by_cases h : y < x
      · exact ⟨y, x, by rw [if_pos h], by omega⟩
      · exact ⟨x, y, by rw [if_neg h], by omega⟩
    have hk : May a0 a1 a2 a3 a4 a5 a6 a7 a8 T a10 a11 a12 := by unfold May; omega
    have hp : May a0 a1 (g % 65) a3 a4 a5 a6 a7 a8 a9 a10 a11 0 := by unfold May; omega
    have mp0 : 0 ≤ mx 0 (mn p a8) := by unfold mx; split <;> omega
    have mpq : mx 0 (mn p a8) ≤ mx 0 (mn q a8) := by unfold mx mn; (repeat' split) <;> omega
    have hA := most_mono hm mp0 mpq
    have hB := most_tax hm mp0 hT1
    obtain ⟨M1, hM1⟩ : ∃ M, most a0 a1 a3 a6 a8 a9 a10 (mx 0 (mn p a8)) = M := ⟨_, rfl⟩
    obtain ⟨M2, hM2⟩ : ∃ M, most a0 a1 a3 a6 a8 a9 a10 (mx 0 (mn q a8)) = M := ⟨_, rfl⟩
    obtain ⟨M3, hM3⟩ : ∃ M, most a0 a1 a3 a6 a8 T a10 (mx 0 (mn p a8)) = M := ⟨_, rfl⟩
    rw [hM1, hM2] at hA
    rw [hM1, hM3] at hB
    have cP := Lib.hid (fun W => Most_k a0 a1 a2 a3 a4 a5 a6 a7 a8 a9 a10 a11 a12 p M1 W hm hM1)
    have cQ := Lib.hid (fun W => Most_k a0 a1 a2 a3 a4 a5 a6 a7 a8 a9 a10 a11 a12 q M2 W hm hM2)
    have cK := Lib.hid (fun W => Most_k a0 a1 a2 a3 a4 a5 a6 a7 a8 T a10 a11 a12 p M3 W hk hM3)
    have cR := Lib.hid (fun W => Most_k a0 a1 (g % 65) a3 a4 a5 a6 a7 a8 a9 a10 a11 0 p M1 W hp hM1)
    have cC := Lib.hid (fun W => Check_yes a0 a1 a2 a3 a4 a5 a6 a7 a8 a9 a10 a11 a12 W hm b8)
    have cD := Lib.hid (fun W => Check_yes a0 a1 (g % 65) a3 a4 a5 a6 a7 a8 a9 a10 a11 0 W hp b8)
    have dA : decide (M1 ≤ M2) = true := by simpa using hA
    have dB : decide (M1 ≤ M3) = true := by simpa using hB
    have r0 : 0 ≤ t % 65 ∧ t % 65 < 65 := by omega
    have s0 : 0 ≤ g % 65 ∧ g % 65 < 65 := by omega
    clear hA hB hM1 hM2 hM3 mp0 mpq hm hk hp
    obtain ⟨m0, m1, m2, m3, m4, m5, m6, m7, m8, m9, m10, m11, m12, m13, m14, m15, m16, m17, m18, m19, m20, m21, m22, m23, m24, m25⟩ := hm2
    obtain ⟨⟨r1, r2⟩, ⟨s1, s2⟩⟩ := And.intro r0 s0
    rcases (by omega : (y < x ∧ t % 65 < a9) ∨ (y < x ∧ ¬ t % 65 < a9) ∨ (¬ y < x ∧ t % 65 < a9) ∨ (¬ y < x ∧ ¬ t % 65 < a9)) with ⟨hsw, hmi⟩ | ⟨hsw, hmi⟩ | ⟨hsw, hmi⟩ | ⟨hsw, hmi⟩
    · as_aux_lemma =>
      rw [if_pos hsw] at hpq
      rw [if_pos hmi] at hT
      obtain ⟨rfl, rfl⟩ : y = p ∧ x = q := by simpa using hpq
      subst hT
      clear hpq
      go_enter Try.func14, Try.ntmps14
      go_wp2_with fail
      refine (cC.out _).mono ?_
      rintro e w1 ⟨rfl, k1⟩
      have hB1 := k1.blk (Blk.new w 23 #[.int .i64 a0, .int .i64 a1, .int .i64 a2, .int .i64 a3, .int .i64 a4, .int .i64 a5, .int .i64 a6, .int .i64 a7, .int .i64 a8, .int .i64 a9, .int .i64 a10, .int .i64 a11, .int .i64 a12]) (fun h => h)
      have K1 := ((Keep.refl (fun _ => False) w).alloc (.cells #[.int .i64 a0, .int .i64 a1, .int .i64 a2, .int .i64 a3, .int .i64 a4, .int .i64 a5, .int .i64 a6, .int .i64 a7, .int .i64 a8, .int .i64 a9, .int .i64 a10, .int .i64 a11, .int .i64 a12] 23)).trans k1 (fun i h => .inl h)
      have hbl := hB1.lt
      have c0 := hB1.cell 0
      have c1 := hB1.cell 1
      have c2 := hB1.cell 2
      have c3 := hB1.cell 3
      have c4 := hB1.cell 4
      have c5 := hB1.cell 5
      have c6 := hB1.cell 6
      have c7 := hB1.cell 7
      have c8 := hB1.cell 8
      have c9 := hB1.cell 9
      have c10 := hB1.cell 10
      have c11 := hB1.cell 11
      have c12 := hB1.cell 12
      simp at c0 c1 c2 c3 c4 c5 c6 c7 c8 c9 c10 c11 c12
      clear k1
      go_wp2_with fail
      clear c0 c1 c2 c3 c4 c5 c6 c7 c8 c9 c10 c11 c12
      obtain ⟨C, hCd⟩ : ∃ C, C = (C3 w w.heap.size w1.heap.size (w1.heap.size + 1) #[.int .i64 a0, .int .i64 a1, .int .i64 a2, .int .i64 a3, .int .i64 a4, .int .i64 a5, .int .i64 a6, .int .i64 a7, .int .i64 a8, .int .i64 a9, .int .i64 a10, .int .i64 a11, .int .i64 a12] #[.int .i64 a0, .int .i64 a1, .int .i64 a2, .int .i64 a3, .int .i64 a4, .int .i64 a5, .int .i64 a6, .int .i64 a7, .int .i64 a8, .int .i64 a9, .int .i64 a10, .int .i64 a11, .int .i64 a12] #[.int .i64 a0, .int .i64 a1, .int .i64 (g % 65), .int .i64 a3, .int .i64 a4, .int .i64 a5, .int .i64 a6, .int .i64 a7, .int .i64 a8, .int .i64 a9, .int .i64 a10, .int .i64 a11, .int .i64 0]) := ⟨_, rfl⟩
      have hC : C ((w1.alloc (.cells #[.int .i64 a0, .int .i64 a1, .int .i64 a2, .int .i64 a3, .int .i64 a4, .int .i64 a5, .int .i64 a6, .int .i64 a7, .int .i64 a8, .int .i64 a9, .int .i64 a10, .int .i64 a11, .int .i64 a12] 23)).alloc (.cells #[.int .i64 a0, .int .i64 a1, .int .i64 (g % 65), .int .i64 a3, .int .i64 a4, .int .i64 a5, .int .i64 a6, .int .i64 a7, .int .i64 a8, .int .i64 a9, .int .i64 a10, .int .i64 a11, .int .i64 0] 23)).drew := by
        subst hCd
        refine ⟨(hB1.alloc _).alloc _, (Blk.new w1 23 #[.int .i64 a0, .int .i64 a1, .int .i64 a2, .int .i64 a3, .int .i64 a4, .int .i64 a5, .int .i64 a6, .int .i64 a7, .int .i64 a8, .int .i64 a9, .int .i64 a10, .int .i64 a11, .int .i64 a12]).alloc _, ?_, ((K1.alloc _).alloc _).drew⟩
        have := Blk.new (w1.alloc (.cells #[.int .i64 a0, .int .i64 a1, .int .i64 a2, .int .i64 a3, .int .i64 a4, .int .i64 a5, .int .i64 a6, .int .i64 a7, .int .i64 a8, .int .i64 a9, .int .i64 a10, .int .i64 a11, .int .i64 a12] 23)) 23 #[.int .i64 a0, .int .i64 a1, .int .i64 (g % 65), .int .i64 a3, .int .i64 a4, .int .i64 a5, .int .i64 a6, .int .i64 a7, .int .i64 a8, .int .i64 a9, .int .i64 a10, .int .i64 a11, .int .i64 0]
        rw [show (w1.alloc (.cells #[.int .i64 a0, .int .i64 a1, .int .i64 a2, .int .i64 a3, .int .i64 a4, .int .i64 a5, .int .i64 a6, .int .i64 a7, .int .i64 a8, .int .i64 a9, .int .i64 a10, .int .i64 a11, .int .i64 a12] 23)).heap.size = w1.heap.size + 1 from by show (w1.heap.push _).size = _; rw [Array.size_push]] at this
        exact this
      have e0 : ∀ X : WIn C, X.w.cell? ⟨w.heap.size, 0, none⟩ = some (.int .i64 a0) := fun ⟨X, hx⟩ => by subst hCd; exact (hx.1.cell 0).trans rfl
      have e1 : ∀ X : WIn C, X.w.cell? ⟨w.heap.size, 1, none⟩ = some (.int .i64 a1) := fun ⟨X, hx⟩ => by subst hCd; exact (hx.1.cell 1).trans rfl
      have e2 : ∀ X : WIn C, X.w.cell? ⟨w.heap.size, 2, none⟩ = some (.int .i64 a2) := fun ⟨X, hx⟩ => by subst hCd; exact (hx.1.cell 2).trans rfl
      have e3 : ∀ X : WIn C, X.w.cell? ⟨w.heap.size, 3, none⟩ = some (.int .i64 a3) := fun ⟨X, hx⟩ => by subst hCd; exact (hx.1.cell 3).trans rfl
      have e4 : ∀ X : WIn C, X.w.cell? ⟨w.heap.size, 4, none⟩ = some (.int .i64 a4) := fun ⟨X, hx⟩ => by subst hCd; exact (hx.1.cell 4).trans rfl
      have e5 : ∀ X : WIn C, X.w.cell? ⟨w.heap.size, 5, none⟩ = some (.int .i64 a5) := fun ⟨X, hx⟩ => by subst hCd; exact (hx.1.cell 5).trans rfl
      have e6 : ∀ X : WIn C, X.w.cell? ⟨w.heap.size, 6, none⟩ = some (.int .i64 a6) := fun ⟨X, hx⟩ => by subst hCd; exact (hx.1.cell 6).trans rfl
      have e7 : ∀ X : WIn C, X.w.cell? ⟨w.heap.size, 7, none⟩ = some (.int .i64 a7) := fun ⟨X, hx⟩ => by subst hCd; exact (hx.1.cell 7).trans rfl
      have e8 : ∀ X : WIn C, X.w.cell? ⟨w.heap.size, 8, none⟩ = some (.int .i64 a8) := fun ⟨X, hx⟩ => by subst hCd; exact (hx.1.cell 8).trans rfl
      have e9 : ∀ X : WIn C, X.w.cell? ⟨w.heap.size, 9, none⟩ = some (.int .i64 a9) := fun ⟨X, hx⟩ => by subst hCd; exact (hx.1.cell 9).trans rfl
      have e10 : ∀ X : WIn C, X.w.cell? ⟨w.heap.size, 10, none⟩ = some (.int .i64 a10) := fun ⟨X, hx⟩ => by subst hCd; exact (hx.1.cell 10).trans rfl
      have e11 : ∀ X : WIn C, X.w.cell? ⟨w.heap.size, 11, none⟩ = some (.int .i64 a11) := fun ⟨X, hx⟩ => by subst hCd; exact (hx.1.cell 11).trans rfl
      have e12 : ∀ X : WIn C, X.w.cell? ⟨w.heap.size, 12, none⟩ = some (.int .i64 a12) := fun ⟨X, hx⟩ => by subst hCd; exact (hx.1.cell 12).trans rfl
      have f0 : ∀ X : WIn C, X.w.cell? ⟨w1.heap.size, 0, none⟩ = some (.int .i64 a0) := fun ⟨X, hx⟩ => by subst hCd; exact (hx.2.1.cell 0).trans rfl
      have f1 : ∀ X : WIn C, X.w.cell? ⟨w1.heap.size, 1, none⟩ = some (.int .i64 a1) := fun ⟨X, hx⟩ => by subst hCd; exact (hx.2.1.cell 1).trans rfl
      have f2 : ∀ X : WIn C, X.w.cell? ⟨w1.heap.size, 2, none⟩ = some (.int .i64 a2) := fun ⟨X, hx⟩ => by subst hCd; exact (hx.2.1.cell 2).trans rfl
      have f3 : ∀ X : WIn C, X.w.cell? ⟨w1.heap.size, 3, none⟩ = some (.int .i64 a3) := fun ⟨X, hx⟩ => by subst hCd; exact (hx.2.1.cell 3).trans rfl
      have f4 : ∀ X : WIn C, X.w.cell? ⟨w1.heap.size, 4, none⟩ = some (.int .i64 a4) := fun ⟨X, hx⟩ => by subst hCd; exact (hx.2.1.cell 4).trans rfl
      have f5 : ∀ X : WIn C, X.w.cell? ⟨w1.heap.size, 5, none⟩ = some (.int .i64 a5) := fun ⟨X, hx⟩ => by subst hCd; exact (hx.2.1.cell 5).trans rfl
      have f6 : ∀ X : WIn C, X.w.cell? ⟨w1.heap.size, 6, none⟩ = some (.int .i64 a6) := fun ⟨X, hx⟩ => by subst hCd; exact (hx.2.1.cell 6).trans rfl
      have f7 : ∀ X : WIn C, X.w.cell? ⟨w1.heap.size, 7, none⟩ = some (.int .i64 a7) := fun ⟨X, hx⟩ => by subst hCd; exact (hx.2.1.cell 7).trans rfl
      have f8 : ∀ X : WIn C, X.w.cell? ⟨w1.heap.size, 8, none⟩ = some (.int .i64 a8) := fun ⟨X, hx⟩ => by subst hCd; exact (hx.2.1.cell 8).trans rfl
      have f9 : ∀ X : WIn C, X.w.cell? ⟨w1.heap.size, 9, none⟩ = some (.int .i64 a9) := fun ⟨X, hx⟩ => by subst hCd; exact (hx.2.1.cell 9).trans rfl
      have f10 : ∀ X : WIn C, X.w.cell? ⟨w1.heap.size, 10, none⟩ = some (.int .i64 a10) := fun ⟨X, hx⟩ => by subst hCd; exact (hx.2.1.cell 10).trans rfl
      have f11 : ∀ X : WIn C, X.w.cell? ⟨w1.heap.size, 11, none⟩ = some (.int .i64 a11) := fun ⟨X, hx⟩ => by subst hCd; exact (hx.2.1.cell 11).trans rfl
      have f12 : ∀ X : WIn C, X.w.cell? ⟨w1.heap.size, 12, none⟩ = some (.int .i64 a12) := fun ⟨X, hx⟩ => by subst hCd; exact (hx.2.1.cell 12).trans rfl
      have h0 : ∀ X : WIn C, X.w.cell? ⟨w1.heap.size + 1, 0, none⟩ = some (.int .i64 a0) := fun ⟨X, hx⟩ => by subst hCd; exact (hx.2.2.1.cell 0).trans rfl
      have h1 : ∀ X : WIn C, X.w.cell? ⟨w1.heap.size + 1, 1, none⟩ = some (.int .i64 a1) := fun ⟨X, hx⟩ => by subst hCd; exact (hx.2.2.1.cell 1).trans rfl
      have h2 : ∀ X : WIn C, X.w.cell? ⟨w1.heap.size + 1, 2, none⟩ = some (.int .i64 (g % 65)) := fun ⟨X, hx⟩ => by subst hCd; exact (hx.2.2.1.cell 2).trans rfl
      have h3 : ∀ X : WIn C, X.w.cell? ⟨w1.heap.size + 1, 3, none⟩ = some (.int .i64 a3) := fun ⟨X, hx⟩ => by subst hCd; exact (hx.2.2.1.cell 3).trans rfl
      have h4 : ∀ X : WIn C, X.w.cell? ⟨w1.heap.size + 1, 4, none⟩ = some (.int .i64 a4) := fun ⟨X, hx⟩ => by subst hCd; exact (hx.2.2.1.cell 4).trans rfl
      have h5 : ∀ X : WIn C, X.w.cell? ⟨w1.heap.size + 1, 5, none⟩ = some (.int .i64 a5) := fun ⟨X, hx⟩ => by subst hCd; exact (hx.2.2.1.cell 5).trans rfl
      have h6 : ∀ X : WIn C, X.w.cell? ⟨w1.heap.size + 1, 6, none⟩ = some (.int .i64 a6) := fun ⟨X, hx⟩ => by subst hCd; exact (hx.2.2.1.cell 6).trans rfl
      have h7 : ∀ X : WIn C, X.w.cell? ⟨w1.heap.size + 1, 7, none⟩ = some (.int .i64 a7) := fun ⟨X, hx⟩ => by subst hCd; exact (hx.2.2.1.cell 7).trans rfl
      have h8 : ∀ X : WIn C, X.w.cell? ⟨w1.heap.size + 1, 8, none⟩ = some (.int .i64 a8) := fun ⟨X, hx⟩ => by subst hCd; exact (hx.2.2.1.cell 8).trans rfl
      have h9 : ∀ X : WIn C, X.w.cell? ⟨w1.heap.size + 1, 9, none⟩ = some (.int .i64 a9) := fun ⟨X, hx⟩ => by subst hCd; exact (hx.2.2.1.cell 9).trans rfl
      have h10 : ∀ X : WIn C, X.w.cell? ⟨w1.heap.size + 1, 10, none⟩ = some (.int .i64 a10) := fun ⟨X, hx⟩ => by subst hCd; exact (hx.2.2.1.cell 10).trans rfl
      have h11 : ∀ X : WIn C, X.w.cell? ⟨w1.heap.size + 1, 11, none⟩ = some (.int .i64 a11) := fun ⟨X, hx⟩ => by subst hCd; exact (hx.2.2.1.cell 11).trans rfl
      have h12 : ∀ X : WIn C, X.w.cell? ⟨w1.heap.size + 1, 12, none⟩ = some (.int .i64 0) := fun ⟨X, hx⟩ => by subst hCd; exact (hx.2.2.1.cell 12).trans rfl
      have hst : ∀ (X : WIn C) (w' : World), Keep (fun _ => False) X.w w' → C w' := fun ⟨X, hx⟩ w' k => by subst hCd; exact C3.stay hx k
      have hfin : ∀ X : WIn C, Below w.heap.size w X.w := fun ⟨X, hx⟩ => by subst hCd; exact hx.2.2.2.below (fun i h => h.elim)
      have qP : ∀ X : WIn C, Calls Try.prog 32 #[.agg #[.int .i64 a0, .int .i64 a1, .int .i64 a2, .int .i64 a3, .int .i64 a4, .int .i64 a5, .int .i64 a6, .int .i64 a7, .int .i64 a8, .int .i64 a9, .int .i64 a10, .int .i64 a11, .int .i64 a12], .int .i64 y] X.w fun e w'' => e = .returned (.int .i64 M1) ∧ ∃ y : WIn C, w'' = y.w := fun X => Calls.cls ((cP.out X.w).mono fun e w' ⟨he, k⟩ => ⟨he, hst X w' k⟩)
      have qQ : ∀ X : WIn C, Calls Try.prog 32 #[.agg #[.int .i64 a0, .int .i64 a1, .int .i64 a2, .int .i64 a3, .int .i64 a4, .int .i64 a5, .int .i64 a6, .int .i64 a7, .int .i64 a8, .int .i64 a9, .int .i64 a10, .int .i64 a11, .int .i64 a12], .int .i64 x] X.w fun e w'' => e = .returned (.int .i64 M2) ∧ ∃ y : WIn C, w'' = y.w := fun X => Calls.cls ((cQ.out X.w).mono fun e w' ⟨he, k⟩ => ⟨he, hst X w' k⟩)
      have qK : ∀ X : WIn C, Calls Try.prog 32 #[.agg #[.int .i64 a0, .int .i64 a1, .int .i64 a2, .int .i64 a3, .int .i64 a4, .int .i64 a5, .int .i64 a6, .int .i64 a7, .int .i64 a8, .int .i64 a9, .int .i64 a10, .int .i64 a11, .int .i64 a12], .int .i64 y] X.w fun e w'' => e = .returned (.int .i64 M3) ∧ ∃ y : WIn C, w'' = y.w := fun X => Calls.cls ((cK.out X.w).mono fun e w' ⟨he, k⟩ => ⟨he, hst X w' k⟩)
      have qR : ∀ X : WIn C, Calls Try.prog 32 #[.agg #[.int .i64 a0, .int .i64 a1, .int .i64 (g % 65), .int .i64 a3, .int .i64 a4, .int .i64 a5, .int .i64 a6, .int .i64 a7, .int .i64 a8, .int .i64 a9, .int .i64 a10, .int .i64 a11, .int .i64 0], .int .i64 y] X.w fun e w'' => e = .returned (.int .i64 M1) ∧ ∃ y : WIn C, w'' = y.w := fun X => Calls.cls ((cR.out X.w).mono fun e w' ⟨he, k⟩ => ⟨he, hst X w' k⟩)
      have qD : ∀ X : WIn C, Calls Try.prog 28 #[.agg #[.int .i64 a0, .int .i64 a1, .int .i64 (g % 65), .int .i64 a3, .int .i64 a4, .int .i64 a5, .int .i64 a6, .int .i64 a7, .int .i64 a8, .int .i64 a9, .int .i64 a10, .int .i64 a11, .int .i64 0]] X.w fun e w'' => e = .returned (.int .i64 0) ∧ ∃ y : WIn C, w'' = y.w := fun X => Calls.cls ((cD.out X.w).mono fun e w' ⟨he, k⟩ => ⟨he, hst X w' k⟩)
      have qA : ∀ X : WIn C, Calls Try.prog 27 #[] X.w fun e w'' => e = .returned (.bool true) ∧ ∃ y : WIn C, w'' = y.w := fun X => Calls.cls ((awake_k X.w).mono fun e w' ⟨he, k⟩ => ⟨he, hst X w' k⟩)
      have hqP := Lib.hid qP
      have hqQ := Lib.hid qQ
      have hqK := Lib.hid qK
      have hqR := Lib.hid qR
      have hqD := Lib.hid qD
      have hqA := Lib.hid qA
      clear qP qQ qK qR qD qA hCd cP cQ cK cR cC cD hB1 K1
      have kne : Nonempty (WIn C) := ⟨⟨_, hC⟩⟩
      have m1 : (M1 == M1) = true := by simp
      refine wp_region_cls C (by kernel_rfl) (by kernel_rfl) hC ?_
      repeat (go_big_quiet_step ((first | (go_at_call 27; with_reducible exact hqA.out _) | (go_at_call 28; with_reducible exact hqD.out _) | (go_at_call 32; with_reducible exact hqP.out _) | (go_at_call 32; with_reducible exact hqQ.out _) | (go_at_call 32; with_reducible exact hqK.out _) | (go_at_call 32; with_reducible exact hqR.out _))))
      refine wpQuiet_nil ?_
      rintro _ ⟨x6, rfl⟩
      have hb := hfin x6
      clear e0 e1 e2 e3 e4 e5 e6 e7 e8 e9 e10 e11 e12 f0 f1 f2 f3 f4 f5 f6 f7 f8 f9 f10 f11 f12 h0 h1 h2 h3 h4 h5 h6 h7 h8 h9 h10 h11 h12 hst hfin kne
      go_wp2_with fail
      go_ret
      exact ⟨rfl, hb⟩
    · as_aux_lemma =>
      rw [if_pos hsw] at hpq
      rw [if_neg hmi] at hT
      obtain ⟨rfl, rfl⟩ : y = p ∧ x = q := by simpa using hpq
      subst hT
      clear hpq
      go_enter Try.func14, Try.ntmps14
      go_wp2_with fail
      refine (cC.out _).mono ?_
      rintro e w1 ⟨rfl, k1⟩
      have hB1 := k1.blk (Blk.new w 23 #[.int .i64 a0, .int .i64 a1, .int .i64 a2, .int .i64 a3, .int .i64 a4, .int .i64 a5, .int .i64 a6, .int .i64 a7, .int .i64 a8, .int .i64 a9, .int .i64 a10, .int .i64 a11, .int .i64 a12]) (fun h => h)
      have K1 := ((Keep.refl (fun _ => False) w).alloc (.cells #[.int .i64 a0, .int .i64 a1, .int .i64 a2, .int .i64 a3, .int .i64 a4, .int .i64 a5, .int .i64 a6, .int .i64 a7, .int .i64 a8, .int .i64 a9, .int .i64 a10, .int .i64 a11, .int .i64 a12] 23)).trans k1 (fun i h => .inl h)
      have hbl := hB1.lt
      have c0 := hB1.cell 0
      have c1 := hB1.cell 1
      have c2 := hB1.cell 2
      have c3 := hB1.cell 3
      have c4 := hB1.cell 4
      have c5 := hB1.cell 5
      have c6 := hB1.cell 6
      have c7 := hB1.cell 7
      have c8 := hB1.cell 8
      have c9 := hB1.cell 9
      have c10 := hB1.cell 10
      have c11 := hB1.cell 11
      have c12 := hB1.cell 12
      simp at c0 c1 c2 c3 c4 c5 c6 c7 c8 c9 c10 c11 c12
      clear k1
      go_wp2_with fail
      clear c0 c1 c2 c3 c4 c5 c6 c7 c8 c9 c10 c11 c12
      obtain ⟨C, hCd⟩ : ∃ C, C = (C3 w w.heap.size w1.heap.size (w1.heap.size + 1) #[.int .i64 a0, .int .i64 a1, .int .i64 a2, .int .i64 a3, .int .i64 a4, .int .i64 a5, .int .i64 a6, .int .i64 a7, .int .i64 a8, .int .i64 a9, .int .i64 a10, .int .i64 a11, .int .i64 a12] #[.int .i64 a0, .int .i64 a1, .int .i64 a2, .int .i64 a3, .int .i64 a4, .int .i64 a5, .int .i64 a6, .int .i64 a7, .int .i64 a8, .int .i64 (t % 65), .int .i64 a10, .int .i64 a11, .int .i64 a12] #[.int .i64 a0, .int .i64 a1, .int .i64 (g % 65), .int .i64 a3, .int .i64 a4, .int .i64 a5, .int .i64 a6, .int .i64 a7, .int .i64 a8, .int .i64 a9, .int .i64 a10, .int .i64 a11, .int .i64 0]) := ⟨_, rfl⟩
      have hC : C ((w1.alloc (.cells #[.int .i64 a0, .int .i64 a1, .int .i64 a2, .int .i64 a3, .int .i64 a4, .int .i64 a5, .int .i64 a6, .int .i64 a7, .int .i64 a8, .int .i64 (t % 65), .int .i64 a10, .int .i64 a11, .int .i64 a12] 23)).alloc (.cells #[.int .i64 a0, .int .i64 a1, .int .i64 (g % 65), .int .i64 a3, .int .i64 a4, .int .i64 a5, .int .i64 a6, .int .i64 a7, .int .i64 a8, .int .i64 a9, .int .i64 a10, .int .i64 a11, .int .i64 0] 23)).drew := by
        subst hCd
        refine ⟨(hB1.alloc _).alloc _, (Blk.new w1 23 #[.int .i64 a0, .int .i64 a1, .int .i64 a2, .int .i64 a3, .int .i64 a4, .int .i64 a5, .int .i64 a6, .int .i64 a7, .int .i64 a8, .int .i64 (t % 65), .int .i64 a10, .int .i64 a11, .int .i64 a12]).alloc _, ?_, ((K1.alloc _).alloc _).drew⟩
        have := Blk.new (w1.alloc (.cells #[.int .i64 a0, .int .i64 a1, .int .i64 a2, .int .i64 a3, .int .i64 a4, .int .i64 a5, .int .i64 a6, .int .i64 a7, .int .i64 a8, .int .i64 (t % 65), .int .i64 a10, .int .i64 a11, .int .i64 a12] 23)) 23 #[.int .i64 a0, .int .i64 a1, .int .i64 (g % 65), .int .i64 a3, .int .i64 a4, .int .i64 a5, .int .i64 a6, .int .i64 a7, .int .i64 a8, .int .i64 a9, .int .i64 a10, .int .i64 a11, .int .i64 0]
        rw [show (w1.alloc (.cells #[.int .i64 a0, .int .i64 a1, .int .i64 a2, .int .i64 a3, .int .i64 a4, .int .i64 a5, .int .i64 a6, .int .i64 a7, .int .i64 a8, .int .i64 (t % 65), .int .i64 a10, .int .i64 a11, .int .i64 a12] 23)).heap.size = w1.heap.size + 1 from by show (w1.heap.push _).size = _; rw [Array.size_push]] at this
        exact this
      have e0 : ∀ X : WIn C, X.w.cell? ⟨w.heap.size, 0, none⟩ = some (.int .i64 a0) := fun ⟨X, hx⟩ => by subst hCd; exact (hx.1.cell 0).trans rfl
      have e1 : ∀ X : WIn C, X.w.cell? ⟨w.heap.size, 1, none⟩ = some (.int .i64 a1) := fun ⟨X, hx⟩ => by subst hCd; exact (hx.1.cell 1).trans rfl
      have e2 : ∀ X : WIn C, X.w.cell? ⟨w.heap.size, 2, none⟩ = some (.int .i64 a2) := fun ⟨X, hx⟩ => by subst hCd; exact (hx.1.cell 2).trans rfl
      have e3 : ∀ X : WIn C, X.w.cell? ⟨w.heap.size, 3, none⟩ = some (.int .i64 a3) := fun ⟨X, hx⟩ => by subst hCd; exact (hx.1.cell 3).trans rfl
      have e4 : ∀ X : WIn C, X.w.cell? ⟨w.heap.size, 4, none⟩ = some (.int .i64 a4) := fun ⟨X, hx⟩ => by subst hCd; exact (hx.1.cell 4).trans rfl
      have e5 : ∀ X : WIn C, X.w.cell? ⟨w.heap.size, 5, none⟩ = some (.int .i64 a5) := fun ⟨X, hx⟩ => by subst hCd; exact (hx.1.cell 5).trans rfl
      have e6 : ∀ X : WIn C, X.w.cell? ⟨w.heap.size, 6, none⟩ = some (.int .i64 a6) := fun ⟨X, hx⟩ => by subst hCd; exact (hx.1.cell 6).trans rfl
      have e7 : ∀ X : WIn C, X.w.cell? ⟨w.heap.size, 7, none⟩ = some (.int .i64 a7) := fun ⟨X, hx⟩ => by subst hCd; exact (hx.1.cell 7).trans rfl
      have e8 : ∀ X : WIn C, X.w.cell? ⟨w.heap.size, 8, none⟩ = some (.int .i64 a8) := fun ⟨X, hx⟩ => by subst hCd; exact (hx.1.cell 8).trans rfl
      have e9 : ∀ X : WIn C, X.w.cell? ⟨w.heap.size, 9, none⟩ = some (.int .i64 a9) := fun ⟨X, hx⟩ => by subst hCd; exact (hx.1.cell 9).trans rfl
      have e10 : ∀ X : WIn C, X.w.cell? ⟨w.heap.size, 10, none⟩ = some (.int .i64 a10) := fun ⟨X, hx⟩ => by subst hCd; exact (hx.1.cell 10).trans rfl
      have e11 : ∀ X : WIn C, X.w.cell? ⟨w.heap.size, 11, none⟩ = some (.int .i64 a11) := fun ⟨X, hx⟩ => by subst hCd; exact (hx.1.cell 11).trans rfl
      have e12 : ∀ X : WIn C, X.w.cell? ⟨w.heap.size, 12, none⟩ = some (.int .i64 a12) := fun ⟨X, hx⟩ => by subst hCd; exact (hx.1.cell 12).trans rfl
      have f0 : ∀ X : WIn C, X.w.cell? ⟨w1.heap.size, 0, none⟩ = some (.int .i64 a0) := fun ⟨X, hx⟩ => by subst hCd; exact (hx.2.1.cell 0).trans rfl
      have f1 : ∀ X : WIn C, X.w.cell? ⟨w1.heap.size, 1, none⟩ = some (.int .i64 a1) := fun ⟨X, hx⟩ => by subst hCd; exact (hx.2.1.cell 1).trans rfl
      have f2 : ∀ X : WIn C, X.w.cell? ⟨w1.heap.size, 2, none⟩ = some (.int .i64 a2) := fun ⟨X, hx⟩ => by subst hCd; exact (hx.2.1.cell 2).trans rfl
      have f3 : ∀ X : WIn C, X.w.cell? ⟨w1.heap.size, 3, none⟩ = some (.int .i64 a3) := fun ⟨X, hx⟩ => by subst hCd; exact (hx.2.1.cell 3).trans rfl
      have f4 : ∀ X : WIn C, X.w.cell? ⟨w1.heap.size, 4, none⟩ = some (.int .i64 a4) := fun ⟨X, hx⟩ => by subst hCd; exact (hx.2.1.cell 4).trans rfl
      have f5 : ∀ X : WIn C, X.w.cell? ⟨w1.heap.size, 5, none⟩ = some (.int .i64 a5) := fun ⟨X, hx⟩ => by subst hCd; exact (hx.2.1.cell 5).trans rfl
      have f6 : ∀ X : WIn C, X.w.cell? ⟨w1.heap.size, 6, none⟩ = some (.int .i64 a6) := fun ⟨X, hx⟩ => by subst hCd; exact (hx.2.1.cell 6).trans rfl
      have f7 : ∀ X : WIn C, X.w.cell? ⟨w1.heap.size, 7, none⟩ = some (.int .i64 a7) := fun ⟨X, hx⟩ => by subst hCd; exact (hx.2.1.cell 7).trans rfl
      have f8 : ∀ X : WIn C, X.w.cell? ⟨w1.heap.size, 8, none⟩ = some (.int .i64 a8) := fun ⟨X, hx⟩ => by subst hCd; exact (hx.2.1.cell 8).trans rfl
      have f9 : ∀ X : WIn C, X.w.cell? ⟨w1.heap.size, 9, none⟩ = some (.int .i64 (t % 65)) := fun ⟨X, hx⟩ => by subst hCd; exact (hx.2.1.cell 9).trans rfl
      have f10 : ∀ X : WIn C, X.w.cell? ⟨w1.heap.size, 10, none⟩ = some (.int .i64 a10) := fun ⟨X, hx⟩ => by subst hCd; exact (hx.2.1.cell 10).trans rfl
      have f11 : ∀ X : WIn C, X.w.cell? ⟨w1.heap.size, 11, none⟩ = some (.int .i64 a11) := fun ⟨X, hx⟩ => by subst hCd; exact (hx.2.1.cell 11).trans rfl
      have f12 : ∀ X : WIn C, X.w.cell? ⟨w1.heap.size, 12, none⟩ = some (.int .i64 a12) := fun ⟨X, hx⟩ => by subst hCd; exact (hx.2.1.cell 12).trans rfl
      have h0 : ∀ X : WIn C, X.w.cell? ⟨w1.heap.size + 1, 0, none⟩ = some (.int .i64 a0) := fun ⟨X, hx⟩ => by subst hCd; exact (hx.2.2.1.cell 0).trans rfl
      have h1 : ∀ X : WIn C, X.w.cell? ⟨w1.heap.size + 1, 1, none⟩ = some (.int .i64 a1) := fun ⟨X, hx⟩ => by subst hCd; exact (hx.2.2.1.cell 1).trans rfl
      have h2 : ∀ X : WIn C, X.w.cell? ⟨w1.heap.size + 1, 2, none⟩ = some (.int .i64 (g % 65)) := fun ⟨X, hx⟩ => by subst hCd; exact (hx.2.2.1.cell 2).trans rfl
      have h3 : ∀ X : WIn C, X.w.cell? ⟨w1.heap.size + 1, 3, none⟩ = some (.int .i64 a3) := fun ⟨X, hx⟩ => by subst hCd; exact (hx.2.2.1.cell 3).trans rfl
      have h4 : ∀ X : WIn C, X.w.cell? ⟨w1.heap.size + 1, 4, none⟩ = some (.int .i64 a4) := fun ⟨X, hx⟩ => by subst hCd; exact (hx.2.2.1.cell 4).trans rfl
      have h5 : ∀ X : WIn C, X.w.cell? ⟨w1.heap.size + 1, 5, none⟩ = some (.int .i64 a5) := fun ⟨X, hx⟩ => by subst hCd; exact (hx.2.2.1.cell 5).trans rfl
      have h6 : ∀ X : WIn C, X.w.cell? ⟨w1.heap.size + 1, 6, none⟩ = some (.int .i64 a6) := fun ⟨X, hx⟩ => by subst hCd; exact (hx.2.2.1.cell 6).trans rfl
      have h7 : ∀ X : WIn C, X.w.cell? ⟨w1.heap.size + 1, 7, none⟩ = some (.int .i64 a7) := fun ⟨X, hx⟩ => by subst hCd; exact (hx.2.2.1.cell 7).trans rfl
      have h8 : ∀ X : WIn C, X.w.cell? ⟨w1.heap.size + 1, 8, none⟩ = some (.int .i64 a8) := fun ⟨X, hx⟩ => by subst hCd; exact (hx.2.2.1.cell 8).trans rfl
      have h9 : ∀ X : WIn C, X.w.cell? ⟨w1.heap.size + 1, 9, none⟩ = some (.int .i64 a9) := fun ⟨X, hx⟩ => by subst hCd; exact (hx.2.2.1.cell 9).trans rfl
      have h10 : ∀ X : WIn C, X.w.cell? ⟨w1.heap.size + 1, 10, none⟩ = some (.int .i64 a10) := fun ⟨X, hx⟩ => by subst hCd; exact (hx.2.2.1.cell 10).trans rfl
      have h11 : ∀ X : WIn C, X.w.cell? ⟨w1.heap.size + 1, 11, none⟩ = some (.int .i64 a11) := fun ⟨X, hx⟩ => by subst hCd; exact (hx.2.2.1.cell 11).trans rfl
      have h12 : ∀ X : WIn C, X.w.cell? ⟨w1.heap.size + 1, 12, none⟩ = some (.int .i64 0) := fun ⟨X, hx⟩ => by subst hCd; exact (hx.2.2.1.cell 12).trans rfl
      have hst : ∀ (X : WIn C) (w' : World), Keep (fun _ => False) X.w w' → C w' := fun ⟨X, hx⟩ w' k => by subst hCd; exact C3.stay hx k
      have hfin : ∀ X : WIn C, Below w.heap.size w X.w := fun ⟨X, hx⟩ => by subst hCd; exact hx.2.2.2.below (fun i h => h.elim)
      have qP : ∀ X : WIn C, Calls Try.prog 32 #[.agg #[.int .i64 a0, .int .i64 a1, .int .i64 a2, .int .i64 a3, .int .i64 a4, .int .i64 a5, .int .i64 a6, .int .i64 a7, .int .i64 a8, .int .i64 a9, .int .i64 a10, .int .i64 a11, .int .i64 a12], .int .i64 y] X.w fun e w'' => e = .returned (.int .i64 M1) ∧ ∃ y : WIn C, w'' = y.w := fun X => Calls.cls ((cP.out X.w).mono fun e w' ⟨he, k⟩ => ⟨he, hst X w' k⟩)
      have qQ : ∀ X : WIn C, Calls Try.prog 32 #[.agg #[.int .i64 a0, .int .i64 a1, .int .i64 a2, .int .i64 a3, .int .i64 a4, .int .i64 a5, .int .i64 a6, .int .i64 a7, .int .i64 a8, .int .i64 a9, .int .i64 a10, .int .i64 a11, .int .i64 a12], .int .i64 x] X.w fun e w'' => e = .returned (.int .i64 M2) ∧ ∃ y : WIn C, w'' = y.w := fun X => Calls.cls ((cQ.out X.w).mono fun e w' ⟨he, k⟩ => ⟨he, hst X w' k⟩)
      have qK : ∀ X : WIn C, Calls Try.prog 32 #[.agg #[.int .i64 a0, .int .i64 a1, .int .i64 a2, .int .i64 a3, .int .i64 a4, .int .i64 a5, .int .i64 a6, .int .i64 a7, .int .i64 a8, .int .i64 (t % 65), .int .i64 a10, .int .i64 a11, .int .i64 a12], .int .i64 y] X.w fun e w'' => e = .returned (.int .i64 M3) ∧ ∃ y : WIn C, w'' = y.w := fun X => Calls.cls ((cK.out X.w).mono fun e w' ⟨he, k⟩ => ⟨he, hst X w' k⟩)
      have qR : ∀ X : WIn C, Calls Try.prog 32 #[.agg #[.int .i64 a0, .int .i64 a1, .int .i64 (g % 65), .int .i64 a3, .int .i64 a4, .int .i64 a5, .int .i64 a6, .int .i64 a7, .int .i64 a8, .int .i64 a9, .int .i64 a10, .int .i64 a11, .int .i64 0], .int .i64 y] X.w fun e w'' => e = .returned (.int .i64 M1) ∧ ∃ y : WIn C, w'' = y.w := fun X => Calls.cls ((cR.out X.w).mono fun e w' ⟨he, k⟩ => ⟨he, hst X w' k⟩)
      have qD : ∀ X : WIn C, Calls Try.prog 28 #[.agg #[.int .i64 a0, .int .i64 a1, .int .i64 (g % 65), .int .i64 a3, .int .i64 a4, .int .i64 a5, .int .i64 a6, .int .i64 a7, .int .i64 a8, .int .i64 a9, .int .i64 a10, .int .i64 a11, .int .i64 0]] X.w fun e w'' => e = .returned (.int .i64 0) ∧ ∃ y : WIn C, w'' = y.w := fun X => Calls.cls ((cD.out X.w).mono fun e w' ⟨he, k⟩ => ⟨he, hst X w' k⟩)
      have qA : ∀ X : WIn C, Calls Try.prog 27 #[] X.w fun e w'' => e = .returned (.bool true) ∧ ∃ y : WIn C, w'' = y.w := fun X => Calls.cls ((awake_k X.w).mono fun e w' ⟨he, k⟩ => ⟨he, hst X w' k⟩)
      have hqP := Lib.hid qP
      have hqQ := Lib.hid qQ
      have hqK := Lib.hid qK
      have hqR := Lib.hid qR
      have hqD := Lib.hid qD
      have hqA := Lib.hid qA
      clear qP qQ qK qR qD qA hCd cP cQ cK cR cC cD hB1 K1
      have kne : Nonempty (WIn C) := ⟨⟨_, hC⟩⟩
      have m1 : (M1 == M1) = true := by simp
      refine wp_region_cls C (by kernel_rfl) (by kernel_rfl) hC ?_
      repeat (go_big_quiet_step ((first | (go_at_call 27; with_reducible exact hqA.out _) | (go_at_call 28; with_reducible exact hqD.out _) | (go_at_call 32; with_reducible exact hqP.out _) | (go_at_call 32; with_reducible exact hqQ.out _) | (go_at_call 32; with_reducible exact hqK.out _) | (go_at_call 32; with_reducible exact hqR.out _))))
      refine wpQuiet_nil ?_
      rintro _ ⟨x6, rfl⟩
      have hb := hfin x6
      clear e0 e1 e2 e3 e4 e5 e6 e7 e8 e9 e10 e11 e12 f0 f1 f2 f3 f4 f5 f6 f7 f8 f9 f10 f11 f12 h0 h1 h2 h3 h4 h5 h6 h7 h8 h9 h10 h11 h12 hst hfin kne
      go_wp2_with fail
      go_ret
      exact ⟨rfl, hb⟩
    · as_aux_lemma =>
      rw [if_neg hsw] at hpq
      rw [if_pos hmi] at hT
      obtain ⟨rfl, rfl⟩ : x = p ∧ y = q := by simpa using hpq
      subst hT
      clear hpq
      go_enter Try.func14, Try.ntmps14
      go_wp2_with fail
      refine (cC.out _).mono ?_
      rintro e w1 ⟨rfl, k1⟩
      have hB1 := k1.blk (Blk.new w 23 #[.int .i64 a0, .int .i64 a1, .int .i64 a2, .int .i64 a3, .int .i64 a4, .int .i64 a5, .int .i64 a6, .int .i64 a7, .int .i64 a8, .int .i64 a9, .int .i64 a10, .int .i64 a11, .int .i64 a12]) (fun h => h)
      have K1 := ((Keep.refl (fun _ => False) w).alloc (.cells #[.int .i64 a0, .int .i64 a1, .int .i64 a2, .int .i64 a3, .int .i64 a4, .int .i64 a5, .int .i64 a6, .int .i64 a7, .int .i64 a8, .int .i64 a9, .int .i64 a10, .int .i64 a11, .int .i64 a12] 23)).trans k1 (fun i h => .inl h)
      have hbl := hB1.lt
      have c0 := hB1.cell 0
      have c1 := hB1.cell 1
      have c2 := hB1.cell 2
      have c3 := hB1.cell 3
      have c4 := hB1.cell 4
      have c5 := hB1.cell 5
      have c6 := hB1.cell 6
      have c7 := hB1.cell 7
      have c8 := hB1.cell 8
      have c9 := hB1.cell 9
      have c10 := hB1.cell 10
      have c11 := hB1.cell 11
      have c12 := hB1.cell 12
      simp at c0 c1 c2 c3 c4 c5 c6 c7 c8 c9 c10 c11 c12
      clear k1
      go_wp2_with fail
      clear c0 c1 c2 c3 c4 c5 c6 c7 c8 c9 c10 c11 c12
      obtain ⟨C, hCd⟩ : ∃ C, C = (C3 w w.heap.size w1.heap.size (w1.heap.size + 1) #[.int .i64 a0, .int .i64 a1, .int .i64 a2, .int .i64 a3, .int .i64 a4, .int .i64 a5, .int .i64 a6, .int .i64 a7, .int .i64 a8, .int .i64 a9, .int .i64 a10, .int .i64 a11, .int .i64 a12] #[.int .i64 a0, .int .i64 a1, .int .i64 a2, .int .i64 a3, .int .i64 a4, .int .i64 a5, .int .i64 a6, .int .i64 a7, .int .i64 a8, .int .i64 a9, .int .i64 a10, .int .i64 a11, .int .i64 a12] #[.int .i64 a0, .int .i64 a1, .int .i64 (g % 65), .int .i64 a3, .int .i64 a4, .int .i64 a5, .int .i64 a6, .int .i64 a7, .int .i64 a8, .int .i64 a9, .int .i64 a10, .int .i64 a11, .int .i64 0]) := ⟨_, rfl⟩
      have hC : C ((w1.alloc (.cells #[.int .i64 a0, .int .i64 a1, .int .i64 a2, .int .i64 a3, .int .i64 a4, .int .i64 a5, .int .i64 a6, .int .i64 a7, .int .i64 a8, .int .i64 a9, .int .i64 a10, .int .i64 a11, .int .i64 a12] 23)).alloc (.cells #[.int .i64 a0, .int .i64 a1, .int .i64 (g % 65), .int .i64 a3, .int .i64 a4, .int .i64 a5, .int .i64 a6, .int .i64 a7, .int .i64 a8, .int .i64 a9, .int .i64 a10, .int .i64 a11, .int .i64 0] 23)).drew := by
        subst hCd
        refine ⟨(hB1.alloc _).alloc _, (Blk.new w1 23 #[.int .i64 a0, .int .i64 a1, .int .i64 a2, .int .i64 a3, .int .i64 a4, .int .i64 a5, .int .i64 a6, .int .i64 a7, .int .i64 a8, .int .i64 a9, .int .i64 a10, .int .i64 a11, .int .i64 a12]).alloc _, ?_, ((K1.alloc _).alloc _).drew⟩
        have := Blk.new (w1.alloc (.cells #[.int .i64 a0, .int .i64 a1, .int .i64 a2, .int .i64 a3, .int .i64 a4, .int .i64 a5, .int .i64 a6, .int .i64 a7, .int .i64 a8, .int .i64 a9, .int .i64 a10, .int .i64 a11, .int .i64 a12] 23)) 23 #[.int .i64 a0, .int .i64 a1, .int .i64 (g % 65), .int .i64 a3, .int .i64 a4, .int .i64 a5, .int .i64 a6, .int .i64 a7, .int .i64 a8, .int .i64 a9, .int .i64 a10, .int .i64 a11, .int .i64 0]
        rw [show (w1.alloc (.cells #[.int .i64 a0, .int .i64 a1, .int .i64 a2, .int .i64 a3, .int .i64 a4, .int .i64 a5, .int .i64 a6, .int .i64 a7, .int .i64 a8, .int .i64 a9, .int .i64 a10, .int .i64 a11, .int .i64 a12] 23)).heap.size = w1.heap.size + 1 from by show (w1.heap.push _).size = _; rw [Array.size_push]] at this
        exact this
      have e0 : ∀ X : WIn C, X.w.cell? ⟨w.heap.size, 0, none⟩ = some (.int .i64 a0) := fun ⟨X, hx⟩ => by subst hCd; exact (hx.1.cell 0).trans rfl
      have e1 : ∀ X : WIn C, X.w.cell? ⟨w.heap.size, 1, none⟩ = some (.int .i64 a1) := fun ⟨X, hx⟩ => by subst hCd; exact (hx.1.cell 1).trans rfl
      have e2 : ∀ X : WIn C, X.w.cell? ⟨w.heap.size, 2, none⟩ = some (.int .i64 a2) := fun ⟨X, hx⟩ => by subst hCd; exact (hx.1.cell 2).trans rfl
      have e3 : ∀ X : WIn C, X.w.cell? ⟨w.heap.size, 3, none⟩ = some (.int .i64 a3) := fun ⟨X, hx⟩ => by subst hCd; exact (hx.1.cell 3).trans rfl
      have e4 : ∀ X : WIn C, X.w.cell? ⟨w.heap.size, 4, none⟩ = some (.int .i64 a4) := fun ⟨X, hx⟩ => by subst hCd; exact (hx.1.cell 4).trans rfl
      have e5 : ∀ X : WIn C, X.w.cell? ⟨w.heap.size, 5, none⟩ = some (.int .i64 a5) := fun ⟨X, hx⟩ => by subst hCd; exact (hx.1.cell 5).trans rfl
      have e6 : ∀ X : WIn C, X.w.cell? ⟨w.heap.size, 6, none⟩ = some (.int .i64 a6) := fun ⟨X, hx⟩ => by subst hCd; exact (hx.1.cell 6).trans rfl
      have e7 : ∀ X : WIn C, X.w.cell? ⟨w.heap.size, 7, none⟩ = some (.int .i64 a7) := fun ⟨X, hx⟩ => by subst hCd; exact (hx.1.cell 7).trans rfl
      have e8 : ∀ X : WIn C, X.w.cell? ⟨w.heap.size, 8, none⟩ = some (.int .i64 a8) := fun ⟨X, hx⟩ => by subst hCd; exact (hx.1.cell 8).trans rfl
      have e9 : ∀ X : WIn C, X.w.cell? ⟨w.heap.size, 9, none⟩ = some (.int .i64 a9) := fun ⟨X, hx⟩ => by subst hCd; exact (hx.1.cell 9).trans rfl
      have e10 : ∀ X : WIn C, X.w.cell? ⟨w.heap.size, 10, none⟩ = some (.int .i64 a10) := fun ⟨X, hx⟩ => by subst hCd; exact (hx.1.cell 10).trans rfl
      have e11 : ∀ X : WIn C, X.w.cell? ⟨w.heap.size, 11, none⟩ = some (.int .i64 a11) := fun ⟨X, hx⟩ => by subst hCd; exact (hx.1.cell 11).trans rfl
      have e12 : ∀ X : WIn C, X.w.cell? ⟨w.heap.size, 12, none⟩ = some (.int .i64 a12) := fun ⟨X, hx⟩ => by subst hCd; exact (hx.1.cell 12).trans rfl
      have f0 : ∀ X : WIn C, X.w.cell? ⟨w1.heap.size, 0, none⟩ = some (.int .i64 a0) := fun ⟨X, hx⟩ => by subst hCd; exact (hx.2.1.cell 0).trans rfl
      have f1 : ∀ X : WIn C, X.w.cell? ⟨w1.heap.size, 1, none⟩ = some (.int .i64 a1) := fun ⟨X, hx⟩ => by subst hCd; exact (hx.2.1.cell 1).trans rfl
      have f2 : ∀ X : WIn C, X.w.cell? ⟨w1.heap.size, 2, none⟩ = some (.int .i64 a2) := fun ⟨X, hx⟩ => by subst hCd; exact (hx.2.1.cell 2).trans rfl
      have f3 : ∀ X : WIn C, X.w.cell? ⟨w1.heap.size, 3, none⟩ = some (.int .i64 a3) := fun ⟨X, hx⟩ => by subst hCd; exact (hx.2.1.cell 3).trans rfl
      have f4 : ∀ X : WIn C, X.w.cell? ⟨w1.heap.size, 4, none⟩ = some (.int .i64 a4) := fun ⟨X, hx⟩ => by subst hCd; exact (hx.2.1.cell 4).trans rfl
      have f5 : ∀ X : WIn C, X.w.cell? ⟨w1.heap.size, 5, none⟩ = some (.int .i64 a5) := fun ⟨X, hx⟩ => by subst hCd; exact (hx.2.1.cell 5).trans rfl
      have f6 : ∀ X : WIn C, X.w.cell? ⟨w1.heap.size, 6, none⟩ = some (.int .i64 a6) := fun ⟨X, hx⟩ => by subst hCd; exact (hx.2.1.cell 6).trans rfl
      have f7 : ∀ X : WIn C, X.w.cell? ⟨w1.heap.size, 7, none⟩ = some (.int .i64 a7) := fun ⟨X, hx⟩ => by subst hCd; exact (hx.2.1.cell 7).trans rfl
      have f8 : ∀ X : WIn C, X.w.cell? ⟨w1.heap.size, 8, none⟩ = some (.int .i64 a8) := fun ⟨X, hx⟩ => by subst hCd; exact (hx.2.1.cell 8).trans rfl
      have f9 : ∀ X : WIn C, X.w.cell? ⟨w1.heap.size, 9, none⟩ = some (.int .i64 a9) := fun ⟨X, hx⟩ => by subst hCd; exact (hx.2.1.cell 9).trans rfl
      have f10 : ∀ X : WIn C, X.w.cell? ⟨w1.heap.size, 10, none⟩ = some (.int .i64 a10) := fun ⟨X, hx⟩ => by subst hCd; exact (hx.2.1.cell 10).trans rfl
      have f11 : ∀ X : WIn C, X.w.cell? ⟨w1.heap.size, 11, none⟩ = some (.int .i64 a11) := fun ⟨X, hx⟩ => by subst hCd; exact (hx.2.1.cell 11).trans rfl
      have f12 : ∀ X : WIn C, X.w.cell? ⟨w1.heap.size, 12, none⟩ = some (.int .i64 a12) := fun ⟨X, hx⟩ => by subst hCd; exact (hx.2.1.cell 12).trans rfl
      have h0 : ∀ X : WIn C, X.w.cell? ⟨w1.heap.size + 1, 0, none⟩ = some (.int .i64 a0) := fun ⟨X, hx⟩ => by subst hCd; exact (hx.2.2.1.cell 0).trans rfl
      have h1 : ∀ X : WIn C, X.w.cell? ⟨w1.heap.size + 1, 1, none⟩ = some (.int .i64 a1) := fun ⟨X, hx⟩ => by subst hCd; exact (hx.2.2.1.cell 1).trans rfl
      have h2 : ∀ X : WIn C, X.w.cell? ⟨w1.heap.size + 1, 2, none⟩ = some (.int .i64 (g % 65)) := fun ⟨X, hx⟩ => by subst hCd; exact (hx.2.2.1.cell 2).trans rfl
      have h3 : ∀ X : WIn C, X.w.cell? ⟨w1.heap.size + 1, 3, none⟩ = some (.int .i64 a3) := fun ⟨X, hx⟩ => by subst hCd; exact (hx.2.2.1.cell 3).trans rfl
      have h4 : ∀ X : WIn C, X.w.cell? ⟨w1.heap.size + 1, 4, none⟩ = some (.int .i64 a4) := fun ⟨X, hx⟩ => by subst hCd; exact (hx.2.2.1.cell 4).trans rfl
      have h5 : ∀ X : WIn C, X.w.cell? ⟨w1.heap.size + 1, 5, none⟩ = some (.int .i64 a5) := fun ⟨X, hx⟩ => by subst hCd; exact (hx.2.2.1.cell 5).trans rfl
      have h6 : ∀ X : WIn C, X.w.cell? ⟨w1.heap.size + 1, 6, none⟩ = some (.int .i64 a6) := fun ⟨X, hx⟩ => by subst hCd; exact (hx.2.2.1.cell 6).trans rfl
      have h7 : ∀ X : WIn C, X.w.cell? ⟨w1.heap.size + 1, 7, none⟩ = some (.int .i64 a7) := fun ⟨X, hx⟩ => by subst hCd; exact (hx.2.2.1.cell 7).trans rfl
      have h8 : ∀ X : WIn C, X.w.cell? ⟨w1.heap.size + 1, 8, none⟩ = some (.int .i64 a8) := fun ⟨X, hx⟩ => by subst hCd; exact (hx.2.2.1.cell 8).trans rfl
      have h9 : ∀ X : WIn C, X.w.cell? ⟨w1.heap.size + 1, 9, none⟩ = some (.int .i64 a9) := fun ⟨X, hx⟩ => by subst hCd; exact (hx.2.2.1.cell 9).trans rfl
      have h10 : ∀ X : WIn C, X.w.cell? ⟨w1.heap.size + 1, 10, none⟩ = some (.int .i64 a10) := fun ⟨X, hx⟩ => by subst hCd; exact (hx.2.2.1.cell 10).trans rfl
      have h11 : ∀ X : WIn C, X.w.cell? ⟨w1.heap.size + 1, 11, none⟩ = some (.int .i64 a11) := fun ⟨X, hx⟩ => by subst hCd; exact (hx.2.2.1.cell 11).trans rfl
      have h12 : ∀ X : WIn C, X.w.cell? ⟨w1.heap.size + 1, 12, none⟩ = some (.int .i64 0) := fun ⟨X, hx⟩ => by subst hCd; exact (hx.2.2.1.cell 12).trans rfl
      have hst : ∀ (X : WIn C) (w' : World), Keep (fun _ => False) X.w w' → C w' := fun ⟨X, hx⟩ w' k => by subst hCd; exact C3.stay hx k
      have hfin : ∀ X : WIn C, Below w.heap.size w X.w := fun ⟨X, hx⟩ => by subst hCd; exact hx.2.2.2.below (fun i h => h.elim)
      have qP : ∀ X : WIn C, Calls Try.prog 32 #[.agg #[.int .i64 a0, .int .i64 a1, .int .i64 a2, .int .i64 a3, .int .i64 a4, .int .i64 a5, .int .i64 a6, .int .i64 a7, .int .i64 a8, .int .i64 a9, .int .i64 a10, .int .i64 a11, .int .i64 a12], .int .i64 x] X.w fun e w'' => e = .returned (.int .i64 M1) ∧ ∃ y : WIn C, w'' = y.w := fun X => Calls.cls ((cP.out X.w).mono fun e w' ⟨he, k⟩ => ⟨he, hst X w' k⟩)
      have qQ : ∀ X : WIn C, Calls Try.prog 32 #[.agg #[.int .i64 a0, .int .i64 a1, .int .i64 a2, .int .i64 a3, .int .i64 a4, .int .i64 a5, .int .i64 a6, .int .i64 a7, .int .i64 a8, .int .i64 a9, .int .i64 a10, .int .i64 a11, .int .i64 a12], .int .i64 y] X.w fun e w'' => e = .returned (.int .i64 M2) ∧ ∃ y : WIn C, w'' = y.w := fun X => Calls.cls ((cQ.out X.w).mono fun e w' ⟨he, k⟩ => ⟨he, hst X w' k⟩)
      have qK : ∀ X : WIn C, Calls Try.prog 32 #[.agg #[.int .i64 a0, .int .i64 a1, .int .i64 a2, .int .i64 a3, .int .i64 a4, .int .i64 a5, .int .i64 a6, .int .i64 a7, .int .i64 a8, .int .i64 a9, .int .i64 a10, .int .i64 a11, .int .i64 a12], .int .i64 x] X.w fun e w'' => e = .returned (.int .i64 M3) ∧ ∃ y : WIn C, w'' = y.w := fun X => Calls.cls ((cK.out X.w).mono fun e w' ⟨he, k⟩ => ⟨he, hst X w' k⟩)
      have qR : ∀ X : WIn C, Calls Try.prog 32 #[.agg #[.int .i64 a0, .int .i64 a1, .int .i64 (g % 65), .int .i64 a3, .int .i64 a4, .int .i64 a5, .int .i64 a6, .int .i64 a7, .int .i64 a8, .int .i64 a9, .int .i64 a10, .int .i64 a11, .int .i64 0], .int .i64 x] X.w fun e w'' => e = .returned (.int .i64 M1) ∧ ∃ y : WIn C, w'' = y.w := fun X => Calls.cls ((cR.out X.w).mono fun e w' ⟨he, k⟩ => ⟨he, hst X w' k⟩)
      have qD : ∀ X : WIn C, Calls Try.prog 28 #[.agg #[.int .i64 a0, .int .i64 a1, .int .i64 (g % 65), .int .i64 a3, .int .i64 a4, .int .i64 a5, .int .i64 a6, .int .i64 a7, .int .i64 a8, .int .i64 a9, .int .i64 a10, .int .i64 a11, .int .i64 0]] X.w fun e w'' => e = .returned (.int .i64 0) ∧ ∃ y : WIn C, w'' = y.w := fun X => Calls.cls ((cD.out X.w).mono fun e w' ⟨he, k⟩ => ⟨he, hst X w' k⟩)
      have qA : ∀ X : WIn C, Calls Try.prog 27 #[] X.w fun e w'' => e = .returned (.bool true) ∧ ∃ y : WIn C, w'' = y.w := fun X => Calls.cls ((awake_k X.w).mono fun e w' ⟨he, k⟩ => ⟨he, hst X w' k⟩)
      have hqP := Lib.hid qP
      have hqQ := Lib.hid qQ
      have hqK := Lib.hid qK
      have hqR := Lib.hid qR
      have hqD := Lib.hid qD
      have hqA := Lib.hid qA
      clear qP qQ qK qR qD qA hCd cP cQ cK cR cC cD hB1 K1
      have kne : Nonempty (WIn C) := ⟨⟨_, hC⟩⟩
      have m1 : (M1 == M1) = true := by simp
      refine wp_region_cls C (by kernel_rfl) (by kernel_rfl) hC ?_
      repeat (go_big_quiet_step ((first | (go_at_call 27; with_reducible exact hqA.out _) | (go_at_call 28; with_reducible exact hqD.out _) | (go_at_call 32; with_reducible exact hqP.out _) | (go_at_call 32; with_reducible exact hqQ.out _) | (go_at_call 32; with_reducible exact hqK.out _) | (go_at_call 32; with_reducible exact hqR.out _))))
      refine wpQuiet_nil ?_
      rintro _ ⟨x6, rfl⟩
      have hb := hfin x6
      clear e0 e1 e2 e3 e4 e5 e6 e7 e8 e9 e10 e11 e12 f0 f1 f2 f3 f4 f5 f6 f7 f8 f9 f10 f11 f12 h0 h1 h2 h3 h4 h5 h6 h7 h8 h9 h10 h11 h12 hst hfin kne
      go_wp2_with fail
      go_ret
      exact ⟨rfl, hb⟩
    · as_aux_lemma =>
      rw [if_neg hsw] at hpq
      rw [if_neg hmi] at hT
      obtain ⟨rfl, rfl⟩ : x = p ∧ y = q := by simpa using hpq
      subst hT
      clear hpq
      go_enter Try.func14, Try.ntmps14
      go_wp2_with fail
      refine (cC.out _).mono ?_
      rintro e w1 ⟨rfl, k1⟩
      have hB1 := k1.blk (Blk.new w 23 #[.int .i64 a0, .int .i64 a1, .int .i64 a2, .int .i64 a3, .int .i64 a4, .int .i64 a5, .int .i64 a6, .int .i64 a7, .int .i64 a8, .int .i64 a9, .int .i64 a10, .int .i64 a11, .int .i64 a12]) (fun h => h)
      have K1 := ((Keep.refl (fun _ => False) w).alloc (.cells #[.int .i64 a0, .int .i64 a1, .int .i64 a2, .int .i64 a3, .int .i64 a4, .int .i64 a5, .int .i64 a6, .int .i64 a7, .int .i64 a8, .int .i64 a9, .int .i64 a10, .int .i64 a11, .int .i64 a12] 23)).trans k1 (fun i h => .inl h)
      have hbl := hB1.lt
      have c0 := hB1.cell 0
      have c1 := hB1.cell 1
      have c2 := hB1.cell 2
      have c3 := hB1.cell 3
      have c4 := hB1.cell 4
      have c5 := hB1.cell 5
      have c6 := hB1.cell 6
      have c7 := hB1.cell 7
      have c8 := hB1.cell 8
      have c9 := hB1.cell 9
      have c10 := hB1.cell 10
      have c11 := hB1.cell 11
      have c12 := hB1.cell 12
      simp at c0 c1 c2 c3 c4 c5 c6 c7 c8 c9 c10 c11 c12
      clear k1
      go_wp2_with fail
      clear c0 c1 c2 c3 c4 c5 c6 c7 c8 c9 c10 c11 c12
      obtain ⟨C, hCd⟩ : ∃ C, C = (C3 w w.heap.size w1.heap.size (w1.heap.size + 1) #[.int .i64 a0, .int .i64 a1, .int .i64 a2, .int .i64 a3, .int .i64 a4, .int .i64 a5, .int .i64 a6, .int .i64 a7, .int .i64 a8, .int .i64 a9, .int .i64 a10, .int .i64 a11, .int .i64 a12] #[.int .i64 a0, .int .i64 a1, .int .i64 a2, .int .i64 a3, .int .i64 a4, .int .i64 a5, .int .i64 a6, .int .i64 a7, .int .i64 a8, .int .i64 (t % 65), .int .i64 a10, .int .i64 a11, .int .i64 a12] #[.int .i64 a0, .int .i64 a1, .int .i64 (g % 65), .int .i64 a3, .int .i64 a4, .int .i64 a5, .int .i64 a6, .int .i64 a7, .int .i64 a8, .int .i64 a9, .int .i64 a10, .int .i64 a11, .int .i64 0]) := ⟨_, rfl⟩
      have hC : C ((w1.alloc (.cells #[.int .i64 a0, .int .i64 a1, .int .i64 a2, .int .i64 a3, .int .i64 a4, .int .i64 a5, .int .i64 a6, .int .i64 a7, .int .i64 a8, .int .i64 (t % 65), .int .i64 a10, .int .i64 a11, .int .i64 a12] 23)).alloc (.cells #[.int .i64 a0, .int .i64 a1, .int .i64 (g % 65), .int .i64 a3, .int .i64 a4, .int .i64 a5, .int .i64 a6, .int .i64 a7, .int .i64 a8, .int .i64 a9, .int .i64 a10, .int .i64 a11, .int .i64 0] 23)).drew := by
        subst hCd
        refine ⟨(hB1.alloc _).alloc _, (Blk.new w1 23 #[.int .i64 a0, .int .i64 a1, .int .i64 a2, .int .i64 a3, .int .i64 a4, .int .i64 a5, .int .i64 a6, .int .i64 a7, .int .i64 a8, .int .i64 (t % 65), .int .i64 a10, .int .i64 a11, .int .i64 a12]).alloc _, ?_, ((K1.alloc _).alloc _).drew⟩
        have := Blk.new (w1.alloc (.cells #[.int .i64 a0, .int .i64 a1, .int .i64 a2, .int .i64 a3, .int .i64 a4, .int .i64 a5, .int .i64 a6, .int .i64 a7, .int .i64 a8, .int .i64 (t % 65), .int .i64 a10, .int .i64 a11, .int .i64 a12] 23)) 23 #[.int .i64 a0, .int .i64 a1, .int .i64 (g % 65), .int .i64 a3, .int .i64 a4, .int .i64 a5, .int .i64 a6, .int .i64 a7, .int .i64 a8, .int .i64 a9, .int .i64 a10, .int .i64 a11, .int .i64 0]
        rw [show (w1.alloc (.cells #[.int .i64 a0, .int .i64 a1, .int .i64 a2, .int .i64 a3, .int .i64 a4, .int .i64 a5, .int .i64 a6, .int .i64 a7, .int .i64 a8, .int .i64 (t % 65), .int .i64 a10, .int .i64 a11, .int .i64 a12] 23)).heap.size = w1.heap.size + 1 from by show (w1.heap.push _).size = _; rw [Array.size_push]] at this
        exact this
      have e0 : ∀ X : WIn C, X.w.cell? ⟨w.heap.size, 0, none⟩ = some (.int .i64 a0) := fun ⟨X, hx⟩ => by subst hCd; exact (hx.1.cell 0).trans rfl
      have e1 : ∀ X : WIn C, X.w.cell? ⟨w.heap.size, 1, none⟩ = some (.int .i64 a1) := fun ⟨X, hx⟩ => by subst hCd; exact (hx.1.cell 1).trans rfl
      have e2 : ∀ X : WIn C, X.w.cell? ⟨w.heap.size, 2, none⟩ = some (.int .i64 a2) := fun ⟨X, hx⟩ => by subst hCd; exact (hx.1.cell 2).trans rfl
      have e3 : ∀ X : WIn C, X.w.cell? ⟨w.heap.size, 3, none⟩ = some (.int .i64 a3) := fun ⟨X, hx⟩ => by subst hCd; exact (hx.1.cell 3).trans rfl
      have e4 : ∀ X : WIn C, X.w.cell? ⟨w.heap.size, 4, none⟩ = some (.int .i64 a4) := fun ⟨X, hx⟩ => by subst hCd; exact (hx.1.cell 4).trans rfl
      have e5 : ∀ X : WIn C, X.w.cell? ⟨w.heap.size, 5, none⟩ = some (.int .i64 a5) := fun ⟨X, hx⟩ => by subst hCd; exact (hx.1.cell 5).trans rfl
      have e6 : ∀ X : WIn C, X.w.cell? ⟨w.heap.size, 6, none⟩ = some (.int .i64 a6) := fun ⟨X, hx⟩ => by subst hCd; exact (hx.1.cell 6).trans rfl
      have e7 : ∀ X : WIn C, X.w.cell? ⟨w.heap.size, 7, none⟩ = some (.int .i64 a7) := fun ⟨X, hx⟩ => by subst hCd; exact (hx.1.cell 7).trans rfl
      have e8 : ∀ X : WIn C, X.w.cell? ⟨w.heap.size, 8, none⟩ = some (.int .i64 a8) := fun ⟨X, hx⟩ => by subst hCd; exact (hx.1.cell 8).trans rfl
      have e9 : ∀ X : WIn C, X.w.cell? ⟨w.heap.size, 9, none⟩ = some (.int .i64 a9) := fun ⟨X, hx⟩ => by subst hCd; exact (hx.1.cell 9).trans rfl
      have e10 : ∀ X : WIn C, X.w.cell? ⟨w.heap.size, 10, none⟩ = some (.int .i64 a10) := fun ⟨X, hx⟩ => by subst hCd; exact (hx.1.cell 10).trans rfl
      have e11 : ∀ X : WIn C, X.w.cell? ⟨w.heap.size, 11, none⟩ = some (.int .i64 a11) := fun ⟨X, hx⟩ => by subst hCd; exact (hx.1.cell 11).trans rfl
      have e12 : ∀ X : WIn C, X.w.cell? ⟨w.heap.size, 12, none⟩ = some (.int .i64 a12) := fun ⟨X, hx⟩ => by subst hCd; exact (hx.1.cell 12).trans rfl
      have f0 : ∀ X : WIn C, X.w.cell? ⟨w1.heap.size, 0, none⟩ = some (.int .i64 a0) := fun ⟨X, hx⟩ => by subst hCd; exact (hx.2.1.cell 0).trans rfl
      have f1 : ∀ X : WIn C, X.w.cell? ⟨w1.heap.size, 1, none⟩ = some (.int .i64 a1) := fun ⟨X, hx⟩ => by subst hCd; exact (hx.2.1.cell 1).trans rfl
      have f2 : ∀ X : WIn C, X.w.cell? ⟨w1.heap.size, 2, none⟩ = some (.int .i64 a2) := fun ⟨X, hx⟩ => by subst hCd; exact (hx.2.1.cell 2).trans rfl
      have f3 : ∀ X : WIn C, X.w.cell? ⟨w1.heap.size, 3, none⟩ = some (.int .i64 a3) := fun ⟨X, hx⟩ => by subst hCd; exact (hx.2.1.cell 3).trans rfl
      have f4 : ∀ X : WIn C, X.w.cell? ⟨w1.heap.size, 4, none⟩ = some (.int .i64 a4) := fun ⟨X, hx⟩ => by subst hCd; exact (hx.2.1.cell 4).trans rfl
      have f5 : ∀ X : WIn C, X.w.cell? ⟨w1.heap.size, 5, none⟩ = some (.int .i64 a5) := fun ⟨X, hx⟩ => by subst hCd; exact (hx.2.1.cell 5).trans rfl
      have f6 : ∀ X : WIn C, X.w.cell? ⟨w1.heap.size, 6, none⟩ = some (.int .i64 a6) := fun ⟨X, hx⟩ => by subst hCd; exact (hx.2.1.cell 6).trans rfl
      have f7 : ∀ X : WIn C, X.w.cell? ⟨w1.heap.size, 7, none⟩ = some (.int .i64 a7) := fun ⟨X, hx⟩ => by subst hCd; exact (hx.2.1.cell 7).trans rfl
      have f8 : ∀ X : WIn C, X.w.cell? ⟨w1.heap.size, 8, none⟩ = some (.int .i64 a8) := fun ⟨X, hx⟩ => by subst hCd; exact (hx.2.1.cell 8).trans rfl
      have f9 : ∀ X : WIn C, X.w.cell? ⟨w1.heap.size, 9, none⟩ = some (.int .i64 (t % 65)) := fun ⟨X, hx⟩ => by subst hCd; exact (hx.2.1.cell 9).trans rfl
      have f10 : ∀ X : WIn C, X.w.cell? ⟨w1.heap.size, 10, none⟩ = some (.int .i64 a10) := fun ⟨X, hx⟩ => by subst hCd; exact (hx.2.1.cell 10).trans rfl
      have f11 : ∀ X : WIn C, X.w.cell? ⟨w1.heap.size, 11, none⟩ = some (.int .i64 a11) := fun ⟨X, hx⟩ => by subst hCd; exact (hx.2.1.cell 11).trans rfl
      have f12 : ∀ X : WIn C, X.w.cell? ⟨w1.heap.size, 12, none⟩ = some (.int .i64 a12) := fun ⟨X, hx⟩ => by subst hCd; exact (hx.2.1.cell 12).trans rfl
      have h0 : ∀ X : WIn C, X.w.cell? ⟨w1.heap.size + 1, 0, none⟩ = some (.int .i64 a0) := fun ⟨X, hx⟩ => by subst hCd; exact (hx.2.2.1.cell 0).trans rfl
      have h1 : ∀ X : WIn C, X.w.cell? ⟨w1.heap.size + 1, 1, none⟩ = some (.int .i64 a1) := fun ⟨X, hx⟩ => by subst hCd; exact (hx.2.2.1.cell 1).trans rfl
      have h2 : ∀ X : WIn C, X.w.cell? ⟨w1.heap.size + 1, 2, none⟩ = some (.int .i64 (g % 65)) := fun ⟨X, hx⟩ => by subst hCd; exact (hx.2.2.1.cell 2).trans rfl
      have h3 : ∀ X : WIn C, X.w.cell? ⟨w1.heap.size + 1, 3, none⟩ = some (.int .i64 a3) := fun ⟨X, hx⟩ => by subst hCd; exact (hx.2.2.1.cell 3).trans rfl
      have h4 : ∀ X : WIn C, X.w.cell? ⟨w1.heap.size + 1, 4, none⟩ = some (.int .i64 a4) := fun ⟨X, hx⟩ => by subst hCd; exact (hx.2.2.1.cell 4).trans rfl
      have h5 : ∀ X : WIn C, X.w.cell? ⟨w1.heap.size + 1, 5, none⟩ = some (.int .i64 a5) := fun ⟨X, hx⟩ => by subst hCd; exact (hx.2.2.1.cell 5).trans rfl
      have h6 : ∀ X : WIn C, X.w.cell? ⟨w1.heap.size + 1, 6, none⟩ = some (.int .i64 a6) := fun ⟨X, hx⟩ => by subst hCd; exact (hx.2.2.1.cell 6).trans rfl
      have h7 : ∀ X : WIn C, X.w.cell? ⟨w1.heap.size + 1, 7, none⟩ = some (.int .i64 a7) := fun ⟨X, hx⟩ => by subst hCd; exact (hx.2.2.1.cell 7).trans rfl
      have h8 : ∀ X : WIn C, X.w.cell? ⟨w1.heap.size + 1, 8, none⟩ = some (.int .i64 a8) := fun ⟨X, hx⟩ => by subst hCd; exact (hx.2.2.1.cell 8).trans rfl
      have h9 : ∀ X : WIn C, X.w.cell? ⟨w1.heap.size + 1, 9, none⟩ = some (.int .i64 a9) := fun ⟨X, hx⟩ => by subst hCd; exact (hx.2.2.1.cell 9).trans rfl
      have h10 : ∀ X : WIn C, X.w.cell? ⟨w1.heap.size + 1, 10, none⟩ = some (.int .i64 a10) := fun ⟨X, hx⟩ => by subst hCd; exact (hx.2.2.1.cell 10).trans rfl
      have h11 : ∀ X : WIn C, X.w.cell? ⟨w1.heap.size + 1, 11, none⟩ = some (.int .i64 a11) := fun ⟨X, hx⟩ => by subst hCd; exact (hx.2.2.1.cell 11).trans rfl
      have h12 : ∀ X : WIn C, X.w.cell? ⟨w1.heap.size + 1, 12, none⟩ = some (.int .i64 0) := fun ⟨X, hx⟩ => by subst hCd; exact (hx.2.2.1.cell 12).trans rfl
      have hst : ∀ (X : WIn C) (w' : World), Keep (fun _ => False) X.w w' → C w' := fun ⟨X, hx⟩ w' k => by subst hCd; exact C3.stay hx k
      have hfin : ∀ X : WIn C, Below w.heap.size w X.w := fun ⟨X, hx⟩ => by subst hCd; exact hx.2.2.2.below (fun i h => h.elim)
      have qP : ∀ X : WIn C, Calls Try.prog 32 #[.agg #[.int .i64 a0, .int .i64 a1, .int .i64 a2, .int .i64 a3, .int .i64 a4, .int .i64 a5, .int .i64 a6, .int .i64 a7, .int .i64 a8, .int .i64 a9, .int .i64 a10, .int .i64 a11, .int .i64 a12], .int .i64 x] X.w fun e w'' => e = .returned (.int .i64 M1) ∧ ∃ y : WIn C, w'' = y.w := fun X => Calls.cls ((cP.out X.w).mono fun e w' ⟨he, k⟩ => ⟨he, hst X w' k⟩)
      have qQ : ∀ X : WIn C, Calls Try.prog 32 #[.agg #[.int .i64 a0, .int .i64 a1, .int .i64 a2, .int .i64 a3, .int .i64 a4, .int .i64 a5, .int .i64 a6, .int .i64 a7, .int .i64 a8, .int .i64 a9, .int .i64 a10, .int .i64 a11, .int .i64 a12], .int .i64 y] X.w fun e w'' => e = .returned (.int .i64 M2) ∧ ∃ y : WIn C, w'' = y.w := fun X => Calls.cls ((cQ.out X.w).mono fun e w' ⟨he, k⟩ => ⟨he, hst X w' k⟩)
      have qK : ∀ X : WIn C, Calls Try.prog 32 #[.agg #[.int .i64 a0, .int .i64 a1, .int .i64 a2, .int .i64 a3, .int .i64 a4, .int .i64 a5, .int .i64 a6, .int .i64 a7, .int .i64 a8, .int .i64 (t % 65), .int .i64 a10, .int .i64 a11, .int .i64 a12], .int .i64 x] X.w fun e w'' => e = .returned (.int .i64 M3) ∧ ∃ y : WIn C, w'' = y.w := fun X => Calls.cls ((cK.out X.w).mono fun e w' ⟨he, k⟩ => ⟨he, hst X w' k⟩)
      have qR : ∀ X : WIn C, Calls Try.prog 32 #[.agg #[.int .i64 a0, .int .i64 a1, .int .i64 (g % 65), .int .i64 a3, .int .i64 a4, .int .i64 a5, .int .i64 a6, .int .i64 a7, .int .i64 a8, .int .i64 a9, .int .i64 a10, .int .i64 a11, .int .i64 0], .int .i64 x] X.w fun e w'' => e = .returned (.int .i64 M1) ∧ ∃ y : WIn C, w'' = y.w := fun X => Calls.cls ((cR.out X.w).mono fun e w' ⟨he, k⟩ => ⟨he, hst X w' k⟩)
      have qD : ∀ X : WIn C, Calls Try.prog 28 #[.agg #[.int .i64 a0, .int .i64 a1, .int .i64 (g % 65), .int .i64 a3, .int .i64 a4, .int .i64 a5, .int .i64 a6, .int .i64 a7, .int .i64 a8, .int .i64 a9, .int .i64 a10, .int .i64 a11, .int .i64 0]] X.w fun e w'' => e = .returned (.int .i64 0) ∧ ∃ y : WIn C, w'' = y.w := fun X => Calls.cls ((cD.out X.w).mono fun e w' ⟨he, k⟩ => ⟨he, hst X w' k⟩)
      have qA : ∀ X : WIn C, Calls Try.prog 27 #[] X.w fun e w'' => e = .returned (.bool true) ∧ ∃ y : WIn C, w'' = y.w := fun X => Calls.cls ((awake_k X.w).mono fun e w' ⟨he, k⟩ => ⟨he, hst X w' k⟩)
      have hqP := Lib.hid qP
      have hqQ := Lib.hid qQ
      have hqK := Lib.hid qK
      have hqR := Lib.hid qR
      have hqD := Lib.hid qD
      have hqA := Lib.hid qA
      clear qP qQ qK qR qD qA hCd cP cQ cK cR cC cD hB1 K1
      have kne : Nonempty (WIn C) := ⟨⟨_, hC⟩⟩
      have m1 : (M1 == M1) = true := by simp
      refine wp_region_cls C (by kernel_rfl) (by kernel_rfl) hC ?_
      repeat (go_big_quiet_step ((first | (go_at_call 27; with_reducible exact hqA.out _) | (go_at_call 28; with_reducible exact hqD.out _) | (go_at_call 32; with_reducible exact hqP.out _) | (go_at_call 32; with_reducible exact hqQ.out _) | (go_at_call 32; with_reducible exact hqK.out _) | (go_at_call 32; with_reducible exact hqR.out _))))
      refine wpQuiet_nil ?_
      rintro _ ⟨x6, rfl⟩
      have hb := hfin x6
      clear e0 e1 e2 e3 e4 e5 e6 e7 e8 e9 e10 e11 e12 f0 f1 f2 f3 f4 f5 f6 f7 f8 f9 f10 f11 f12 h0 h1 h2 h3 h4 h5 h6 h7 h8 h9 h10 h11 h12 hst hfin kne
      go_wp2_with fail
      go_ret
      exact ⟨rfl, hb⟩
  · have cC := Lib.hid (fun W => Check_not a0 a1 a2 a3 a4 a5 a6 a7 a8 a9 a10 a11 a12 W hm b8)
    clear hm
    go_enter Try.func14, Try.ntmps14
    go_wp2_with fail
    refine (cC.out _).mono ?_
    rintro e w1 ⟨rfl, k1⟩
    have K1 := ((Keep.refl (fun _ => False) w).alloc (.cells #[.int .i64 a0, .int .i64 a1, .int .i64 a2, .int .i64 a3, .int .i64 a4, .int .i64 a5, .int .i64 a6, .int .i64 a7, .int .i64 a8, .int .i64 a9, .int .i64 a10, .int .i64 a11, .int .i64 a12] 23)).trans k1 (fun i h => .inl h)
    go_wp2_with fail
    refine (awake_k _).mono ?_
    rintro e w2 ⟨rfl, k2⟩
    have K2 := K1.trans k2 (fun i h => .inl h)
    go_wp2_with fail
    go_ret
    exact ⟨rfl, K2.below (fun i h => h.elim)⟩
end Go.Proofs.Ytgkgoepldbaohaa.Cgr
