/- The plain law of HeadTurned over the printed functions. No condition beside the kinds' bounds. -/
import Derived.Test.YtgkgoepldbaohaaPHeadTurnedx
import Derived.Test.YtgkgoepldbaohaaHeadBits
set_option linter.unusedVariables false
set_option linter.unusedSimpArgs false
namespace Go.Proofs.Ytgkgoepldbaohaa.Pure
open Go.RowKit Go.Proofs.Ytgkgoepldbaohaa.PHeadTurned Go.Proofs.YtgkgoepldbaohaaW.PrintWords Go.Proofs.YtgkgoepldbaohaaW.PrintLast Go.Proofs.YtgkgoepldbaohaaW.PrintMore Go.Proofs.Ytgkgoepldbaohaa.HB
namespace HeadTurnedIn
theorem w64 {n : Int} (h1 : -9223372036854775808 ≤ n) (h2 : n ≤ 9223372036854775807) : wrap64 n = n := by unfold wrap64; omega
theorem Good_f (a0 a1 a2 a3 : Int) (g n o : Bool) : head_Good.f a0 a1 a2 a3 g n o = some (decide (good a0 a1 a2 a3)) := by
  unfold head_Good.f
  by_cases h1 : a0 ≥ 0
  · rw [if_pos h1]
    by_cases h2 : a0 ≤ 64
    · rw [if_pos h2]
      by_cases h3 : a1 ≥ 0
      · rw [if_pos h3]
        by_cases h4 : a1 ≤ a0
        · rw [if_pos h4]
          by_cases h5 : a2 ≥ 0
          · rw [if_pos h5]
            by_cases h6 : a2 ≤ 7
            · rw [if_pos h6]
              by_cases h7 : a3 = 0
              · rw [if_pos h7]; congr 1; symm; rw [decide_eq_true_eq]; unfold good; omega
              · rw [if_neg h7]; congr 1; rw [Bool.eq_iff_iff, decide_eq_true_eq, beq_iff_eq]; unfold good; omega
            · rw [if_neg h6]; congr 1; symm; rw [decide_eq_false_iff_not]; unfold good; omega
          · rw [if_neg h5]; congr 1; symm; rw [decide_eq_false_iff_not]; unfold good; omega
        · rw [if_neg h4]; congr 1; symm; rw [decide_eq_false_iff_not]; unfold good; omega
      · rw [if_neg h3]; congr 1; symm; rw [decide_eq_false_iff_not]; unfold good; omega
    · rw [if_neg h2]; congr 1; symm; rw [decide_eq_false_iff_not]; unfold good; omega
  · rw [if_neg h1]; congr 1; symm; rw [decide_eq_false_iff_not]; unfold good; omega
theorem bit_f (b : Bool) (i : Int) (v : Int) (h0 : 0 ≤ i) (hv : shl .u64 1 i = v) : head_bit.f b i = some (if b then v else 0) := by
  unfold head_bit.f
  cases b
  · simp
  · simp [h0, hv]
theorem Pack_f (a0 a1 a2 a3 : Int) (g n o : Bool) : head_Pack.f a0 a1 a2 a3 g n o = some (if good a0 a1 a2 a3 then (word a0 a1 a2 a3 g n o, true) else (0, false)) := by
  unfold head_Pack.f
  rw [Good_f, bit_f g 41 2199023255552 (by omega) (by decide), bit_f n 42 4398046511104 (by omega) (by decide), bit_f o 43 8796093022208 (by omega) (by decide)]
  simp only [Option.bind_some, decide_eq_true_eq]
  by_cases h : good a0 a1 a2 a3
  · rw [if_pos h, if_pos h, pack_word h (by cases g <;> simp) (by cases n <;> simp) (by cases o <;> simp)]
    rfl
  · rw [if_neg h, if_neg h]
theorem Unpack_f (w : Int) (h1 : 0 ≤ w) (h2 : w < 18446744073709551616) : head_Unpack.f w = some (if good (w % 65536) (w / 65536 % 65536) (w / 4294967296 % 256) (w / 1099511627776 % 2) ∧
      word (w % 65536) (w / 65536 % 65536) (w / 4294967296 % 256) (w / 1099511627776 % 2) (w / 2199023255552 % 2 == 1) (w / 4398046511104 % 2 == 1) (w / 8796093022208 % 2 == 1) = w
    then (w % 65536, w / 65536 % 65536, w / 4294967296 % 256, w / 1099511627776 % 2, w / 2199023255552 % 2 == 1, w / 4398046511104 % 2 == 1, w / 8796093022208 % 2 == 1, true)
    else (0, 0, 0, 0, false, false, false, false)) := by
  unfold head_Unpack.f
  rw [and_16 w h1 h2, and_16 (w / 65536) (by omega) (by omega), and_8 (w / 4294967296) (by omega) (by omega), and_1 (w / 1099511627776) (by omega) (by omega), and_1 (w / 2199023255552) (by omega) (by omega), and_1 (w / 4398046511104) (by omega) (by omega), and_1 (w / 8796093022208) (by omega) (by omega)]
  rw [w64 (n := w % 65536) (by omega) (by omega), w64 (n := w / 65536 % 65536) (by omega) (by omega), w64 (n := w / 4294967296 % 256) (by omega) (by omega), w64 (n := w / 1099511627776 % 2) (by omega) (by omega)]
  rw [Pack_f]
  simp only [Option.bind_some]
  by_cases h : good (w % 65536) (w / 65536 % 65536) (w / 4294967296 % 256) (w / 1099511627776 % 2)
  · rw [if_pos h]
    simp only [if_true]
    by_cases h3 : word (w % 65536) (w / 65536 % 65536) (w / 4294967296 % 256) (w / 1099511627776 % 2) (w / 2199023255552 % 2 == 1) (w / 4398046511104 % 2 == 1) (w / 8796093022208 % 2 == 1) = w
    · rw [if_pos h3, if_pos ⟨h, h3⟩]
    · rw [if_neg h3, if_neg (fun hh => h3 hh.2)]
  · rw [if_neg h]
    simp [h]
theorem Unpack_word (a0 a1 a2 a3 : Int) (g n o : Bool) (h : good a0 a1 a2 a3) : head_Unpack.f (word a0 a1 a2 a3 g n o) = some (a0, a1, a2, a3, g, n, o, true) := by
  have b := word_bound (g := g) (n := n) (o := o) h
  obtain ⟨e0, e1, e2, e3, e4, e5, e6⟩ := word_unpack (g := g) (n := n) (o := o) h
  rw [Unpack_f _ (by omega) (by omega), e0, e1, e2, e3, e4, e5, e6, if_pos ⟨h, rfl⟩]
theorem awake_f : tilthlaw01_awake.f = some true := by
  have h1 : good 3 1 2 1 := by decide
  have h2 : ¬ good 0 1 0 0 := by decide
  unfold tilthlaw01_awake.f
  rw [Pack_f, Pack_f, if_pos h1, if_neg h2]
  simp only [Option.bind_some]
  rw [Unpack_word _ _ _ _ _ _ _ h1]
  simp [word]
end HeadTurnedIn
open HeadTurnedIn
theorem xor_bit (w b : Nat) (hb : b < 64) (hw : w < 2 ^ 45) : (w ^^^ 2 ^ b) ≠ w ∧ (44 < b → 2 ^ 45 ≤ w ^^^ 2 ^ b) ∧ (b = 44 → 2 ^ 44 ≤ w → w ^^^ 2 ^ b < 2 ^ 44) ∧ w ^^^ 2 ^ b < 2 ^ 64 := by
  have t : ∀ i, (w ^^^ 2 ^ b).testBit i = (w.testBit i ^^ decide (b = i)) := by
    intro i; rw [Nat.testBit_xor, Nat.testBit_two_pow]
  refine ⟨?_, ?_, ?_, ?_⟩
  · intro e
    have := t b
    rw [e] at this
    simp at this
  · intro h
    have h1 : w.testBit b = false := Nat.testBit_lt_two_pow (Nat.lt_of_lt_of_le hw (Nat.pow_le_pow_right (by omega) (by omega)))
    have h2 : (w ^^^ 2 ^ b).testBit b = true := by rw [t b, h1]; simp
    exact Nat.le_trans (Nat.pow_le_pow_right (by omega) (by omega)) (Nat.ge_two_pow_of_testBit h2)
  · intro h hh
    subst h
    refine Nat.lt_pow_two_of_testBit _ fun i hi => ?_
    rw [t i]
    by_cases e : i = 44
    · subst e
      have : w.testBit 44 = true := by
        rw [Nat.testBit_eq_decide_div_mod_eq]
        have : w / 2 ^ 44 = 1 := by omega
        rw [this]; rfl
      rw [this]; simp
    · have : w.testBit i = false := Nat.testBit_lt_two_pow (Nat.lt_of_lt_of_le hw (Nat.pow_le_pow_right (by omega) (by omega)))
      rw [this]
      simp; omega
  · exact Nat.xor_lt_two_pow (Nat.lt_of_lt_of_le hw (by decide)) (Nat.pow_lt_pow_right (by omega) hb)
theorem HeadTurned (a0 a1 a2 a3 : Int) (g n o : Bool) (c : Int) (hc : 0 ≤ c ∧ c ≤ 255) : tilthlaw01_HeadTurned.f a0 a1 a2 a3 g n o c = some true := by
  unfold tilthlaw01_HeadTurned.f
  rw [Pack_f, awake_f]
  simp only [Option.bind_some]
  by_cases h : good a0 a1 a2 a3
  · rw [if_pos h]
    simp only [if_true]
    have bw := word_bound (g := g) (n := n) (o := o) h
    obtain ⟨v, hv⟩ : ∃ v : Nat, word a0 a1 a2 a3 g n o = (v : Int) := ⟨(word a0 a1 a2 a3 g n o).toNat, by omega⟩
    obtain ⟨b, hb, hb64⟩ : ∃ b : Nat, c % 64 = (b : Int) ∧ b < 64 := ⟨(c % 64).toNat, by omega, by omega⟩
    have ew : IntKind.u64.wrap (Int.tmod c 64) = (b : Int) := by rw [Int.tmod_eq_emod_of_nonneg (by omega), hb, IntKind.wrap_u64]; omega
    have et : Int.tmod c 64 = (b : Int) := by rw [Int.tmod_eq_emod_of_nonneg (by omega), hb]
    obtain ⟨q, hq⟩ : ∃ q : Nat, q = 2 ^ b := ⟨_, rfl⟩
    have pb : q < 18446744073709551616 := by rw [hq]; exact Nat.pow_lt_pow_right (by omega) hb64
    have es : shl .u64 1 (b : Int) = (q : Int) := by
      unfold shl
      rw [IntKind.wrap_u64, Int.toNat_natCast, show min b IntKind.u64.bits = b from by simp [IntKind.bits]; omega, Int.one_mul]
      have : ((2 : Int) ^ b) = (q : Int) := by rw [hq]; simp
      rw [this]; omega
    rw [ew, if_pos (by omega), es, hv, u64_xor_nat v q (by omega) (by omega), et]
    obtain ⟨x1, x2, x3, x4⟩ := xor_bit v b hb64 (by omega)
    rw [← hq] at x1 x2 x3 x4
    obtain ⟨u, hu⟩ : ∃ u : Nat, u = v ^^^ q := ⟨_, rfl⟩
    rw [← hu] at x1 x2 x3 x4 ⊢
    rw [Unpack_f (u : Int) (by omega) (by omega)]
    simp only [Option.bind_some]
    by_cases h2 : good ((u : Int) % 65536) ((u : Int) / 65536 % 65536) ((u : Int) / 4294967296 % 256) ((u : Int) / 1099511627776 % 2) ∧
      word ((u : Int) % 65536) ((u : Int) / 65536 % 65536) ((u : Int) / 4294967296 % 256) ((u : Int) / 1099511627776 % 2) ((u : Int) / 2199023255552 % 2 == 1) ((u : Int) / 4398046511104 % 2 == 1) ((u : Int) / 8796093022208 % 2 == 1) = (u : Int)
    · rw [if_pos h2]
      have bu := word_bound (g := ((u : Int) / 2199023255552 % 2 == 1)) (n := ((u : Int) / 4398046511104 % 2 == 1)) (o := ((u : Int) / 8796093022208 % 2 == 1)) h2.1
      rw [h2.2] at bu
      have hne : ¬ ((u : Int) % 65536 = a0 ∧ (u : Int) / 65536 % 65536 = a1 ∧ (u : Int) / 4294967296 % 256 = a2 ∧ (u : Int) / 1099511627776 % 2 = a3 ∧ ((u : Int) / 2199023255552 % 2 == 1) = g ∧ ((u : Int) / 4398046511104 % 2 == 1) = n ∧ ((u : Int) / 8796093022208 % 2 == 1) = o) := by
        rintro ⟨e0, e1, e2, e3, e4, e5, e6⟩
        have := h2.2
        rw [e0, e1, e2, e3, e4, e5, e6, hv] at this
        exact x1 (by omega)
      simp only [if_true]
      rw [if_pos (by
        rcases Bool.eq_false_or_eq_true (!((u : Int) % 65536 == a0) || (!((u : Int) / 65536 % 65536 == a1) || (!((u : Int) / 4294967296 % 256 == a2) || (!((u : Int) / 1099511627776 % 2 == a3) || (!(((u : Int) / 2199023255552 % 2 == 1) == g) || (!(((u : Int) / 4398046511104 % 2 == 1) == n) || (!(((u : Int) / 8796093022208 % 2 == 1) == o)))))))) with t | t
        · exact t
        · refine absurd ?_ hne
          simp only [Bool.or_eq_false_iff, Bool.not_eq_false', beq_iff_eq] at t
          exact t)]
      rw [if_pos (by omega), if_neg (by omega)]
    · rw [if_neg h2]
      simp
  · rw [if_neg h]; simp
theorem u8_b {a : Int} (h : (Lit.int .u8 a).wf = true) : 0 ≤ a ∧ a ≤ 255 := by
  simpa [Lit.wf, IntKind.min, IntKind.max, IntKind.signed, IntKind.bits] using h
end Go.Proofs.Ytgkgoepldbaohaa.Pure
