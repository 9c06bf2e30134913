/- The plain law of HeadUnpacks over the printed functions. No condition beside the kinds' bounds. -/
import Derived.Test.YtgkgoepldbaohaaPHeadUnpacksx
import Derived.Test.YtgkgoepldbaohaaHeadBits
set_option linter.unusedVariables false
set_option linter.unusedSimpArgs false
namespace Go.Proofs.Ytgkgoepldbaohaa.Pure
open Go.RowKit Go.Proofs.Ytgkgoepldbaohaa.PHeadUnpacks Go.Proofs.YtgkgoepldbaohaaW.PrintWords Go.Proofs.YtgkgoepldbaohaaW.PrintLast Go.Proofs.YtgkgoepldbaohaaW.PrintMore Go.Proofs.Ytgkgoepldbaohaa.HB
namespace HeadUnpacksIn
theorem w64 {n : Int} (h1 : -9223372036854775808 ≤ n) (h2 : n ≤ 9223372036854775807) : wrap64 n = n := by unfold wrap64; omega
theorem Good_f (a0 a1 a2 a3 : Int) (g n o : Bool) : head_Good.f a0 a1 a2 a3 g n o = some (decide (good a0 a1 a2 a3)) := by
  unfold head_Good.f
  by_cases h1 : a0 ≥ 0
  · rw [if_pos h1]
    by_cases h2 : a0 ≤ 64
    · rw [if_pos h2]
      by_cases h3 : a1 ≥ 0
      · rw [if_pos h3]
        by_cases h4 : a1 ≤ a0
        · rw [if_pos h4]
          by_cases h5 : a2 ≥ 0
          · rw [if_pos h5]
            by_cases h6 : a2 ≤ 7
            · rw [if_pos h6]
              by_cases h7 : a3 = 0
              · rw [if_pos h7]; congr 1; symm; rw [decide_eq_true_eq]; unfold good; omega
              · rw [if_neg h7]; congr 1; rw [Bool.eq_iff_iff, decide_eq_true_eq, beq_iff_eq]; unfold good; omega
            · rw [if_neg h6]; congr 1; symm; rw [decide_eq_false_iff_not]; unfold good; omega
          · rw [if_neg h5]; congr 1; symm; rw [decide_eq_false_iff_not]; unfold good; omega
        · rw [if_neg h4]; congr 1; symm; rw [decide_eq_false_iff_not]; unfold good; omega
      · rw [if_neg h3]; congr 1; symm; rw [decide_eq_false_iff_not]; unfold good; omega
    · rw [if_neg h2]; congr 1; symm; rw [decide_eq_false_iff_not]; unfold good; omega
  · rw [if_neg h1]; congr 1; symm; rw [decide_eq_false_iff_not]; unfold good; omega
theorem bit_f (b : Bool) (i : Int) (v : Int) (h0 : 0 ≤ i) (hv : shl .u64 1 i = v) : head_bit.f b i = some (if b then v else 0) := by
  unfold head_bit.f
  cases b
  · simp
  · simp [h0, hv]
theorem Pack_f (a0 a1 a2 a3 : Int) (g n o : Bool) : head_Pack.f a0 a1 a2 a3 g n o = some (if good a0 a1 a2 a3 then (word a0 a1 a2 a3 g n o, true) else (0, false)) := by
  unfold head_Pack.f
  rw [Good_f, bit_f g 41 2199023255552 (by omega) (by decide), bit_f n 42 4398046511104 (by omega) (by decide), bit_f o 43 8796093022208 (by omega) (by decide)]
  simp only [Option.bind_some, decide_eq_true_eq]
  by_cases h : good a0 a1 a2 a3
  · rw [if_pos h, if_pos h, pack_word h (by cases g <;> simp) (by cases n <;> simp) (by cases o <;> simp)]
    rfl
  · rw [if_neg h, if_neg h]
theorem Unpack_f (w : Int) (h1 : 0 ≤ w) (h2 : w < 18446744073709551616) : head_Unpack.f w = some (if good (w % 65536) (w / 65536 % 65536) (w / 4294967296 % 256) (w / 1099511627776 % 2) ∧
      word (w % 65536) (w / 65536 % 65536) (w / 4294967296 % 256) (w / 1099511627776 % 2) (w / 2199023255552 % 2 == 1) (w / 4398046511104 % 2 == 1) (w / 8796093022208 % 2 == 1) = w
    then (w % 65536, w / 65536 % 65536, w / 4294967296 % 256, w / 1099511627776 % 2, w / 2199023255552 % 2 == 1, w / 4398046511104 % 2 == 1, w / 8796093022208 % 2 == 1, true)
    else (0, 0, 0, 0, false, false, false, false)) := by
  unfold head_Unpack.f
  rw [and_16 w h1 h2, and_16 (w / 65536) (by omega) (by omega), and_8 (w / 4294967296) (by omega) (by omega), and_1 (w / 1099511627776) (by omega) (by omega), and_1 (w / 2199023255552) (by omega) (by omega), and_1 (w / 4398046511104) (by omega) (by omega), and_1 (w / 8796093022208) (by omega) (by omega)]
  rw [w64 (n := w % 65536) (by omega) (by omega), w64 (n := w / 65536 % 65536) (by omega) (by omega), w64 (n := w / 4294967296 % 256) (by omega) (by omega), w64 (n := w / 1099511627776 % 2) (by omega) (by omega)]
  rw [Pack_f]
  simp only [Option.bind_some]
  by_cases h : good (w % 65536) (w / 65536 % 65536) (w / 4294967296 % 256) (w / 1099511627776 % 2)
  · rw [if_pos h]
    simp only [if_true]
    by_cases h3 : word (w % 65536) (w / 65536 % 65536) (w / 4294967296 % 256) (w / 1099511627776 % 2) (w / 2199023255552 % 2 == 1) (w / 4398046511104 % 2 == 1) (w / 8796093022208 % 2 == 1) = w
    · rw [if_pos h3, if_pos ⟨h, h3⟩]
    · rw [if_neg h3, if_neg (fun hh => h3 hh.2)]
  · rw [if_neg h]
    simp [h]
theorem Unpack_word (a0 a1 a2 a3 : Int) (g n o : Bool) (h : good a0 a1 a2 a3) : head_Unpack.f (word a0 a1 a2 a3 g n o) = some (a0, a1, a2, a3, g, n, o, true) := by
  have b := word_bound (g := g) (n := n) (o := o) h
  obtain ⟨e0, e1, e2, e3, e4, e5, e6⟩ := word_unpack (g := g) (n := n) (o := o) h
  rw [Unpack_f _ (by omega) (by omega), e0, e1, e2, e3, e4, e5, e6, if_pos ⟨h, rfl⟩]
theorem awake_f : tilthlaw01_awake.f = some true := by
  have h1 : good 3 1 2 1 := by decide
  have h2 : ¬ good 0 1 0 0 := by decide
  unfold tilthlaw01_awake.f
  rw [Pack_f, Pack_f, if_pos h1, if_neg h2]
  simp only [Option.bind_some]
  rw [Unpack_word _ _ _ _ _ _ _ h1]
  simp [word]
end HeadUnpacksIn
open HeadUnpacksIn
theorem HeadUnpacks_good (a0 a1 a2 a3 : Int) (g n o : Bool) : tilthref01_Good.f a0 a1 a2 a3 g n o = some (decide (good a0 a1 a2 a3)) := by
  unfold tilthref01_Good.f
  by_cases h1 : a0 < 0
  · rw [if_pos h1]; congr 1; symm; rw [decide_eq_false_iff_not]; unfold good; omega
  rw [if_neg h1]
  by_cases h2 : a0 > 64
  · rw [if_pos h2]; congr 1; symm; rw [decide_eq_false_iff_not]; unfold good; omega
  rw [if_neg h2]
  by_cases h3 : a1 < 0
  · rw [if_pos h3]; congr 1; symm; rw [decide_eq_false_iff_not]; unfold good; omega
  rw [if_neg h3]
  by_cases h4 : a1 > a0
  · rw [if_pos h4]; congr 1; symm; rw [decide_eq_false_iff_not]; unfold good; omega
  rw [if_neg h4]
  by_cases h5 : a2 ≥ 0
  · rw [if_pos h5]
    by_cases h6 : a2 ≤ 7
    · rw [if_pos h6]
      by_cases h7 : a3 ≥ 0
      · rw [if_pos h7]; congr 1; rw [Bool.eq_iff_iff, decide_eq_true_eq, decide_eq_true_eq]; unfold good; omega
      · rw [if_neg h7]; congr 1; symm; rw [decide_eq_false_iff_not]; unfold good; omega
    · rw [if_neg h6]; congr 1; symm; rw [decide_eq_false_iff_not]; unfold good; omega
  · rw [if_neg h5]; congr 1; symm; rw [decide_eq_false_iff_not]; unfold good; omega
theorem HeadUnpacks_word (k : Nat) (a0 a1 a2 a3 : Int) (g n o : Bool) (h : good a0 a1 a2 a3) : tilthref01_Word.f (k + 1) a0 a1 a2 a3 g n o = some (word a0 a1 a2 a3 g n o) := by
  unfold good at h
  have e0 : IntKind.u64.wrap a0 = a0 := by rw [IntKind.wrap_u64]; omega
  have e1 : IntKind.u64.wrap (65536 * IntKind.u64.wrap a1) = 65536 * a1 := by simp only [IntKind.wrap_u64]; omega
  have e2 : IntKind.u64.wrap (4294967296 * IntKind.u64.wrap a2) = 4294967296 * a2 := by simp only [IntKind.wrap_u64]; omega
  have e3 : IntKind.u64.wrap (1099511627776 * IntKind.u64.wrap a3) = 1099511627776 * a3 := by simp only [IntKind.wrap_u64]; omega
  unfold tilthref01_Word.f word
  simp only [tilthref01_Word.j0, e0, e1, e2, e3]
  cases g <;> cases n <;> cases o <;> simp only [if_true, if_false, Bool.false_eq_true] <;> (congr 1; simp only [IntKind.wrap_u64]; omega)
theorem HeadUnpacks : tilthlaw01_HeadUnpacks.Pure := by
  intro w hw
  have b : 0 ≤ w ∧ w ≤ 18446744073709551615 := by simpa [Lit.wf, IntKind.min, IntKind.max, IntKind.signed, IntKind.bits] using hw
  refine ⟨2, ?_⟩
  unfold tilthlaw01_HeadUnpacks.f
  rw [Unpack_f w b.1 (by omega), awake_f]
  simp only [Option.bind_some]
  by_cases h : good (w % 65536) (w / 65536 % 65536) (w / 4294967296 % 256) (w / 1099511627776 % 2) ∧
      word (w % 65536) (w / 65536 % 65536) (w / 4294967296 % 256) (w / 1099511627776 % 2) (w / 2199023255552 % 2 == 1) (w / 4398046511104 % 2 == 1) (w / 8796093022208 % 2 == 1) = w
  · rw [if_pos h]
    simp only [if_true, Option.bind_some]
    rw [HeadUnpacks_good, HeadUnpacks_word 1 _ _ _ _ _ _ _ h.1, h.2]
    simp [h.1]
  · rw [if_neg h]
    simp
end Go.Proofs.Ytgkgoepldbaohaa.Pure
