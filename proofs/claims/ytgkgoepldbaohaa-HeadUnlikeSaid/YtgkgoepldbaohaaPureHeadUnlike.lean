/- The plain law of HeadUnlike over the printed functions. No condition beside the kinds' bounds. -/
import Derived.Test.YtgkgoepldbaohaaPHeadUnlikex
import Derived.Test.YtgkgoepldbaohaaHeadBits
set_option linter.unusedVariables false
set_option linter.unusedSimpArgs false
namespace Go.Proofs.Ytgkgoepldbaohaa.Pure
open Go.RowKit Go.Proofs.Ytgkgoepldbaohaa.PHeadUnlike Go.Proofs.YtgkgoepldbaohaaW.PrintWords Go.Proofs.YtgkgoepldbaohaaW.PrintLast Go.Proofs.YtgkgoepldbaohaaW.PrintMore Go.Proofs.Ytgkgoepldbaohaa.HB
namespace HeadUnlikeIn
theorem w64 {n : Int} (h1 : -9223372036854775808 ≤ n) (h2 : n ≤ 9223372036854775807) : wrap64 n = n := by unfold wrap64; omega
theorem Good_f (a0 a1 a2 a3 : Int) (g n o : Bool) : head_Good.f a0 a1 a2 a3 g n o = some (decide (good a0 a1 a2 a3)) := by
  unfold head_Good.f
  by_cases h1 : a0 ≥ 0
  · rw [if_pos h1]
    by_cases h2 : a0 ≤ 64
    · rw [if_pos h2]
      by_cases h3 : a1 ≥ 0
      · rw [if_pos h3]
        by_cases h4 : a1 ≤ a0
        · rw [if_pos h4]
          by_cases h5 : a2 ≥ 0
          · rw [if_pos h5]
            by_cases h6 : a2 ≤ 7
            · rw [if_pos h6]
              by_cases h7 : a3 = 0
              · rw [if_pos h7]; congr 1; symm; rw [decide_eq_true_eq]; unfold good; omega
              · rw [if_neg h7]; congr 1; rw [Bool.eq_iff_iff, decide_eq_true_eq, beq_iff_eq]; unfold good; omega
            · rw [if_neg h6]; congr 1; symm; rw [decide_eq_false_iff_not]; unfold good; omega
          · rw [if_neg h5]; congr 1; symm; rw [decide_eq_false_iff_not]; unfold good; omega
        · rw [if_neg h4]; congr 1; symm; rw [decide_eq_false_iff_not]; unfold good; omega
      · rw [if_neg h3]; congr 1; symm; rw [decide_eq_false_iff_not]; unfold good; omega
    · rw [if_neg h2]; congr 1; symm; rw [decide_eq_false_iff_not]; unfold good; omega
  · rw [if_neg h1]; congr 1; symm; rw [decide_eq_false_iff_not]; unfold good; omega
theorem bit_f (b : Bool) (i : Int) (v : Int) (h0 : 0 ≤ i) (hv : shl .u64 1 i = v) : head_bit.f b i = some (if b then v else 0) := by
  unfold head_bit.f
  cases b
  · simp
  · simp [h0, hv]
theorem Pack_f (a0 a1 a2 a3 : Int) (g n o : Bool) : head_Pack.f a0 a1 a2 a3 g n o = some (if good a0 a1 a2 a3 then (word a0 a1 a2 a3 g n o, true) else (0, false)) := by
  unfold head_Pack.f
  rw [Good_f, bit_f g 41 2199023255552 (by omega) (by decide), bit_f n 42 4398046511104 (by omega) (by decide), bit_f o 43 8796093022208 (by omega) (by decide)]
  simp only [Option.bind_some, decide_eq_true_eq]
  by_cases h : good a0 a1 a2 a3
  · rw [if_pos h, if_pos h, pack_word h (by cases g <;> simp) (by cases n <;> simp) (by cases o <;> simp)]
    rfl
  · rw [if_neg h, if_neg h]
theorem Unpack_f (w : Int) (h1 : 0 ≤ w) (h2 : w < 18446744073709551616) : head_Unpack.f w = some (if good (w % 65536) (w / 65536 % 65536) (w / 4294967296 % 256) (w / 1099511627776 % 2) ∧
      word (w % 65536) (w / 65536 % 65536) (w / 4294967296 % 256) (w / 1099511627776 % 2) (w / 2199023255552 % 2 == 1) (w / 4398046511104 % 2 == 1) (w / 8796093022208 % 2 == 1) = w
    then (w % 65536, w / 65536 % 65536, w / 4294967296 % 256, w / 1099511627776 % 2, w / 2199023255552 % 2 == 1, w / 4398046511104 % 2 == 1, w / 8796093022208 % 2 == 1, true)
    else (0, 0, 0, 0, false, false, false, false)) := by
  unfold head_Unpack.f
  rw [and_16 w h1 h2, and_16 (w / 65536) (by omega) (by omega), and_8 (w / 4294967296) (by omega) (by omega), and_1 (w / 1099511627776) (by omega) (by omega), and_1 (w / 2199023255552) (by omega) (by omega), and_1 (w / 4398046511104) (by omega) (by omega), and_1 (w / 8796093022208) (by omega) (by omega)]
  rw [w64 (n := w % 65536) (by omega) (by omega), w64 (n := w / 65536 % 65536) (by omega) (by omega), w64 (n := w / 4294967296 % 256) (by omega) (by omega), w64 (n := w / 1099511627776 % 2) (by omega) (by omega)]
  rw [Pack_f]
  simp only [Option.bind_some]
  by_cases h : good (w % 65536) (w / 65536 % 65536) (w / 4294967296 % 256) (w / 1099511627776 % 2)
  · rw [if_pos h]
    simp only [if_true]
    by_cases h3 : word (w % 65536) (w / 65536 % 65536) (w / 4294967296 % 256) (w / 1099511627776 % 2) (w / 2199023255552 % 2 == 1) (w / 4398046511104 % 2 == 1) (w / 8796093022208 % 2 == 1) = w
    · rw [if_pos h3, if_pos ⟨h, h3⟩]
    · rw [if_neg h3, if_neg (fun hh => h3 hh.2)]
  · rw [if_neg h]
    simp [h]
theorem Unpack_word (a0 a1 a2 a3 : Int) (g n o : Bool) (h : good a0 a1 a2 a3) : head_Unpack.f (word a0 a1 a2 a3 g n o) = some (a0, a1, a2, a3, g, n, o, true) := by
  have b := word_bound (g := g) (n := n) (o := o) h
  obtain ⟨e0, e1, e2, e3, e4, e5, e6⟩ := word_unpack (g := g) (n := n) (o := o) h
  rw [Unpack_f _ (by omega) (by omega), e0, e1, e2, e3, e4, e5, e6, if_pos ⟨h, rfl⟩]
theorem awake_f : tilthlaw01_awake.f = some true := by
  have h1 : good 3 1 2 1 := by decide
  have h2 : ¬ good 0 1 0 0 := by decide
  unfold tilthlaw01_awake.f
  rw [Pack_f, Pack_f, if_pos h1, if_neg h2]
  simp only [Option.bind_some]
  rw [Unpack_word _ _ _ _ _ _ _ h1]
  simp [word]
end HeadUnlikeIn
open HeadUnlikeIn
theorem HeadUnlike (a0 a1 a2 a3 : Int) (g n o : Bool) (b0 b1 b2 b3 : Int) (g' n' o' : Bool) : tilthlaw01_HeadUnlike.f a0 a1 a2 a3 g n o b0 b1 b2 b3 g' n' o' = some true := by
  unfold tilthlaw01_HeadUnlike.f
  rw [Pack_f, Pack_f, awake_f]
  simp only [Option.bind_some, if_true]
  by_cases h : good a0 a1 a2 a3
  · rw [if_pos h]
    by_cases h' : good b0 b1 b2 b3
    · rw [if_pos h']
      simp only [if_true]
      congr 1
      rw [beq_iff_eq, Bool.eq_iff_iff]
      simp only [beq_iff_eq, Bool.and_eq_true]
      constructor
      · intro e
        obtain ⟨x0, x1, x2, x3, x4, x5, x6⟩ := word_unpack (g := g) (n := n) (o := o) h
        obtain ⟨y0, y1, y2, y3, y4, y5, y6⟩ := word_unpack (g := g') (n := n') (o := o') h'
        rw [e] at x0 x1 x2 x3 x4 x5 x6
        exact ⟨x0.symm.trans y0, x1.symm.trans y1, x2.symm.trans y2, x3.symm.trans y3, x4.symm.trans y4, x5.symm.trans y5, x6.symm.trans y6⟩
      · rintro ⟨rfl, rfl, rfl, rfl, rfl, rfl, rfl⟩; rfl
    · rw [if_neg h']; simp
  · rw [if_neg h]; simp
end Go.Proofs.Ytgkgoepldbaohaa.Pure
