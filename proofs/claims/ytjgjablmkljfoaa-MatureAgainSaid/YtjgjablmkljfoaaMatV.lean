/- MatureAgain as a contract. No condition. -/
import Derived.Test.YtjgjablmkljfoaaMatU
set_option linter.unusedVariables false
set_option linter.unusedSimpArgs false
namespace Go.Proofs.Ytjgjablmkljfoaa.Ma
open Go.RowKit Go.Proofs.Ytjgjablmkljfoaa.W Go.Proofs.Ytjgjablmkljfoaa.Cl
theorem chk_get {w x : Int} (h0 : 16 ≤ w ∧ w ≤ 75) (h1 : 1 ≤ x ∧ x ≤ 40) : ∃ D T, fillT 60 (mnew 7 3 w) x = (D, T) ∧ T.took x = none ∧ D.length < 60 ∧ ∀ a ∈ D, T.has a = true ∧ (T.give a).took x = some a ∧ (T.give a).take x = T := by
  obtain ⟨n, rfl⟩ : ∃ n : Nat, w = (n : Int) + 16 := ⟨(w - 16).toNat, by omega⟩
  obtain ⟨m, rfl⟩ : ∃ m : Nat, x = (m : Int) + 1 := ⟨(x - 1).toNat, by omega⟩
  have hc := chk_all (w := n) (by omega)
  unfold chkW at hc
  have hm := List.all_eq_true.1 hc m (List.mem_range.2 (by omega))
  unfold chk at hm
  obtain ⟨⟨D, T⟩, hr⟩ : ∃ r, fillT 60 (mnew 7 3 ((n : Int) + 16)) ((m : Int) + 1) = r := ⟨_, rfl⟩
  rw [hr] at hm
  refine ⟨D, T, hr, ?_⟩
  simp only [Bool.and_eq_true, Option.isNone_iff_eq_none, decide_eq_true_eq] at hm
  obtain ⟨⟨h2, h3⟩, h4⟩ := hm
  refine ⟨h2, h3, fun a ha => ?_⟩
  have h5 := List.all_eq_true.1 h4 a ha
  simp only [one, Bool.and_eq_true, beq_iff_eq] at h5
  obtain ⟨⟨h6, h7⟩, h8⟩ := h5
  refine ⟨h6, h7, ?_⟩
  have h9 := beqL_eq h8
  cases T
  simp only [MS.take, MS.give] at h9 ⊢
  rw [h9]
theorem has_b {s : MS} (hs : s.ok) {x : Int} (h : s.has x = true) : -9223372036854775808 ≤ x ∧ x ≤ 9223372036854775807 := by
  obtain ⟨i, k, p, hu⟩ := (has_iff hs).1 h
  have h1 := use_end hs hu
  have h2 := (use_in hs hu).2.1
  obtain ⟨⟨f0, f1⟩, ⟨w0, w1⟩, hl, _⟩ := hs
  have h3 : (s.l.length : Int) * s.w ≤ 64 * 256 := Int.mul_le_mul (by omega) w1 (by omega) (by omega)
  omega
set_option maxRecDepth 20000 in
set_option maxHeartbeats 8000000 in
theorem Again_calls (a0 a1 a2 : Int) (w : World) (p0 : 0 ≤ a0 ∧ a0 ≤ 255) (p1 : 0 ≤ a1 ∧ a1 ≤ 255) (p2 : 0 ≤ a2 ∧ a2 ≤ 255) :
    Calls Try.prog 4 #[.int .u8 a0, .int .u8 a1, .int .u8 a2] w fun e w' => e = .returned (.bool true) ∧ Below w.heap.size w w' := by
  obtain ⟨i1, i2, i3, i4, i5⟩ := info_parts info_int
  obtain ⟨D, T, hr, hT, hDl, hD⟩ := chk_get (w := a0 % 60 + 16) (x := a1 % 40 + 1) (by omega) (by omega)
  have r0 : 0 ≤ a0 % 60 := by omega
  have r1 : a0 % 60 < 60 := by omega
  have r2 : 0 ≤ a1 % 40 := by omega
  have r3 : a1 % 40 < 40 := by omega
  obtain ⟨p00, p01⟩ := p0
  obtain ⟨p10, p11⟩ := p1
  obtain ⟨p20, p21⟩ := p2
  have HR := Lib.hid hr
  have HT := Lib.hid hT
  have HD := Lib.hid hD
  clear hr hT hD
  go_enter Try.func4, Try.ntmps4
  go_wp2_with fail
  refine (New_sep 7 3 (a0 % 60 + 16) (Sep.nil w)).mono ?_
  rintro e w1 ⟨b, rfl, h1⟩
  have h2 := h1.new_row 3 #[] (by simp)
  have H2 := Lib.hid h2
  clear h1 h2
  go_wp2_with fail
  go_loopg [9, 10] 100 (fun gk z1 z2 wr => ∃ (j : Nat) (s : MS) (E R : List Int) (A : Option Addr) (c : Nat), j + gk = 100 ∧ z2 = .int .i64 j ∧ z1 = .slice A E.length c ∧ E.length = j ∧ E ++ R = D ∧ fillT (60 - j) s (a1 % 40 + 1) = (R, T) ∧ Sep w wr [Mat b s, rowI8 A c E])
  case atStart => exact ⟨0, _, [], D, _, 0, by omega, rfl, rfl, rfl, rfl, HR.out, H2.out⟩
  case round =>
    clear H2 HR
    obtain ⟨j, s, E, R, A, c, hj, rfl, rfl, hE, hER, hfl, h⟩ := hrel
    subst hE
    have HJ := Lib.hid hj
    have hel : E.length + R.length = D.length := by rw [← hER]; simp
    have hj60 : E.length < 60 := by omega
    have hj100 : decide ((E.length : Int) < 100) = true := by simp; omega
    obtain ⟨q, hq⟩ : ∃ q, 60 - E.length = q + 1 := ⟨59 - E.length, by omega⟩
    rw [hq] at hfl
    unfold fillT at hfl
    have H := Lib.hid h
    clear hj h
    go_wp2_with fail
    refine (Take_sep (a1 % 40 + 1) (by omega) H.out 0 rfl).mono ?_
    rintro e w2 ⟨rfl, h2⟩
    cases ht : s.took (a1 % 40 + 1) with
    | some a =>
      rw [ht] at hfl
      obtain ⟨R', hR'⟩ : ∃ R', fillT q (s.take (a1 % 40 + 1)) (a1 % 40 + 1) = (R', T) ∧ R = a :: R' := by
        simp only [Prod.mk.injEq] at hfl
        exact ⟨_, Prod.ext rfl hfl.2, hfl.1.symm⟩
      have HF := Lib.hid hR'
      have HER := Lib.hid hER
      have H2 := Lib.hid h2
      simp only [oI, Option.isSome]
      clear h2 ht H hfl hER hR'
      go_wp2_with (at_builtin; refine wpList_append_sep rfl _ _ 25 rfl 3 i1 (.int .i64 0) 8 Try.underlying25 i2 i3 i4 i5 rfl A E.length c (E.map (Value.int .i64)) rfl w2.heap.size (.int .i64 a) rfl (H2.out.alloc _) 1 rfl ?c1 rfl ?c2 ?c3 ?_)
      case c1 => exact (Blk.new _ _ _).cell 0
      case c2 => omega
      case c3 => omega
      intro A2 c2 w3 h3
      have h4 : Sep w w3 [Mat b (s.take (a1 % 40 + 1)), rowI8 A2 c2 (E ++ [a])] := by
        have e : (E ++ [a]).length = E.length + 1 := by simp
        unfold rowI8
        rw [e, List.map_append]
        exact h3
      have HDl : (E ++ [a]).length = E.length + 1 := by simp
      have H7 := Lib.hid h4
      clear h3 h4
      rw [← HDl]
      go_wp2_with fail
      go_roundg (gk - 1)
      case measure => have := HJ.out; omega
      case rel => exact ⟨E.length + 1, s.take (a1 % 40 + 1), E ++ [a], R', A2, c2, by have := HJ.out; omega, by go_num, rfl, HDl, by rw [← HER.out, HF.out.2]; simp, by rw [show 60 - (E.length + 1) = q by omega]; exact HF.out.1, H7.out⟩
    | none =>
      rw [ht] at hfl
      rw [take_none ht] at h2
      simp only [Prod.mk.injEq] at hfl
      obtain ⟨rfl, rfl⟩ := hfl
      rw [List.append_nil] at hER
      subst hER
      have H2 := Lib.hid h2
      simp only [oI, Option.isSome]
      clear h2 ht H hel hq
      by_cases h0 : E.length = 0
      · have e0 : ((E.length : Int) == 0) = true := by rw [beq_iff_eq]; omega
        go_wp2_with fail
        refine (awake_calls _).mono ?_
        rintro e w4 ⟨rfl, k4⟩
        have H4 := Lib.hid (H2.out.stay k4.keep0)
        clear k4
        go_wp2_with fail
        go_ret
        exact ⟨rfl, H4.out.below⟩
      · have e0 : ((E.length : Int) == 0) = false := beq_false_of_ne (by omega)
        have g0 : 0 ≤ a2 % (E.length : Int) := Int.emod_nonneg _ (by omega)
        have g1 : a2 % (E.length : Int) < E.length := Int.emod_lt_of_pos _ (by omega)
        obtain ⟨m, hm⟩ : ∃ m : Nat, a2 % (E.length : Int) = m := ⟨(a2 % (E.length : Int)).toNat, by omega⟩
        rw [hm] at g0 g1
        have hmE : m < E.length := by omega
        obtain ⟨G, off, rfl, y0⟩ := row_at H2.out 1 rfl hmE
        obtain ⟨d1, d2, d3⟩ := HD.out E[m] (List.getElem_mem _)
        obtain ⟨y, hy⟩ : ∃ y, E[m] = y := ⟨_, rfl⟩
        rw [hy] at d1 d2 d3 y0
        have HY := Lib.hid hy
        have hyb := has_b (Mat_ok H2.out 0 rfl) d1
        have D1 := Lib.hid d1
        have D2 := Lib.hid d2
        have D3 := Lib.hid d3
        clear d1 d2 d3 hy
        go_wp2_with fail
        refine (Give_sep y hyb H2.out 0 rfl).mono ?_
        rintro e w4 ⟨rfl, h4⟩
        rw [D1.out]
        have H4 := Lib.hid h4
        clear h4 y0
        go_wp2_with fail
        refine (Take_sep (a1 % 40 + 1) (by omega) H4.out 0 rfl).mono ?_
        rintro e w5 ⟨rfl, h5⟩
        rw [D3.out] at h5
        rw [D2.out]
        have H5 := Lib.hid h5
        simp only [oI, Option.isSome]
        clear h5 H4
        go_wp2_with fail
        refine (Take_sep (a1 % 40 + 1) (by omega) H5.out 0 rfl).mono ?_
        rintro e w6 ⟨rfl, h6⟩
        rw [take_none HT.out] at h6
        rw [HT.out]
        have H6 := Lib.hid h6
        simp only [oI, Option.isSome]
        clear h6 H5
        go_wp2_with fail
        refine (awake_calls _).mono ?_
        rintro e w7 ⟨rfl, k7⟩
        have h7 := H6.out.stay k7.keep0
        obtain ⟨G', off', e', y7⟩ := row_at h7 1 rfl hmE
        cases e'
        rw [HY.out] at y7
        have H7 := Lib.hid h7
        clear k7 H6 h7
        go_wp2_with fail
        go_ret
        exact ⟨rfl, H7.out.below⟩
end Go.Proofs.Ytjgjablmkljfoaa.Ma
