/- ObjMoves as a contract. Condition: numbers are of their kinds. -/
import Derived.Test.YtfaffpmmjlddeaaObjFill
import Derived.Deep.DeepCutAuto
import Derived.Deep.CutBlock
set_option linter.unusedVariables false
set_option linter.unusedSimpArgs false
namespace Go.Proofs.Ytfaffpmmjlddeaa.Ob
open Go.RowKit Go.Proofs.Ytfaffpmmjlddeaa.W Go.Proofs.Ytfaffpmmjlddeaa.Ar Go.Proofs.Ytfaffpmmjlddeaa.Hea

theorem cpy_next {ws : List Int} {i j k : Nat} (hi : i + k < ws.length) (hj : j + k < ws.length) : (cpy ws i j k).set (j + k) (ws[i + k]?.getD 0) = cpy ws i j (k + 1) := by
  apply List.ext_getElem?
  intro x
  by_cases e : j + k = x
  · subst e
    rw [List.getElem?_set_self (by rw [cpy_len (by omega) (by omega)]; omega), cpy_get (by omega) (by omega), if_pos (by omega), show i + (j + k - j) = i + k by omega]
    simp [hi]
  · rw [List.getElem?_set_ne e, cpy_get (by omega) (by omega), cpy_get (by omega) (by omega)]
    by_cases c : j ≤ x ∧ x < j + k
    · rw [if_pos c, if_pos (by omega)]
    · rw [if_neg c, if_neg (by omega)]

set_option maxRecDepth 20000 in
set_option maxHeartbeats 32000000 in
theorem Moves_calls (m s a d : Int) (a0 a1 a2 a3 : Int) (g n o : Bool) (w : World) (m0 : 0 ≤ m) (m1 : m ≤ 255) (hs : w64 s) :
    Calls Try.prog 10 #[.int .u8 m, .int .u64 s, .int .i64 a, .int .i64 d, .agg #[.int .i64 a0, .int .i64 a1, .int .i64 a2, .int .i64 a3, .bool g, .bool n, .bool o]] w fun e w' => e = .returned (.bool true) ∧ Below w.heap.size w w' := by
  obtain ⟨N, hN⟩ : ∃ N : Nat, m % 100 = (N : Int) := ⟨(m % 100).toNat, by omega⟩
  have hN1 : N < 100 := by omega
  have HS := Lib.hid hs
  clear hs
  by_cases hg : Hd.good ⟨a0, a1, a2, a3, g, n, o⟩
  · have hgs : 0 ≤ a0 ∧ a0 ≤ 64 := ⟨hg.1, hg.2.1⟩
    have HG := Lib.hid hg
    clear hg
    obtain ⟨s0, s1⟩ := hgs
    rcases (by omega : (a < 0) ∨ (0 ≤ a ∧ d < 0) ∨ (0 ≤ a ∧ 0 ≤ d ∧ (N : Int) < a) ∨ (0 ≤ a ∧ 0 ≤ d ∧ a ≤ N ∧ (N : Int) < d) ∨ (0 ≤ a ∧ 0 ≤ d ∧ a ≤ N ∧ d ≤ N ∧ (N : Int) - a < a0 + 2) ∨ (0 ≤ a ∧ 0 ≤ d ∧ a ≤ N ∧ d ≤ N ∧ a0 + 2 ≤ (N : Int) - a ∧ (N : Int) - d < a0 + 2) ∨ (0 ≤ a ∧ 0 ≤ d ∧ a ≤ N ∧ d ≤ N ∧ a0 + 2 ≤ (N : Int) - a ∧ a0 + 2 ≤ (N : Int) - d)) with q0 | ⟨q0, q1⟩ | ⟨q0, q1, q2⟩ | ⟨q0, q1, q2, q3⟩ | ⟨q0, q1, q2, q3, q4⟩ | ⟨q0, q1, q2, q3, q4, q5⟩ | ⟨q0, q1, q2, q3, q4, q5⟩
    · as_aux_lemma =>
      have d0 : decide (a < 0) = true := by simp; omega
      go_enter Try.func10, Try.ntmps10
      have hB := Blk.new w 44 #[.int .i64 a0, .int .i64 a1, .int .i64 a2, .int .i64 a3, .bool g, .bool n, .bool o]
      have kw := (Keep.refl (fun _ => False) w).alloc (.cells #[.int .i64 a0, .int .i64 a1, .int .i64 a2, .int .i64 a3, .bool g, .bool n, .bool o] 44)
      go_wp2_with fail
      refine (filled_at (N : Int) s kw (by omega) (by omega) HS.out).mono ?_
      rintro e w1 ⟨b, G, Hh, v, ws, rfl, hl, h, hS, k, hG, hH, hwb⟩
      replace hB := k.blk hB (fun h => h)
      rw [show (w.alloc (.cells #[.int .i64 a0, .int .i64 a1, .int .i64 a2, .int .i64 a3, .bool g, .bool n, .bool o] 44)).heap.size = w.heap.size + 1 from by show (w.heap.push _).size = _; rw [Array.size_push]] at h hG
      clear k kw
      obtain ⟨A, c, rfl, hS1, hS2⟩ := hS
      have hlN : ws.length = N := by omega
      subst hlN
      have hS : SL w1 (fun i => G ≤ i ∧ i < Hh) .u64 (.slice A ws.length c) ws := ⟨A, c, rfl, hS1, hS2⟩
      have hwl : G ≤ w1.heap.size := h.2.2.2
      clear hS2 hl
      have c0 := hB.cell 0
      have c1 := hB.cell 1
      have c2 := hB.cell 2
      have c3 := hB.cell 3
      have c4 := hB.cell 4
      have c5 := hB.cell 5
      have c6 := hB.cell 6
      simp at c0 c1 c2 c3 c4 c5 c6
      have hwn : (within ws.length a (a0 + 2) && within ws.length d (a0 + 2)) = false := by
        by_cases hq : within ws.length a (a0 + 2) = true
        · rw [hq, Bool.true_and]; have hq' := Go.Proofs.Ytfaffpmmjlddeaa.Ar.within_iff.1 hq; exact Go.Proofs.Ytfaffpmmjlddeaa.Ar.within_not (by omega)
        · rw [Bool.not_eq_true] at hq; rw [hq, Bool.false_and]
      have HWN := Lib.hid hwn
      clear hwn
      go_wp2_with fail
      refine (Move_at a d ⟨a0, a1, a2, a3, g, n, o⟩ h 2 ws (by unfold mvErr; rw [if_pos HG.out, HWN.out]; rfl) (by unfold mvW; rw [if_pos HG.out, HWN.out]; rfl)).mono ?_
      rintro e w2 ⟨rfl, h2, k⟩
      clear c0 c1 c2 c3 c4 c5 c6
      replace hB := k.blk hB (fun h => by first | omega | (obtain ⟨h1, h2⟩ := h; omega))
      replace hS := hS.keep k (fun i h1 h2 => by first | omega | (obtain ⟨h3, h4⟩ := h1; obtain ⟨h5, h6⟩ := h2; omega))
      clear k
      clear h
      have c0 := hB.cell 0
      have c1 := hB.cell 1
      have c2 := hB.cell 2
      have c3 := hB.cell 3
      have c4 := hB.cell 4
      have c5 := hB.cell 5
      have c6 := hB.cell 6
      simp at c0 c1 c2 c3 c4 c5 c6
      go_wp2_with fail
      refine (RGood_r ⟨a0, a1, a2, a3, g, n, o⟩ _ true (by simpa using HG.out)).mono ?_
      rintro e w3 ⟨rfl, k⟩
      clear c0 c1 c2 c3 c4 c5 c6
      replace h2 := h2.stay k
      replace hB := k.blk hB (fun h => h)
      replace hS := hS.keep k (fun _ _ h => h)
      clear k
      have c0 := hB.cell 0
      simp at c0
      go_wp2_with fail
      refine (awake_calls _).mono ?_
      rintro e w4 ⟨rfl, k⟩
      clear c0
      replace h2 := h2.stay k
      replace hB := k.blk hB (fun h => h)
      replace hS := hS.keep k (fun _ _ h => h)
      clear k
      go_wp2_with fail
      refine (words_at h2 (by omega)).mono ?_
      rintro e w5 ⟨v5, rfl, hv5, h5, k⟩
      replace hB := k.blk hB (fun h => by first | omega | (obtain ⟨h1, h2⟩ := h; omega))
      replace hS := hS.keep k (fun i h1 h2 => by first | omega | (obtain ⟨h3, h4⟩ := h1; obtain ⟨h5, h6⟩ := h2; omega))
      clear k h2
      go_wp2_with fail
      refine (same_r _ hv5 hS rfl).mono ?_
      rintro e w6 ⟨rfl, nn, hw6⟩
      have hh : Below w.heap.size w w6 := by rw [hw6]; exact (h5.drewN nn).below
      clear hw6
      go_wp2_with fail
      go_ret
      exact ⟨by simp, hh⟩
    · as_aux_lemma =>
      have d0 : decide (a < 0) = false := by simp; omega
      have d1 : decide (d < 0) = true := by simp; omega
      go_enter Try.func10, Try.ntmps10
      have hB := Blk.new w 44 #[.int .i64 a0, .int .i64 a1, .int .i64 a2, .int .i64 a3, .bool g, .bool n, .bool o]
      have kw := (Keep.refl (fun _ => False) w).alloc (.cells #[.int .i64 a0, .int .i64 a1, .int .i64 a2, .int .i64 a3, .bool g, .bool n, .bool o] 44)
      go_wp2_with fail
      refine (filled_at (N : Int) s kw (by omega) (by omega) HS.out).mono ?_
      rintro e w1 ⟨b, G, Hh, v, ws, rfl, hl, h, hS, k, hG, hH, hwb⟩
      replace hB := k.blk hB (fun h => h)
      rw [show (w.alloc (.cells #[.int .i64 a0, .int .i64 a1, .int .i64 a2, .int .i64 a3, .bool g, .bool n, .bool o] 44)).heap.size = w.heap.size + 1 from by show (w.heap.push _).size = _; rw [Array.size_push]] at h hG
      clear k kw
      obtain ⟨A, c, rfl, hS1, hS2⟩ := hS
      have hlN : ws.length = N := by omega
      subst hlN
      have hS : SL w1 (fun i => G ≤ i ∧ i < Hh) .u64 (.slice A ws.length c) ws := ⟨A, c, rfl, hS1, hS2⟩
      have hwl : G ≤ w1.heap.size := h.2.2.2
      clear hS2 hl
      have c0 := hB.cell 0
      have c1 := hB.cell 1
      have c2 := hB.cell 2
      have c3 := hB.cell 3
      have c4 := hB.cell 4
      have c5 := hB.cell 5
      have c6 := hB.cell 6
      simp at c0 c1 c2 c3 c4 c5 c6
      have hwn : (within ws.length a (a0 + 2) && within ws.length d (a0 + 2)) = false := by
        by_cases hq : within ws.length a (a0 + 2) = true
        · rw [hq, Bool.true_and]; have hq' := Go.Proofs.Ytfaffpmmjlddeaa.Ar.within_iff.1 hq; exact Go.Proofs.Ytfaffpmmjlddeaa.Ar.within_not (by omega)
        · rw [Bool.not_eq_true] at hq; rw [hq, Bool.false_and]
      have HWN := Lib.hid hwn
      clear hwn
      go_wp2_with fail
      refine (Move_at a d ⟨a0, a1, a2, a3, g, n, o⟩ h 2 ws (by unfold mvErr; rw [if_pos HG.out, HWN.out]; rfl) (by unfold mvW; rw [if_pos HG.out, HWN.out]; rfl)).mono ?_
      rintro e w2 ⟨rfl, h2, k⟩
      clear c0 c1 c2 c3 c4 c5 c6
      replace hB := k.blk hB (fun h => by first | omega | (obtain ⟨h1, h2⟩ := h; omega))
      replace hS := hS.keep k (fun i h1 h2 => by first | omega | (obtain ⟨h3, h4⟩ := h1; obtain ⟨h5, h6⟩ := h2; omega))
      clear k
      clear h
      have c0 := hB.cell 0
      have c1 := hB.cell 1
      have c2 := hB.cell 2
      have c3 := hB.cell 3
      have c4 := hB.cell 4
      have c5 := hB.cell 5
      have c6 := hB.cell 6
      simp at c0 c1 c2 c3 c4 c5 c6
      go_wp2_with fail
      refine (RGood_r ⟨a0, a1, a2, a3, g, n, o⟩ _ true (by simpa using HG.out)).mono ?_
      rintro e w3 ⟨rfl, k⟩
      clear c0 c1 c2 c3 c4 c5 c6
      replace h2 := h2.stay k
      replace hB := k.blk hB (fun h => h)
      replace hS := hS.keep k (fun _ _ h => h)
      clear k
      have c0 := hB.cell 0
      simp at c0
      go_wp2_with fail
      refine (awake_calls _).mono ?_
      rintro e w4 ⟨rfl, k⟩
      clear c0
      replace h2 := h2.stay k
      replace hB := k.blk hB (fun h => h)
      replace hS := hS.keep k (fun _ _ h => h)
      clear k
      go_wp2_with fail
      refine (words_at h2 (by omega)).mono ?_
      rintro e w5 ⟨v5, rfl, hv5, h5, k⟩
      replace hB := k.blk hB (fun h => by first | omega | (obtain ⟨h1, h2⟩ := h; omega))
      replace hS := hS.keep k (fun i h1 h2 => by first | omega | (obtain ⟨h3, h4⟩ := h1; obtain ⟨h5, h6⟩ := h2; omega))
      clear k h2
      go_wp2_with fail
      refine (same_r _ hv5 hS rfl).mono ?_
      rintro e w6 ⟨rfl, nn, hw6⟩
      have hh : Below w.heap.size w w6 := by rw [hw6]; exact (h5.drewN nn).below
      clear hw6
      go_wp2_with fail
      go_ret
      exact ⟨by simp, hh⟩
    · as_aux_lemma =>
      have d0 : decide (a < 0) = false := by simp; omega
      have d1 : decide (d < 0) = false := by simp; omega
      have d2 : decide ((N : Int) < a) = true := by simp; omega
      go_enter Try.func10, Try.ntmps10
      have hB := Blk.new w 44 #[.int .i64 a0, .int .i64 a1, .int .i64 a2, .int .i64 a3, .bool g, .bool n, .bool o]
      have kw := (Keep.refl (fun _ => False) w).alloc (.cells #[.int .i64 a0, .int .i64 a1, .int .i64 a2, .int .i64 a3, .bool g, .bool n, .bool o] 44)
      go_wp2_with fail
      refine (filled_at (N : Int) s kw (by omega) (by omega) HS.out).mono ?_
      rintro e w1 ⟨b, G, Hh, v, ws, rfl, hl, h, hS, k, hG, hH, hwb⟩
      replace hB := k.blk hB (fun h => h)
      rw [show (w.alloc (.cells #[.int .i64 a0, .int .i64 a1, .int .i64 a2, .int .i64 a3, .bool g, .bool n, .bool o] 44)).heap.size = w.heap.size + 1 from by show (w.heap.push _).size = _; rw [Array.size_push]] at h hG
      clear k kw
      obtain ⟨A, c, rfl, hS1, hS2⟩ := hS
      have hlN : ws.length = N := by omega
      subst hlN
      have hS : SL w1 (fun i => G ≤ i ∧ i < Hh) .u64 (.slice A ws.length c) ws := ⟨A, c, rfl, hS1, hS2⟩
      have hwl : G ≤ w1.heap.size := h.2.2.2
      clear hS2 hl
      have c0 := hB.cell 0
      have c1 := hB.cell 1
      have c2 := hB.cell 2
      have c3 := hB.cell 3
      have c4 := hB.cell 4
      have c5 := hB.cell 5
      have c6 := hB.cell 6
      simp at c0 c1 c2 c3 c4 c5 c6
      have hwn : (within ws.length a (a0 + 2) && within ws.length d (a0 + 2)) = false := by
        by_cases hq : within ws.length a (a0 + 2) = true
        · rw [hq, Bool.true_and]; have hq' := Go.Proofs.Ytfaffpmmjlddeaa.Ar.within_iff.1 hq; exact Go.Proofs.Ytfaffpmmjlddeaa.Ar.within_not (by omega)
        · rw [Bool.not_eq_true] at hq; rw [hq, Bool.false_and]
      have HWN := Lib.hid hwn
      clear hwn
      go_wp2_with fail
      refine (Move_at a d ⟨a0, a1, a2, a3, g, n, o⟩ h 2 ws (by unfold mvErr; rw [if_pos HG.out, HWN.out]; rfl) (by unfold mvW; rw [if_pos HG.out, HWN.out]; rfl)).mono ?_
      rintro e w2 ⟨rfl, h2, k⟩
      clear c0 c1 c2 c3 c4 c5 c6
      replace hB := k.blk hB (fun h => by first | omega | (obtain ⟨h1, h2⟩ := h; omega))
      replace hS := hS.keep k (fun i h1 h2 => by first | omega | (obtain ⟨h3, h4⟩ := h1; obtain ⟨h5, h6⟩ := h2; omega))
      clear k
      clear h
      have c0 := hB.cell 0
      have c1 := hB.cell 1
      have c2 := hB.cell 2
      have c3 := hB.cell 3
      have c4 := hB.cell 4
      have c5 := hB.cell 5
      have c6 := hB.cell 6
      simp at c0 c1 c2 c3 c4 c5 c6
      go_wp2_with fail
      refine (RGood_r ⟨a0, a1, a2, a3, g, n, o⟩ _ true (by simpa using HG.out)).mono ?_
      rintro e w3 ⟨rfl, k⟩
      clear c0 c1 c2 c3 c4 c5 c6
      replace h2 := h2.stay k
      replace hB := k.blk hB (fun h => h)
      replace hS := hS.keep k (fun _ _ h => h)
      clear k
      have c0 := hB.cell 0
      simp at c0
      go_wp2_with fail
      refine (awake_calls _).mono ?_
      rintro e w4 ⟨rfl, k⟩
      clear c0
      replace h2 := h2.stay k
      replace hB := k.blk hB (fun h => h)
      replace hS := hS.keep k (fun _ _ h => h)
      clear k
      go_wp2_with fail
      refine (words_at h2 (by omega)).mono ?_
      rintro e w5 ⟨v5, rfl, hv5, h5, k⟩
      replace hB := k.blk hB (fun h => by first | omega | (obtain ⟨h1, h2⟩ := h; omega))
      replace hS := hS.keep k (fun i h1 h2 => by first | omega | (obtain ⟨h3, h4⟩ := h1; obtain ⟨h5, h6⟩ := h2; omega))
      clear k h2
      go_wp2_with fail
      refine (same_r _ hv5 hS rfl).mono ?_
      rintro e w6 ⟨rfl, nn, hw6⟩
      have hh : Below w.heap.size w w6 := by rw [hw6]; exact (h5.drewN nn).below
      clear hw6
      go_wp2_with fail
      go_ret
      exact ⟨by simp, hh⟩
    · as_aux_lemma =>
      have d0 : decide (a < 0) = false := by simp; omega
      have d1 : decide (d < 0) = false := by simp; omega
      have d2 : decide ((N : Int) < a) = false := by simp; omega
      have d3 : decide ((N : Int) < d) = true := by simp; omega
      go_enter Try.func10, Try.ntmps10
      have hB := Blk.new w 44 #[.int .i64 a0, .int .i64 a1, .int .i64 a2, .int .i64 a3, .bool g, .bool n, .bool o]
      have kw := (Keep.refl (fun _ => False) w).alloc (.cells #[.int .i64 a0, .int .i64 a1, .int .i64 a2, .int .i64 a3, .bool g, .bool n, .bool o] 44)
      go_wp2_with fail
      refine (filled_at (N : Int) s kw (by omega) (by omega) HS.out).mono ?_
      rintro e w1 ⟨b, G, Hh, v, ws, rfl, hl, h, hS, k, hG, hH, hwb⟩
      replace hB := k.blk hB (fun h => h)
      rw [show (w.alloc (.cells #[.int .i64 a0, .int .i64 a1, .int .i64 a2, .int .i64 a3, .bool g, .bool n, .bool o] 44)).heap.size = w.heap.size + 1 from by show (w.heap.push _).size = _; rw [Array.size_push]] at h hG
      clear k kw
      obtain ⟨A, c, rfl, hS1, hS2⟩ := hS
      have hlN : ws.length = N := by omega
      subst hlN
      have hS : SL w1 (fun i => G ≤ i ∧ i < Hh) .u64 (.slice A ws.length c) ws := ⟨A, c, rfl, hS1, hS2⟩
      have hwl : G ≤ w1.heap.size := h.2.2.2
      clear hS2 hl
      have c0 := hB.cell 0
      have c1 := hB.cell 1
      have c2 := hB.cell 2
      have c3 := hB.cell 3
      have c4 := hB.cell 4
      have c5 := hB.cell 5
      have c6 := hB.cell 6
      simp at c0 c1 c2 c3 c4 c5 c6
      have hwn : (within ws.length a (a0 + 2) && within ws.length d (a0 + 2)) = false := by
        by_cases hq : within ws.length a (a0 + 2) = true
        · rw [hq, Bool.true_and]; have hq' := Go.Proofs.Ytfaffpmmjlddeaa.Ar.within_iff.1 hq; exact Go.Proofs.Ytfaffpmmjlddeaa.Ar.within_not (by omega)
        · rw [Bool.not_eq_true] at hq; rw [hq, Bool.false_and]
      have HWN := Lib.hid hwn
      clear hwn
      go_wp2_with fail
      refine (Move_at a d ⟨a0, a1, a2, a3, g, n, o⟩ h 2 ws (by unfold mvErr; rw [if_pos HG.out, HWN.out]; rfl) (by unfold mvW; rw [if_pos HG.out, HWN.out]; rfl)).mono ?_
      rintro e w2 ⟨rfl, h2, k⟩
      clear c0 c1 c2 c3 c4 c5 c6
      replace hB := k.blk hB (fun h => by first | omega | (obtain ⟨h1, h2⟩ := h; omega))
      replace hS := hS.keep k (fun i h1 h2 => by first | omega | (obtain ⟨h3, h4⟩ := h1; obtain ⟨h5, h6⟩ := h2; omega))
      clear k
      clear h
      have c0 := hB.cell 0
      have c1 := hB.cell 1
      have c2 := hB.cell 2
      have c3 := hB.cell 3
      have c4 := hB.cell 4
      have c5 := hB.cell 5
      have c6 := hB.cell 6
      simp at c0 c1 c2 c3 c4 c5 c6
      go_wp2_with fail
      refine (RGood_r ⟨a0, a1, a2, a3, g, n, o⟩ _ true (by simpa using HG.out)).mono ?_
      rintro e w3 ⟨rfl, k⟩
      clear c0 c1 c2 c3 c4 c5 c6
      replace h2 := h2.stay k
      replace hB := k.blk hB (fun h => h)
      replace hS := hS.keep k (fun _ _ h => h)
      clear k
      have c0 := hB.cell 0
      simp at c0
      go_wp2_with fail
      refine (awake_calls _).mono ?_
      rintro e w4 ⟨rfl, k⟩
      clear c0
      replace h2 := h2.stay k
      replace hB := k.blk hB (fun h => h)
      replace hS := hS.keep k (fun _ _ h => h)
      clear k
      go_wp2_with fail
      refine (words_at h2 (by omega)).mono ?_
      rintro e w5 ⟨v5, rfl, hv5, h5, k⟩
      replace hB := k.blk hB (fun h => by first | omega | (obtain ⟨h1, h2⟩ := h; omega))
      replace hS := hS.keep k (fun i h1 h2 => by first | omega | (obtain ⟨h3, h4⟩ := h1; obtain ⟨h5, h6⟩ := h2; omega))
      clear k h2
      go_wp2_with fail
      refine (same_r _ hv5 hS rfl).mono ?_
      rintro e w6 ⟨rfl, nn, hw6⟩
      have hh : Below w.heap.size w w6 := by rw [hw6]; exact (h5.drewN nn).below
      clear hw6
      go_wp2_with fail
      go_ret
      exact ⟨by simp, hh⟩
    · as_aux_lemma =>
      have d0 : decide (a < 0) = false := by simp; omega
      have d1 : decide (d < 0) = false := by simp; omega
      have d2 : decide ((N : Int) < a) = false := by simp; omega
      have d3 : decide ((N : Int) < d) = false := by simp; omega
      have d4 : decide ((N : Int) - a < a0 + 2) = true := by simp; omega
      go_enter Try.func10, Try.ntmps10
      have hB := Blk.new w 44 #[.int .i64 a0, .int .i64 a1, .int .i64 a2, .int .i64 a3, .bool g, .bool n, .bool o]
      have kw := (Keep.refl (fun _ => False) w).alloc (.cells #[.int .i64 a0, .int .i64 a1, .int .i64 a2, .int .i64 a3, .bool g, .bool n, .bool o] 44)
      go_wp2_with fail
      refine (filled_at (N : Int) s kw (by omega) (by omega) HS.out).mono ?_
      rintro e w1 ⟨b, G, Hh, v, ws, rfl, hl, h, hS, k, hG, hH, hwb⟩
      replace hB := k.blk hB (fun h => h)
      rw [show (w.alloc (.cells #[.int .i64 a0, .int .i64 a1, .int .i64 a2, .int .i64 a3, .bool g, .bool n, .bool o] 44)).heap.size = w.heap.size + 1 from by show (w.heap.push _).size = _; rw [Array.size_push]] at h hG
      clear k kw
      obtain ⟨A, c, rfl, hS1, hS2⟩ := hS
      have hlN : ws.length = N := by omega
      subst hlN
      have hS : SL w1 (fun i => G ≤ i ∧ i < Hh) .u64 (.slice A ws.length c) ws := ⟨A, c, rfl, hS1, hS2⟩
      have hwl : G ≤ w1.heap.size := h.2.2.2
      clear hS2 hl
      have c0 := hB.cell 0
      have c1 := hB.cell 1
      have c2 := hB.cell 2
      have c3 := hB.cell 3
      have c4 := hB.cell 4
      have c5 := hB.cell 5
      have c6 := hB.cell 6
      simp at c0 c1 c2 c3 c4 c5 c6
      have hwn : (within ws.length a (a0 + 2) && within ws.length d (a0 + 2)) = false := by
        by_cases hq : within ws.length a (a0 + 2) = true
        · rw [hq, Bool.true_and]; have hq' := Go.Proofs.Ytfaffpmmjlddeaa.Ar.within_iff.1 hq; exact Go.Proofs.Ytfaffpmmjlddeaa.Ar.within_not (by omega)
        · rw [Bool.not_eq_true] at hq; rw [hq, Bool.false_and]
      have HWN := Lib.hid hwn
      clear hwn
      go_wp2_with fail
      refine (Move_at a d ⟨a0, a1, a2, a3, g, n, o⟩ h 2 ws (by unfold mvErr; rw [if_pos HG.out, HWN.out]; rfl) (by unfold mvW; rw [if_pos HG.out, HWN.out]; rfl)).mono ?_
      rintro e w2 ⟨rfl, h2, k⟩
      clear c0 c1 c2 c3 c4 c5 c6
      replace hB := k.blk hB (fun h => by first | omega | (obtain ⟨h1, h2⟩ := h; omega))
      replace hS := hS.keep k (fun i h1 h2 => by first | omega | (obtain ⟨h3, h4⟩ := h1; obtain ⟨h5, h6⟩ := h2; omega))
      clear k
      clear h
      have c0 := hB.cell 0
      have c1 := hB.cell 1
      have c2 := hB.cell 2
      have c3 := hB.cell 3
      have c4 := hB.cell 4
      have c5 := hB.cell 5
      have c6 := hB.cell 6
      simp at c0 c1 c2 c3 c4 c5 c6
      go_wp2_with fail
      refine (RGood_r ⟨a0, a1, a2, a3, g, n, o⟩ _ true (by simpa using HG.out)).mono ?_
      rintro e w3 ⟨rfl, k⟩
      clear c0 c1 c2 c3 c4 c5 c6
      replace h2 := h2.stay k
      replace hB := k.blk hB (fun h => h)
      replace hS := hS.keep k (fun _ _ h => h)
      clear k
      have c0 := hB.cell 0
      simp at c0
      go_wp2_with fail
      refine (awake_calls _).mono ?_
      rintro e w4 ⟨rfl, k⟩
      clear c0
      replace h2 := h2.stay k
      replace hB := k.blk hB (fun h => h)
      replace hS := hS.keep k (fun _ _ h => h)
      clear k
      go_wp2_with fail
      refine (words_at h2 (by omega)).mono ?_
      rintro e w5 ⟨v5, rfl, hv5, h5, k⟩
      replace hB := k.blk hB (fun h => by first | omega | (obtain ⟨h1, h2⟩ := h; omega))
      replace hS := hS.keep k (fun i h1 h2 => by first | omega | (obtain ⟨h3, h4⟩ := h1; obtain ⟨h5, h6⟩ := h2; omega))
      clear k h2
      go_wp2_with fail
      refine (same_r _ hv5 hS rfl).mono ?_
      rintro e w6 ⟨rfl, nn, hw6⟩
      have hh : Below w.heap.size w w6 := by rw [hw6]; exact (h5.drewN nn).below
      clear hw6
      go_wp2_with fail
      go_ret
      exact ⟨by simp, hh⟩
    · as_aux_lemma =>
      have d0 : decide (a < 0) = false := by simp; omega
      have d1 : decide (d < 0) = false := by simp; omega
      have d2 : decide ((N : Int) < a) = false := by simp; omega
      have d3 : decide ((N : Int) < d) = false := by simp; omega
      have d4 : decide ((N : Int) - a < a0 + 2) = false := by simp; omega
      have d5 : decide ((N : Int) - d < a0 + 2) = true := by simp; omega
      go_enter Try.func10, Try.ntmps10
      have hB := Blk.new w 44 #[.int .i64 a0, .int .i64 a1, .int .i64 a2, .int .i64 a3, .bool g, .bool n, .bool o]
      have kw := (Keep.refl (fun _ => False) w).alloc (.cells #[.int .i64 a0, .int .i64 a1, .int .i64 a2, .int .i64 a3, .bool g, .bool n, .bool o] 44)
      go_wp2_with fail
      refine (filled_at (N : Int) s kw (by omega) (by omega) HS.out).mono ?_
      rintro e w1 ⟨b, G, Hh, v, ws, rfl, hl, h, hS, k, hG, hH, hwb⟩
      replace hB := k.blk hB (fun h => h)
      rw [show (w.alloc (.cells #[.int .i64 a0, .int .i64 a1, .int .i64 a2, .int .i64 a3, .bool g, .bool n, .bool o] 44)).heap.size = w.heap.size + 1 from by show (w.heap.push _).size = _; rw [Array.size_push]] at h hG
      clear k kw
      obtain ⟨A, c, rfl, hS1, hS2⟩ := hS
      have hlN : ws.length = N := by omega
      subst hlN
      have hS : SL w1 (fun i => G ≤ i ∧ i < Hh) .u64 (.slice A ws.length c) ws := ⟨A, c, rfl, hS1, hS2⟩
      have hwl : G ≤ w1.heap.size := h.2.2.2
      clear hS2 hl
      have c0 := hB.cell 0
      have c1 := hB.cell 1
      have c2 := hB.cell 2
      have c3 := hB.cell 3
      have c4 := hB.cell 4
      have c5 := hB.cell 5
      have c6 := hB.cell 6
      simp at c0 c1 c2 c3 c4 c5 c6
      have hwn : (within ws.length a (a0 + 2) && within ws.length d (a0 + 2)) = false := by
        by_cases hq : within ws.length a (a0 + 2) = true
        · rw [hq, Bool.true_and]; have hq' := Go.Proofs.Ytfaffpmmjlddeaa.Ar.within_iff.1 hq; exact Go.Proofs.Ytfaffpmmjlddeaa.Ar.within_not (by omega)
        · rw [Bool.not_eq_true] at hq; rw [hq, Bool.false_and]
      have HWN := Lib.hid hwn
      clear hwn
      go_wp2_with fail
      refine (Move_at a d ⟨a0, a1, a2, a3, g, n, o⟩ h 2 ws (by unfold mvErr; rw [if_pos HG.out, HWN.out]; rfl) (by unfold mvW; rw [if_pos HG.out, HWN.out]; rfl)).mono ?_
      rintro e w2 ⟨rfl, h2, k⟩
      clear c0 c1 c2 c3 c4 c5 c6
      replace hB := k.blk hB (fun h => by first | omega | (obtain ⟨h1, h2⟩ := h; omega))
      replace hS := hS.keep k (fun i h1 h2 => by first | omega | (obtain ⟨h3, h4⟩ := h1; obtain ⟨h5, h6⟩ := h2; omega))
      clear k
      clear h
      have c0 := hB.cell 0
      have c1 := hB.cell 1
      have c2 := hB.cell 2
      have c3 := hB.cell 3
      have c4 := hB.cell 4
      have c5 := hB.cell 5
      have c6 := hB.cell 6
      simp at c0 c1 c2 c3 c4 c5 c6
      go_wp2_with fail
      refine (RGood_r ⟨a0, a1, a2, a3, g, n, o⟩ _ true (by simpa using HG.out)).mono ?_
      rintro e w3 ⟨rfl, k⟩
      clear c0 c1 c2 c3 c4 c5 c6
      replace h2 := h2.stay k
      replace hB := k.blk hB (fun h => h)
      replace hS := hS.keep k (fun _ _ h => h)
      clear k
      have c0 := hB.cell 0
      simp at c0
      go_wp2_with fail
      refine (awake_calls _).mono ?_
      rintro e w4 ⟨rfl, k⟩
      clear c0
      replace h2 := h2.stay k
      replace hB := k.blk hB (fun h => h)
      replace hS := hS.keep k (fun _ _ h => h)
      clear k
      go_wp2_with fail
      refine (words_at h2 (by omega)).mono ?_
      rintro e w5 ⟨v5, rfl, hv5, h5, k⟩
      replace hB := k.blk hB (fun h => by first | omega | (obtain ⟨h1, h2⟩ := h; omega))
      replace hS := hS.keep k (fun i h1 h2 => by first | omega | (obtain ⟨h3, h4⟩ := h1; obtain ⟨h5, h6⟩ := h2; omega))
      clear k h2
      go_wp2_with fail
      refine (same_r _ hv5 hS rfl).mono ?_
      rintro e w6 ⟨rfl, nn, hw6⟩
      have hh : Below w.heap.size w w6 := by rw [hw6]; exact (h5.drewN nn).below
      clear hw6
      go_wp2_with fail
      go_ret
      exact ⟨by simp, hh⟩
    · rcases (by omega : (a < d + (a0 + 2) ∧ d < a + (a0 + 2)) ∨ ¬ a < d + (a0 + 2) ∨ (a < d + (a0 + 2) ∧ ¬ d < a + (a0 + 2))) with ⟨r0, r1⟩ | r0 | ⟨r0, r1⟩
      · as_aux_lemma =>
        have d0 : decide (a < 0) = false := by simp; omega
        have d1 : decide (d < 0) = false := by simp; omega
        have d2 : decide ((N : Int) < a) = false := by simp; omega
        have d3 : decide ((N : Int) < d) = false := by simp; omega
        have d4 : decide ((N : Int) - a < a0 + 2) = false := by simp; omega
        have d5 : decide ((N : Int) - d < a0 + 2) = false := by simp; omega
        have r2 : decide (a < d + (a0 + 2)) = true := by simp; omega
        have r3 : decide (d < a + (a0 + 2)) = true := by simp; omega
        go_enter Try.func10, Try.ntmps10
        have hB := Blk.new w 44 #[.int .i64 a0, .int .i64 a1, .int .i64 a2, .int .i64 a3, .bool g, .bool n, .bool o]
        have kw := (Keep.refl (fun _ => False) w).alloc (.cells #[.int .i64 a0, .int .i64 a1, .int .i64 a2, .int .i64 a3, .bool g, .bool n, .bool o] 44)
        go_wp2_with fail
        refine (filled_at (N : Int) s kw (by omega) (by omega) HS.out).mono ?_
        rintro e w1 ⟨b, G, Hh, v, ws, rfl, hl, h, hS, k, hG, hH, hwb⟩
        replace hB := k.blk hB (fun h => h)
        rw [show (w.alloc (.cells #[.int .i64 a0, .int .i64 a1, .int .i64 a2, .int .i64 a3, .bool g, .bool n, .bool o] 44)).heap.size = w.heap.size + 1 from by show (w.heap.push _).size = _; rw [Array.size_push]] at h hG
        clear k kw
        obtain ⟨A, c, rfl, hS1, hS2⟩ := hS
        have hlN : ws.length = N := by omega
        subst hlN
        have hS : SL w1 (fun i => G ≤ i ∧ i < Hh) .u64 (.slice A ws.length c) ws := ⟨A, c, rfl, hS1, hS2⟩
        have hwl : G ≤ w1.heap.size := h.2.2.2
        clear hS2 hl
        have c0 := hB.cell 0
        have c1 := hB.cell 1
        have c2 := hB.cell 2
        have c3 := hB.cell 3
        have c4 := hB.cell 4
        have c5 := hB.cell 5
        have c6 := hB.cell 6
        simp at c0 c1 c2 c3 c4 c5 c6
        have hw1 : within ws.length a (a0 + 2) = true := Go.Proofs.Ytfaffpmmjlddeaa.Ar.within_yes (by omega)
        have hw2 : within ws.length d (a0 + 2) = true := Go.Proofs.Ytfaffpmmjlddeaa.Ar.within_yes (by omega)
        have HW1 := Lib.hid hw1
        have HW2 := Lib.hid hw2
        clear hw1 hw2
        go_wp2_with fail
        refine (Move_at a d ⟨a0, a1, a2, a3, g, n, o⟩ h 0 _ (by unfold mvErr; rw [if_pos HG.out, HW1.out, HW2.out]; rfl) rfl).mono ?_
        rintro e w2 ⟨rfl, h2, k⟩
        clear c0 c1 c2 c3 c4 c5 c6
        replace hB := k.blk hB (fun h => by first | omega | (obtain ⟨h1, h2⟩ := h; omega))
        replace hS := hS.keep k (fun i h1 h2 => by first | omega | (obtain ⟨h3, h4⟩ := h1; obtain ⟨h5, h6⟩ := h2; omega))
        have hHa := Nat.le_trans hH k.size
        clear h k
        have c0 := hB.cell 0
        have c1 := hB.cell 1
        have c2 := hB.cell 2
        have c3 := hB.cell 3
        have c4 := hB.cell 4
        have c5 := hB.cell 5
        have c6 := hB.cell 6
        simp at c0 c1 c2 c3 c4 c5 c6
        go_wp2_with fail
        refine (RGood_r ⟨a0, a1, a2, a3, g, n, o⟩ _ true (by simpa using HG.out)).mono ?_
        rintro e w3 ⟨rfl, k⟩
        clear c0 c1 c2 c3 c4 c5 c6
        replace h2 := h2.stay k
        have hHs := Nat.le_trans hHa k.size
        clear hHa
        replace hB := k.blk hB (fun h => h)
        replace hS := hS.keep k (fun _ _ h => h)
        clear k
        have c0 := hB.cell 0
        simp at c0
        go_wp2_with fail
        refine (awake_calls _).mono ?_
        rintro e w4 ⟨rfl, k⟩
        clear c0
        have hh := h2.stay k
        clear k
        go_wp2_with fail
        go_ret
        exact ⟨by simp, hh.below⟩
      · as_aux_lemma =>
        have d0 : decide (a < 0) = false := by simp; omega
        have d1 : decide (d < 0) = false := by simp; omega
        have d2 : decide ((N : Int) < a) = false := by simp; omega
        have d3 : decide ((N : Int) < d) = false := by simp; omega
        have d4 : decide ((N : Int) - a < a0 + 2) = false := by simp; omega
        have d5 : decide ((N : Int) - d < a0 + 2) = false := by simp; omega
        have r2 : decide (a < d + (a0 + 2)) = false := by simp; omega
        go_enter Try.func10, Try.ntmps10
        have hB := Blk.new w 44 #[.int .i64 a0, .int .i64 a1, .int .i64 a2, .int .i64 a3, .bool g, .bool n, .bool o]
        have kw := (Keep.refl (fun _ => False) w).alloc (.cells #[.int .i64 a0, .int .i64 a1, .int .i64 a2, .int .i64 a3, .bool g, .bool n, .bool o] 44)
        go_wp2_with fail
        refine (filled_at (N : Int) s kw (by omega) (by omega) HS.out).mono ?_
        rintro e w1 ⟨b, G, Hh, v, ws, rfl, hl, h, hS, k, hG, hH, hwb⟩
        replace hB := k.blk hB (fun h => h)
        rw [show (w.alloc (.cells #[.int .i64 a0, .int .i64 a1, .int .i64 a2, .int .i64 a3, .bool g, .bool n, .bool o] 44)).heap.size = w.heap.size + 1 from by show (w.heap.push _).size = _; rw [Array.size_push]] at h hG
        clear k kw
        obtain ⟨A, c, rfl, hS1, hS2⟩ := hS
        have hlN : ws.length = N := by omega
        subst hlN
        have hS : SL w1 (fun i => G ≤ i ∧ i < Hh) .u64 (.slice A ws.length c) ws := ⟨A, c, rfl, hS1, hS2⟩
        have hwl : G ≤ w1.heap.size := h.2.2.2
        clear hS2 hl
        have c0 := hB.cell 0
        have c1 := hB.cell 1
        have c2 := hB.cell 2
        have c3 := hB.cell 3
        have c4 := hB.cell 4
        have c5 := hB.cell 5
        have c6 := hB.cell 6
        simp at c0 c1 c2 c3 c4 c5 c6
        have hw1 : within ws.length a (a0 + 2) = true := Go.Proofs.Ytfaffpmmjlddeaa.Ar.within_yes (by omega)
        have hw2 : within ws.length d (a0 + 2) = true := Go.Proofs.Ytfaffpmmjlddeaa.Ar.within_yes (by omega)
        have HW1 := Lib.hid hw1
        have HW2 := Lib.hid hw2
        clear hw1 hw2
        go_wp2_with fail
        refine (Move_at a d ⟨a0, a1, a2, a3, g, n, o⟩ h 0 _ (by unfold mvErr; rw [if_pos HG.out, HW1.out, HW2.out]; rfl) rfl).mono ?_
        rintro e w2 ⟨rfl, h2, k⟩
        clear c0 c1 c2 c3 c4 c5 c6
        replace hB := k.blk hB (fun h => by first | omega | (obtain ⟨h1, h2⟩ := h; omega))
        replace hS := hS.keep k (fun i h1 h2 => by first | omega | (obtain ⟨h3, h4⟩ := h1; obtain ⟨h5, h6⟩ := h2; omega))
        have hHa := Nat.le_trans hH k.size
        clear h k
        have c0 := hB.cell 0
        have c1 := hB.cell 1
        have c2 := hB.cell 2
        have c3 := hB.cell 3
        have c4 := hB.cell 4
        have c5 := hB.cell 5
        have c6 := hB.cell 6
        simp at c0 c1 c2 c3 c4 c5 c6
        go_wp2_with fail
        refine (RGood_r ⟨a0, a1, a2, a3, g, n, o⟩ _ true (by simpa using HG.out)).mono ?_
        rintro e w3 ⟨rfl, k⟩
        clear c0 c1 c2 c3 c4 c5 c6
        replace h2 := h2.stay k
        have hHs := Nat.le_trans hHa k.size
        clear hHa
        replace hB := k.blk hB (fun h => h)
        replace hS := hS.keep k (fun _ _ h => h)
        clear k
        have c0 := hB.cell 0
        simp at c0
        obtain ⟨ii, hi, hz, hs1, hby⟩ := info_parts info_u64
        generalize hmw : mvW ws a d ⟨a0, a1, a2, a3, g, n, o⟩ = ws2 at h2
        have HMW := Lib.hid hmw
        clear hmw
        obtain ⟨p, rfl⟩ : ∃ p : Nat, a = (p : Int) := ⟨a.toNat, by omega⟩
        obtain ⟨q, rfl⟩ : ∃ q : Nat, d = (q : Int) := ⟨d.toNat, by omega⟩
        have n1 : ¬ p + 1 = q := by omega
        have n2 : ¬ p = q := by omega
        have hE := Blk.new w3 24 (#[] : Array Value)
        have kE := (Keep.refl (fun _ => False) w3).alloc (.cells #[] 24)
        have hL : G ≤ w3.heap.size := h2.2.2.2
        replace h2 := h2.stay kE
        replace hB := kE.blk hB (fun h => h)
        replace hS := hS.alloc (.cells #[] 24)
        go_wp2_with (at_builtin; refine wpList_append_new rfl _ _ 35 rfl 24 ii (.int .u64 0) 8 Try.underlying35 hi hz hs1 hby rfl w3.heap.size hE rfl rfl hS ?c1 ?_)
        case c1 => omega
        intro A' c' w4 hq k4
        clear c0
        have hU : UR w4 w3.heap.size A' c' ws := (hq.bound).mono (fun i h => ⟨by have := h.1; omega, h.2⟩)
        replace h2 := h2.stay k4
        replace hB := k4.blk hB (fun h => h)
        replace hS := hS.keep k4 (fun _ _ h => h)
        clear hq k4 hE kE
        have hBlt := hB.lt
        have hBG : w.heap.size < G := by omega
        clear hBlt
        have hLH : Hh ≤ w3.heap.size := hHs
        generalize w3.heap.size = L at hU hL hLH ⊢
        clear hHs
        go_wp2_with fail
        go_loopg [16] (a0 + 2).toNat (fun gk i wr => ∃ k : Nat, (k : Int) + gk = a0 + 2 ∧ i = .int .i64 k ∧ UR wr L A' c' (cpy ws p q k) ∧ OAt w (w.heap.size + 1) G wr b ws2 ∧ Blk wr w.heap.size 44 #[.int .i64 a0, .int .i64 a1, .int .i64 a2, .int .i64 a3, .bool g, .bool n, .bool o] ∧ SL wr (fun i => G ≤ i ∧ i < Hh) .u64 (.slice A ws.length c) ws)
        case atStart => exact ⟨0, by omega, rfl, by rw [cpy_zero]; exact hU, h2, hB, hS⟩
        case round =>
          clear hU h2 hB hS
          obtain ⟨k, hg, rfl, hU, h2, hB, hS⟩ := hrel
          by_cases hc : (k : Int) < a0 + 2
          · have hzl : (cpy ws p q k).length = ws.length := cpy_len (by omega) (by omega)
            have hzn := cpy_next (ws := ws) (i := p) (j := q) (k := k) (by omega) (by omega)
            obtain ⟨gg, off, rfl, hg1, hg2, hcell, hfz, hset⟩ := hU.write (i := q + k) (by omega)
            have hset0 := hset (ws[p + k]?.getD 0)
            rw [hzn] at hset0
            have HZ := Lib.hid hzl
            clear hzl hzn hset
            generalize (cpy ws p q k)[q + k]?.getD 0 = z at hcell
            have hS' := hS
            obtain ⟨A9, c9, he9, _, hcc⟩ := hS'
            simp only [Value.slice.injEq, true_and] at he9
            obtain ⟨rfl, rfl⟩ := he9
            obtain ⟨b1, o1, rfl, hb1, hlt1, hcell1⟩ := hcc (by omega)
            have hsc := hcell1 (p + k) (by omega)
            clear hcell1 hcc
            generalize ws[p + k]?.getD 0 = y at hsc hset0
            have hfar := (Keep.refl (fun i => i = gg) wr).set_ (p := ⟨gg, off + (q + k), none⟩) (.inl rfl) (.int .u64 y)
            have h2' : OAt w (w.heap.size + 1) G (wr.setCell ⟨gg, off + (q + k), none⟩ (.int .u64 y)) b ws2 := ⟨h2.1.keep hfar (fun i h1 h2 => by have := h1.2; omega), h2.2.1.set_ (p := ⟨gg, off + (q + k), none⟩) (.inr (by simp; omega)) _, h2.2.2.1, by simpa [World.setCell] using h2.2.2.2⟩
            have hB' := hfar.blk hB (fun h => by omega)
            have hS2 := hS.keep hfar (fun i h1 h2 => by have := h1.2; omega)
            clear hfar
            go_wp2_with fail
            go_roundg (gk - 1)
            case measure => omega
            case rel => exact ⟨k + 1, by omega, by go_num, hset0, h2', hB', hS2⟩
          · obtain ⟨K, hK⟩ : ∃ K : Nat, a0 + 2 = (K : Int) := ⟨(a0 + 2).toNat, by omega⟩
            have hkK : k = K := by omega
            subst hkK
            clear hS
            have hzl : (cpy ws p q k).length = ws.length := cpy_len (by omega) (by omega)
            generalize hzz : cpy ws p q k = z0 at hU hzl
            have HZZ := Lib.hid hzz
            have HZL := Lib.hid hzl
            clear hzz hg hc
            have c0 := hB.cell 0
            have c1 := hB.cell 1
            have c2 := hB.cell 2
            have c3 := hB.cell 3
            have c4 := hB.cell 4
            have c5 := hB.cell 5
            have c6 := hB.cell 6
            simp at c0 c1 c2 c3 c4 c5 c6
            obtain ⟨y, hy⟩ : ∃ y, Hd.word ⟨a0, a1, a2, a3, g, n, o⟩ = y := ⟨_, rfl⟩
            have HY := Lib.hid hy
            clear hy
            go_wp2_with fail
            refine (RWord_r ⟨a0, a1, a2, a3, g, n, o⟩ _ HG.out y HY.out).mono ?_
            rintro e w5 ⟨rfl, k5⟩
            clear c0 c1 c2 c3 c4 c5 c6
            replace hB := k5.blk hB (fun h => h)
            replace h2 := h2.stay k5
            replace hU := hU.keep k5 (fun _ _ h => h)
            clear k5
            obtain ⟨gg, off, rfl, hg1, hg2, hcell, hfz, hset⟩ := hU.write (i := q) (by rw [hzl]; omega)
            have hU2 := hset y
            clear hset
            obtain ⟨hcell2, hfz2, _⟩ := hU.at_ (i := q + 1) (by rw [hzl]; omega)
            obtain ⟨hcell3, hfz3, _⟩ := hU.at_ (i := p + 1) (by rw [hzl]; omega)
            have hU3 := (hU2.at_ (i := q + 1) (by rw [List.length_set, hzl]; omega)).2.2 (q : Int)
            have hU4 := (hU3.at_ (i := p + 1) (by rw [List.length_set, List.length_set, hzl]; omega)).2.2 (q : Int)
            generalize z0[q]?.getD 0 = z1 at hcell
            generalize z0[q + 1]?.getD 0 = z2 at hcell2
            generalize z0[p + 1]?.getD 0 = z3 at hcell3
            have hfar := ((((Keep.refl (fun i => i = gg) w5).set_ (p := ⟨gg, off + q, none⟩) (.inl rfl) (.int .u64 y)).set_ (p := ⟨gg, off + (q + 1), none⟩) (.inl rfl) (.int .u64 (q : Int))).set_ (p := ⟨gg, off + (p + 1), none⟩) (.inl rfl) (.int .u64 (q : Int)))
            replace h2 : OAt w (w.heap.size + 1) G _ b ws2 := ⟨h2.1.keep hfar (fun i h1 h2 => by have := h1.2; omega), ((h2.2.1.set_ (p := ⟨gg, off + q, none⟩) (.inr (by simp; omega)) (.int .u64 y)).set_ (p := ⟨gg, off + (q + 1), none⟩) (.inr (by simp; omega)) (.int .u64 (q : Int))).set_ (p := ⟨gg, off + (p + 1), none⟩) (.inr (by simp; omega)) (.int .u64 (q : Int)), h2.2.2.1, by simpa [World.setCell] using h2.2.2.2⟩
            clear hU hU2 hU3 hfar hB
            have n3 : ¬ off + q = off + (p + 1) := by omega
            have n4 : ¬ off + (q + 1) = off + (p + 1) := by omega
            go_wp2_with fail
            generalize ((w5.setCell ⟨gg, off + q, none⟩ (.int .u64 y)).setCell ⟨gg, off + (q + 1), none⟩ (.int .u64 (q : Int))).setCell ⟨gg, off + (p + 1), none⟩ (.int .u64 (q : Int)) = w6 at h2 hU4 ⊢
            clear hcell hfz hcell2 hfz2 hcell3 hfz3 n3 n4
            have hws : ws2 = ((z0.set q y).set (q + 1) (q : Int)).set (p + 1) (q : Int) := by
              rw [← HMW.out, ← HZZ.out, ← HY.out]
              unfold mvW
              rw [if_pos HG.out, HW1.out, HW2.out, if_pos (by rfl)]
              simp only []
              rw [Int.toNat_natCast, Int.toNat_natCast, show (a0 + 2).toNat = k by omega, show ((p : Int) + 1).toNat = p + 1 by omega, show ((q : Int) + 1).toNat = q + 1 by omega]
            have HWS := Lib.hid hws
            have hl2 : ws2.length = ws.length := by rw [hws, List.length_set, List.length_set, List.length_set]; exact hzl
            have HL2 := Lib.hid hl2
            clear hws hl2 HMW HZZ hwb hzl
            refine (awake_calls _).mono ?_
            rintro e w10 ⟨rfl, k⟩
            replace h2 := h2.stay k
            replace hU4 := hU4.keep k (fun _ _ h => h)
            clear k
            go_wp2_with fail
            refine (words_at h2 (by rw [HL2.out]; omega)).mono ?_
            rintro e w11 ⟨v11, rfl, hv11, h11, k⟩
            replace hU4 := hU4.keep k (fun i h1 h2 => by first | omega | (obtain ⟨h3, h4⟩ := h1; obtain ⟨h5, h6⟩ := h2; omega))
            clear k h2
            have hSL := hU4.sl
            rw [List.length_set, List.length_set, List.length_set, HZL.out] at hSL
            go_wp2_with fail
            refine (same_r _ hv11 hSL HWS.out).mono ?_
            rintro e w12 ⟨rfl, nn, hw12⟩
            have hh : OAt w (w.heap.size + 1) G w12 b ws2 := by rw [hw12]; exact h11.drewN nn
            clear hw12 h11 hv11 hSL hU4
            go_wp2_with fail
            go_ret
            exact ⟨by simp, hh.below⟩
      · as_aux_lemma =>
        have d0 : decide (a < 0) = false := by simp; omega
        have d1 : decide (d < 0) = false := by simp; omega
        have d2 : decide ((N : Int) < a) = false := by simp; omega
        have d3 : decide ((N : Int) < d) = false := by simp; omega
        have d4 : decide ((N : Int) - a < a0 + 2) = false := by simp; omega
        have d5 : decide ((N : Int) - d < a0 + 2) = false := by simp; omega
        have r2 : decide (a < d + (a0 + 2)) = true := by simp; omega
        have r3 : decide (d < a + (a0 + 2)) = false := by simp; omega
        go_enter Try.func10, Try.ntmps10
        have hB := Blk.new w 44 #[.int .i64 a0, .int .i64 a1, .int .i64 a2, .int .i64 a3, .bool g, .bool n, .bool o]
        have kw := (Keep.refl (fun _ => False) w).alloc (.cells #[.int .i64 a0, .int .i64 a1, .int .i64 a2, .int .i64 a3, .bool g, .bool n, .bool o] 44)
        go_wp2_with fail
        refine (filled_at (N : Int) s kw (by omega) (by omega) HS.out).mono ?_
        rintro e w1 ⟨b, G, Hh, v, ws, rfl, hl, h, hS, k, hG, hH, hwb⟩
        replace hB := k.blk hB (fun h => h)
        rw [show (w.alloc (.cells #[.int .i64 a0, .int .i64 a1, .int .i64 a2, .int .i64 a3, .bool g, .bool n, .bool o] 44)).heap.size = w.heap.size + 1 from by show (w.heap.push _).size = _; rw [Array.size_push]] at h hG
        clear k kw
        obtain ⟨A, c, rfl, hS1, hS2⟩ := hS
        have hlN : ws.length = N := by omega
        subst hlN
        have hS : SL w1 (fun i => G ≤ i ∧ i < Hh) .u64 (.slice A ws.length c) ws := ⟨A, c, rfl, hS1, hS2⟩
        have hwl : G ≤ w1.heap.size := h.2.2.2
        clear hS2 hl
        have c0 := hB.cell 0
        have c1 := hB.cell 1
        have c2 := hB.cell 2
        have c3 := hB.cell 3
        have c4 := hB.cell 4
        have c5 := hB.cell 5
        have c6 := hB.cell 6
        simp at c0 c1 c2 c3 c4 c5 c6
        have hw1 : within ws.length a (a0 + 2) = true := Go.Proofs.Ytfaffpmmjlddeaa.Ar.within_yes (by omega)
        have hw2 : within ws.length d (a0 + 2) = true := Go.Proofs.Ytfaffpmmjlddeaa.Ar.within_yes (by omega)
        have HW1 := Lib.hid hw1
        have HW2 := Lib.hid hw2
        clear hw1 hw2
        go_wp2_with fail
        refine (Move_at a d ⟨a0, a1, a2, a3, g, n, o⟩ h 0 _ (by unfold mvErr; rw [if_pos HG.out, HW1.out, HW2.out]; rfl) rfl).mono ?_
        rintro e w2 ⟨rfl, h2, k⟩
        clear c0 c1 c2 c3 c4 c5 c6
        replace hB := k.blk hB (fun h => by first | omega | (obtain ⟨h1, h2⟩ := h; omega))
        replace hS := hS.keep k (fun i h1 h2 => by first | omega | (obtain ⟨h3, h4⟩ := h1; obtain ⟨h5, h6⟩ := h2; omega))
        have hHa := Nat.le_trans hH k.size
        clear h k
        have c0 := hB.cell 0
        have c1 := hB.cell 1
        have c2 := hB.cell 2
        have c3 := hB.cell 3
        have c4 := hB.cell 4
        have c5 := hB.cell 5
        have c6 := hB.cell 6
        simp at c0 c1 c2 c3 c4 c5 c6
        go_wp2_with fail
        refine (RGood_r ⟨a0, a1, a2, a3, g, n, o⟩ _ true (by simpa using HG.out)).mono ?_
        rintro e w3 ⟨rfl, k⟩
        clear c0 c1 c2 c3 c4 c5 c6
        replace h2 := h2.stay k
        have hHs := Nat.le_trans hHa k.size
        clear hHa
        replace hB := k.blk hB (fun h => h)
        replace hS := hS.keep k (fun _ _ h => h)
        clear k
        have c0 := hB.cell 0
        simp at c0
        obtain ⟨ii, hi, hz, hs1, hby⟩ := info_parts info_u64
        generalize hmw : mvW ws a d ⟨a0, a1, a2, a3, g, n, o⟩ = ws2 at h2
        have HMW := Lib.hid hmw
        clear hmw
        obtain ⟨p, rfl⟩ : ∃ p : Nat, a = (p : Int) := ⟨a.toNat, by omega⟩
        obtain ⟨q, rfl⟩ : ∃ q : Nat, d = (q : Int) := ⟨d.toNat, by omega⟩
        have n1 : ¬ p + 1 = q := by omega
        have n2 : ¬ p = q := by omega
        have hE := Blk.new w3 24 (#[] : Array Value)
        have kE := (Keep.refl (fun _ => False) w3).alloc (.cells #[] 24)
        have hL : G ≤ w3.heap.size := h2.2.2.2
        replace h2 := h2.stay kE
        replace hB := kE.blk hB (fun h => h)
        replace hS := hS.alloc (.cells #[] 24)
        go_wp2_with (at_builtin; refine wpList_append_new rfl _ _ 35 rfl 24 ii (.int .u64 0) 8 Try.underlying35 hi hz hs1 hby rfl w3.heap.size hE rfl rfl hS ?c1 ?_)
        case c1 => omega
        intro A' c' w4 hq k4
        clear c0
        have hU : UR w4 w3.heap.size A' c' ws := (hq.bound).mono (fun i h => ⟨by have := h.1; omega, h.2⟩)
        replace h2 := h2.stay k4
        replace hB := k4.blk hB (fun h => h)
        replace hS := hS.keep k4 (fun _ _ h => h)
        clear hq k4 hE kE
        have hBlt := hB.lt
        have hBG : w.heap.size < G := by omega
        clear hBlt
        have hLH : Hh ≤ w3.heap.size := hHs
        generalize w3.heap.size = L at hU hL hLH ⊢
        clear hHs
        go_wp2_with fail
        go_loopg [16] (a0 + 2).toNat (fun gk i wr => ∃ k : Nat, (k : Int) + gk = a0 + 2 ∧ i = .int .i64 k ∧ UR wr L A' c' (cpy ws p q k) ∧ OAt w (w.heap.size + 1) G wr b ws2 ∧ Blk wr w.heap.size 44 #[.int .i64 a0, .int .i64 a1, .int .i64 a2, .int .i64 a3, .bool g, .bool n, .bool o] ∧ SL wr (fun i => G ≤ i ∧ i < Hh) .u64 (.slice A ws.length c) ws)
        case atStart => exact ⟨0, by omega, rfl, by rw [cpy_zero]; exact hU, h2, hB, hS⟩
        case round =>
          clear hU h2 hB hS
          obtain ⟨k, hg, rfl, hU, h2, hB, hS⟩ := hrel
          by_cases hc : (k : Int) < a0 + 2
          · have hzl : (cpy ws p q k).length = ws.length := cpy_len (by omega) (by omega)
            have hzn := cpy_next (ws := ws) (i := p) (j := q) (k := k) (by omega) (by omega)
            obtain ⟨gg, off, rfl, hg1, hg2, hcell, hfz, hset⟩ := hU.write (i := q + k) (by omega)
            have hset0 := hset (ws[p + k]?.getD 0)
            rw [hzn] at hset0
            have HZ := Lib.hid hzl
            clear hzl hzn hset
            generalize (cpy ws p q k)[q + k]?.getD 0 = z at hcell
            have hS' := hS
            obtain ⟨A9, c9, he9, _, hcc⟩ := hS'
            simp only [Value.slice.injEq, true_and] at he9
            obtain ⟨rfl, rfl⟩ := he9
            obtain ⟨b1, o1, rfl, hb1, hlt1, hcell1⟩ := hcc (by omega)
            have hsc := hcell1 (p + k) (by omega)
            clear hcell1 hcc
            generalize ws[p + k]?.getD 0 = y at hsc hset0
            have hfar := (Keep.refl (fun i => i = gg) wr).set_ (p := ⟨gg, off + (q + k), none⟩) (.inl rfl) (.int .u64 y)
            have h2' : OAt w (w.heap.size + 1) G (wr.setCell ⟨gg, off + (q + k), none⟩ (.int .u64 y)) b ws2 := ⟨h2.1.keep hfar (fun i h1 h2 => by have := h1.2; omega), h2.2.1.set_ (p := ⟨gg, off + (q + k), none⟩) (.inr (by simp; omega)) _, h2.2.2.1, by simpa [World.setCell] using h2.2.2.2⟩
            have hB' := hfar.blk hB (fun h => by omega)
            have hS2 := hS.keep hfar (fun i h1 h2 => by have := h1.2; omega)
            clear hfar
            go_wp2_with fail
            go_roundg (gk - 1)
            case measure => omega
            case rel => exact ⟨k + 1, by omega, by go_num, hset0, h2', hB', hS2⟩
          · obtain ⟨K, hK⟩ : ∃ K : Nat, a0 + 2 = (K : Int) := ⟨(a0 + 2).toNat, by omega⟩
            have hkK : k = K := by omega
            subst hkK
            clear hS
            have hzl : (cpy ws p q k).length = ws.length := cpy_len (by omega) (by omega)
            generalize hzz : cpy ws p q k = z0 at hU hzl
            have HZZ := Lib.hid hzz
            have HZL := Lib.hid hzl
            clear hzz hg hc
            have c0 := hB.cell 0
            have c1 := hB.cell 1
            have c2 := hB.cell 2
            have c3 := hB.cell 3
            have c4 := hB.cell 4
            have c5 := hB.cell 5
            have c6 := hB.cell 6
            simp at c0 c1 c2 c3 c4 c5 c6
            obtain ⟨y, hy⟩ : ∃ y, Hd.word ⟨a0, a1, a2, a3, g, n, o⟩ = y := ⟨_, rfl⟩
            have HY := Lib.hid hy
            clear hy
            go_wp2_with fail
            refine (RWord_r ⟨a0, a1, a2, a3, g, n, o⟩ _ HG.out y HY.out).mono ?_
            rintro e w5 ⟨rfl, k5⟩
            clear c0 c1 c2 c3 c4 c5 c6
            replace hB := k5.blk hB (fun h => h)
            replace h2 := h2.stay k5
            replace hU := hU.keep k5 (fun _ _ h => h)
            clear k5
            obtain ⟨gg, off, rfl, hg1, hg2, hcell, hfz, hset⟩ := hU.write (i := q) (by rw [hzl]; omega)
            have hU2 := hset y
            clear hset
            obtain ⟨hcell2, hfz2, _⟩ := hU.at_ (i := q + 1) (by rw [hzl]; omega)
            obtain ⟨hcell3, hfz3, _⟩ := hU.at_ (i := p + 1) (by rw [hzl]; omega)
            have hU3 := (hU2.at_ (i := q + 1) (by rw [List.length_set, hzl]; omega)).2.2 (q : Int)
            have hU4 := (hU3.at_ (i := p + 1) (by rw [List.length_set, List.length_set, hzl]; omega)).2.2 (q : Int)
            generalize z0[q]?.getD 0 = z1 at hcell
            generalize z0[q + 1]?.getD 0 = z2 at hcell2
            generalize z0[p + 1]?.getD 0 = z3 at hcell3
            have hfar := ((((Keep.refl (fun i => i = gg) w5).set_ (p := ⟨gg, off + q, none⟩) (.inl rfl) (.int .u64 y)).set_ (p := ⟨gg, off + (q + 1), none⟩) (.inl rfl) (.int .u64 (q : Int))).set_ (p := ⟨gg, off + (p + 1), none⟩) (.inl rfl) (.int .u64 (q : Int)))
            replace h2 : OAt w (w.heap.size + 1) G _ b ws2 := ⟨h2.1.keep hfar (fun i h1 h2 => by have := h1.2; omega), ((h2.2.1.set_ (p := ⟨gg, off + q, none⟩) (.inr (by simp; omega)) (.int .u64 y)).set_ (p := ⟨gg, off + (q + 1), none⟩) (.inr (by simp; omega)) (.int .u64 (q : Int))).set_ (p := ⟨gg, off + (p + 1), none⟩) (.inr (by simp; omega)) (.int .u64 (q : Int)), h2.2.2.1, by simpa [World.setCell] using h2.2.2.2⟩
            clear hU hU2 hU3 hfar hB
            have n3 : ¬ off + q = off + (p + 1) := by omega
            have n4 : ¬ off + (q + 1) = off + (p + 1) := by omega
            go_wp2_with fail
            generalize ((w5.setCell ⟨gg, off + q, none⟩ (.int .u64 y)).setCell ⟨gg, off + (q + 1), none⟩ (.int .u64 (q : Int))).setCell ⟨gg, off + (p + 1), none⟩ (.int .u64 (q : Int)) = w6 at h2 hU4 ⊢
            clear hcell hfz hcell2 hfz2 hcell3 hfz3 n3 n4
            have hws : ws2 = ((z0.set q y).set (q + 1) (q : Int)).set (p + 1) (q : Int) := by
              rw [← HMW.out, ← HZZ.out, ← HY.out]
              unfold mvW
              rw [if_pos HG.out, HW1.out, HW2.out, if_pos (by rfl)]
              simp only []
              rw [Int.toNat_natCast, Int.toNat_natCast, show (a0 + 2).toNat = k by omega, show ((p : Int) + 1).toNat = p + 1 by omega, show ((q : Int) + 1).toNat = q + 1 by omega]
            have HWS := Lib.hid hws
            have hl2 : ws2.length = ws.length := by rw [hws, List.length_set, List.length_set, List.length_set]; exact hzl
            have HL2 := Lib.hid hl2
            clear hws hl2 HMW HZZ hwb hzl
            refine (awake_calls _).mono ?_
            rintro e w10 ⟨rfl, k⟩
            replace h2 := h2.stay k
            replace hU4 := hU4.keep k (fun _ _ h => h)
            clear k
            go_wp2_with fail
            refine (words_at h2 (by rw [HL2.out]; omega)).mono ?_
            rintro e w11 ⟨v11, rfl, hv11, h11, k⟩
            replace hU4 := hU4.keep k (fun i h1 h2 => by first | omega | (obtain ⟨h3, h4⟩ := h1; obtain ⟨h5, h6⟩ := h2; omega))
            clear k h2
            have hSL := hU4.sl
            rw [List.length_set, List.length_set, List.length_set, HZL.out] at hSL
            go_wp2_with fail
            refine (same_r _ hv11 hSL HWS.out).mono ?_
            rintro e w12 ⟨rfl, nn, hw12⟩
            have hh : OAt w (w.heap.size + 1) G w12 b ws2 := by rw [hw12]; exact h11.drewN nn
            clear hw12 h11 hv11 hSL hU4
            go_wp2_with fail
            go_ret
            exact ⟨by simp, hh.below⟩
  · have HG := Lib.hid hg
    clear hg
    go_enter Try.func10, Try.ntmps10
    have hB := Blk.new w 44 #[.int .i64 a0, .int .i64 a1, .int .i64 a2, .int .i64 a3, .bool g, .bool n, .bool o]
    have kw := (Keep.refl (fun _ => False) w).alloc (.cells #[.int .i64 a0, .int .i64 a1, .int .i64 a2, .int .i64 a3, .bool g, .bool n, .bool o] 44)
    go_wp2_with fail
    refine (filled_at (N : Int) s kw (by omega) (by omega) HS.out).mono ?_
    rintro e w1 ⟨b, G, Hh, v, ws, rfl, hl, h, hS, k, hG, hH, hwb⟩
    replace hB := k.blk hB (fun h => h)
    rw [show (w.alloc (.cells #[.int .i64 a0, .int .i64 a1, .int .i64 a2, .int .i64 a3, .bool g, .bool n, .bool o] 44)).heap.size = w.heap.size + 1 from by show (w.heap.push _).size = _; rw [Array.size_push]] at h hG
    clear k kw
    obtain ⟨A, c, rfl, hS1, hS2⟩ := hS
    have hlN : ws.length = N := by omega
    subst hlN
    have hS : SL w1 (fun i => G ≤ i ∧ i < Hh) .u64 (.slice A ws.length c) ws := ⟨A, c, rfl, hS1, hS2⟩
    have hwl : G ≤ w1.heap.size := h.2.2.2
    clear hS2 hl
    have c0 := hB.cell 0
    have c1 := hB.cell 1
    have c2 := hB.cell 2
    have c3 := hB.cell 3
    have c4 := hB.cell 4
    have c5 := hB.cell 5
    have c6 := hB.cell 6
    simp at c0 c1 c2 c3 c4 c5 c6
    go_wp2_with fail
    refine (Move_at a d ⟨a0, a1, a2, a3, g, n, o⟩ h 1 ws (by exact if_neg HG.out) (by exact if_neg HG.out)).mono ?_
    rintro e w2 ⟨rfl, h2, k⟩
    clear c0 c1 c2 c3 c4 c5 c6
    replace hB := k.blk hB (fun h => by first | omega | (obtain ⟨h1, h2⟩ := h; omega))
    replace hS := hS.keep k (fun i h1 h2 => by first | omega | (obtain ⟨h3, h4⟩ := h1; obtain ⟨h5, h6⟩ := h2; omega))
    clear k
    clear h
    have c0 := hB.cell 0
    have c1 := hB.cell 1
    have c2 := hB.cell 2
    have c3 := hB.cell 3
    have c4 := hB.cell 4
    have c5 := hB.cell 5
    have c6 := hB.cell 6
    simp at c0 c1 c2 c3 c4 c5 c6
    go_wp2_with fail
    refine (RGood_r ⟨a0, a1, a2, a3, g, n, o⟩ _ false (by simpa using HG.out)).mono ?_
    rintro e w3 ⟨rfl, k⟩
    clear c0 c1 c2 c3 c4 c5 c6
    replace h2 := h2.stay k
    replace hB := k.blk hB (fun h => h)
    replace hS := hS.keep k (fun _ _ h => h)
    clear k
    go_wp2_with fail
    refine (awake_calls _).mono ?_
    rintro e w4 ⟨rfl, k⟩
    replace h2 := h2.stay k
    replace hB := k.blk hB (fun h => h)
    replace hS := hS.keep k (fun _ _ h => h)
    clear k
    go_wp2_with fail
    refine (words_at h2 (by omega)).mono ?_
    rintro e w5 ⟨v5, rfl, hv5, h5, k⟩
    replace hB := k.blk hB (fun h => by first | omega | (obtain ⟨h1, h2⟩ := h; omega))
    replace hS := hS.keep k (fun i h1 h2 => by first | omega | (obtain ⟨h3, h4⟩ := h1; obtain ⟨h5, h6⟩ := h2; omega))
    clear k h2
    go_wp2_with fail
    refine (same_r _ hv5 hS rfl).mono ?_
    rintro e w6 ⟨rfl, nn, hw6⟩
    have hh : Below w.heap.size w w6 := by rw [hw6]; exact (h5.drewN nn).below
    clear hw6
    go_wp2_with fail
    go_ret
    exact ⟨by simp, hh⟩
end Go.Proofs.Ytfaffpmmjlddeaa.Ob
