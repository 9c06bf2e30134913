/- ObjMakes as a contract. Condition: numbers are of their kinds. -/
import Derived.Test.YtfaffpmmjlddeaaObjFill
import Derived.Deep.DeepCutAuto
import Derived.Deep.CutBlock
set_option linter.unusedVariables false
set_option linter.unusedSimpArgs false
namespace Go.Proofs.Ytfaffpmmjlddeaa.Ob
open Go.RowKit Go.Proofs.Ytfaffpmmjlddeaa.W Go.Proofs.Ytfaffpmmjlddeaa.Ar Go.Proofs.Ytfaffpmmjlddeaa.Hea

set_option maxRecDepth 20000 in
set_option maxHeartbeats 16000000 in
theorem Makes_calls (m s a : Int) (a0 a1 a2 a3 : Int) (g n o : Bool) (w : World) (m0 : 0 ≤ m) (m1 : m ≤ 255) (hs : w64 s) (b0 : -9223372036854775808 ≤ a0 ∧ a0 ≤ 9223372036854775807) :
    Calls Try.prog 8 #[.int .u8 m, .int .u64 s, .int .i64 a, .agg #[.int .i64 a0, .int .i64 a1, .int .i64 a2, .int .i64 a3, .bool g, .bool n, .bool o]] w fun e w' => e = .returned (.bool true) ∧ Below w.heap.size w w' := by
  obtain ⟨N, hN⟩ : ∃ N : Nat, m % 100 = (N : Int) := ⟨(m % 100).toNat, by omega⟩
  have hN1 : N < 100 := by omega
  have HS := Lib.hid hs
  clear hs
  by_cases hg : Hd.good ⟨a0, a1, a2, a3, g, n, o⟩
  · have hgs : 0 ≤ a0 ∧ a0 ≤ 64 := ⟨hg.1, hg.2.1⟩
    have HG := Lib.hid hg
    clear hg
    obtain ⟨s0, s1⟩ := hgs
    rcases (by omega : a < 0 ∨ (0 ≤ a ∧ (N : Int) < a) ∨ (0 ≤ a ∧ a ≤ N ∧ (N : Int) - a < a0 + 2) ∨ (0 ≤ a ∧ a ≤ N ∧ a0 + 2 ≤ (N : Int) - a)) with q0 | ⟨q0, q1⟩ | ⟨q0, q1, q2⟩ | ⟨q0, q1, q2⟩
    · as_aux_lemma =>
      go_enter Try.func8, Try.ntmps8
      have hB := Blk.new w 44 #[.int .i64 a0, .int .i64 a1, .int .i64 a2, .int .i64 a3, .bool g, .bool n, .bool o]
      have kw := (Keep.refl (fun _ => False) w).alloc (.cells #[.int .i64 a0, .int .i64 a1, .int .i64 a2, .int .i64 a3, .bool g, .bool n, .bool o] 44)
      go_wp2_with fail
      refine (filled_at (N : Int) s kw (by omega) (by omega) HS.out).mono ?_
      rintro e w1 ⟨b, G, Hh, v, ws, rfl, hl, h, hS, k, hG, hH, hwb⟩
      replace hB := k.blk hB (fun h => h)
      rw [show (w.alloc (.cells #[.int .i64 a0, .int .i64 a1, .int .i64 a2, .int .i64 a3, .bool g, .bool n, .bool o] 44)).heap.size = w.heap.size + 1 from by show (w.heap.push _).size = _; rw [Array.size_push]] at h hG
      clear k kw
      obtain ⟨A, c, rfl, hS1, hS2⟩ := hS
      have hlN : ws.length = N := by omega
      subst hlN
      have hS : SL w1 (fun i => G ≤ i ∧ i < Hh) .u64 (.slice A ws.length c) ws := ⟨A, c, rfl, hS1, hS2⟩
      have hwl : G ≤ w1.heap.size := h.2.2.2
      clear hS2 hl
      have c0 := hB.cell 0
      have c1 := hB.cell 1
      have c2 := hB.cell 2
      have c3 := hB.cell 3
      have c4 := hB.cell 4
      have c5 := hB.cell 5
      have c6 := hB.cell 6
      simp at c0 c1 c2 c3 c4 c5 c6
      have hwn : within ws.length a (a0 + 2) = false := Go.Proofs.Ytfaffpmmjlddeaa.Ar.within_not (by omega)
      have HWN := Lib.hid hwn
      clear hwn
      go_wp2_with fail
      refine (Make_at a ⟨a0, a1, a2, a3, g, n, o⟩ h 2 ws (by unfold mkErr; rw [if_pos HG.out, HWN.out]; rfl) (by unfold mkW; rw [if_pos HG.out, HWN.out]; rfl)).mono ?_
      rintro e w2 ⟨rfl, h2, k⟩
      clear c0 c1 c2 c3 c4 c5 c6
      replace hB := k.blk hB (fun h => by first | omega | (obtain ⟨h1, h2⟩ := h; omega))
      replace hS := hS.keep k (fun i h1 h2 => by first | omega | (obtain ⟨h3, h4⟩ := h1; obtain ⟨h5, h6⟩ := h2; omega))
      clear k
      clear h
      have c0 := hB.cell 0
      have c1 := hB.cell 1
      have c2 := hB.cell 2
      have c3 := hB.cell 3
      have c4 := hB.cell 4
      have c5 := hB.cell 5
      have c6 := hB.cell 6
      simp at c0 c1 c2 c3 c4 c5 c6
      go_wp2_with fail
      refine (RGood_r ⟨a0, a1, a2, a3, g, n, o⟩ _ true (by simpa using HG.out)).mono ?_
      rintro e w3 ⟨rfl, k⟩
      clear c0 c1 c2 c3 c4 c5 c6
      replace h2 := h2.stay k
      replace hB := k.blk hB (fun h => h)
      replace hS := hS.keep k (fun _ _ h => h)
      clear k
      go_wp2_with fail
      refine (awake_calls _).mono ?_
      rintro e w4 ⟨rfl, k⟩
      replace h2 := h2.stay k
      replace hB := k.blk hB (fun h => h)
      replace hS := hS.keep k (fun _ _ h => h)
      clear k
      go_wp2_with fail
      refine (words_at h2 (by omega)).mono ?_
      rintro e w5 ⟨v5, rfl, hv5, h5, k⟩
      replace hB := k.blk hB (fun h => by first | omega | (obtain ⟨h1, h2⟩ := h; omega))
      replace hS := hS.keep k (fun i h1 h2 => by first | omega | (obtain ⟨h3, h4⟩ := h1; obtain ⟨h5, h6⟩ := h2; omega))
      clear k h2
      go_wp2_with fail
      refine (same_r _ hv5 hS rfl).mono ?_
      rintro e w6 ⟨rfl, nn, hw6⟩
      have hh : Below w.heap.size w w6 := by rw [hw6]; exact (h5.drewN nn).below
      clear hw6
      go_wp2_with fail
      go_ret
      exact ⟨by simp, hh⟩
    · as_aux_lemma =>
      have d1 : decide (a < 0) = false := by simp; omega
      have d2 : decide ((N : Int) < a) = true := by simp; omega
      go_enter Try.func8, Try.ntmps8
      have hB := Blk.new w 44 #[.int .i64 a0, .int .i64 a1, .int .i64 a2, .int .i64 a3, .bool g, .bool n, .bool o]
      have kw := (Keep.refl (fun _ => False) w).alloc (.cells #[.int .i64 a0, .int .i64 a1, .int .i64 a2, .int .i64 a3, .bool g, .bool n, .bool o] 44)
      go_wp2_with fail
      refine (filled_at (N : Int) s kw (by omega) (by omega) HS.out).mono ?_
      rintro e w1 ⟨b, G, Hh, v, ws, rfl, hl, h, hS, k, hG, hH, hwb⟩
      replace hB := k.blk hB (fun h => h)
      rw [show (w.alloc (.cells #[.int .i64 a0, .int .i64 a1, .int .i64 a2, .int .i64 a3, .bool g, .bool n, .bool o] 44)).heap.size = w.heap.size + 1 from by show (w.heap.push _).size = _; rw [Array.size_push]] at h hG
      clear k kw
      obtain ⟨A, c, rfl, hS1, hS2⟩ := hS
      have hlN : ws.length = N := by omega
      subst hlN
      have hS : SL w1 (fun i => G ≤ i ∧ i < Hh) .u64 (.slice A ws.length c) ws := ⟨A, c, rfl, hS1, hS2⟩
      have hwl : G ≤ w1.heap.size := h.2.2.2
      clear hS2 hl
      have c0 := hB.cell 0
      have c1 := hB.cell 1
      have c2 := hB.cell 2
      have c3 := hB.cell 3
      have c4 := hB.cell 4
      have c5 := hB.cell 5
      have c6 := hB.cell 6
      simp at c0 c1 c2 c3 c4 c5 c6
      have hwn : within ws.length a (a0 + 2) = false := Go.Proofs.Ytfaffpmmjlddeaa.Ar.within_not (by omega)
      have HWN := Lib.hid hwn
      clear hwn
      go_wp2_with fail
      refine (Make_at a ⟨a0, a1, a2, a3, g, n, o⟩ h 2 ws (by unfold mkErr; rw [if_pos HG.out, HWN.out]; rfl) (by unfold mkW; rw [if_pos HG.out, HWN.out]; rfl)).mono ?_
      rintro e w2 ⟨rfl, h2, k⟩
      clear c0 c1 c2 c3 c4 c5 c6
      replace hB := k.blk hB (fun h => by first | omega | (obtain ⟨h1, h2⟩ := h; omega))
      replace hS := hS.keep k (fun i h1 h2 => by first | omega | (obtain ⟨h3, h4⟩ := h1; obtain ⟨h5, h6⟩ := h2; omega))
      clear k
      clear h
      have c0 := hB.cell 0
      have c1 := hB.cell 1
      have c2 := hB.cell 2
      have c3 := hB.cell 3
      have c4 := hB.cell 4
      have c5 := hB.cell 5
      have c6 := hB.cell 6
      simp at c0 c1 c2 c3 c4 c5 c6
      go_wp2_with fail
      refine (RGood_r ⟨a0, a1, a2, a3, g, n, o⟩ _ true (by simpa using HG.out)).mono ?_
      rintro e w3 ⟨rfl, k⟩
      clear c0 c1 c2 c3 c4 c5 c6
      replace h2 := h2.stay k
      replace hB := k.blk hB (fun h => h)
      replace hS := hS.keep k (fun _ _ h => h)
      clear k
      go_wp2_with fail
      refine (awake_calls _).mono ?_
      rintro e w4 ⟨rfl, k⟩
      replace h2 := h2.stay k
      replace hB := k.blk hB (fun h => h)
      replace hS := hS.keep k (fun _ _ h => h)
      clear k
      go_wp2_with fail
      refine (words_at h2 (by omega)).mono ?_
      rintro e w5 ⟨v5, rfl, hv5, h5, k⟩
      replace hB := k.blk hB (fun h => by first | omega | (obtain ⟨h1, h2⟩ := h; omega))
      replace hS := hS.keep k (fun i h1 h2 => by first | omega | (obtain ⟨h3, h4⟩ := h1; obtain ⟨h5, h6⟩ := h2; omega))
      clear k h2
      go_wp2_with fail
      refine (same_r _ hv5 hS rfl).mono ?_
      rintro e w6 ⟨rfl, nn, hw6⟩
      have hh : Below w.heap.size w w6 := by rw [hw6]; exact (h5.drewN nn).below
      clear hw6
      go_wp2_with fail
      go_ret
      exact ⟨by simp, hh⟩
    · as_aux_lemma =>
      have d1 : decide (a < 0) = false := by simp; omega
      have d2 : decide ((N : Int) < a) = false := by simp; omega
      have d3 : decide ((N : Int) - a < a0 + 2) = true := by simp; omega
      go_enter Try.func8, Try.ntmps8
      have hB := Blk.new w 44 #[.int .i64 a0, .int .i64 a1, .int .i64 a2, .int .i64 a3, .bool g, .bool n, .bool o]
      have kw := (Keep.refl (fun _ => False) w).alloc (.cells #[.int .i64 a0, .int .i64 a1, .int .i64 a2, .int .i64 a3, .bool g, .bool n, .bool o] 44)
      go_wp2_with fail
      refine (filled_at (N : Int) s kw (by omega) (by omega) HS.out).mono ?_
      rintro e w1 ⟨b, G, Hh, v, ws, rfl, hl, h, hS, k, hG, hH, hwb⟩
      replace hB := k.blk hB (fun h => h)
      rw [show (w.alloc (.cells #[.int .i64 a0, .int .i64 a1, .int .i64 a2, .int .i64 a3, .bool g, .bool n, .bool o] 44)).heap.size = w.heap.size + 1 from by show (w.heap.push _).size = _; rw [Array.size_push]] at h hG
      clear k kw
      obtain ⟨A, c, rfl, hS1, hS2⟩ := hS
      have hlN : ws.length = N := by omega
      subst hlN
      have hS : SL w1 (fun i => G ≤ i ∧ i < Hh) .u64 (.slice A ws.length c) ws := ⟨A, c, rfl, hS1, hS2⟩
      have hwl : G ≤ w1.heap.size := h.2.2.2
      clear hS2 hl
      have c0 := hB.cell 0
      have c1 := hB.cell 1
      have c2 := hB.cell 2
      have c3 := hB.cell 3
      have c4 := hB.cell 4
      have c5 := hB.cell 5
      have c6 := hB.cell 6
      simp at c0 c1 c2 c3 c4 c5 c6
      have hwn : within ws.length a (a0 + 2) = false := Go.Proofs.Ytfaffpmmjlddeaa.Ar.within_not (by omega)
      have HWN := Lib.hid hwn
      clear hwn
      go_wp2_with fail
      refine (Make_at a ⟨a0, a1, a2, a3, g, n, o⟩ h 2 ws (by unfold mkErr; rw [if_pos HG.out, HWN.out]; rfl) (by unfold mkW; rw [if_pos HG.out, HWN.out]; rfl)).mono ?_
      rintro e w2 ⟨rfl, h2, k⟩
      clear c0 c1 c2 c3 c4 c5 c6
      replace hB := k.blk hB (fun h => by first | omega | (obtain ⟨h1, h2⟩ := h; omega))
      replace hS := hS.keep k (fun i h1 h2 => by first | omega | (obtain ⟨h3, h4⟩ := h1; obtain ⟨h5, h6⟩ := h2; omega))
      clear k
      clear h
      have c0 := hB.cell 0
      have c1 := hB.cell 1
      have c2 := hB.cell 2
      have c3 := hB.cell 3
      have c4 := hB.cell 4
      have c5 := hB.cell 5
      have c6 := hB.cell 6
      simp at c0 c1 c2 c3 c4 c5 c6
      go_wp2_with fail
      refine (RGood_r ⟨a0, a1, a2, a3, g, n, o⟩ _ true (by simpa using HG.out)).mono ?_
      rintro e w3 ⟨rfl, k⟩
      clear c0 c1 c2 c3 c4 c5 c6
      replace h2 := h2.stay k
      replace hB := k.blk hB (fun h => h)
      replace hS := hS.keep k (fun _ _ h => h)
      clear k
      go_wp2_with fail
      refine (awake_calls _).mono ?_
      rintro e w4 ⟨rfl, k⟩
      replace h2 := h2.stay k
      replace hB := k.blk hB (fun h => h)
      replace hS := hS.keep k (fun _ _ h => h)
      clear k
      go_wp2_with fail
      refine (words_at h2 (by omega)).mono ?_
      rintro e w5 ⟨v5, rfl, hv5, h5, k⟩
      replace hB := k.blk hB (fun h => by first | omega | (obtain ⟨h1, h2⟩ := h; omega))
      replace hS := hS.keep k (fun i h1 h2 => by first | omega | (obtain ⟨h3, h4⟩ := h1; obtain ⟨h5, h6⟩ := h2; omega))
      clear k h2
      go_wp2_with fail
      refine (same_r _ hv5 hS rfl).mono ?_
      rintro e w6 ⟨rfl, nn, hw6⟩
      have hh : Below w.heap.size w w6 := by rw [hw6]; exact (h5.drewN nn).below
      clear hw6
      go_wp2_with fail
      go_ret
      exact ⟨by simp, hh⟩
    · as_aux_lemma =>
      have d1 : decide (a < 0) = false := by simp; omega
      have d2 : decide ((N : Int) < a) = false := by simp; omega
      have d3 : decide ((N : Int) - a < a0 + 2) = false := by simp; omega
      go_enter Try.func8, Try.ntmps8
      have hB := Blk.new w 44 #[.int .i64 a0, .int .i64 a1, .int .i64 a2, .int .i64 a3, .bool g, .bool n, .bool o]
      have kw := (Keep.refl (fun _ => False) w).alloc (.cells #[.int .i64 a0, .int .i64 a1, .int .i64 a2, .int .i64 a3, .bool g, .bool n, .bool o] 44)
      go_wp2_with fail
      refine (filled_at (N : Int) s kw (by omega) (by omega) HS.out).mono ?_
      rintro e w1 ⟨b, G, Hh, v, ws, rfl, hl, h, hS, k, hG, hH, hwb⟩
      replace hB := k.blk hB (fun h => h)
      rw [show (w.alloc (.cells #[.int .i64 a0, .int .i64 a1, .int .i64 a2, .int .i64 a3, .bool g, .bool n, .bool o] 44)).heap.size = w.heap.size + 1 from by show (w.heap.push _).size = _; rw [Array.size_push]] at h hG
      clear k kw
      obtain ⟨A, c, rfl, hS1, hS2⟩ := hS
      have hlN : ws.length = N := by omega
      subst hlN
      have hS : SL w1 (fun i => G ≤ i ∧ i < Hh) .u64 (.slice A ws.length c) ws := ⟨A, c, rfl, hS1, hS2⟩
      have hwl : G ≤ w1.heap.size := h.2.2.2
      clear hS2 hl
      have c0 := hB.cell 0
      have c1 := hB.cell 1
      have c2 := hB.cell 2
      have c3 := hB.cell 3
      have c4 := hB.cell 4
      have c5 := hB.cell 5
      have c6 := hB.cell 6
      simp at c0 c1 c2 c3 c4 c5 c6
      have hwn : within ws.length a (a0 + 2) = true := Go.Proofs.Ytfaffpmmjlddeaa.Ar.within_yes (by omega)
      have HWN := Lib.hid hwn
      clear hwn
      go_wp2_with fail
      refine (Make_at a ⟨a0, a1, a2, a3, g, n, o⟩ h 0 _ (by unfold mkErr; rw [if_pos HG.out, HWN.out]; rfl) rfl).mono ?_
      rintro e w2 ⟨rfl, h2, k⟩
      clear c0 c1 c2 c3 c4 c5 c6
      replace hB := k.blk hB (fun h => by first | omega | (obtain ⟨h1, h2⟩ := h; omega))
      replace hS := hS.keep k (fun i h1 h2 => by first | omega | (obtain ⟨h3, h4⟩ := h1; obtain ⟨h5, h6⟩ := h2; omega))
      clear k
      clear h
      have c0 := hB.cell 0
      have c1 := hB.cell 1
      have c2 := hB.cell 2
      have c3 := hB.cell 3
      have c4 := hB.cell 4
      have c5 := hB.cell 5
      have c6 := hB.cell 6
      simp at c0 c1 c2 c3 c4 c5 c6
      go_wp2_with fail
      refine (RGood_r ⟨a0, a1, a2, a3, g, n, o⟩ _ true (by simpa using HG.out)).mono ?_
      rintro e w3 ⟨rfl, k⟩
      clear c0 c1 c2 c3 c4 c5 c6
      replace h2 := h2.stay k
      replace hB := k.blk hB (fun h => h)
      replace hS := hS.keep k (fun _ _ h => h)
      clear k
      obtain ⟨ii, hi, hz, hs1, hby⟩ := info_parts info_u64
      generalize hmw : mkW ws a ⟨a0, a1, a2, a3, g, n, o⟩ = ws2 at h2
      have HMW := Lib.hid hmw
      clear hmw
      have hE := Blk.new w3 24 (#[] : Array Value)
      have kE := (Keep.refl (fun _ => False) w3).alloc (.cells #[] 24)
      have hSE := hS.alloc (.cells #[] 24)
      have hL : G ≤ w3.heap.size := h2.2.2.2
      replace h2 := h2.stay kE
      replace hB := kE.blk hB (fun h => h)
      obtain ⟨p, rfl⟩ : ∃ p : Nat, a = (p : Int) := ⟨a.toNat, by omega⟩
      go_wp2_with (at_builtin; refine wpList_append_new rfl _ _ 35 rfl 24 ii (.int .u64 0) 8 Try.underlying35 hi hz hs1 hby rfl w3.heap.size hE rfl rfl hSE ?c1 ?_)
      case c1 => omega
      intro A' c' w4 hq k4
      have hU : UR w4 w3.heap.size A' c' ws := (hq.bound).mono (fun i h => ⟨by have := h.1; omega, h.2⟩)
      replace h2 := h2.stay k4
      replace hB := k4.blk hB (fun h => h)
      clear hq k4 hE kE hSE hS
      have hBlt := hB.lt
      have hBG : w.heap.size < G := by omega
      clear hBlt
      generalize w3.heap.size = L at hU hL ⊢
      go_wp2_with fail
      have hLw : L ≤ L := Nat.le_refl _
      clear hLw
      go_loopg [14] (a0 + 2).toNat (fun gk i wr => ∃ k : Nat, (k : Int) + gk = a0 + 2 ∧ i = .int .i64 k ∧ UR wr L A' c' (zro ws p k) ∧ OAt w (w.heap.size + 1) G wr b ws2 ∧ Blk wr w.heap.size 44 #[.int .i64 a0, .int .i64 a1, .int .i64 a2, .int .i64 a3, .bool g, .bool n, .bool o])
      case atStart => exact ⟨0, by omega, rfl, by rw [zro_none]; exact hU, h2, hB⟩
      case round =>
        clear hU h2 hB
        obtain ⟨k, hg, rfl, hU, h2, hB⟩ := hrel
        by_cases hc : (k : Int) < a0 + 2
        · have hzl : (zro ws p k).length = ws.length := zro_len (by omega)
          have hzn := zro_next (ws := ws) (i := p) (k := k) (by omega)
          obtain ⟨gg, off, rfl, hg1, hg2, hcell, hfz, hset⟩ := hU.write (i := p + k) (by omega)
          have hset0 := hset 0
          rw [hzn] at hset0
          have HZ := Lib.hid hzl
          clear hzl hzn hset
          generalize (zro ws p k)[p + k]?.getD 0 = z at hcell
          have h2' : OAt w (w.heap.size + 1) G (wr.setCell ⟨gg, off + (p + k), none⟩ (.int .u64 0)) b ws2 := ⟨h2.1.keep ((Keep.refl (fun i => i = gg) wr).set_ (p := ⟨gg, off + (p + k), none⟩) (.inl rfl) (.int .u64 0)) (fun i h1 h2 => by have := h1.2; omega), h2.2.1.set_ (p := ⟨gg, off + (p + k), none⟩) (.inr (by simp; omega)) _, h2.2.2.1, by simpa [World.setCell] using h2.2.2.2⟩
          have hB' := hB.far (p := ⟨gg, off + (p + k), none⟩) (by simp; omega) (.int .u64 0)
          go_wp2_with fail
          go_roundg (gk - 1)
          case measure => omega
          case rel => exact ⟨k + 1, by omega, by go_num, hset0, h2', hB'⟩
        · obtain ⟨K, hK⟩ : ∃ K : Nat, a0 + 2 = (K : Int) := ⟨(a0 + 2).toNat, by omega⟩
          have hkK : k = K := by omega
          subst hkK
          have hzl : (zro ws p k).length = ws.length := zro_len (by omega)
          generalize hzz : zro ws p k = z0 at hU hzl
          have HZZ := Lib.hid hzz
          have HZL := Lib.hid hzl
          clear hzz hg hc
          have c0 := hB.cell 0
          have c1 := hB.cell 1
          have c2 := hB.cell 2
          have c3 := hB.cell 3
          have c4 := hB.cell 4
          have c5 := hB.cell 5
          have c6 := hB.cell 6
          simp at c0 c1 c2 c3 c4 c5 c6
          obtain ⟨y, hy⟩ : ∃ y, Hd.word ⟨a0, a1, a2, a3, g, n, o⟩ = y := ⟨_, rfl⟩
          have HY := Lib.hid hy
          clear hy
          have hw64 := Lib.hid (IntKind.wrap_u64)
          go_wp2_with fail
          refine (RWord_r ⟨a0, a1, a2, a3, g, n, o⟩ _ HG.out y HY.out).mono ?_
          rintro e w5 ⟨rfl, k5⟩
          clear c0 c1 c2 c3 c4 c5 c6
          replace hB := k5.blk hB (fun h => h)
          replace h2 := h2.stay k5
          replace hU := hU.keep k5 (fun _ _ h => h)
          clear k5
          obtain ⟨gg, off, rfl, hg1, hg2, hcell, hfz, hset⟩ := hU.write (i := p) (by rw [hzl]; omega)
          have hU2 := hset y
          clear hset
          obtain ⟨hcell2, hfz2, _⟩ := hU.at_ (i := p + 1) (by rw [hzl]; omega)
          have hU3 := (hU2.at_ (i := p + 1) (by rw [List.length_set, hzl]; omega)).2.2 (p : Int)
          generalize z0[p]?.getD 0 = z1 at hcell
          generalize z0[p + 1]?.getD 0 = z2 at hcell2
          have hfar := (((Keep.refl (fun i => i = gg) w5).set_ (p := ⟨gg, off + p, none⟩) (.inl rfl) (.int .u64 y)).set_ (p := ⟨gg, off + (p + 1), none⟩) (.inl rfl) (.int .u64 (p : Int)))
          replace h2 : OAt w (w.heap.size + 1) G _ b ws2 := ⟨h2.1.keep hfar (fun i h1 h2 => by have := h1.2; omega), (h2.2.1.set_ (p := ⟨gg, off + p, none⟩) (.inr (by simp; omega)) (.int .u64 y)).set_ (p := ⟨gg, off + (p + 1), none⟩) (.inr (by simp; omega)) (.int .u64 (p : Int)), h2.2.2.1, by simpa [World.setCell] using h2.2.2.2⟩
          replace hB := hfar.blk hB (fun h => by omega)
          clear hU hU2 hfar
          go_wp2_with fail
          generalize (w5.setCell ⟨gg, off + p, none⟩ (.int .u64 y)).setCell ⟨gg, off + (p + 1), none⟩ (.int .u64 (p : Int)) = w6 at h2 hB hU3 ⊢
          clear hcell hfz hcell2 hfz2
          have hws : ws2 = (z0.set p y).set (p + 1) (p : Int) := by
            rw [← HMW.out, ← HZZ.out, ← HY.out]
            unfold mkW
            rw [if_pos HG.out, HWN.out, if_pos rfl]
            simp only []
            rw [Int.toNat_natCast, show (a0 + 2).toNat = k by omega, show ((p : Int) + 1).toNat = p + 1 by omega]
          have hl2 : ws2.length = ws.length := by rw [hws, List.length_set, List.length_set]; exact hzl
          have hin1 : inn ws2 (p : Int) = true := inn_of (by omega) (by omega)
          have hin2 : inn ws2 ((p : Int) + 1) = true := inn_of (by omega) (by omega)
          have hld1 : ldW ws2 (p : Int) = y := by unfold ldW; rw [hin1, if_pos rfl, hws, Int.toNat_natCast, List.getElem?_set_ne (by omega), List.getElem?_set_self (by omega)]; rfl
          have hld2 : ldW ws2 ((p : Int) + 1) = p := by unfold ldW; rw [hin2, if_pos rfl, hws, show ((p : Int) + 1).toNat = p + 1 by omega, List.getElem?_set_self (by rw [List.length_set]; omega)]; rfl
          have HWS := Lib.hid hws
          have HL2 := Lib.hid hl2
          have HI1 := Lib.hid hin1
          have HI2 := Lib.hid hin2
          have HD1 := Lib.hid hld1
          have HD2 := Lib.hid hld2
          clear hws hl2 hin1 hin2 hld1 hld2 HWN HMW HZZ hwb hzl
          refine (Head_at (p : Int) h2 ⟨a0, a1, a2, a3, g, n, o⟩ 0 (head_ok HG.out (by rw [HD1.out, HY.out])) (herr_ok HG.out HI1.out (by rw [HD1.out, HY.out]))).mono ?_
          rintro e w7 ⟨rfl, h7, k⟩
          replace hB := k.blk hB (fun h => by first | omega | (obtain ⟨h1, h2⟩ := h; omega))
          replace hU3 := hU3.keep k (fun i h1 h2 => by first | omega | (obtain ⟨h3, h4⟩ := h1; obtain ⟨h5, h6⟩ := h2; omega))
          clear k h2
          simp only [Hd.cells]
          have hX := Blk.new w7 44 #[.int .i64 a0, .int .i64 a1, .int .i64 a2, .int .i64 a3, .bool g, .bool n, .bool o]
          have kz := (Keep.refl (fun _ => False) w7).alloc (.cells #[.int .i64 a0, .int .i64 a1, .int .i64 a2, .int .i64 a3, .bool g, .bool n, .bool o] 44)
          have h8 := h7.stay kz
          have hX7 : G ≤ w7.heap.size := h7.2.2.2
          clear h7
          replace hB := kz.blk hB (fun h => h)
          replace hU3 := hU3.keep kz (fun _ _ h => h)
          clear kz
          go_wp2_with fail
          refine (Way_at (p : Int) h8 (p : Int) 0 (way_ok (by omega) (by omega) HD2.out (by omega) (by omega)) (by rw [if_pos (by simp [okAt]; omega)]; unfold erW; rw [HI2.out]; rfl)).mono ?_
          rintro e w9 ⟨rfl, h9, k⟩
          replace hB := k.blk hB (fun h => by first | omega | (obtain ⟨h1, h2⟩ := h; omega))
          replace hU3 := hU3.keep k (fun i h1 h2 => by first | omega | (obtain ⟨h3, h4⟩ := h1; obtain ⟨h5, h6⟩ := h2; omega))
          replace hX := k.blk hX (fun h => by first | omega | (obtain ⟨h1, h2⟩ := h; omega))
          clear k
          clear h8
          go_wp2_with fail
          refine (awake_calls _).mono ?_
          rintro e w10 ⟨rfl, k⟩
          replace h9 := h9.stay k
          replace hB := k.blk hB (fun h => h)
          replace hU3 := hU3.keep k (fun _ _ h => h)
          replace hX := k.blk hX (fun h => h)
          clear k
          go_wp2_with fail
          refine (words_at h9 (by rw [HL2.out]; omega)).mono ?_
          rintro e w11 ⟨v11, rfl, hv11, h11, k⟩
          replace hB := k.blk hB (fun h => by first | omega | (obtain ⟨h1, h2⟩ := h; omega))
          replace hU3 := hU3.keep k (fun i h1 h2 => by first | omega | (obtain ⟨h3, h4⟩ := h1; obtain ⟨h5, h6⟩ := h2; omega))
          replace hX := k.blk hX (fun h => by first | omega | (obtain ⟨h1, h2⟩ := h; omega))
          clear k h9
          have hSL := hU3.sl
          rw [List.length_set, List.length_set, HZL.out] at hSL
          go_wp2_with fail
          refine (same_r _ hv11 hSL HWS.out).mono ?_
          rintro e w12 ⟨rfl, nn, hw12⟩
          have hh : OAt w (w.heap.size + 1) G w12 b ws2 := by rw [hw12]; exact h11.drewN nn
          replace hB := hB.drewN nn
          replace hX := hX.drewN nn
          rw [← hw12] at hB hX
          clear hw12 h11 hv11 hSL hU3
          have c0 := hB.cell 0
          have c1 := hB.cell 1
          have c2 := hB.cell 2
          have c3 := hB.cell 3
          have c4 := hB.cell 4
          have c5 := hB.cell 5
          have c6 := hB.cell 6
          simp at c0 c1 c2 c3 c4 c5 c6
          have d0 := hX.cell 0
          have d1 := hX.cell 1
          have d2 := hX.cell 2
          have d3 := hX.cell 3
          have d4 := hX.cell 4
          have d5 := hX.cell 5
          have d6 := hX.cell 6
          simp at d0 d1 d2 d3 d4 d5 d6
          go_wp2_with fail
          refine (Words_r ⟨a0, a1, a2, a3, g, n, o⟩ _ (a0 + 2) (wordsOf_good HG.out)).mono ?_
          rintro e w13 ⟨rfl, k⟩
          clear c0 c1 c2 c3 c4 c5 c6 d0 d1 d2 d3 d4 d5 d6
          replace hh := hh.stay k
          clear k
          go_wp2_with fail
          go_ret
          exact ⟨by simp, hh.below⟩
  · have HG := Lib.hid hg
    clear hg
    go_enter Try.func8, Try.ntmps8
    have hB := Blk.new w 44 #[.int .i64 a0, .int .i64 a1, .int .i64 a2, .int .i64 a3, .bool g, .bool n, .bool o]
    have kw := (Keep.refl (fun _ => False) w).alloc (.cells #[.int .i64 a0, .int .i64 a1, .int .i64 a2, .int .i64 a3, .bool g, .bool n, .bool o] 44)
    go_wp2_with fail
    refine (filled_at (N : Int) s kw (by omega) (by omega) HS.out).mono ?_
    rintro e w1 ⟨b, G, Hh, v, ws, rfl, hl, h, hS, k, hG, hH, hwb⟩
    replace hB := k.blk hB (fun h => h)
    rw [show (w.alloc (.cells #[.int .i64 a0, .int .i64 a1, .int .i64 a2, .int .i64 a3, .bool g, .bool n, .bool o] 44)).heap.size = w.heap.size + 1 from by show (w.heap.push _).size = _; rw [Array.size_push]] at h hG
    clear k kw
    obtain ⟨A, c, rfl, hS1, hS2⟩ := hS
    have hlN : ws.length = N := by omega
    subst hlN
    have hS : SL w1 (fun i => G ≤ i ∧ i < Hh) .u64 (.slice A ws.length c) ws := ⟨A, c, rfl, hS1, hS2⟩
    have hwl : G ≤ w1.heap.size := h.2.2.2
    clear hS2 hl
    have c0 := hB.cell 0
    have c1 := hB.cell 1
    have c2 := hB.cell 2
    have c3 := hB.cell 3
    have c4 := hB.cell 4
    have c5 := hB.cell 5
    have c6 := hB.cell 6
    simp at c0 c1 c2 c3 c4 c5 c6
    go_wp2_with fail
    refine (Make_at a ⟨a0, a1, a2, a3, g, n, o⟩ h 1 ws (by exact if_neg HG.out) (by exact if_neg HG.out)).mono ?_
    rintro e w2 ⟨rfl, h2, k⟩
    clear c0 c1 c2 c3 c4 c5 c6
    replace hB := k.blk hB (fun h => by first | omega | (obtain ⟨h1, h2⟩ := h; omega))
    replace hS := hS.keep k (fun i h1 h2 => by first | omega | (obtain ⟨h3, h4⟩ := h1; obtain ⟨h5, h6⟩ := h2; omega))
    clear k
    clear h
    have c0 := hB.cell 0
    have c1 := hB.cell 1
    have c2 := hB.cell 2
    have c3 := hB.cell 3
    have c4 := hB.cell 4
    have c5 := hB.cell 5
    have c6 := hB.cell 6
    simp at c0 c1 c2 c3 c4 c5 c6
    go_wp2_with fail
    refine (RGood_r ⟨a0, a1, a2, a3, g, n, o⟩ _ false (by simpa using HG.out)).mono ?_
    rintro e w3 ⟨rfl, k⟩
    clear c0 c1 c2 c3 c4 c5 c6
    replace h2 := h2.stay k
    replace hB := k.blk hB (fun h => h)
    replace hS := hS.keep k (fun _ _ h => h)
    clear k
    go_wp2_with fail
    refine (awake_calls _).mono ?_
    rintro e w4 ⟨rfl, k⟩
    replace h2 := h2.stay k
    replace hB := k.blk hB (fun h => h)
    replace hS := hS.keep k (fun _ _ h => h)
    clear k
    go_wp2_with fail
    refine (words_at h2 (by omega)).mono ?_
    rintro e w5 ⟨v5, rfl, hv5, h5, k⟩
    replace hB := k.blk hB (fun h => by first | omega | (obtain ⟨h1, h2⟩ := h; omega))
    replace hS := hS.keep k (fun i h1 h2 => by first | omega | (obtain ⟨h3, h4⟩ := h1; obtain ⟨h5, h6⟩ := h2; omega))
    clear k h2
    go_wp2_with fail
    refine (same_r _ hv5 hS rfl).mono ?_
    rintro e w6 ⟨rfl, nn, hw6⟩
    have hh : Below w.heap.size w w6 := by rw [hw6]; exact (h5.drewN nn).below
    clear hw6
    go_wp2_with fail
    go_ret
    exact ⟨by simp, hh⟩
end Go.Proofs.Ytfaffpmmjlddeaa.Ob
