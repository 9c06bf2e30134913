/- ArenaPlays as a contract. Condition: the list reads as a list. -/
import Derived.Test.YtfaffpmmjlddeaaArenaLaws
import Derived.Test.YtfaffpmmjlddeaaArenaSep
import Derived.Test.YtfaffpmmjlddeaaRowCopy
import Derived.Test.YtfaffpmmjlddeaaStructs
import Derived.Deep.DeepCutAuto
import Derived.Deep.CutBlock
import Derived.Deep.LoopGhost
import Derived.IntWalk
set_option linter.unusedVariables false
set_option linter.unusedSimpArgs false
namespace Go.Proofs.Ytfaffpmmjlddeaa.Ar
open Go.RowKit Go.Proofs.Ytfaffpmmjlddeaa.W

theorem within_calls (s a k : Int) (w : World) (h0 : 0 ≤ s) (h9 : s ≤ 1048576) : Calls Try.prog 19 #[.int .i64 s, .int .i64 a, .int .i64 k] w fun e w' => e = .returned (.bool (within s a k)) ∧ w = w' := by
  rcases (by omega : a < 0 ∨ (0 ≤ a ∧ k < 0) ∨ (0 ≤ a ∧ 0 ≤ k ∧ s < a) ∨ (0 ≤ a ∧ 0 ≤ k ∧ a ≤ s ∧ s - a < k) ∨ (0 ≤ a ∧ 0 ≤ k ∧ a ≤ s ∧ k ≤ s - a)) with hx | ⟨hx, hy⟩ | ⟨hx, hy, hz⟩ | ⟨hx, hy, hz, hu⟩ | ⟨hx, hy, hz, hu⟩
  · rw [within_not (by omega)]
    have d1 : decide (0 ≤ a) = false := by simpa using hx
    go_enter Try.func19, Try.ntmps19
    go_wp2_with fail
    go_ret
    exact ⟨rfl, rfl⟩
  · rw [within_not (by omega)]
    have d1 : decide (0 ≤ a) = true := by simpa using hx
    have d2 : decide (0 ≤ k) = false := by simpa using hy
    go_enter Try.func19, Try.ntmps19
    go_wp2_with fail
    go_ret
    exact ⟨rfl, rfl⟩
  · rw [within_not (by omega)]
    have d1 : decide (0 ≤ a) = true := by simpa using hx
    have d2 : decide (0 ≤ k) = true := by simpa using hy
    have d3 : decide (a ≤ s) = false := by simpa using hz
    go_enter Try.func19, Try.ntmps19
    go_wp2_with fail
    go_ret
    exact ⟨rfl, rfl⟩
  · rw [within_not (by omega)]
    have d1 : decide (0 ≤ a) = true := by simpa using hx
    have d2 : decide (0 ≤ k) = true := by simpa using hy
    have d3 : decide (a ≤ s) = true := by simpa using hz
    have d4 : decide (k ≤ s - a) = false := by simp; omega
    go_enter Try.func19, Try.ntmps19
    go_wp2_with fail
    go_ret
    exact ⟨rfl, rfl⟩
  · rw [within_yes ⟨hx, hy, hz, hu⟩]
    have d1 : decide (0 ≤ a) = true := by simpa using hx
    have d2 : decide (0 ≤ k) = true := by simpa using hy
    have d3 : decide (a ≤ s) = true := by simpa using hz
    have d4 : decide (k ≤ s - a) = true := by simp; omega
    go_enter Try.func19, Try.ntmps19
    go_wp2_with fail
    go_ret
    exact ⟨rfl, rfl⟩
theorem awake_sep {W w : World} {l : List Pr} (h : Sep W w l) : Calls Try.prog 15 #[] w fun e w' => e = .returned (.bool true) ∧ Sep W w' l :=
  (awake_calls w).mono fun e w' ⟨he, hk⟩ => ⟨he, h.stay hk⟩

set_option maxHeartbeats 8000000 in
set_option maxRecDepth 100000 in
theorem Plays_calls {v1 : Value} {l1 : List A5} (a0 : Int) (w : World) (g1 : SS w (fun i => i < w.heap.size) A5.cells 5 v1 l1) (q1 : ∀ x ∈ l1, A5.wf x) :
    Calls Try.prog 5 #[.int .i64 a0, v1] w fun e w' => e = .returned (.bool true) ∧ Below w.heap.size w w' := by
  obtain ⟨A1, c1, rfl, hm1, hc1⟩ := g1
  have HC1 := Lib.hid hc1
  have Q1 := Lib.hid q1
  clear hc1 q1
  by_cases hbig : 500 < a0
  · go_enter Try.func5, Try.ntmps5
    go_wp2_with fail
    refine (awake_sep (Sep.nil w)).mono ?_
    rintro e w6 ⟨rfl, h6⟩
    go_wp2_with fail
    go_ret
    exact ⟨rfl, h6.below⟩
  obtain ⟨L, hL⟩ : ∃ L : Nat, (clampN a0).toNat = L := ⟨_, rfl⟩
  have hL9 : L ≤ 500 := by rw [← hL]; unfold clampN; (repeat' split) <;> omega
  have hL0 : (if a0 < 0 then 0 else a0) = (L : Int) := by rw [← hL]; unfold clampN; (repeat' split) <;> omega
  have HL0 := Lib.hid hL0
  have HL := Lib.hid hL
  clear hL0 hL
  obtain ⟨i, hi, hz, hs, hby⟩ := info_parts info_u64
  have hmk : ∀ W : World, (Instr.makeSlice 35 (.int .i64 (L : Int)) (.int .i64 (L : Int))).run Try.prog W = .ok (.slice (some ⟨W.heap.size, 0, none⟩) L L) (W.alloc (.cells (u64s (List.replicate L 0)) 24)) := fun W => by
    have h := run_make_rowN 35 24 i (.int .u64 0) Try.underlying35 hi hz .i64 .i64 L L (Nat.le_refl _) (by rw [hby]; omega) (by omega) W
    rw [h, hs]
    have : madeCells (Value.int .u64 0).cells (L * 1) = u64s (List.replicate L 0) := by
      apply Array.ext
      · simp [madeCells, u64s]
      · intro k h1 h2; simp [madeCells, u64s, Value.cells, Nat.mod_one]
    rw [this]
  go_enter Try.func5, Try.ntmps5
  go_upto_if 24 with (fail)
  go_cut [5] (fun v wx => v = .int .i64 (L : Int) ∧ wx = w)
  case first =>
    have hL0 := HL0.out
    by_cases hn : a0 < 0
    · rw [if_pos hn] at hL0
      have HX := Lib.hid hL0
      clear hL0
      go_wp2_with fail
      go_meet
      exact ⟨by rw [HX.out], rfl⟩
    · rw [if_neg hn] at hL0
      have HX := Lib.hid hL0
      clear hL0
      go_wp2_with fail
      go_meet
      exact ⟨by rw [HX.out], rfl⟩
  case rest =>
  obtain ⟨rfl, rfl⟩ := hcut
  go_wp2_with fail
  refine (New_sep a0 (Sep.nil _)).mono ?_
  rintro e w1 ⟨b, rfl, h1⟩
  rw [HL.out] at h1
  have h2 := h1.new_blk 24 (u64s (List.replicate L 0))
  simp only [List.cons_append, List.nil_append] at h2
  obtain ⟨G, hG⟩ : ∃ G, w1.heap.size = G := ⟨_, rfl⟩
  rw [hG] at h2
  have HG := Lib.hid hG
  clear hG h1
  go_wp2_with fail
  rw [HG.out]
  generalize w1.alloc (.cells (u64s (List.replicate L 0)) 24) = w2 at h2 ⊢
  clear HG hmk
  go_loopg [8, 9] 60 (fun gk ct i wr => ∃ (k : Nat) (ws : List Int) (n : Int), k + gk = 60 ∧ i = .int .i64 k ∧ ct = .int .i64 n ∧ ws.length = L ∧ 0 ≤ n ∧ n ≤ 2000 * k ∧ Sep wc wr [Arn b ws n, blkP G 24 (u64s ws)])
  case atStart => exact ⟨0, _, 0, rfl, rfl, rfl, by simp, by omega, by omega, h2⟩
  case round =>
    clear h2
    obtain ⟨k, ws, n, hk, rfl, rfl, hwl, hn0, hn9, h⟩ := hrel
    have HWL := Lib.hid hwl
    clear hwl
    by_cases hc : k < l1.length ∧ k < 60
    · obtain ⟨hl1, hl2⟩ := hc
      obtain ⟨b1, o1, rfl, hb1, hlt1, hcell1⟩ := HC1.out (by omega)
      obtain ⟨⟨wh, A, B, N, V⟩, hx⟩ : ∃ x, l1[k]? = some x := ⟨l1[k], List.getElem?_eq_getElem hl1⟩
      have hwf := Q1.out _ (List.mem_of_getElem? hx)
      obtain ⟨⟨wa, wb⟩, ⟨qa, qb⟩, ⟨ra, rb⟩, ⟨sa, sb⟩, ⟨ta, tb⟩⟩ := hwf
      simp only [] at wa wb qa qb ra rb sa sb ta tb
      have d0 : wr.cell? ⟨b1, o1 + k * 5, none⟩ = some (.int .i64 wh) := (World.cell?_of_block (h.block b1 hlt1)).trans (hcell1 k _ hx 0 _ rfl)
      have d1 : wr.cell? ⟨b1, o1 + k * 5 + 1, none⟩ = some (.int .i64 A) := (World.cell?_of_block (h.block b1 hlt1)).trans (hcell1 k _ hx 1 _ rfl)
      have d2 : wr.cell? ⟨b1, o1 + k * 5 + 2, none⟩ = some (.int .i64 B) := (World.cell?_of_block (h.block b1 hlt1)).trans (hcell1 k _ hx 2 _ rfl)
      have d3 : wr.cell? ⟨b1, o1 + k * 5 + 3, none⟩ = some (.int .i64 N) := (World.cell?_of_block (h.block b1 hlt1)).trans (hcell1 k _ hx 3 _ rfl)
      have d4 : wr.cell? ⟨b1, o1 + k * 5 + 4, none⟩ = some (.int .u64 V) := (World.cell?_of_block (h.block b1 hlt1)).trans (hcell1 k _ hx 4 _ rfl)
      clear hcell1 hx
      have h0 := h.new_blk 37 #[.int .i64 wh, .int .i64 A, .int .i64 B, .int .i64 N, .int .u64 V]
      obtain ⟨X, hX⟩ : ∃ X, wr.heap.size = X := ⟨_, rfl⟩
      rw [hX] at h0
      simp only [List.cons_append, List.nil_append] at h0
      go_upto_block 2 with fail
      have hXw : wr.heap.size = X := hX
      generalize wr.alloc (.cells #[.int .i64 wh, .int .i64 A, .int .i64 B, .int .i64 N, .int .u64 V] 37) = w3 at h0 ⊢
      clear hX hXw d0 d1 d2 d3 d4 h
      go_cut [8, 11, 12] (fun ct e1 e2 wx => ∃ (ws : List Int) (n e : Int), ct = .int .i64 n ∧ e1 = .int .i64 e ∧ e2 = .int .i64 e ∧ ws.length = L ∧ 0 ≤ n ∧ n ≤ 2000 * k + 2000 ∧ Sep wc wx [Arn b ws n, blkP G 24 (u64s ws), emp])
      case first =>
        have hGl := h0.blk_lt 1 rfl
        have x0 := (h0.blk 2 rfl).cell 0
        have x1 := (h0.blk 2 rfl).cell 1
        have x2 := (h0.blk 2 rfl).cell 2
        have x3 := (h0.blk 2 rfl).cell 3
        have x4 := (h0.blk 2 rfl).cell 4
        simp at x0 x1 x2 x3 x4
        by_cases hw01 : wh = 0 ∨ wh = 1
        · cases hok : within (L : Int) A 1
          · rcases hw01 with rfl | rfl
            · as_aux_lemma =>
              have HOK := Lib.hid hok
              clear hok
              go_wp2_with fail
              refine (within_calls (L : Int) A 1 _ (by omega) (by omega)).mono ?_
              rintro e w4 ⟨rfl, rfl⟩
              rw [HOK.out]
              go_wp2_with fail
              refine (Load_no' A h0 0 rfl (by rw [HWL.out]; exact HOK.out)).mono ?_
              rintro e w5 ⟨rfl, h5⟩
              replace h5 : Sep wc w5 [Arn b ws n, blkP G 24 (u64s ws), blkP X 37 #[.int .i64 0, .int .i64 A, .int .i64 B, .int .i64 N, .int .u64 V]] := h5
              go_wp2_with fail
              go_meet
              exact ⟨ws, n, 2, rfl, rfl, rfl, HWL.out, hn0, by omega, h5.forget 2⟩
            · as_aux_lemma =>
              have HOK := Lib.hid hok
              clear hok
              go_wp2_with fail
              refine (within_calls (L : Int) A 1 _ (by omega) (by omega)).mono ?_
              rintro e w4 ⟨rfl, rfl⟩
              rw [HOK.out]
              go_wp2_with fail
              refine (Store_no' A V h0 0 rfl (by rw [HWL.out]; exact HOK.out)).mono ?_
              rintro e w5 ⟨rfl, h5⟩
              replace h5 : Sep wc w5 [Arn b ws n, blkP G 24 (u64s ws), blkP X 37 #[.int .i64 1, .int .i64 A, .int .i64 B, .int .i64 N, .int .u64 V]] := h5
              go_wp2_with fail
              go_meet
              exact ⟨ws, n, 2, rfl, rfl, rfl, HWL.out, hn0, by omega, h5.forget 2⟩
          · have hwi := within_iff.1 hok
            obtain ⟨i0, i1, i2, i3⟩ := hwi
            obtain ⟨p, rfl⟩ : ∃ p : Nat, A = (p : Int) := ⟨A.toNat, by omega⟩
            have hpL : p < L := by omega
            clear i0 i1 i2 i3
            rcases hw01 with rfl | rfl
            · as_aux_lemma =>
              have HOK := Lib.hid hok
              clear hok
              go_wp2_with fail
              refine (within_calls (L : Int) (p : Int) 1 _ (by omega) (by omega)).mono ?_
              rintro e w4 ⟨rfl, rfl⟩
              rw [HOK.out]
              go_wp2_with fail
              refine (Load_yes' (p : Int) h0 0 rfl (by rw [HWL.out]; exact HOK.out)).mono ?_
              rintro e w5 ⟨rfl, h5⟩
              rw [wrap_id (by omega) (by omega)] at h5
              replace h5 : Sep wc w5 [Arn b ws (n + 1), blkP G 24 (u64s ws), blkP X 37 #[.int .i64 0, .int .i64 p, .int .i64 B, .int .i64 N, .int .u64 V]] := h5
              have y1 := (h5.blk 2 rfl).cell 1
              simp at y1
              have y5 := (h5.blk 1 rfl).cell p
              rw [u64s_get (by rw [HWL.out]; exact hpL)] at y5
              rw [Int.toNat_natCast]
              generalize ws[p]?.getD 0 = v at y5 ⊢
              have q4 : (v != v) = false := by simp
              clear x0 x1 x2 x3 x4
              go_wp2_with fail
              go_meet
              exact ⟨ws, n + 1, 0, rfl, rfl, rfl, HWL.out, by omega, by omega, h5.forget 2⟩
            · as_aux_lemma =>
              have HOK := Lib.hid hok
              clear hok
              go_wp2_with fail
              refine (within_calls (L : Int) (p : Int) 1 _ (by omega) (by omega)).mono ?_
              rintro e w4 ⟨rfl, rfl⟩
              rw [HOK.out]
              go_wp2_with fail
              refine (Store_yes' (p : Int) V h0 0 rfl (by rw [HWL.out]; exact HOK.out)).mono ?_
              rintro e w5 ⟨rfl, h5⟩
              rw [wrap_id (by omega) (by omega), Int.toNat_natCast] at h5
              replace h5 : Sep wc w5 [Arn b (ws.set p V) (n + 1), blkP G 24 (u64s ws), blkP X 37 #[.int .i64 1, .int .i64 p, .int .i64 B, .int .i64 N, .int .u64 V]] := h5
              have y1 := (h5.blk 2 rfl).cell 1
              have y4 := (h5.blk 2 rfl).cell 4
              simp at y1 y4
              have y5 := (h5.blk 1 rfl).cell p
              rw [u64s_get (by rw [HWL.out]; exact hpL)] at y5
              have z5 := (h5.blk 1 rfl).frozen p
              have h6 := h5.set_blk 1 rfl p (.int .u64 V)
              rw [u64s_set] at h6
              clear x0 x1 x2 x3 x4
              go_wp2_with fail
              go_meet
              exact ⟨ws.set p V, n + 1, 0, rfl, rfl, rfl, by rw [List.length_set, HWL.out], by omega, by omega, h6.forget 2⟩
        · have g0 : (wh == 0) = false := by simp; omega
          have g1 : (wh == 1) = false := by simp; omega
          by_cases hw2 : wh = 2
          · subst hw2
            clear hw01 g0 g1
            cases hok : within (L : Int) A N
            · as_aux_lemma =>
              have HOK := Lib.hid hok
              clear hok
              go_wp2_with fail
              refine (Copy_no' A B N h0 0 rfl (by rw [HWL.out, HOK.out]; rfl)).mono ?_
              rintro e w5 ⟨rfl, h5⟩
              replace h5 : Sep wc w5 [Arn b ws n, blkP G 24 (u64s ws), blkP X 37 #[.int .i64 2, .int .i64 A, .int .i64 B, .int .i64 N, .int .u64 V]] := h5
              have y1 := (h5.blk 2 rfl).cell 1
              have y2 := (h5.blk 2 rfl).cell 2
              have y3 := (h5.blk 2 rfl).cell 3
              simp at y1 y2 y3
              clear x0 x1 x2 x3 x4
              go_wp2_with fail
              refine (within_calls (L : Int) A N _ (by omega) (by omega)).mono ?_
              rintro e w4 ⟨rfl, rfl⟩
              rw [HOK.out]
              go_wp2_with fail
              go_meet
              exact ⟨ws, n, 2, rfl, rfl, rfl, HWL.out, hn0, by omega, h5.forget 2⟩
            · cases hok2 : within (L : Int) B N
              · as_aux_lemma =>
                have HOK := Lib.hid hok
                have HOK2 := Lib.hid hok2
                clear hok hok2
                go_wp2_with fail
                refine (Copy_no' A B N h0 0 rfl (by rw [HWL.out, HOK.out, HOK2.out]; rfl)).mono ?_
                rintro e w5 ⟨rfl, h5⟩
                replace h5 : Sep wc w5 [Arn b ws n, blkP G 24 (u64s ws), blkP X 37 #[.int .i64 2, .int .i64 A, .int .i64 B, .int .i64 N, .int .u64 V]] := h5
                have y1 := (h5.blk 2 rfl).cell 1
                have y2 := (h5.blk 2 rfl).cell 2
                have y3 := (h5.blk 2 rfl).cell 3
                simp at y1 y2 y3
                clear x0 x1 x2 x3 x4
                go_wp2_with fail
                refine (within_calls (L : Int) A N _ (by omega) (by omega)).mono ?_
                rintro e w4 ⟨rfl, rfl⟩
                rw [HOK.out]
                go_wp2_with fail
                refine (within_calls (L : Int) B N _ (by omega) (by omega)).mono ?_
                rintro e w4 ⟨rfl, rfl⟩
                rw [HOK2.out]
                go_wp2_with fail
                go_meet
                exact ⟨ws, n, 2, rfl, rfl, rfl, HWL.out, hn0, by omega, h5.forget 2⟩
              · as_aux_lemma =>
                obtain ⟨i0, i1, i2, i3⟩ := within_iff.1 hok
                obtain ⟨j0, j1, j2, j3⟩ := within_iff.1 hok2
                obtain ⟨p, rfl⟩ : ∃ p : Nat, A = (p : Int) := ⟨A.toNat, by omega⟩
                obtain ⟨q, rfl⟩ : ∃ q : Nat, B = (q : Int) := ⟨B.toNat, by omega⟩
                obtain ⟨c, rfl⟩ : ∃ c : Nat, N = (c : Int) := ⟨N.toNat, by omega⟩
                have hp : p + c ≤ L := by omega
                have hq : q + c ≤ L := by omega
                clear i0 i1 i2 i3 j0 j1 j2 j3
                have HOK := Lib.hid hok
                have HOK2 := Lib.hid hok2
                clear hok hok2
                go_wp2_with fail
                refine (Copy_yes' (p : Int) (q : Int) (c : Int) h0 0 rfl (by rw [HWL.out, HOK.out, HOK2.out]; rfl)).mono ?_
                rintro e w5 ⟨rfl, h5⟩
                rw [wrap_id (by omega) (by omega), Int.toNat_natCast, Int.toNat_natCast, Int.toNat_natCast] at h5
                replace h5 : Sep wc w5 [Arn b (cpy ws p q c) (n + 2 * c), blkP G 24 (u64s ws), blkP X 37 #[.int .i64 2, .int .i64 p, .int .i64 q, .int .i64 c, .int .u64 V]] := h5
                have y1 := (h5.blk 2 rfl).cell 1
                have y2 := (h5.blk 2 rfl).cell 2
                have y3 := (h5.blk 2 rfl).cell 3
                simp at y1 y2 y3
                clear x0 x1 x2 x3 x4
                go_wp2_with fail
                refine (within_calls (L : Int) (p : Int) (c : Int) _ (by omega) (by omega)).mono ?_
                rintro e w4 ⟨rfl, rfl⟩
                rw [HOK.out]
                go_wp2_with fail
                refine (within_calls (L : Int) (q : Int) (c : Int) _ (by omega) (by omega)).mono ?_
                rintro e w4 ⟨rfl, rfl⟩
                rw [HOK2.out]
                obtain ⟨A5, hA5, hcut5⟩ := run_slice_cut G L p c hp w5
                obtain ⟨l, hl⟩ : ∃ l, (ws.drop p).take c = l := ⟨_, rfl⟩
                have hll : l.length = c := by rw [← hl, List.length_take, List.length_drop, HWL.out]; omega
                have hlg : ∀ j, j < c → l[j]?.getD 0 = ws[p + j]?.getD 0 := fun j hj => by rw [← hl, List.getElem?_take, if_pos hj, List.getElem?_drop]
                have h6 := h5.new_blk 24 #[]
                simp only [List.cons_append, List.nil_append] at h6
                have hE := h6.blk 3 rfl
                have y6 := (h6.blk 2 rfl).cell 1
                have y7 := (h6.blk 2 rfl).cell 2
                have y8 := (h6.blk 2 rfl).cell 3
                simp at y6 y7 y8
                have hSL : SL (w5.alloc (.cells #[] 24)) (fun i => i = G) .u64 (.slice A5 c (L - p)) l := by
                  refine ⟨A5, L - p, by rw [hll], by omega, fun h0' => ⟨G, p, hA5 (by omega), rfl, (h6.blk_lt 1 rfl).2, fun j hj => ?_⟩⟩
                  rw [(h6.blk 1 rfl).cell, u64s_get (by rw [HWL.out]; omega), hlg j (by omega)]
                have HLL := Lib.hid hll
                have HLG := Lib.hid hlg
                clear hl hll hlg hA5
                go_wp2_with (at_builtin; refine wpList_append_new rfl _ _ 35 rfl 24 i (.int .u64 0) 8 Try.underlying35 hi hz hs hby rfl w5.heap.size hE rfl rfl hSL ?c1 ?_)
                case c1 => have := HLL.out; omega
                intro A' c' w6 hq6 k6
                obtain ⟨o6, ⟨ho6, _⟩, _, hup⟩ := h6.open_ 3 rfl
                have h7 := hup w6 (rowP 24 A' l.length c' (l.map (Value.int .u64))) (QR.mono hq6 (fun j h => h.elim (fun e => .inl (e ▸ ho6)) (fun e => .inr (by simpa using e)))) (k6.mono (fun i h => h.elim))
                rw [HLL.out] at h7 ⊢
                replace h7 : Sep wc w6 [Arn b (cpy ws p q c) (n + 2 * c), blkP G 24 (u64s ws), blkP X 37 #[.int .i64 2, .int .i64 p, .int .i64 q, .int .i64 c, .int .u64 V], rowP 24 A' c c' (l.map (Value.int .u64))] := h7
                clear hq6 k6 hup ho6 hSL hE hcut5 h5 h6 y1 y2 y3 y6 y7 y8
                go_wp2_with fail
                go_loopg [17] c (fun gj z wx => ∃ m : Nat, m + gj = c ∧ z = .int .i64 m ∧ Sep wc wx [Arn b (cpy ws p q c) (n + 2 * c), blkP G 24 (u64s (cpy ws p q m)), blkP X 37 #[.int .i64 2, .int .i64 p, .int .i64 q, .int .i64 c, .int .u64 V], rowP 24 A' c c' (l.map (Value.int .u64))])
                case atStart => exact ⟨0, by omega, rfl, by rw [cpy_zero]; exact h7⟩
                case round =>
                  clear h7
                  obtain ⟨m, hm, rfl, h6⟩ := hrel
                  have HM := Lib.hid hm
                  clear hm
                  have y1 := (h6.blk 2 rfl).cell 1
                  have y2 := (h6.blk 2 rfl).cell 2
                  have y3 := (h6.blk 2 rfl).cell 3
                  simp at y1 y2 y3
                  by_cases hmc : m < c
                  · obtain ⟨oq, hq, _⟩ := h6.row 3 rfl
                    obtain ⟨g, off, rfl, _, _, hcell, _⟩ := hq.at_ (i := m) hmc
                    have y6 := hcell m hmc
                    rw [List.getElem?_map, List.getElem?_eq_getElem (by rw [HLL.out]; exact hmc)] at y6
                    simp only [Option.map_some] at y6
                    have hv : l[m]'(by rw [HLL.out]; exact hmc) = ws[p + m]?.getD 0 := by
                      rw [← HLG.out m hmc, List.getElem?_eq_getElem (by rw [HLL.out]; exact hmc)]; rfl
                    rw [hv] at y6
                    have hzl : (cpy ws p q m).length = L := by rw [cpy_len (by rw [HWL.out]; omega) (by rw [HWL.out]; omega), HWL.out]
                    have y5 := (h6.blk 1 rfl).cell (q + m)
                    rw [u64s_get (by rw [hzl]; omega)] at y5
                    have z5 := (h6.blk 1 rfl).frozen (q + m)
                    have h7 : ∀ nn, Sep wc ((wr.drewN nn).setCell ⟨G, q + m, none⟩ (.int .u64 (ws[p + m]?.getD 0))) [Arn b (cpy ws p q c) (n + 2 * c), blkP G 24 (u64s (cpy ws p q (m + 1))), blkP X 37 #[.int .i64 2, .int .i64 p, .int .i64 q, .int .i64 c, .int .u64 V], rowP 24 (some ⟨g, off, none⟩) c c' (l.map (Value.int .u64))] := fun nn => by
                      have h8 := (h6.drewN nn).set_blk 1 rfl (q + m) (.int .u64 (ws[p + m]?.getD 0))
                      rw [u64s_set, cpy_step (by rw [HWL.out]; omega) (by rw [HWL.out]; omega)] at h8
                      exact h8
                    have H7 := Lib.hid h7
                    clear h7 hq hcell hv hzl
                    generalize ws[p + m]?.getD 0 = v at y6 H7
                    have e1 := IntWalk.i64_in ((q : Int) + (m : Int)) (by omega)
                    go_wp2_with fail
                    go_region
                    all_goals
                      go_wp2_with fail
                      go_roundg (gk - 1)
                      case measure => have := HM.out; omega
                      case rel => exact ⟨m + 1, by have := HM.out; omega, by go_num, H7.out 1⟩
                  · have hme : m = c := by have := HM.out; omega
                    rw [hme] at h6
                    clear hme
                    go_wp2_with fail
                    go_meet
                    exact ⟨cpy ws p q c, n + 2 * c, 0, rfl, rfl, rfl, by rw [cpy_len (by rw [HWL.out]; omega) (by rw [HWL.out]; omega), HWL.out], by omega, by omega, h6.pick [0, 1, 4] (by decide)⟩
          · have g2 : (wh == 2) = false := by simpa using hw2
            clear hw2 hw01
            cases hok : within (L : Int) A N
            · as_aux_lemma =>
              have HOK := Lib.hid hok
              clear hok
              go_wp2_with fail
              refine (Zero_no' A N h0 0 rfl (by rw [HWL.out]; exact HOK.out)).mono ?_
              rintro e w5 ⟨rfl, h5⟩
              replace h5 : Sep wc w5 [Arn b ws n, blkP G 24 (u64s ws), blkP X 37 #[.int .i64 wh, .int .i64 A, .int .i64 B, .int .i64 N, .int .u64 V]] := h5
              have y1 := (h5.blk 2 rfl).cell 1
              have y3 := (h5.blk 2 rfl).cell 3
              simp at y1 y3
              clear x0 x1 x2 x3 x4
              go_wp2_with fail
              refine (within_calls (L : Int) A N _ (by omega) (by omega)).mono ?_
              rintro e w4 ⟨rfl, rfl⟩
              rw [HOK.out]
              go_wp2_with fail
              go_meet
              exact ⟨ws, n, 2, rfl, rfl, rfl, HWL.out, hn0, by omega, h5.forget 2⟩
            · as_aux_lemma =>
              obtain ⟨i0, i1, i2, i3⟩ := within_iff.1 hok
              obtain ⟨p, rfl⟩ : ∃ p : Nat, A = (p : Int) := ⟨A.toNat, by omega⟩
              obtain ⟨c, rfl⟩ : ∃ c : Nat, N = (c : Int) := ⟨N.toNat, by omega⟩
              have hp : p + c ≤ L := by omega
              clear i0 i1 i2 i3
              have HOK := Lib.hid hok
              clear hok
              go_wp2_with fail
              refine (Zero_yes' (p : Int) (c : Int) h0 0 rfl (by rw [HWL.out]; exact HOK.out)).mono ?_
              rintro e w5 ⟨rfl, h5⟩
              rw [wrap_id (by omega) (by omega), Int.toNat_natCast, Int.toNat_natCast] at h5
              replace h5 : Sep wc w5 [Arn b (zro ws p c) (n + c), blkP G 24 (u64s ws), blkP X 37 #[.int .i64 wh, .int .i64 p, .int .i64 B, .int .i64 c, .int .u64 V]] := h5
              have y1 := (h5.blk 2 rfl).cell 1
              have y3 := (h5.blk 2 rfl).cell 3
              simp at y1 y3
              clear x0 x1 x2 x3 x4
              go_wp2_with fail
              refine (within_calls (L : Int) (p : Int) (c : Int) _ (by omega) (by omega)).mono ?_
              rintro e w4 ⟨rfl, rfl⟩
              rw [HOK.out]
              go_wp2_with fail
              clear y1 y3
              go_loopg [18] c (fun gj q wx => ∃ m : Nat, m + gj = c ∧ q = .int .i64 m ∧ Sep wc wx [Arn b (zro ws p c) (n + c), blkP G 24 (u64s (zro ws p m)), blkP X 37 #[.int .i64 wh, .int .i64 p, .int .i64 B, .int .i64 c, .int .u64 V]])
              case atStart => exact ⟨0, by omega, rfl, by rw [zro_zero]; exact h5⟩
              case round =>
                clear h5
                obtain ⟨m, hm, rfl, h6⟩ := hrel
                have HM := Lib.hid hm
                clear hm
                have y1 := (h6.blk 2 rfl).cell 1
                have y3 := (h6.blk 2 rfl).cell 3
                simp at y1 y3
                by_cases hmc : m < c
                · have hzl : (zro ws p m).length = L := by rw [zro_len (by rw [HWL.out]; omega), HWL.out]
                  have y5 := (h6.blk 1 rfl).cell (p + m)
                  rw [u64s_get (by rw [hzl]; omega)] at y5
                  have z5 := (h6.blk 1 rfl).frozen (p + m)
                  have h7 := h6.set_blk 1 rfl (p + m) (.int .u64 0)
                  rw [u64s_set, zro_step (by rw [HWL.out]; omega)] at h7
                  clear hzl
                  go_wp2_with fail
                  go_roundg (gk - 1)
                  case measure => have := HM.out; omega
                  case rel => exact ⟨m + 1, by have := HM.out; omega, by go_num, h7⟩
                · have hme : m = c := by have := HM.out; omega
                  rw [hme] at h6
                  clear hme
                  go_wp2_with fail
                  go_meet
                  exact ⟨zro ws p c, n + c, 0, rfl, rfl, rfl, by rw [zro_len (by rw [HWL.out]; omega), HWL.out], by omega, by omega, h6.forget 2⟩
      case rest =>
        as_aux_lemma =>
        obtain ⟨ws', n', e', rfl, rfl, rfl, hwl', hn0', hn9', h⟩ := hcut
        clear HWL h0 ws hn0 hn9 n
        have HWL := Lib.hid hwl'
        clear hwl'
        have q1 : (e' != e') = false := by simp
        go_wp2_with fail
        refine (Count_sep h 0 rfl).mono ?_
        rintro e w6 ⟨rfl, rfl⟩
        have q2 : (n' != n') = false := by simp
        go_wp2_with fail
        refine (Len_sep h 0 rfl).mono ?_
        rintro e w6 ⟨rfl, rfl⟩
        rw [HWL.out]
        have q3 : (((L : Nat) : Int) != ((L : Nat) : Int)) = false := by simp
        go_wp2_with fail
        go_roundg (gk - 1)
        case measure => omega
        case rel => exact ⟨k + 1, ws', n', by omega, by go_num, rfl, HWL.out, hn0', by omega, h.first (l := [_, _])⟩
    · as_aux_lemma =>
      rcases (by omega : ¬ k < l1.length ∨ (k < l1.length ∧ ¬ k < 60)) with hx | ⟨hx, hx'⟩
      all_goals
        clear hc
        go_wp2_with fail
        go_loopg [19] L (fun gj q wx => ∃ j : Nat, j + gj = L ∧ q = .int .i64 j ∧ Sep wc wx [Arn b ws (n + j), blkP G 24 (u64s ws)])
        case atStart => exact ⟨0, by omega, rfl, by simpa using h⟩
        case round =>
          obtain ⟨j, hj, rfl, h4⟩ := hrel
          by_cases hjL : j < L
          · have hin : within ws.length (j : Int) 1 = true := within_yes (by rw [HWL.out]; omega)
            have HIN := Lib.hid hin
            have HJ := Lib.hid hj
            clear hin hj
            go_wp2_with fail
            refine (Load_yes' (j : Int) h4 0 rfl HIN.out).mono ?_
            rintro e w5 ⟨rfl, h5⟩
            rw [wrap_id (by omega) (by omega)] at h5
            replace h5 : Sep wc w5 [Arn b ws (n + j + 1), blkP G 24 (u64s ws)] := h5
            have y5 := (h5.blk 1 rfl).cell j
            rw [u64s_get (by rw [HWL.out]; exact hjL)] at y5
            rw [Int.toNat_natCast]
            generalize ws[j]?.getD 0 = v at y5 ⊢
            have q4 : (v != v) = false := by simp
            clear h h4
            go_wp2_with fail
            go_roundg (gk - 1)
            case measure => have := HJ.out; omega
            case rel => exact ⟨j + 1, by have := HJ.out; omega, by go_num, by rw [show n + ((j + 1 : Nat) : Int) = n + j + 1 by omega]; exact h5⟩
          · clear h
            go_wp2_with fail
            refine (awake_sep h4).mono ?_
            rintro e w6 ⟨rfl, h6⟩
            go_wp2_with fail
            go_ret
            exact ⟨by simp, h6.below⟩
end Go.Proofs.Ytfaffpmmjlddeaa.Ar
