/- GreyPlays as a contract. Condition: the list reads as a list. -/
import Derived.Test.YtdibadfecoipfaaGreySep
import Derived.Test.YtdibadfecoipfaaActs3
import Derived.Deep.DeepCutAuto
import Derived.Deep.CutBlock
import Derived.Deep.LoopGhost
set_option linter.unusedVariables false
set_option linter.unusedSimpArgs false
namespace Go.Proofs.Ytdibadfecoipfaa.Gy
open Go.RowKit Go.Proofs.Ytdibadfecoipfaa.W Go.Proofs.Ytdibadfecoipfaa.Sm

theorem fits_iff (n : Int) (k : Nat) : ((k : Int) < clampN n) ↔ ((k : Int) < n ∧ k < 1048576) := by
  unfold clampN; (repeat' split) <;> omega

set_option maxHeartbeats 8000000 in
set_option maxRecDepth 100000 in
theorem Plays_calls {v1 : Value} {l1 : List A3} (n : Int) (w : World) (g1 : SS w (fun i => i < w.heap.size) A3.cells 3 v1 l1) (q1 : ∀ x ∈ l1, A3.wf w x) :
    Calls Try.prog 8 #[.int .i64 n, v1] w fun e w' => e = .returned (.bool true) ∧ Below w.heap.size w w' := by
  obtain ⟨A1, c1, rfl, hm1, hc1⟩ := g1
  have HC1 := Lib.hid hc1
  have Q1 := Lib.hid q1
  clear hc1 q1
  obtain ⟨i, hi, hz, hs, hby⟩ := info_parts info_int
  have hm0 : 0 ≤ clampN n := by unfold clampN; (repeat' split) <;> omega
  have hm9 : clampN n ≤ 1048576 := by unfold clampN; (repeat' split) <;> omega
  obtain ⟨M, hM⟩ : ∃ M, clampN n = M := ⟨_, rfl⟩
  have hfit := fun k => fits_iff n k
  rw [hM] at hm0 hm9 hfit
  have HF := Lib.hid hfit
  clear hfit
  go_enter Try.func8, Try.ntmps8
  go_wp2_with fail
  refine (New_sep n (Sep.nil w)).mono ?_
  rintro e w1 ⟨b, rfl, h1⟩
  rw [hM] at h1
  have h2 := h1.new_row 3 #[] (by simp)
  clear hM
  go_wp2_with fail
  go_loopg [6, 7, 8] 80 (fun gk v lo i wr => ∃ (k : Nat) (L : List Int) (ln : Nat) (lost : Bool) (A : Option Addr) (c : Nat), k + gk = 80 ∧ i = .int .i64 k ∧ v = .slice A ln c ∧ lo = .bool lost ∧ L.length = ln ∧ Sep w wr [Stk b M L lost, rowP 3 A ln c (L.map (Value.int .i64))])
  case atStart => exact ⟨0, [], 0, false, _, 0, rfl, rfl, rfl, rfl, rfl, h2⟩
  case round =>
    clear h1 h2
    obtain ⟨k, L, ln, lost, A, c, hk, rfl, rfl, rfl, hln, h⟩ := hrel
    have HLN := Lib.hid hln
    clear hln
    by_cases hc : k < l1.length ∧ k < 80
    · obtain ⟨hl1, hl2⟩ := hc
      obtain ⟨b1, o1, rfl, hb1, hlt1, hcell1⟩ := HC1.out (by omega)
      obtain ⟨⟨wh, N, lv, list⟩, hx⟩ : ∃ x, l1[k]? = some x := ⟨l1[k], List.getElem?_eq_getElem hl1⟩
      have hwf := Q1.out _ (List.mem_of_getElem? hx)
      obtain ⟨⟨wa, wb⟩, ⟨na, nb⟩, hsl⟩ := hwf
      simp only [] at wa wb na nb hsl
      have hslv := hsl
      obtain ⟨Al, cl, rfl, hml, hcl⟩ := hsl
      clear hcl
      have d0 : wr.cell? ⟨b1, o1 + k * 3, none⟩ = some (.int .i64 wh) := (World.cell?_of_block (h.block b1 hlt1)).trans (hcell1 k _ hx 0 _ rfl)
      have d1 : wr.cell? ⟨b1, o1 + k * 3 + 1, none⟩ = some (.int .i64 N) := (World.cell?_of_block (h.block b1 hlt1)).trans (hcell1 k _ hx 1 _ rfl)
      have d2 : wr.cell? ⟨b1, o1 + k * 3 + 2, none⟩ = some (.slice Al list.length cl) := (World.cell?_of_block (h.block b1 hlt1)).trans (hcell1 k _ hx 2 _ rfl)
      clear hcell1 hx
      have h0 := h.new_blk 41 #[.int .i64 wh, .int .i64 N, .slice Al list.length cl]
      obtain ⟨X, hX⟩ : ∃ X, wr.heap.size = X := ⟨_, rfl⟩
      rw [hX] at h0
      go_upto_block 2 with fail
      have hXw : wr.heap.size = X := hX
      generalize wr.alloc (.cells #[.int .i64 wh, .int .i64 N, .slice Al list.length cl] 41) = w2 at h0 ⊢
      clear hX hXw d0 d1 d2 h
      have HSL := Lib.hid hslv
      clear hslv
      simp only [List.cons_append, List.nil_append] at h0
      have hsb := Stk_b h0 0 rfl
      obtain ⟨hb0, hb1', hb2⟩ := hsb
      rw [HLN.out] at hb0
      by_cases hbig : ((wh ≠ 0 ∧ wh ≠ 1) ∧ wh ≠ 2) ∧ 50 < list.length
      · obtain ⟨⟨⟨hw0, hw1⟩, hw2⟩, hw3⟩ := hbig
        have g0 : (wh == 0) = false := by simpa using hw0
        have g1 : (wh == 1) = false := by simpa using hw1
        have g2 : (wh == 2) = false := by simpa using hw2
        have x2 := (h0.blk 2 rfl).cell 2
        simp at x2
        clear hw0 hw1 hw2
        go_wp2_with fail
        go_roundg (gk - 1)
        case measure => omega
        case rel => exact ⟨k + 1, L, ln, lost, A, c, by omega, by go_num, rfl, rfl, HLN.out, h0.first (l := [_, _])⟩
      go_cut [6, 7] (fun v lo wx => ∃ (L : List Int) (ln : Nat) (lost : Bool) (A : Option Addr) (c : Nat), v = .slice A ln c ∧ lo = .bool lost ∧ L.length = ln ∧ Sep w wx [Stk b M L lost, rowP 3 A ln c (L.map (Value.int .i64)), emp])
      case first =>
        have x1 := (h0.blk 2 rfl).cell 1
        have x2 := (h0.blk 2 rfl).cell 2
        simp at x1 x2
        rcases (by omega : (wh = 0 ∧ (ln : Int) < M) ∨ (wh = 0 ∧ ¬ (ln : Int) < M) ∨ (wh = 1 ∧ ln = 0) ∨ (wh = 1 ∧ 0 < ln) ∨ wh = 2 ∨ (((wh ≠ 0 ∧ wh ≠ 1) ∧ wh ≠ 2) ∧ list.length ≤ 50)) with ⟨rfl, hf⟩ | ⟨rfl, hf⟩ | ⟨rfl, rfl⟩ | ⟨rfl, hf⟩ | rfl | ⟨⟨⟨hw0, hw1⟩, hw2⟩, hw3⟩
        · as_aux_lemma =>
          have hf2 := (HF.out ln).1 hf
          have d1 : decide ((ln : Int) < n) = true := by simpa using hf2.1
          have d2 : decide ((ln : Int) < 1048576) = true := by have := hf2.2; rw [decide_eq_true_eq]; omega
          have d3 : decide ((ln : Int) < M) = true := by simpa using hf
          obtain ⟨hfa, hfb⟩ := hf2
          have HFB := Lib.hid hfb
          clear hfa hfb
          go_wp2_with fail
          clear d1 d2
          refine (Push_sep N h0 0 rfl).mono ?_
          rintro e w3 ⟨rfl, h3⟩
          rw [putL_ok N (by rw [HLN.out]; exact hf), HLN.out, show decide (M ≤ (ln : Int)) = false from by simp; omega, Bool.or_false] at h3
          rw [HLN.out, d3]
          replace h3 : Sep w w3 [Stk b M (L ++ [N]) lost, rowP 3 A ln c (L.map (Value.int .i64)), blkP X 41 #[.int .i64 0, .int .i64 N, .slice Al list.length cl]] := h3
          have y1 := (h3.blk 2 rfl).cell 1
          simp at y1
          clear x1 x2 h0
          go_wp2_with (at_builtin; refine wpList_append_sep rfl _ _ 22 rfl 3 i (.int .i64 0) 8 Try.underlying22 hi hz hs hby rfl A ln c (L.map (Value.int .i64)) rfl w3.heap.size (.int .i64 N) rfl (h3.alloc _) 1 rfl ?c1 rfl ?c2 ?c3 ?_)
          case c1 => simp
          case c2 => have := HFB.out; omega
          case c3 => have := HFB.out; omega
          intro A' c' w4 h4
          go_wp2_with fail
          go_meet
          exact ⟨L ++ [N], ln + 1, lost, A', c', rfl, rfl, by rw [List.length_append, HLN.out]; rfl, by
            have := h4.forget 2
            simpa using this⟩
        · as_aux_lemma =>
          have hf2 : ¬ ((ln : Int) < n ∧ ln < 1048576) := fun h => hf ((HF.out ln).2 h)
          have d3 : decide ((ln : Int) < M) = false := by simpa using hf
          rcases (by omega : ¬ (ln : Int) < n ∨ ((ln : Int) < n ∧ ¬ ln < 1048576)) with hz1 | ⟨hz1, hz2⟩
          · have d1 : decide ((ln : Int) < n) = false := by simpa using hz1
            clear hf2 hz1
            go_wp2_with fail
            refine (Push_sep N h0 0 rfl).mono ?_
            rintro e w3 ⟨rfl, h3⟩
            rw [putL_no N (by rw [HLN.out]; omega), HLN.out, show decide (M ≤ (ln : Int)) = true from by simp; omega, Bool.or_true] at h3
            rw [HLN.out, d3]
            go_wp2_with fail
            go_meet
            exact ⟨L, ln, true, A, c, rfl, rfl, HLN.out, h3.forget 2⟩
          · have d1 : decide ((ln : Int) < n) = true := by simpa using hz1
            have d2 : decide ((ln : Int) < 1048576) = false := by rw [decide_eq_false_iff_not]; omega
            have HZ2 : Hid (¬ ln < 1048576) := hz2
            clear hf2 hz1 hz2
            go_wp2_with fail
            clear d1 d2
            refine (Push_sep N h0 0 rfl).mono ?_
            rintro e w3 ⟨rfl, h3⟩
            rw [putL_no N (by rw [HLN.out]; omega), HLN.out, show decide (M ≤ (ln : Int)) = true from by simp; omega, Bool.or_true] at h3
            rw [HLN.out, d3]
            go_wp2_with fail
            go_meet
            exact ⟨L, ln, true, A, c, rfl, rfl, HLN.out, h3.forget 2⟩
        · as_aux_lemma =>
          have hL0 : L = [] := List.eq_nil_of_length_eq_zero HLN.out
          subst hL0
          go_wp2_with fail
          refine (Pop_sep h0 0 rfl).mono ?_
          rintro e w3 ⟨rfl, h3⟩
          rw [show last0 [] = 0 from rfl, show some0 [] = false from rfl]
          go_wp2_with fail
          go_meet
          exact ⟨[], 0, lost, A, c, rfl, rfl, rfl, h3.forget 2⟩
        · as_aux_lemma =>
          obtain ⟨m, rfl⟩ : ∃ m, ln = m + 1 := ⟨ln - 1, by omega⟩
          have hs0 : some0 L = true := by
            cases L with
            | nil => have := HLN.out; simp at this
            | cons _ _ => rfl
          go_wp2_with fail
          refine (Pop_sep h0 0 rfl).mono ?_
          rintro e w3 ⟨rfl, h3⟩
          rw [hs0]
          rw [HLN.out, Nat.add_sub_cancel] at h3
          replace h3 : Sep w w3 [Stk b M (L.take m) lost, rowP 3 A (m + 1) c (L.map (Value.int .i64)), blkP X 41 #[.int .i64 1, .int .i64 N, .slice Al list.length cl]] := h3
          obtain ⟨oq, hq, _⟩ := h3.row 1 rfl
          obtain ⟨g, off, rfl, _, _, hcell, _⟩ := hq.at_ (i := m) (by omega)
          have hcap := hq.2.1
          have y1 : w3.cell? ⟨g, off + m, none⟩ = some (.int .i64 (last0 L)) := by
            rw [hcell m (by omega)]
            have := HLN.out
            simp [last0, this]
          have hsl : ∀ W : World, (Instr.slice 22 (.slice (some ⟨g, off, none⟩) (m + 1) c) none (some (.int .i64 (m : Int))) none).run Try.prog W = .ok (.slice (some ⟨g, off, none⟩) m c) W := by
            intro W
            have := run_cutm Try.underlying22 hi g off (m + 1) c (m : Int) (by omega) (by omega) W
            simpa using this
          have h4 := (h3.row_take 1 rfl (j := m) (by omega)).forget 2
          have hlt : (L.take m).length = m := by rw [List.length_take, HLN.out]; omega
          have HLT := Lib.hid hlt
          generalize last0 L = x at y1 ⊢
          clear hq hcell x1 x2 h0 hs0 hlt
          have hxx : (x != x) = false := by simp
          have hm9' : (m : Int) ≤ 1048575 := by omega
          go_wp2_with fail
          go_meet
          exact ⟨L.take m, m, lost, some ⟨g, off, none⟩, c, rfl, rfl, HLT.out, by simpa [List.map_take] using h4⟩
        · as_aux_lemma =>
          go_wp2_with fail
          refine (Found_sep h0 0 rfl).mono ?_
          rintro e w3 ⟨rfl, h3⟩
          go_wp2_with fail
          go_meet
          exact ⟨L, ln, false, A, c, rfl, rfl, HLN.out, h3.forget 2⟩
        · as_aux_lemma =>
          have g0 : (wh == 0) = false := by simpa using hw0
          have g1 : (wh == 1) = false := by simpa using hw1
          have g2 : (wh == 2) = false := by simpa using hw2
          have hw3' : decide (50 < list.length) = false := by simp; omega
          clear hw0 hw1 hw2
          have HK : Keep (fun _ => False) w w2 := h0.keep0
          go_wp2_with fail
          refine (Put_sep h0 0 rfl ((HSL.out).keep HK (fun _ _ h => h)) (fun i h => h)).mono ?_
          rintro e w3 ⟨rfl, h3⟩
          replace h3 : Sep w w3 [Stk b M (got list M list.length) (lost || decide (M < (list.length : Int))), rowP 3 A ln c (L.map (Value.int .i64)), blkP X 41 #[.int .i64 wh, .int .i64 N, .slice Al list.length cl]] := h3
          have y2 := (h3.blk 2 rfl).cell 2
          simp at y2
          clear x1 x2 h0
          go_wp2_with fail
          have hE := (h3.new_row 3 #[] (by simp))
          go_loopg [6, 7, 13] list.length (fun gj v lo j wx => ∃ (m ln : Nat) (A : Option Addr) (c : Nat), m + gj = list.length ∧ j = .int .i64 m ∧ v = .slice A ln c ∧ lo = .bool (lost || decide (M < (m : Int))) ∧ (got list M m).length = ln ∧
            Sep w wx [Stk b M (got list M list.length) (lost || decide (M < (list.length : Int))), emp, blkP X 41 #[.int .i64 wh, .int .i64 N, .slice Al list.length cl], rowP 3 A ln c ((got list M m).map (Value.int .i64))])
          case atStart => exact ⟨0, 0, _, 0, by omega, rfl, rfl, by rw [show decide (M < ((0 : Nat) : Int)) = false from by simp; omega, Bool.or_false], by simp [got], by simpa [got] using hE.forget 1⟩
          case round =>
            clear h3 hE y2
            obtain ⟨m, lm, A', c', hm, rfl, rfl, rfl, hlm, h4⟩ := hrel
            have HLM := Lib.hid hlm
            clear hlm
            have y2 := (h4.blk 2 rfl).cell 2
            simp at y2
            have hlmb : (lm : Int) = if (m : Int) < M then (m : Int) else M := by rw [← HLM.out]; exact got_len list M (by omega) hm0
            by_cases hml : m < list.length
            · obtain ⟨bl, ol, rfl, hbl, hltl, hcl⟩ : ∃ b o, Al = some ⟨b, o, none⟩ ∧ b < w.heap.size ∧ b < w.heap.size ∧ w.cell? ⟨b, o + m, none⟩ = some (.int .i64 (list[m]?.getD 0)) := by
                obtain ⟨A5, c5, e5, _, h5⟩ := HSL.out
                injection e5 with e5 _ _
                subst e5
                obtain ⟨b, o, e6, h6, h7, h8⟩ := h5 (by omega)
                exact ⟨b, o, e6, h6, h7, h8 m hml⟩
              by_cases hmM : (m : Int) < M
              · rw [if_pos hmM] at hlmb
                have hmn : (lm : Int) < n := by have := (HF.out lm).1 (by omega); exact this.1
                have hga := got_app hml hmM
                have HGA := Lib.hid hga
                clear hga
                have y3 : wr.cell? ⟨bl, ol + m, none⟩ = some (.int .i64 (list[m]?.getD 0)) := (World.cell?_of_block (h4.block bl hltl)).trans hcl
                generalize list[m]?.getD 0 = x at y3 HGA
                clear hcl
                have hf1 : decide (M < (m : Int)) = false := by simp; omega
                have hf2 : decide (M < ((m + 1 : Nat) : Int)) = false := by simp; omega
                have HF1 := Lib.hid hf1
                have HF2 := Lib.hid hf2
                clear hf1 hf2
                go_wp2_with (at_builtin; refine wpList_append_sep rfl _ _ 22 rfl 3 i (.int .i64 0) 8 Try.underlying22 hi hz hs hby rfl A' lm c' ((got list M m).map (Value.int .i64)) rfl wr.heap.size (.int .i64 x) rfl (h4.alloc _) 3 rfl ?c1 rfl ?c2 ?c3 ?_)
                case c1 => simp
                case c2 => omega
                case c3 => omega
                intro A'' c'' w5 h5
                go_wp2_with fail
                go_roundg (gk - 1)
                case measure => omega
                case rel => exact ⟨m + 1, lm + 1, A'', c'', by omega, by go_num, rfl, by rw [HF1.out, HF2.out], by rw [HGA.out, List.length_append, HLM.out]; rfl, by rw [HGA.out]; simpa using h5⟩
              · rw [if_neg hmM] at hlmb
                have hmn : ¬ (lm : Int) < n := fun h => by
                  have := (HF.out lm).2 ⟨h, by omega⟩
                  omega
                have hga := got_stop hml hm0 hmM
                have HGA := Lib.hid hga
                have hf2 : decide (M < ((m + 1 : Nat) : Int)) = true := by simp; omega
                have HF2 := Lib.hid hf2
                clear hga hcl hf2
                go_wp2_with fail
                go_roundg (gk - 1)
                case measure => omega
                case rel => exact ⟨m + 1, lm, A', c', by omega, by go_num, rfl, by rw [HF2.out, Bool.or_true], by rw [HGA.out, HLM.out], by rw [HGA.out]; exact h4⟩
            · have hme : m = list.length := by omega
              have HME := Lib.hid hme
              clear hme
              go_wp2_with fail
              go_meet
              refine ⟨got list M list.length, lm, _, A', c', rfl, rfl, by rw [← HME.out, HLM.out], ?_⟩
              rw [HME.out] at h4 ⊢
              exact h4.pick [0, 3, 4] (by decide)
      case rest =>
        obtain ⟨L', ln', lost', A', c', rfl, rfl, hln', h⟩ := hcut
        have HL := Lib.hid hln'
        clear hln' HLN h0
        go_wp2_with fail
        refine (Lost_sep h 0 rfl).mono ?_
        rintro e w5 ⟨rfl, h5⟩
        have q1 : (lost' != lost') = false := by simp
        go_wp2_with fail
        refine (Len_sep h5 0 rfl).mono ?_
        rintro e w6 ⟨rfl, rfl⟩
        rw [HL.out]
        have q2 : (((ln' : Nat) : Int) != ((ln' : Nat) : Int)) = false := by simp
        go_wp2_with fail
        refine (All_sep h5 0 rfl).mono ?_
        rintro e w6 ⟨A6, c6, rfl, s6, h6, z6⟩
        obtain ⟨o6, r6, _⟩ := h6.row 1 rfl
        rw [← HL.out] at r6
        rw [← HL.out]
        go_wp2_with fail
        refine (Ints_calls w6 s6 r6.sl).mono ?_
        rintro e w7 ⟨rfl, n7, rfl⟩
        rw [show decide (L' = L') = true from by simp]
        go_wp2_with fail
        go_roundg (gk - 1)
        case measure => omega
        case rel => exact ⟨k + 1, L', _, lost', A', c', by omega, by go_num, rfl, rfl, rfl, by
          have := (h6.drewN n7).first (l := [_, _])
          rw [← HL.out] at this
          exact this⟩
    · rcases (by omega : ¬ k < l1.length ∨ (k < l1.length ∧ ¬ k < 80)) with hx | ⟨hx, hx'⟩
      all_goals
        clear hc
        go_wp2_with fail
        refine (awake_sep h).mono ?_
        rintro e w6 ⟨rfl, h6⟩
        go_wp2_with fail
        go_ret
        exact ⟨by simp, h6.below⟩
end Go.Proofs.Ytdibadfecoipfaa.Gy
