/- GraphErrors as a contract. Condition: the list reads as a list. -/
import Derived.Test.YtoldhaomacnigaaGrM
set_option linter.unusedVariables false
set_option linter.unusedSimpArgs false
namespace Go.Proofs.Ytoldhaomacnigaa.Gr
open Go.RowKit Go.Proofs.Ytoldhaomacnigaa.W Go.Proofs.Ytoldhaomacnigaa Go.Proofs.Ytoldhaomacnigaa.Sm
theorem gdo_err {s : GS} {x : A5} (h : (gdo s x).1.e ≠ 0) : (gdo s x).1 = err (gdo s x).1.e ∧ (gdo s x).2 = s := by
  revert h
  unfold gdo
  (repeat' split)
  all_goals first | (unfold ans gmake) | (unfold ans gget) | (unfold ans gset) | (unfold gread) | (unfold ans gwrite) | (unfold ans gclear) | (unfold ans gcopy) | (unfold gsame) | (unfold gnil) | (unfold gshape) | (unfold gidle) | skip
  all_goals (repeat' split)
  all_goals simp [err]
theorem gdo_asks {s : GS} {x : A5} (h : x.kind = 4 ∨ x.kind = 8 ∨ x.kind = 9 ∨ x.kind = 10 ∨ x.kind = 11 ∨ x.kind = 12) : (gdo s x).2 = s := by
  rcases h with h | h | h | h | h | h <;> (unfold gdo; simp [h])
/-- Whatever the last step: it answers so, and the graph is as before, unless it is said that it is not. -/
theorem gdo_last (s : GS) (x : A5) : ((gdo s x).1.e ≠ 0 ∧ (gdo s x).1 = err (gdo s x).1.e ∧ (gdo s x).2 = s) ∨ ((gdo s x).1.e = 0 ∧ (x.kind = 4 ∨ x.kind = 8 ∨ x.kind = 9 ∨ x.kind = 10 ∨ x.kind = 11 ∨ x.kind = 12) ∧ (gdo s x).2 = s) ∨ ((gdo s x).1.e = 0 ∧ x.kind ≠ 4 ∧ x.kind ≠ 8 ∧ x.kind ≠ 9 ∧ x.kind ≠ 10 ∧ x.kind ≠ 11 ∧ x.kind ≠ 12) := by
  by_cases h : (gdo s x).1.e = 0
  · by_cases h2 : x.kind = 4 ∨ x.kind = 8 ∨ x.kind = 9 ∨ x.kind = 10 ∨ x.kind = 11 ∨ x.kind = 12
    · exact .inr (.inl ⟨h, h2, gdo_asks h2⟩)
    · exact .inr (.inr ⟨h, by simpa [not_or] using h2⟩)
  · exact .inl ⟨h, gdo_err h⟩
set_option maxRecDepth 20000 in
set_option maxHeartbeats 4000000 in
theorem Errors_calls {v1 : Value} {l1 : List A5} (a0 : Int) (x : A5) (w : World) (p0 : 0 ≤ a0 ∧ a0 ≤ 255) (g1 : SS w (fun i => i < w.heap.size) A5.cells 5 v1 l1) (q1 : ∀ x ∈ l1, A5.wf x) (hx : x.wf) :
    Calls Try.prog 8 #[.int .u8 a0, v1, stp x] w fun e w' => e = .returned (.bool true) ∧ Below w.heap.size w w' := by
  obtain ⟨A1, c1, rfl, hm1, hc1⟩ := g1
  have HC1 := Lib.hid hc1
  have Q1 := Lib.hid q1
  have HX := Lib.hid hx
  clear hc1 q1 hx
  obtain ⟨p00, p01⟩ := p0
  have r0 : 0 ≤ a0 % 8 := by omega
  have r1 : a0 % 8 < 8 := by omega
  obtain ⟨x0, x1, x2, x3, x4⟩ := x
  go_enter Try.func8, Try.ntmps8
  go_wp2_with fail
  obtain ⟨n, hn⟩ : ∃ n : Nat, a0 % 8 + 1 = n := ⟨(a0 % 8 + 1).toNat, by omega⟩
  have n1 : n ≤ 10 := by omega
  rw [hn]
  clear hn r0 r1 p00 p01
  refine (New_sep n 6 ((Sep.nil w).new_blk 33 (stc ⟨x0, x1, x2, x3, x4⟩))).mono ?_
  rintro e w1 ⟨g, rfl, h1⟩
  have H1 := Lib.hid h1
  clear h1
  go_wp2_with fail
  go_loopg [8] 60 (fun gk z wr => ∃ (j : Nat) (t : GS), j + gk = 60 ∧ z = .int .i64 j ∧ Sep w wr [blkP w.heap.size 33 (stc ⟨x0, x1, x2, x3, x4⟩), Gph g t] ∧ t.nodes.length ≤ j)
  case atStart => exact ⟨0, gnew n 6, by omega, rfl, H1.out, by simp [gnew]⟩
  case round =>
    clear H1
    obtain ⟨j, t, hj, rfl, h, hno⟩ := hrel
    have HJ := Lib.hid hj
    have hj60 : j ≤ 60 := by omega
    clear hj
    by_cases hc : j < l1.length ∧ j < 60
    · obtain ⟨hlt, hlt2⟩ := hc
      obtain ⟨b, o, x, hx, rfl, y0, y1, y2, y3, y4⟩ := step_at HC1.out h.keep0 hlt
      have hwf := Q1.out x (List.mem_of_getElem? hx)
      have hgl := gdo_len t x
      have hdo := Do_sep x hwf h 1 rfl
      have HD := Lib.hid hdo
      have HGL := Lib.hid hgl
      clear h hdo hx hgl hwf
      go_wp2_with fail
      refine HD.out.mono ?_
      rintro e w2 ⟨rfl, h2⟩
      have H2 := Lib.hid h2
      clear h2 HD
      go_wp2_with fail
      go_roundg (gk - 1)
      case measure => have := HJ.out; omega
      case rel => exact ⟨j + 1, _, by have := HJ.out; omega, by go_num, H2.out, by have := HGL.out.2.1; omega⟩
    · have hlast := gdo_last t ⟨x0, x1, x2, x3, x4⟩
      have hgl := (gdo_len t ⟨x0, x1, x2, x3, x4⟩).2.1
      have hdo := fun (W9 : World) (l9 : List Pr) (h9 : Sep w W9 ([blkP w.heap.size 33 (stc ⟨x0, x1, x2, x3, x4⟩), Gph g t] ++ l9)) => Do_sep ⟨x0, x1, x2, x3, x4⟩ HX.out h9 1 rfl
      have hnd := Nodes_sep h 1 rfl (by omega)
      obtain ⟨⟨R1, R2⟩, hR⟩ : ∃ R, gdo t ⟨x0, x1, x2, x3, x4⟩ = R := ⟨_, rfl⟩
      rw [hR] at hlast hgl
      simp only [hR] at hdo
      obtain ⟨r0, r1, r2, r3⟩ := R1
      simp only [] at hlast hgl
      simp only [GA.cells] at hdo
      have HDO := Lib.hid hdo
      have HND := Lib.hid hnd
      have HLA := Lib.hid hlast
      clear h hR hlast hdo hnd
      rcases (by omega : ¬ j < l1.length ∨ (j < l1.length ∧ ¬ j < 60)) with hx | ⟨hx, hx'⟩
      all_goals
        clear hc
        go_wp2_with fail
        refine HND.out.mono ?_
        rintro e w3 ⟨v, hv, rfl, h3⟩
        have cc := fun (W9 : World) (l9 : List Pr) (h9 : Sep w W9 (blkP w.heap.size 33 (stc ⟨x0, x1, x2, x3, x4⟩) :: l9)) => h9.blk 0 rfl
        have b3 := cc _ _ h3
        have s0 := b3.cell 0
        have s1 := b3.cell 1
        have s2 := b3.cell 2
        have s3 := b3.cell 3
        have s4 := b3.cell 4
        simp at s0 s1 s2 s3 s4
        have H3 := Lib.hid h3
        have CC := Lib.hid cc
        clear h3 HND b3 cc
        go_wp2_with fail
        refine (HDO.out _ _ H3.out).mono ?_
        rintro e w4 ⟨rfl, h4⟩
        have H4 := Lib.hid (SepO.new_blk h4 30 #[.int .i64 r0, .bool r1, .int .i64 r2, .int .u64 r3])
        clear h4 H3 HDO s0 s1 s2 s3 s4
        go_wp2_with fail
        refine (Nodes_sep H4.out 1 rfl (by omega)).mono ?_
        rintro e w5 ⟨v', hv', rfl, h5⟩
        have b5 := CC.out _ _ h5
        have s0 := b5.cell 0
        have ba := SepO.blk h5 4 rfl
        have q0 := ba.cell 0
        have q1 := ba.cell 1
        have q2 := ba.cell 2
        have q3 := ba.cell 3
        simp at s0 q0 q1 q2 q3
        have H5 := Lib.hid h5
        clear h5 H4 b5 ba CC
        rcases HLA.out with ⟨e1, e2, e3⟩ | ⟨e1, e2, e3⟩ | ⟨e1, e2⟩
        · cases e2
          subst e3
          have hb : (r0 != 0) = true := by simpa using e1
          have hb2 : (r0 == 0) = false := by simpa using e1
          clear HLA e1
          go_wp2_with fail
          all_goals
            refine (awake_calls _).mono ?_
            rintro e w6 ⟨rfl, k6⟩
            have h6 := H5.out.stay k6
            have ba := SepO.blk h6 4 rfl
            have q0 := ba.cell 0
            have b5 := h6.blk 0 rfl
            have s0 := b5.cell 0
            simp at q0 s0
            have H6 := Lib.hid h6
            clear h6 k6 ba b5
            go_wp2_with fail
            refine (Same_calls w6 (nodes_of_part H6.out 2 rfl) (ints_of_part H6.out 3 rfl) (nodes_of_part H6.out 5 rfl) (ints_of_part H6.out 6 rfl)).mono ?_
            rintro e w7 ⟨rfl, n7, rfl⟩
            go_wp2_with fail
            go_ret
            exact ⟨rfl, (H6.out.drewN _).below⟩
        · subst e1
          subst e3
          clear HLA
          rcases e2 with rfl | rfl | rfl | rfl | rfl | rfl
          all_goals
            go_wp2_with fail
            refine (awake_calls _).mono ?_
            rintro e w6 ⟨rfl, k6⟩
            have h6 := H5.out.stay k6
            have ba := SepO.blk h6 4 rfl
            have q0 := ba.cell 0
            have b5 := h6.blk 0 rfl
            have s0 := b5.cell 0
            simp at q0 s0
            have H6 := Lib.hid h6
            clear h6 k6 ba b5
            go_wp2_with fail
            refine (Same_calls w6 (nodes_of_part H6.out 2 rfl) (ints_of_part H6.out 3 rfl) (nodes_of_part H6.out 5 rfl) (ints_of_part H6.out 6 rfl)).mono ?_
            rintro e w7 ⟨rfl, n7, rfl⟩
            go_wp2_with fail
            go_ret
            exact ⟨rfl, (H6.out.drewN _).below⟩
        · subst e1
          obtain ⟨f4, f8, f9, f10, f11, f12⟩ := e2
          have b4 : (x0 == 4) = false := by simpa using f4
          have b8 : (x0 == 8) = false := by simpa using f8
          have b9 : (x0 == 9) = false := by simpa using f9
          have b10 : (x0 == 10) = false := by simpa using f10
          have b11 : (x0 == 11) = false := by simpa using f11
          have b12 : (x0 == 12) = false := by simpa using f12
          clear HLA
          go_wp2_with fail
          refine (awake_calls _).mono ?_
          rintro e w6 ⟨rfl, k6⟩
          have h6 := H5.out.stay k6
          have ba := SepO.blk h6 4 rfl
          have q0 := ba.cell 0
          have b5 := h6.blk 0 rfl
          have s0 := b5.cell 0
          simp at q0 s0
          have H6 := Lib.hid h6
          clear h6 k6 ba b5
          go_wp2_with fail
          go_ret
          exact ⟨rfl, H6.out.below⟩
end Go.Proofs.Ytoldhaomacnigaa.Gr
