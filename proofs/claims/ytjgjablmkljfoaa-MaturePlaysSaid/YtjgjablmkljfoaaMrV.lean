/- MaturePlays as a contract. No condition. -/
import Derived.Test.YtjgjablmkljfoaaMrU
import Derived.Test.YtjgjablmkljfoaaStructs
set_option linter.unusedVariables false
set_option linter.unusedSimpArgs false
namespace Go.Proofs.Ytjgjablmkljfoaa.Mr
open Go.RowKit Go.Proofs.Ytjgjablmkljfoaa.W Go.Proofs.Ytjgjablmkljfoaa.Cl Go.Proofs.Ytjgjablmkljfoaa.Ma Go.Proofs.Ytjgjablmkljfoaa.Sm
theorem has_bb {s : MS} (hs : s.ok) {x : Int} (h : s.has x = true) : -9223372036854775808 ≤ x ∧ x ≤ 9223372036854775807 := by
  obtain ⟨i, k, p, hu⟩ := (has_iff hs).1 h
  have h1 := use_end hs hu
  have h2 := (use_in hs hu).2.1
  obtain ⟨⟨f0, f1⟩, ⟨w0, w1⟩, hl, _⟩ := hs
  have h3 : (s.l.length : Int) * s.w ≤ 64 * 256 := Int.mul_le_mul (by omega) w1 (by omega) (by omega)
  omega
set_option maxRecDepth 20000 in
set_option maxHeartbeats 8000000 in
theorem Plays_calls {v3 : Value} {l3 : List A2} (a0 a1 a2 : Int) (w : World) (g3 : SS w (fun i => i < w.heap.size) A2.cells 2 v3 l3) (q3 : ∀ x ∈ l3, A2.wf x) :
    Calls Try.prog 6 #[.int .i64 a0, .int .i64 a1, .int .i64 a2, v3] w fun e w' => e = .returned (.bool true) ∧ Below w.heap.size w w' := by
  obtain ⟨A1, c1, rfl, hm1, hc1⟩ := g3
  have HC1 := Lib.hid hc1
  have Q1 := Lib.hid q3
  clear hc1 q3
  go_enter Try.func6, Try.ntmps6
  go_wp2_with fail
  refine (New_sep a0 a1 a2 (Sep.nil w)).mono ?_
  rintro e w1 ⟨b, rfl, h1⟩
  have H1 := Lib.hid h1
  clear h1
  go_wp2_with fail
  refine (New_rs a0 a1 a2 H1.out).mono ?_
  rintro e w2 ⟨d, rfl, h2⟩
  have H2 := Lib.hid h2
  clear h2 H1
  go_wp2_with fail
  go_loopg [11, 12, 13, 14, 15, 16, 17, 18, 19] 60 (fun gk z y1 y2 y3 y4 y5 y6 y7 y8 wr => ∃ (j : Nat) (s : MS) (r : RS), j + gk = 60 ∧ z = .int .i64 j ∧ Rel s r ∧ Sep w wr [Mat b s, Rsp d r])
  case atStart => exact ⟨0, _, _, by omega, rfl, rel_new a0 a1 a2, H2.out⟩
  case round =>
    clear H2
    obtain ⟨j, s, r, hj, rfl, hR, h⟩ := hrel
    have HJ := Lib.hid hj
    have HR := Lib.hid hR
    have hj60 : j ≤ 60 := by omega
    clear hj hR
    by_cases hc : j < l3.length ∧ j < 60
    · obtain ⟨hlt, hlt2⟩ := hc
      obtain ⟨b1, o1, rfl, hb1, hlt1, hcell1⟩ := HC1.out (by omega)
      obtain ⟨⟨wh, N⟩, hx⟩ : ∃ x, l3[j]? = some x := ⟨l3[j], List.getElem?_eq_getElem hlt⟩
      have hwf := Q1.out _ (List.mem_of_getElem? hx)
      obtain ⟨⟨wa, wb⟩, ⟨na, nb⟩⟩ := hwf
      simp only [] at wa wb na nb
      have d0 : wr.cell? ⟨b1, o1 + j * 2, none⟩ = some (.int .i64 wh) := (World.cell?_of_block (h.block b1 hlt1)).trans (hcell1 j _ hx 0 _ rfl)
      have d1 : wr.cell? ⟨b1, o1 + j * 2 + 1, none⟩ = some (.int .i64 N) := (World.cell?_of_block (h.block b1 hlt1)).trans (hcell1 j _ hx 1 _ rfl)
      have e60 : decide ((j : Int) < 60) = true := by simp; omega
      obtain ⟨X, hX⟩ : ∃ X, wr.heap.size = X := ⟨_, rfl⟩
      have h0 := h.new_blk 42 #[.int .i64 wh, .int .i64 N]
      rw [hX] at h0
      have HX := Lib.hid h0
      clear hcell1 hx h h0
      rcases (by omega : wh = 0 ∨ wh = 1 ∨ wh = 2 ∨ wh = 3 ∨ (wh ≠ 0 ∧ wh ≠ 1 ∧ wh ≠ 2 ∧ wh ≠ 3)) with rfl | rfl | rfl | rfl | ⟨k0, k1, k2, k3⟩
      · go_wp2_with fail
        refine (Take_sep N nb HX.out 0 rfl).mono ?_
        rintro e w5 ⟨rfl, h5⟩
        have x5 := (h5.blk (g := X) 2 rfl).cell 1
        simp at x5
        obtain ⟨t1, ht1⟩ : ∃ t, oI (s.took N) = t := ⟨_, rfl⟩
        obtain ⟨t2, ht2⟩ : ∃ t, (s.took N).isSome = t := ⟨_, rfl⟩
        rw [ht1, ht2]
        have T1 := Lib.hid ht1
        have T2 := Lib.hid ht2
        have H5 := Lib.hid h5
        clear h5 HX ht1 ht2 d0 d1 hX
        go_wp2_with fail
        refine (Take_rs HR.out N nb H5.out 1 rfl).mono ?_
        rintro e w6 ⟨r2, ⟨rfl, hr2⟩, h6⟩
        rw [T1.out, T2.out]
        have x6 := (h6.blk (g := X) 2 rfl).cell 1
        simp at x6
        have HR2 := Lib.hid hr2
        have H6 := Lib.hid h6
        have hb2 : (t2 != t2) = false := by cases t2 <;> rfl
        clear h6 H5 x5 hr2 HR
        go_wp2_with fail
        refine (alike_in N ⟨na, nb⟩ HR2.out (SepO.first (l := [Mat b (s.take N), Rsp d r2]) (m := [blkP X 42 #[.int .i64 0, .int .i64 N]]) H6.out)).mono ?_
        rintro e w9 ⟨rfl, h9⟩
        have H9 := Lib.hid h9
        clear h9 H6
        go_wp2_with fail
        go_roundg (gk - 1)
        case measure => have := HJ.out; omega
        case rel => exact ⟨j + 1, (s.take N), r2, by have := HJ.out; omega, by go_num, HR2.out, H9.out⟩
      · go_wp2_with fail
        obtain ⟨t2, ht2⟩ : ∃ t, s.has N = t := ⟨_, rfl⟩
        have hg1 : ∀ w', SepO w (fun _ => False) w' [Mat b s, Rsp d r, blkP X 42 #[.int .i64 1, .int .i64 N]] → Calls Try.prog 11 #[pt b, .int .i64 N] w' fun e w'' => e = .returned (.bool t2) ∧ SepO w (fun _ => False) w'' [Mat b (s.give N), Rsp d r, blkP X 42 #[.int .i64 1, .int .i64 N]] := fun w' h => by
          have := Give_sep N ⟨na, nb⟩ h 0 rfl
          rw [ht2] at this
          exact this
        have hg2 : ∀ w', SepO w (fun _ => False) w' [Mat b (s.give N), Rsp d r, blkP X 42 #[.int .i64 1, .int .i64 N]] → Calls Try.prog 21 #[pt d, .int .i64 N] w' fun e w'' => ∃ r', (e = .returned (.bool t2) ∧ Rel (s.give N) r') ∧ SepO w (fun _ => False) w'' [Mat b (s.give N), Rsp d r', blkP X 42 #[.int .i64 1, .int .i64 N]] := fun w' h => by
          have := Give_rs HR.out N ⟨na, nb⟩ h 1 rfl
          rw [ht2] at this
          exact this
        have x0 := (HX.out.blk (g := X) 2 rfl).cell 1
        simp at x0
        have HG1 := Lib.hid hg1
        have HG2 := Lib.hid hg2
        have hb2 : (t2 != t2) = false := by cases t2 <;> rfl
        clear hg1 hg2 ht2 d0 d1
        go_region_held3 (fun w' => w'.cell? ⟨X, 1, none⟩ = some (.int .i64 N)) (first | exact x0 | exact x5 | exact x6 | go_keep) ((first | (go_at_call 11; (with_reducible refine (HG1.out _ ?hx).mono ?_); (case hx => exact HX.out.drewN _); rintro e w5 ⟨rfl, h5⟩; have x5 : w5.cell? ⟨X, 1, none⟩ = some (.int .i64 N) := (h5.blk (g := X) 2 rfl).cell 1) | (go_at_call 21; (with_reducible refine (HG2.out _ h5).mono ?_); rintro e w6 ⟨r2, ⟨rfl, hr2⟩, h6⟩; have x6 : w6.cell? ⟨X, 1, none⟩ = some (.int .i64 N) := (h6.blk (g := X) 2 rfl).cell 1)))
        have HR2 := Lib.hid hr2
        have H6 := Lib.hid h6
        clear h6 h5 x5 x0 hr2 HR HX
        go_wp2_with fail
        refine (alike_in N ⟨na, nb⟩ HR2.out (SepO.first (l := [Mat b (s.give N), Rsp d r2]) (m := [blkP X 42 #[.int .i64 1, .int .i64 N]]) H6.out)).mono ?_
        rintro e w9 ⟨rfl, h9⟩
        have H9 := Lib.hid h9
        clear h9 H6
        go_wp2_with fail
        go_roundg (gk - 1)
        case measure => have := HJ.out; omega
        case rel => exact ⟨j + 1, (s.give N), r2, by have := HJ.out; omega, by go_num, HR2.out, H9.out⟩
      · go_wp2_with fail
        refine (Pend_sep HX.out 0 rfl).mono ?_
        rintro e w5 ⟨rfl, h5⟩
        have H5 := Lib.hid h5
        clear h5 HX d0 d1 hX
        go_wp2_with fail
        refine (Pend_rs HR.out H5.out 1 rfl).mono ?_
        rintro e w6 ⟨r2, ⟨rfl, hr2⟩, h6⟩
        have x6 := (h6.blk (g := X) 2 rfl).cell 1
        simp at x6
        have HR2 := Lib.hid hr2
        have H6 := Lib.hid h6
        clear h6 H5 hr2 HR
        go_wp2_with fail
        refine (alike_in N ⟨na, nb⟩ HR2.out (SepO.first (l := [Mat b s.pend, Rsp d r2]) (m := [blkP X 42 #[.int .i64 2, .int .i64 N]]) H6.out)).mono ?_
        rintro e w9 ⟨rfl, h9⟩
        have H9 := Lib.hid h9
        clear h9 H6
        go_wp2_with fail
        go_roundg (gk - 1)
        case measure => have := HJ.out; omega
        case rel => exact ⟨j + 1, s.pend, r2, by have := HJ.out; omega, by go_num, HR2.out, H9.out⟩
      · obtain ⟨c0, c1', c2, g, c4, cg, fz, hbl, hgl, hbg, hup⟩ := Rsp_cells HR.out HX.out 1 rfl
        have x0 := (HX.out.blk (g := X) 2 rfl).cell 1
        simp at x0
        have hl64 := HR.out.si.ok.2.2.1
        have HUP := Lib.hid hup
        clear c0 c2 hup
        rcases (by omega : N < 0 ∨ (0 ≤ N ∧ (s.l.length : Int) ≤ N) ∨ (0 ≤ N ∧ N < s.l.length)) with hN | ⟨hN0, hN⟩ | ⟨hN0, hN⟩
        · have hd : doneB s.l N = false := if_neg (by omega)
          have hE : s.done N = s := by unfold MS.done doneR; rw [hd]; rfl
          have HD := Lib.hid hd
          have HE := Lib.hid hE
          have e1 : decide (0 ≤ N) = false := by simp; omega
          clear hd hE cg fz
          go_wp2_with fail
          go_quiet (fail)
          go_wp2_with fail
          refine (Done_sep N (HX.out.drewN _) 0 rfl).mono ?_
          rintro e w5 ⟨rfl, h5⟩
          rw [HE.out] at h5
          rw [HD.out]
          have x6 : w5.cell? ⟨X, 1, none⟩ = some (.int .i64 N) := (h5.blk (g := X) 2 rfl).cell 1
          have H6 := Lib.hid h5
          have HR2 := Lib.hid HR.out
          clear h5 HX c1' c4 hbl hgl x0 d0 d1
          go_wp2_with fail
          refine (alike_in N ⟨na, nb⟩ HR2.out (SepO.first (l := [Mat b s, Rsp d r]) (m := [blkP X 42 #[.int .i64 3, .int .i64 N]]) H6.out)).mono ?_
          rintro e w9 ⟨rfl, h9⟩
          have H9 := Lib.hid h9
          clear h9 H6
          go_wp2_with fail
          go_roundg (gk - 1)
          case measure => have := HJ.out; omega
          case rel => exact ⟨j + 1, s, r, by have := HJ.out; omega, by go_num, HR2.out, H9.out⟩
        · have hd : doneB s.l N = false := by unfold doneB; rw [if_pos hN0, List.getElem?_eq_none (by omega)]
          have hE : s.done N = s := by unfold MS.done doneR; rw [hd]; rfl
          have HD := Lib.hid hd
          have HE := Lib.hid hE
          have e1 : decide (0 ≤ N) = true := by simpa using hN0
          have e2 : decide (N < s.l.length) = false := by simp; omega
          clear hd hE cg fz
          go_wp2_with fail
          go_quiet (fail)
          go_wp2_with fail
          refine (Done_sep N (HX.out.drewN _) 0 rfl).mono ?_
          rintro e w5 ⟨rfl, h5⟩
          rw [HE.out] at h5
          rw [HD.out]
          have x6 : w5.cell? ⟨X, 1, none⟩ = some (.int .i64 N) := (h5.blk (g := X) 2 rfl).cell 1
          have H6 := Lib.hid h5
          have HR2 := Lib.hid HR.out
          clear h5 HX c1' c4 hbl hgl x0 d0 d1
          go_wp2_with fail
          refine (alike_in N ⟨na, nb⟩ HR2.out (SepO.first (l := [Mat b s, Rsp d r]) (m := [blkP X 42 #[.int .i64 3, .int .i64 N]]) H6.out)).mono ?_
          rintro e w9 ⟨rfl, h9⟩
          have H9 := Lib.hid h9
          clear h9 H6
          go_wp2_with fail
          go_roundg (gk - 1)
          case measure => have := HJ.out; omega
          case rel => exact ⟨j + 1, s, r, by have := HJ.out; omega, by go_num, HR2.out, H9.out⟩
        · obtain ⟨m, rfl⟩ : ∃ m : Nat, N = m := ⟨N.toNat, by omega⟩
          have hml : m < s.l.length := by omega
          obtain ⟨p, hp⟩ : ∃ p, s.l[m]? = some p := ⟨s.l[m], List.getElem?_eq_getElem hml⟩
          have zc := cg m p hp
          have hd : doneB s.l (m : Int) = p.pend := by unfold doneB; rw [if_pos hN0, Int.toNat_natCast, hp]
          have e1 : decide (0 ≤ (m : Int)) = true := by simp
          have e2 : decide ((m : Int) < s.l.length) = true := by simpa using hml
          have HD := Lib.hid hd
          have HP := Lib.hid hp
          clear cg fz hp hd
          cases hpe : p.pend
          · rw [hpe] at zc HD
            have hE : s.done m = s := by unfold MS.done doneR; rw [HD.out]; rfl
            have HE := Lib.hid hE
            clear hE hpe
            go_wp2_with fail
            go_quiet (fail)
            go_wp2_with fail
            refine (Done_sep m (HX.out.drewN _) 0 rfl).mono ?_
            rintro e w5 ⟨rfl, h5⟩
            rw [HE.out] at h5
            rw [HD.out]
            have x6 : w5.cell? ⟨X, 1, none⟩ = some (.int .i64 m) := (h5.blk (g := X) 2 rfl).cell 1
            have H6 := Lib.hid h5
            have HR2 := Lib.hid HR.out
            clear h5 HX c1' c4 hbl hgl x0 d0 d1 zc
            go_wp2_with fail
            refine (alike_in (m : Int) ⟨na, nb⟩ HR2.out (SepO.first (l := [Mat b s, Rsp d r]) (m := [blkP X 42 #[.int .i64 3, .int .i64 m]]) H6.out)).mono ?_
            rintro e w9 ⟨rfl, h9⟩
            have H9 := Lib.hid h9
            clear h9 H6
            go_wp2_with fail
            go_roundg (gk - 1)
            case measure => have := HJ.out; omega
            case rel => exact ⟨j + 1, s, r, by have := HJ.out; omega, by go_num, HR2.out, H9.out⟩
          · rw [hpe] at zc HD
            clear hpe
            go_wp2_with fail
            go_quiet (fail)
            go_wp2_with fail
            refine (Done_sep m (HX.out.drewN _) 0 rfl).mono ?_
            rintro e w5 ⟨rfl, h5⟩
            rw [HD.out]
            have x6 : w5.cell? ⟨X, 1, none⟩ = some (.int .i64 m) := (h5.blk (g := X) 2 rfl).cell 1
            have hR2 := HR.out.done HD.out
            obtain ⟨_, _, _, g', z4, zg, zf, zbl, zgl, zbg, zup⟩ := Rsp_cells HR.out h5 1 rfl
            have f0 := zf m
            have zgm := zg m p HP.out
            have zm := zup m
            obtain ⟨r2, hr2⟩ : ∃ r2, ({ r with pd := r.pd.set m false } : RS) = r2 := ⟨_, rfl⟩
            rw [hr2] at hR2 zm
            have xa := (zm.blk (g := X) 2 rfl).cell 1
            simp at xa
            have H6 := Lib.hid zm
            have HR2 := Lib.hid hR2
            have zbg' : ¬ g' = d := fun e => zbg e.symm
            clear h5 HX c1' c4 hbl hgl x0 d0 d1 zc hR2 zup zf zg zm hr2 hbg HUP HR
            go_wp2_with fail
            go_region
            all_goals
              have H7 := Lib.hid (H6.out.drew)
              go_wp2_with fail
              refine (alike_in (m : Int) ⟨na, nb⟩ HR2.out (SepO.first (l := [Mat b (s.done m), Rsp d r2]) (m := [blkP X 42 #[.int .i64 3, .int .i64 m]]) H7.out)).mono ?_
              rintro e w9 ⟨rfl, h9⟩
              have H9 := Lib.hid h9
              clear h9 H6
              go_wp2_with fail
              go_roundg (gk - 1)
              case measure => have := HJ.out; omega
              case rel => exact ⟨j + 1, s.done m, r2, by have := HJ.out; omega, by go_num, HR2.out, H9.out⟩
      · have k0' : (wh == 0) = false := beq_false_of_ne k0
        have k1' : (wh == 1) = false := beq_false_of_ne k1
        have k2' : (wh == 2) = false := beq_false_of_ne k2
        have k3' : (wh == 3) = false := beq_false_of_ne k3
        clear k0 k1 k2 k3
        go_wp2_with fail
        refine (Starts_rs HR.out 0 1099511627776 HX.out 1 rfl).mono ?_
        rintro e w5 ⟨A5, c5, rfl, h5⟩
        obtain ⟨D, hD⟩ : ∃ D, stL s.f s.w 0 1099511627776 s.l 0 = D := ⟨_, rfl⟩
        have hDm : ∀ x ∈ D, s.has x = true := fun x hx => by
          rw [← hD] at hx
          exact ((starts_iff HR.out.si.ok).1 hx).2.2
        have hDl := starts_len HR.out.si.ok 0 1099511627776
        rw [hD] at h5 hDl ⊢
        have DM := Lib.hid hDm
        have H5 := Lib.hid h5
        have x5 := (h5.blk (g := X) 2 rfl).cell 1
        simp at x5
        clear h5 HX hDm hD d0 d1 hX
        by_cases hD0 : D.length = 0
        · have e0 : ((D.length : Int) == 0) = true := by rw [beq_iff_eq]; omega
          go_wp2_with fail
          go_roundg (gk - 1)
          case measure => have := HJ.out; omega
          case rel => exact ⟨j + 1, s, r, by have := HJ.out; omega, by go_num, HR.out, SepO.first (l := [Mat b s, Rsp d r]) (m := [blkP X 42 #[.int .i64 wh, .int .i64 N], rowI8 A5 c5 D]) H5.out⟩
        · have e0 : ((D.length : Int) == 0) = false := beq_false_of_ne (by omega)
          have hL0 : (0 : Int) < D.length := by omega
          obtain ⟨t, ht⟩ : ∃ t, N.tmod (D.length : Int) = t := ⟨_, rfl⟩
          have ht1 : t < D.length := by rw [← ht]; exact Int.tmod_lt_of_pos N hL0
          have ht2 : -(D.length : Int) < t := by rw [← ht]; exact Int.lt_tmod_of_pos N hL0
          clear hD0
          rcases (by omega : 0 ≤ t ∨ t < 0) with h0 | h0
          · obtain ⟨m, rfl⟩ : ∃ m : Nat, t = m := ⟨t.toNat, by omega⟩
            have hm : m < D.length := by omega
            obtain ⟨G, off, rfl, y0⟩ := row_at H5.out 3 rfl hm
            obtain ⟨y, hy⟩ : ∃ y, D[m] = y := ⟨_, rfl⟩
            have hyh := DM.out D[m] (List.getElem_mem _)
            rw [hy] at y0 hyh
            have hyb := has_bb HR.out.si.ok hyh
            have HYH := Lib.hid hyh
            have HY := Lib.hid hy
            clear hy hyh
            go_wp2_with fail
            refine (Give_sep y hyb H5.out 0 rfl).mono ?_
            rintro e w6 ⟨rfl, h6⟩
            rw [HYH.out]
            obtain ⟨G', off', e', y6⟩ := row_at h6 3 rfl hm
            cases e'
            rw [HY.out] at y6
            have H6 := Lib.hid h6
            clear h6 H5 y0 x5
            go_wp2_with fail
            refine (Give_rs HR.out y hyb H6.out 1 rfl).mono ?_
            rintro e w7 ⟨r2, ⟨rfl, hr2⟩, h7⟩
            rw [HYH.out]
            have x7 : w7.cell? ⟨X, 1, none⟩ = some (.int .i64 N) := (h7.blk (g := X) 2 rfl).cell 1
            have HR2 := Lib.hid hr2
            have H7 := Lib.hid h7
            clear h7 H6 y6 hr2 HR
            go_wp2_with fail
            refine (alike_in N ⟨na, nb⟩ HR2.out (SepO.first (l := [Mat b (s.give y), Rsp d r2]) (m := [blkP X 42 #[.int .i64 wh, .int .i64 N], rowI8 (some ⟨G, off, none⟩) c5 D]) H7.out)).mono ?_
            rintro e w9 ⟨rfl, h9⟩
            have H9 := Lib.hid h9
            clear h9 H7
            go_wp2_with fail
            go_roundg (gk - 1)
            case measure => have := HJ.out; omega
            case rel => exact ⟨j + 1, (s.give y), r2, by have := HJ.out; omega, by go_num, HR2.out, H9.out⟩
          · obtain ⟨m, hmt⟩ : ∃ m : Nat, t + D.length = m := ⟨(t + D.length).toNat, by omega⟩
            have hm : m < D.length := by omega
            obtain ⟨G, off, rfl, y0⟩ := row_at H5.out 3 rfl hm
            obtain ⟨y, hy⟩ : ∃ y, D[m] = y := ⟨_, rfl⟩
            have hyh := DM.out D[m] (List.getElem_mem _)
            rw [hy] at y0 hyh
            have hyb := has_bb HR.out.si.ok hyh
            have HYH := Lib.hid hyh
            have HY := Lib.hid hy
            clear hy hyh
            go_wp2_with fail
            refine (Give_sep y hyb H5.out 0 rfl).mono ?_
            rintro e w6 ⟨rfl, h6⟩
            rw [HYH.out]
            obtain ⟨G', off', e', y6⟩ := row_at h6 3 rfl hm
            cases e'
            rw [HY.out] at y6
            have H6 := Lib.hid h6
            clear h6 H5 y0 x5
            go_wp2_with fail
            refine (Give_rs HR.out y hyb H6.out 1 rfl).mono ?_
            rintro e w7 ⟨r2, ⟨rfl, hr2⟩, h7⟩
            rw [HYH.out]
            have x7 : w7.cell? ⟨X, 1, none⟩ = some (.int .i64 N) := (h7.blk (g := X) 2 rfl).cell 1
            have HR2 := Lib.hid hr2
            have H7 := Lib.hid h7
            clear h7 H6 y6 hr2 HR
            go_wp2_with fail
            refine (alike_in N ⟨na, nb⟩ HR2.out (SepO.first (l := [Mat b (s.give y), Rsp d r2]) (m := [blkP X 42 #[.int .i64 wh, .int .i64 N], rowI8 (some ⟨G, off, none⟩) c5 D]) H7.out)).mono ?_
            rintro e w9 ⟨rfl, h9⟩
            have H9 := Lib.hid h9
            clear h9 H7
            go_wp2_with fail
            go_roundg (gk - 1)
            case measure => have := HJ.out; omega
            case rel => exact ⟨j + 1, (s.give y), r2, by have := HJ.out; omega, by go_num, HR2.out, H9.out⟩
    · have H0 := Lib.hid h
      clear h
      rcases (by omega : ¬ j < l3.length ∨ (j < l3.length ∧ ¬ j < 60)) with hx | ⟨hx, hx'⟩
      all_goals
        clear hc
        go_wp2_with fail
        refine (awake_calls _).mono ?_
        rintro e w4 ⟨rfl, k4⟩
        have H4 := Lib.hid (H0.out.stay k4.keep0)
        clear k4 H0
        go_wp2_with fail
        go_ret
        exact ⟨rfl, H4.out.below⟩
end Go.Proofs.Ytjgjablmkljfoaa.Mr
