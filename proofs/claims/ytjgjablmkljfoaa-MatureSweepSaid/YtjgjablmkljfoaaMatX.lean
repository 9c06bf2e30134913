/- MatureSweep as a contract. Condition: the sizes are words of 16 bits. -/
import Derived.Test.YtjgjablmkljfoaaMatW
set_option linter.unusedVariables false
set_option linter.unusedSimpArgs false
namespace Go.Proofs.Ytjgjablmkljfoaa.Ma
open Go.RowKit Go.Proofs.Ytjgjablmkljfoaa.W Go.Proofs.Ytjgjablmkljfoaa.Cl
theorem bools_at {H : List Bool} {j : Nat} (h : j < H.length) : (bools H)[j]? = some (.bool H[j]) := by simp [bools, h]
set_option maxRecDepth 20000 in
set_option maxHeartbeats 8000000 in
theorem Sweep_calls {v2 v3 : Value} {l2 l3 : List Int} (a0 a1 : Int) (w : World) (p0 : 0 ≤ a0 ∧ a0 ≤ 255) (p1 : 0 ≤ a1 ∧ a1 ≤ 255) (g2 : SL w (fun i => i < w.heap.size) .u16 v2 l2) (q2 : ∀ x ∈ l2, 0 ≤ x ∧ x ≤ 65535) (g3 : SL w (fun i => i < w.heap.size) .u16 v3 l3) (q3 : ∀ x ∈ l3, 0 ≤ x ∧ x ≤ 65535) :
    Calls Try.prog 5 #[.int .u8 a0, .int .u8 a1, v2, v3] w fun e w' => e = .returned (.bool true) ∧ Below w.heap.size w w' := by
  obtain ⟨bi, bi1, bi2, bi3, bi4⟩ := info_parts info_bool
  obtain ⟨A1, c1, rfl, hm1, hc1⟩ := g2
  obtain ⟨A2, c2, rfl, hm2, hc2⟩ := g3
  have HC1 := Lib.hid hc1
  have Q1 := Lib.hid q2
  have HC2 := Lib.hid hc2
  have Q2 := Lib.hid q3
  clear hc1 q2 hc2 q3
  obtain ⟨p, hp⟩ : ∃ p : Nat, a0 % 12 = p := ⟨(a0 % 12).toNat, by omega⟩
  obtain ⟨n, hn⟩ : ∃ n : Nat, a1 % 60 = n := ⟨(a1 % 60).toNat, by omega⟩
  have hp1 : p < 12 := by omega
  have hn1 : n < 60 := by omega
  have HP := Lib.hid hp
  have HN := Lib.hid hn
  have r0 : 0 ≤ a0 % 12 := by omega
  have r1 : a0 % 12 < 12 := by omega
  have r2 : 0 ≤ a1 % 60 := by omega
  have r3 : a1 % 60 < 60 := by omega
  obtain ⟨p00, p01⟩ := p0
  obtain ⟨p10, p11⟩ := p1
  clear hp hn
  go_enter Try.func5, Try.ntmps5
  go_wp2_with fail
  rw [HP.out, HN.out]
  clear r0 r1 r2 r3 p00 p01 p10 p11
  refine (New_sep 50 ((p : Int) + 1) (n + 16) (Sep.nil w)).mono ?_
  rintro e w1 ⟨b, rfl, h1⟩
  have hpi := pi_new (f := 50) (n := (n : Int) + 16) (p := p + 1) (by omega) (by omega) (by omega)
  have H1 := Lib.hid h1
  have HA := Lib.hid hpi
  clear h1 hpi
  go_wp2_with fail
  go_loopg [12] 40 (fun gk z1 wr => ∃ (j : Nat) (s : MS), j + gk = 40 ∧ z1 = .int .i64 j ∧ PI 50 (n + 16) (p + 1) s ∧ Sep w wr [Mat b s])
  case atStart => exact ⟨0, _, by omega, rfl, HA.out, H1.out⟩
  case round =>
    clear H1 HA
    obtain ⟨j, s, hj, rfl, hpi, h⟩ := hrel
    have HJ := Lib.hid hj
    have HA := Lib.hid hpi
    have hj40 : j ≤ 40 := by omega
    clear hj hpi
    by_cases hc : j < l2.length ∧ j < 40
    · obtain ⟨hlt, hlt2⟩ := hc
      obtain ⟨b1, o1, rfl, hce⟩ := old_at HC1.out hlt
      have hq := Q1.out l2[j] (List.getElem_mem _)
      obtain ⟨x, hx⟩ : ∃ x, l2[j] = x := ⟨_, rfl⟩
      rw [hx] at hq
      simp only [hx] at hce
      obtain ⟨q0, q1⟩ := hq
      have x0 := hce _ h.keep0
      have m0 : 0 ≤ x % 100 := by omega
      have m1 : x % 100 < 100 := by omega
      have H := Lib.hid h
      have e60 : decide ((j : Int) < 40) = true := by simp; omega
      clear h hce hx
      go_wp2_with fail
      refine (Take_sep (x % 100 + 1) (by omega) H.out 0 rfl).mono ?_
      rintro e w2 ⟨rfl, h2⟩
      have H2 := Lib.hid h2
      clear h2 H x0
      go_wp2_with fail
      go_roundg (gk - 1)
      case measure => have := HJ.out; omega
      case rel => exact ⟨j + 1, _, by have := HJ.out; omega, by go_num, HA.out.take (by omega), H2.out⟩
    · have H0 := Lib.hid h
      clear h
      rcases (by omega : ¬ j < l2.length ∨ (j < l2.length ∧ ¬ j < 40)) with hx | ⟨hx, hx'⟩
      all_goals
        clear hc
        go_wp2_with fail
        refine (Starts_sep 0 1073741824 H0.out 0 rfl).mono ?_
        rintro e w3 ⟨A3, c3, rfl, h3⟩
        obtain ⟨D, hD⟩ : ∃ D, stL s.f s.w 0 1073741824 s.l 0 = D := ⟨_, rfl⟩
        have hDm : ∀ x ∈ D, 0 ≤ x ∧ x < 1073741824 := fun x hx => by
          rw [← hD] at hx
          have := (starts_iff HA.out.si.ok).1 hx
          exact ⟨this.1, this.2.1⟩
        have hDl := starts_len HA.out.si.ok 0 1073741824
        rw [hD] at h3 hDl ⊢
        have DM := Lib.hid hDm
        have H3 := Lib.hid h3
        clear h3 H0 hDm hD
        go_wp2_with fail
        go_loopg [14] (D.length + 1) (fun gk z1 wr => ∃ (j : Nat) (s : MS), gk = D.length + 1 - j ∧ z1 = .int .i64 j ∧ PI 50 (n + 16) (p + 1) s ∧ Sep w wr [Mat b s, rowI8 A3 c3 D])
        case atStart => exact ⟨0, _, by omega, rfl, HA.out, H3.out⟩
        case round =>
          clear H3 HA
          obtain ⟨j, s, hj, rfl, hpi, h⟩ := hrel
          have HJ := Lib.hid hj
          have HA := Lib.hid hpi
          clear hj hpi
          by_cases hlt : j < D.length
          · obtain ⟨G, off, rfl, y0⟩ := row_at h 1 rfl hlt
            obtain ⟨y, hy⟩ : ∃ y, D[j] = y := ⟨_, rfl⟩
            have hyD := DM.out D[j] (List.getElem_mem _)
            rw [hy] at y0 hyD
            obtain ⟨hy0, hy1⟩ := hyD
            have H := Lib.hid h
            clear h hy
            go_wp2_with fail
            refine (Give_sep y (by omega) H.out 0 rfl).mono ?_
            rintro e w4 ⟨rfl, h4⟩
            have H4 := Lib.hid h4
            clear h4 H y0
            go_wp2_with fail
            go_roundg (D.length + 1 - (j + 2))
            case measure => have := HJ.out; omega
            case rel => exact ⟨j + 2, _, by have := HJ.out; omega, by go_num, HA.out.give y, H4.out⟩
          · have H4 := Lib.hid h
            clear h hDl
            go_wp2_with fail
            refine (Starts_sep 0 1073741824 H4.out 0 rfl).mono ?_
            rintro e w5 ⟨A5, c5, rfl, h5⟩
            obtain ⟨E, hE⟩ : ∃ E, stL s.f s.w 0 1073741824 s.l 0 = E := ⟨_, rfl⟩
            have hEm : ∀ x ∈ E, s.has x = true := fun x hx => by
              rw [← hE] at hx
              exact ((starts_iff HA.out.si.ok).1 hx).2.2
            have hEl := starts_len HA.out.si.ok 0 1073741824
            rw [hE] at h5 hEl ⊢
            have EM := Lib.hid hEm
            have H5 := Lib.hid h5
            clear h5 H4 hEm hE
            go_wp2_with fail
            refine (Pend_sep H5.out 0 rfl).mono ?_
            rintro e w6 ⟨rfl, h6⟩
            have hmk : ∀ W : World, (Instr.makeSlice 35 (.int .i64 ((p : Int) + 1)) (.int .i64 ((p : Int) + 1))).run Try.prog W = .ok (.slice (some ⟨W.heap.size, 0, none⟩) (p + 1) (p + 1)) (W.alloc (.cells (bools (List.replicate (p + 1) false)) 4)) := fun W => by
              have h := run_make_rowN 35 4 bi (.bool false) Try.underlying35 bi1 bi2 .i64 .i64 (p + 1) (p + 1) (Nat.le_refl _) (by rw [bi4]; omega) (by omega) W
              rw [bi3] at h
              have e : madeCells (Value.bool false).cells ((p + 1) * 1) = bools (List.replicate (p + 1) false) := by
                apply Array.ext
                · simp [madeCells, bools]
                · intro k h1 h2; simp [madeCells, bools, Value.cells, Nat.mod_one]
              rw [e] at h
              exact h
            have hh : HeldOk s.pend (List.replicate (p + 1) false) := fun j hj => by
              rw [List.getElem?_replicate] at hj
              split at hj <;> simp at hj
            obtain ⟨g, hg⟩ : ∃ g, w6.heap.size = g := ⟨_, rfl⟩
            have h7 := h6.new_blk 4 (bools (List.replicate (p + 1) false))
            rw [hg] at h7
            have H7 := Lib.hid h7
            have HH := Lib.hid hh
            clear h6 H5 h7 hh
            go_wp2_with fail
            clear hmk
            generalize w6.alloc (.cells (bools (List.replicate (p + 1) false)) 4) = w7 at H7 ⊢
            clear hg
            go_loopg [17, 18, 19, 20] E.length (fun gk z1 y1 y2 y3 wr => ∃ (j : Nat) (H : List Bool), j + gk = E.length ∧ z1 = .int .i64 j ∧ H.length = p + 1 ∧ HeldOk s.pend H ∧ Sep w wr [Mat b s.pend, rowI8 A3 c3 D, rowI8 A5 c5 E, blkP g 4 (bools H)])
            case atStart => exact ⟨0, List.replicate (p + 1) false, by omega, rfl, by simp, HH.out, H7.out⟩
            case round =>
              clear H7 HH
              obtain ⟨j, H, hj, rfl, hHl, hh, h⟩ := hrel
              have HJ := Lib.hid hj
              have HH := Lib.hid hh
              have HHl := Lib.hid hHl
              clear hj hh hHl
              by_cases hlt2 : j < E.length
              · obtain ⟨G, off, rfl, y0⟩ := row_at h 2 rfl hlt2
                obtain ⟨y, hy⟩ : ∃ y, E[j] = y := ⟨_, rfl⟩
                have hyE := EM.out E[j] (List.getElem_mem _)
                rw [hy] at y0 hyE
                obtain ⟨sz1, sz2, sz3⟩ := size_b HA.out hyE
                obtain ⟨sp1, sp2⟩ := size_pend HA.out.si hyE
                obtain ⟨z, hz⟩ : ∃ z, s.size y = z := ⟨_, rfl⟩
                rw [hz] at sz1 sz3 sp1
                have pw1 : ((p + 1 : Nat) : Int) * ((n : Int) + 16) ≤ 13 * 76 := Int.mul_le_mul (by omega) (by omega) (by omega) (by omega)
                have szb : y + z ≤ 2000 := by omega
                have HZ := Lib.hid hz
                have HY := Lib.hid hy
                have HYE := Lib.hid hyE
                have S1 := Lib.hid sp1
                have S2 := Lib.hid sp2
                have HS := Lib.hid h
                clear h hy hz hyE sp1 sp2 sz3 pw1
                go_wp2_with fail
                refine (Size_sep y (by omega) HS.out 0 rfl).mono ?_
                rintro e w8 ⟨rfl, h8⟩
                rw [S1.out, S2.out]
                obtain ⟨G', off', e', y8⟩ := row_at h8 2 rfl hlt2
                cases e'
                rw [HY.out] at y8
                have H8 := Lib.hid h8
                clear h8 HS y0
                go_wp2_with fail
                obtain ⟨gz, rfl⟩ : ∃ x, x = gk := ⟨_, rfl⟩
                go_loopg [20] z.toNat (fun gk z1 wr => ∃ (t : Nat) (H : List Bool), (t : Int) + gk = z ∧ z1 = .int .i64 (y + t) ∧ H.length = p + 1 ∧ HeldOk s.pend H ∧ Sep w wr [Mat b s.pend, rowI8 A3 c3 D, rowI8 (some ⟨G, off, none⟩) c5 E, blkP g 4 (bools H)])
                case atStart => exact ⟨0, H, by omega, by simp, HHl.out, HH.out, H8.out⟩
                case round =>
                  clear H8 HH HHl y8
                  obtain ⟨m, H, hm, rfl, hHl, hh, h⟩ := hrel
                  have HM := Lib.hid hm
                  have hm0 : (m : Int) ≤ z := by omega
                  clear hm
                  obtain ⟨G', off', e', y8⟩ := row_at h 2 rfl hlt2
                  cases e'
                  rw [HY.out] at y8
                  by_cases hlt3 : (m : Int) < z
                  · have hmk := held_mark HA.out.si hh HYE.out (y := y + m) (by omega) (by rw [HZ.out]; omega)
                    rw [HA.out.f, HA.out.w, HA.out.len] at hmk
                    obtain ⟨k0, k1, k2, hh2⟩ := hmk
                    obtain ⟨q, hq⟩ : ∃ q : Nat, (y + m - 50) / ((n : Int) + 16) = q := ⟨_, (Int.toNat_of_nonneg k1).symm⟩
                    rw [hq] at k1 k2 hh2
                    have hq' : (y + m - 50).tdiv ((n : Int) + 16) = q := by rw [Int.tdiv_eq_ediv_of_nonneg (by omega)]; exact hq
                    have h9 := h.set_blk 3 rfl q (.bool true)
                    have hb3 := h.blk 3 rfl
                    have hg3 := (h.blk_lt 3 rfl).2
                    have hqH : q < H.length := by omega
                    have hc3 := hb3.cell q
                    rw [bools_at hqH] at hc3
                    have hf3 := hb3.frozen q
                    have H9 := Lib.hid h9
                    have HHH := Lib.hid hh2
                    clear h h9 hh hh2 hb3
                    go_wp2_with fail
                    rw [bools_set] at H9
                    go_roundg (gk - 1)
                    case measure => have := HM.out; omega
                    case rel => exact ⟨m + 1, H.set q true, by have := HM.out; omega, by go_num, by simp [hHl], by simpa using HHH.out, H9.out⟩
                  · have HS := Lib.hid h
                    have HH := Lib.hid hh
                    clear h hh
                    go_wp2_with fail
                    go_roundg (gz - 1)
                    case measure => have := HJ.out; omega
                    case rel => exact ⟨j + 1, H, by have := HJ.out; omega, by go_num, hHl, HH.out, HS.out⟩
              · have H8 := Lib.hid h
                clear h
                have hl0 : 0 < l3.length ∨ l3.length = 0 := by omega
                have HA2 := Lib.hid HA.out.pend
                go_wp2_with fail
                go_loopg [21, 22, 23] 40 (fun gk z1 y1 y2 wr => ∃ (j : Nat) (s : MS), j + gk = 40 ∧ z1 = .int .i64 j ∧ PI 50 (n + 16) (p + 1) s ∧ HeldOk s H ∧ Sep w wr [Mat b s, rowI8 A3 c3 D, rowI8 A5 c5 E, blkP g 4 (bools H)])
                case atStart => exact ⟨0, _, by omega, rfl, HA2.out, HH.out, H8.out⟩
                case round =>
                  clear H8 HH HA2 HA EM
                  obtain ⟨j, s, hj, rfl, hpi, hh, h⟩ := hrel
                  have HJ := Lib.hid hj
                  have HA := Lib.hid hpi
                  have HH := Lib.hid hh
                  have hj40 : j ≤ 40 := by omega
                  clear hj hpi hh
                  by_cases hc : j < l3.length ∧ j < 40
                  · obtain ⟨hlt, hlt2⟩ := hc
                    obtain ⟨b1, o1, rfl, hce⟩ := old_at HC2.out hlt
                    have hq := Q2.out l3[j] (List.getElem_mem _)
                    obtain ⟨x, hx⟩ : ∃ x, l3[j] = x := ⟨_, rfl⟩
                    rw [hx] at hq
                    simp only [hx] at hce
                    obtain ⟨q0, q1⟩ := hq
                    have x0 := hce _ h.keep0
                    have m0 : 0 ≤ x % 100 := by omega
                    have m1 : x % 100 < 100 := by omega
                    have HS := Lib.hid h
                    have e60 : decide ((j : Int) < 40) = true := by simp; omega
                    clear h hce hx
                    go_wp2_with fail
                    refine (Take_sep (x % 100 + 1) (by omega) HS.out 0 rfl).mono ?_
                    rintro e w9 ⟨rfl, h9⟩
                    have HT := Lib.hid (HA.out.take (x := x % 100 + 1) (by omega))
                    cases ht : s.took (x % 100 + 1) with
                    | none =>
                      rw [take_none ht] at h9
                      have H9 := Lib.hid h9
                      simp only [oI, Option.isSome]
                      clear h9 ht HS x0 HT
                      go_wp2_with fail
                      go_roundg (gk - 1)
                      case measure => have := HJ.out; omega
                      case rel => exact ⟨j + 1, s, by have := HJ.out; omega, by go_num, HA.out, HH.out, H9.out⟩
                    | some a =>
                      have tk := take_spec HA.out.si (x := x % 100 + 1) (by omega) ht
                      have hn := held_new HH.out tk
                      rw [HA.out.f, HA.out.w, HA.out.len] at hn
                      obtain ⟨k0, k2, k1, hn⟩ := hn
                      obtain ⟨q, hq⟩ : ∃ q : Nat, (a - 50) / ((n : Int) + 16) = q := ⟨_, (Int.toNat_of_nonneg k1).symm⟩
                      rw [hq] at k1 k2 hn
                      have hq' : (a - 50).tdiv ((n : Int) + 16) = q := by rw [Int.tdiv_eq_ediv_of_nonneg (by omega)]; exact hq
                      have hqH : q < H.length := by have := HHl.out; omega
                      have hc3 := (h9.blk 3 rfl).cell q
                      have hHq : H[q] = false := by
                        rw [Int.toNat_natCast, List.getElem?_eq_getElem hqH] at hn
                        simpa using hn
                      rw [bools_at hqH, hHq] at hc3
                      obtain ⟨i, k, pg, hu, _⟩ := tk.new
                      have hend := use_end tk.si.ok hu
                      have hpos := (use_in tk.si.ok hu).2.1
                      rw [tk.f, tk.w, tk.len, HA.out.f, HA.out.w, HA.out.len] at hend
                      rw [tk.w, HA.out.w] at hpos
                      have pw1 : ((p + 1 : Nat) : Int) * ((n : Int) + 16) ≤ 13 * 76 := Int.mul_le_mul (by omega) (by omega) (by omega) (by omega)
                      obtain ⟨PW, hPW⟩ : ∃ PW, ((p + 1 : Nat) : Int) * ((n : Int) + 16) = PW := ⟨_, rfl⟩
                      rw [hPW] at hend pw1
                      have hab : a ≤ 2000 := by omega
                      clear hPW
                      have HHN := Lib.hid (held_take HH.out tk)
                      have H9 := Lib.hid h9
                      simp only [oI, Option.isSome]
                      clear h9 ht HS x0 tk hn hHq hend hpos pw1 hu HH HA hq
                      go_wp2_with fail
                      go_roundg (gk - 1)
                      case measure => have := HJ.out; omega
                      case rel => exact ⟨j + 1, _, by have := HJ.out; omega, by go_num, HT.out, HHN.out, H9.out⟩
                  · have H0 := Lib.hid h
                    clear h HH
                    rcases (by omega : ¬ j < l3.length ∨ (j < l3.length ∧ ¬ j < 40)) with hx | ⟨hx, hx'⟩
                    all_goals
                      clear hc
                      go_wp2_with fail
                      go_loopg [24, 25, 26, 27] 12 (fun gk z1 z2 y1 y2 wr => ∃ (j : Nat) (s : MS), gk = 12 - j ∧ j ≤ 12 ∧ z1 = .int .i64 j ∧ z2 = .int .i64 j ∧ PI 50 (n + 16) (p + 1) s ∧ j + pc s.l ≤ p + 1 ∧ Sep w wr [Mat b s, rowI8 A3 c3 D, rowI8 A5 c5 E, blkP g 4 (bools H)])
                      case atStart => exact ⟨0, s, by omega, by omega, rfl, rfl, HA.out, by have := pc_le s.l; have := HA.out.len; omega, H0.out⟩
                      case round =>
                        clear H0 HA HJ
                        obtain ⟨j, s, hj, hj12, rfl, rfl, hpi, hpc, h⟩ := hrel
                        have HJ := Lib.hid hj
                        have HA := Lib.hid hpi
                        have HPC := Lib.hid hpc
                        have e100 : decide ((j : Int) < 100) = true := by simp; omega
                        have HS := Lib.hid h
                        clear hj hpi hpc h
                        go_wp2_with fail
                        refine (Pending_sep HS.out 0 rfl).mono ?_
                        rintro e w9 ⟨rfl, h9⟩
                        have H9 := Lib.hid h9
                        clear h9 HS
                        unfold pnI
                        cases hpn : pn s.l with
                        | some k =>
                          obtain ⟨d1, d2, d3, d4, d5⟩ := done_pn hpn
                          have hk : k < 64 := by
                            obtain ⟨pg, hp, _⟩ := pn_some hpn
                            have := (List.getElem?_eq_some_iff.1 hp).1
                            have := HA.out.si.ok.2.2.1
                            omega
                          have hj1 : j < 12 := by have := HPC.out; omega
                          have HA2 : PI 50 (n + 16) (p + 1) (s.done k) := HA.out.done k
                          have D1 := Lib.hid d1
                          have D2 := Lib.hid d2
                          have D3 := Lib.hid d3
                          have D5 := Lib.hid d5
                          have HPI := Lib.hid HA2
                          simp only [Option.isSome]
                          clear d1 d2 d3 d4 d5 hpn HA HA2
                          go_wp2_with fail
                          refine (Done_sep k H9.out 0 rfl).mono ?_
                          rintro e wx ⟨rfl, hx1⟩
                          rw [D1.out]
                          have HX := Lib.hid hx1
                          clear hx1 H9
                          go_wp2_with fail
                          refine (Done_sep k HX.out 0 rfl).mono ?_
                          rintro e wy ⟨rfl, hy1⟩
                          rw [D3.out]
                          rw [D5.out] at hy1
                          have HY := Lib.hid hy1
                          clear hy1 HX
                          go_wp2_with fail
                          go_roundg (gk - 1)
                          case measure => have := HJ.out; omega
                          case rel => exact ⟨j + 1, s.done k, by have := HJ.out; omega, by omega, by go_num, by go_num, HPI.out, by have := D2.out; have := HPC.out; omega, HY.out⟩
                        | none =>
                          simp only [Option.isSome]
                          have HN' := Lib.hid hpn
                          have hjp : decide ((j : Int) ≤ (p : Int) + 1) = true := by have := HPC.out; simp; omega
                          clear hpn
                          go_wp2_with fail
                          refine (Pending_sep H9.out 0 rfl).mono ?_
                          rintro e wx ⟨rfl, hx1⟩
                          unfold pnI
                          rw [HN'.out]
                          simp only [Option.isSome]
                          have HX := Lib.hid hx1
                          clear hx1 H9
                          go_wp2_with fail
                          refine (awake_calls _).mono ?_
                          rintro e wy ⟨rfl, k4⟩
                          have HY := Lib.hid (HX.out.stay k4.keep0)
                          clear k4 HX
                          go_wp2_with fail
                          go_ret
                          exact ⟨rfl, HY.out.below⟩
end Go.Proofs.Ytjgjablmkljfoaa.Ma
